/- pushFiltersReachesFixpointUpto_holds, part 4: the layer, the plain functions and what they compute; conditions as in the statement. -/
import Derived.Test.YtppmcepdcpmpcaaGreatDoorPfc
set_option maxHeartbeats 4000000
namespace Go.Proofs.YtppmcepdcpmpcaaGreatDoor
noncomputable section
open Go Go.Ab
attribute [local irreducible] V Ao Do Gh Eff PH IntKind.wrap
set_option maxRecDepth 4000
def cy (sA : List LConstraint) (v : LConstraint) : Option (Int) :=
 ag (aH (σ := Unit) (ρ := (Int)) (fun (j1 : Nat) (x1 : LConstraint) (_ : Unit) =>
  cond (v.table == x1.table && (v.left == x1.left && (v.op == x1.op && (v.right == x1.right && ((v.value.kind == x1.value.kind && (v.value.int == x1.value.int && (v.value.text == x1.value.text && true))) && true)))))
   (some (.ret (j1 : Int)))
   (some (.next ()))) 0 sA ()) fun fl1=>fl1.thenR fun (_ : Unit) =>
 some (-1)
theorem iv (sA : List LConstraint) (v : LConstraint) (r : Int) (H : cy sA v = some r) :
  aS Tryz.prog 109 [(.list 141 (sA.map it)),(.agg (it v))] (ac r) := by
 unfold cy at H
 refine PH.ay Tryz.func109 Tryz.ntmps109 ?_
 refine ae (aa (aI ?_))
 refine ah tk rfl (ab (ae (ae (aa (ah tk rfl (aC tk (zl _) ?_))))))
 refine ah tk rfl (ab ?_)
 refine ew tk 8 7 0 (fun s1 g1=>upd (fun _=>.any) 3 (.ptr (it v))) nB nO () H (fun fl1 Hp1 j1 s1 g1 hz1 hl1 x1 fb1 hx1 H hg1=>?_) (fun s1 g1 H=>?_)
 ·refine ae (aG (aw 2 tk rfl (ae (bs tk mok ⟨false,false,[]⟩ [0,1,2,3,4,5] rfl (by decide +kernel) rfl (bf 3 rfl ?_)))))
  refine bF (zn j1) (bm (fun _=>rfl) hx1) ?_
  refine bi rfl (rU (b := (v.table == x1.table && (v.left == x1.left && (v.op == x1.op && (v.right == x1.right && ((v.value.kind == x1.value.kind && (v.value.int == x1.value.int && (v.value.text == x1.value.text && true))) && true)))))) tk rfl rfl rfl rfl rfl Tryz.stoodInHeld141 Tryz.eqGuardType141 (eqf := [(9,0),(3,1),(9,2),(3,3),(73,4)]) (by simp [cu,Program.fieldsOf,Tryz.underlying141]) (by kernel_rfl) rfl rfl (bn ?_))
  refine aP rfl H (fun H=>?_) (fun H=>?_)
  ·refine aw 2 tk rfl ?_
   obtain rfl := az H
   have e1 : fl1 = .ret _ := hg1
   subst e1
   obtain rfl := br Hp1
   refine bd tk rfl (ps := [(ac (j1 : Int))]) ⟨_,_,rfl,rfl,rfl⟩ (PLe.q rfl)
  refine ax (bc (bC 2 tk rfl ?_))
  exact bu () H hl1 hg1
 refine aw 1 tk rfl ?_
 exact bh tk H rfl
def ik (rec43 : LQuery → Option ((List LQuery))) (q : LQuery) : Option ((List LQuery)) :=
 ag (aH (σ := List LQuery) (ρ := Empty) (fun (_ : Nat) (x1 : LQuery) (s1 : List LQuery) =>
  ag (rec43 x1) fun x17 =>
  ag (cq 160 s1 x17) fun (x18 : List LQuery) =>
  some (.next x18)) 0 q.inputs [q]) fun fl1=>fl1.thenP fun (s1 : List LQuery) =>
 some s1
theorem WO_query_Nodes {m : Nat} (rec43 : LQuery → Option ((List LQuery))) (hrec43 : ∀ m a0 r,rec43 a0 = some r → dR Tryz.prog 43 [(.agg (ao a0))] (ji m 33 (r.map ap))) (q : LQuery) (r : (List LQuery)) (H : ik rec43 q = some r) :
  dR Tryz.prog 43 [(.agg (ao q))] (ji m 33 (r.map ap)) := by
 unfold ik at H
 refine PH.ay Tryz.func43 Tryz.ntmps43 ?_
 refine ae (aa (aI ?_))
 refine ah tk rfl (ab (ae (aa (ah tk rfl ?_))))
 refine lz (rows' := List.map ap ([q] : List LQuery)) tk rfl rfl rfl rfl rfl rfl rfl (congrArg (List.map List.length) (bO aK ([q] : List LQuery))).symm rfl (gp.trans (b := (List.map ao ([q] : List LQuery)).flatten) (gp.refl _) (gp.of_eq (congrArg List.flatten (bO aK ([q] : List LQuery))))) fun g7=>?_
 refine ah tk rfl (ab (ae (ae (aa (af 2 tk rfl (aC tk (zl _) ?_))))))
 refine ah tk rfl (ab ?_)
 refine du (γ := OwnRef) tk 11 10 9 (fun s1 g1=>upd (fun _=>.any) 3 (.own 7 g1 (s1.map ap).length)) nB (fun s1 g1=>upd (fun _=>none) 7 (some ⟨g1,33,(s1.map ap),true⟩)) g7 H (fun fl1 Hp1 j1 s1 g1 hz1 hl1 x1 fb1 hx1 H hg1=>?_) (fun s1 g1 H=>?_)
 ·refine ae (aG (ae (aa (aY tk (zn j1) (bm aK hx1) ?_))))
  refine ah tk rfl ?_
  refine aB tk fun b5=>?_
  refine al tk ?_
  refine ab (aa (ah tk rfl (ak tk ?_)))
  obtain ⟨x17,h17,H⟩ := av H
  have s17 := hrec43 17 x1 _ h17
  refine aq Tryz.call43 (eJ.r) (PFun.fh s17) ?_
  obtain ⟨x18,h18,H⟩ := av H
  have k18 := bL h18
  refine bZ (rows2' := List.map ap x17) (rows' := List.map ap x18) tk rfl rfl rfl rfl rfl rfl rfl rfl rfl rfl rfl rfl rfl (dz.refl _) (cn k18.1) (cm k18.2.1) (ck k18.2.2) fun g18=>?_
  refine ah tk rfl (ab (bc (bC 2 tk rfl ?_)))
  exact bu g18 H hl1 hg1
 refine aw 2 tk rfl ?_
 obtain rfl := az H
 refine il tk rfl
def ie : Nat → LQuery → Option ((List LQuery))
 | 0,_=>none
 | n + 1,v0=>ik (fun b0=>ie n b0) v0
theorem WF_query_Nodes  (n : Nat) : (∀ m a0 r,ie n a0 = some r → dR Tryz.prog 43 [(.agg (ao a0))] (ji m 33 (r.map ap))) := by
 induction n with
 | zero=>exact (by intros; rename_i h; exact absurd (show (none : Option _) = some _ from h) (by simp))
 | succ n ih =>
  exact (fun m v0 r h=>WO_query_Nodes (m := m) (fun b0=>ie n b0) ih v0  r h)
def ic (q : LQuery) : Option ((List LQuery)) := eT fun n=>ie n q
theorem pq {m : Nat} (q : LQuery) (r : (List LQuery)) (H : ic q = some r) :
  dR Tryz.prog 43 [(.agg (ao q))] (ji m 33 (r.map ap)) := by
 obtain ⟨n,h⟩ := eA H
 exact (WF_query_Nodes  n) m q r h
def ij (rec110 : LQuery → Option (Int)) (q : LQuery) : Option (Int) :=
 ag (aH (σ := Int) (ρ := Empty) (fun (_ : Nat) (x1 : LQuery) (s1 : Int) =>
  ag (rec110 x1) fun x15 =>
  some (.next (if x15 > s1 then x15 else s1))) 0 q.inputs 0) fun fl1=>fl1.thenP fun (s1 : Int) =>
 some (IntKind.i64.wrap (s1 + (1 : Int)))
theorem WO_query_depth (rec110 : LQuery → Option (Int)) (hrec110 : ∀ a0 r,rec110 a0 = some r → aS Tryz.prog 110 [(.agg (ao a0))] (ac r)) (q : LQuery) (r : Int) (H : ij rec110 q = some r) :
  aS Tryz.prog 110 [(.agg (ao q))] (ac r) := by
 unfold ij at H
 refine PH.ay Tryz.func110 Tryz.ntmps110 ?_
 refine ae (aa (aI ?_))
 refine ah tk rfl (ab (aw 1 tk rfl (ae (ae (aa (af 2 tk rfl (aC tk (zl _) ?_)))))))
 refine ah tk rfl (ab ?_)
 refine du tk 9 8 7 (fun s1 g1=>upd (fun _=>.any) 3 (ac s1)) nB nO () H (fun fl1 Hp1 j1 s1 g1 hz1 hl1 x1 fb1 hx1 H hg1=>?_) (fun s1 g1 H=>?_)
 ·refine ae (aG (ae (aa (aY tk (zn j1) (bm aK hx1) ?_))))
  refine ah tk rfl ?_
  refine aB tk fun b5=>?_
  refine al tk ?_
  refine ab (aa (ah tk rfl (ak tk ?_)))
  obtain ⟨x15,h15,H⟩ := av H
  have s15 := hrec110 x1 _ h15
  refine aq Tryz.call110 (eJ.r) s15 ?_
  refine af 2 tk rfl (ab (bc (bC 2 tk rfl ?_)))
  exact bu () H hl1 hg1
 refine aw 3 tk rfl ?_
 exact bh tk H rfl
def ib : Nat → LQuery → Option (Int)
 | 0,_=>none
 | n + 1,v0=>ij (fun b0=>ib n b0) v0
theorem WF_query_depth  (n : Nat) : (∀ a0 r,ib n a0 = some r → aS Tryz.prog 110 [(.agg (ao a0))] (ac r)) := by
 induction n with
 | zero=>exact (by intros; rename_i h; exact absurd (show (none : Option _) = some _ from h) (by simp))
 | succ n ih =>
  exact (fun v0 r h=>WO_query_depth (fun b0=>ib n b0) ih v0  r h)
def iY (q : LQuery) : Option (Int) := eT fun n=>ib n q
theorem W_query_depth (q : LQuery) (r : Int) (H : iY q = some r) :
  aS Tryz.prog 110 [(.agg (ao q))] (ac r) := by
 obtain ⟨n,h⟩ := eA H
 exact (WF_query_depth  n) q r h
def iG (rec167 : LQuery → Option (Int × Int)) (q : LQuery) : Option (Int × Int) :=
 ag (aH (σ := Int × Int) (ρ := Empty) (fun (j1 : Nat) (x1 : LQuery) (s1 : Int × Int) =>
  ag (rec167 x1) fun x20 =>
  cond ((j1 : Int) == (0 : Int))
   (some (.next ((if (20001 : Int) < x20.1 then (20001 : Int) else x20.1),(if x20.2 > s1.2 then x20.2 else s1.2))))
   (cond (q.kind == (6 : Int))
    (some (.next ((if (20001 : Int) < (IntKind.i64.wrap (s1.1 + x20.1)) then (20001 : Int) else (IntKind.i64.wrap (s1.1 + x20.1))),(if x20.2 > s1.2 then x20.2 else s1.2))))
    (bq (
     cond (q.kind == (4 : Int))
      (true)
      ((q.kind == (5 : Int)))) fun (t4 : Bool) =>
    cond t4
     (some (.next ((if (20001 : Int) < (IntKind.i64.wrap (s1.1 * (if x20.1 > (1 : Int) then x20.1 else (1 : Int)))) then (20001 : Int) else (IntKind.i64.wrap (s1.1 * (if x20.1 > (1 : Int) then x20.1 else (1 : Int))))),(if x20.2 > s1.2 then x20.2 else s1.2))))
     (some (.next ((if (20001 : Int) < s1.1 then (20001 : Int) else s1.1),(if x20.2 > s1.2 then x20.2 else s1.2))))))) 0 q.inputs (0,0)) fun fl1=>fl1.thenP fun (s1 : Int × Int) =>
 cond (q.kind == (1 : Int))
  (some (24,(if (24 : Int) > s1.2 then (24 : Int) else s1.2)))
  (some (s1.1,(if s1.1 > s1.2 then s1.1 else s1.2)))
theorem WO_query_most (rec167 : LQuery → Option (Int × Int)) (hrec167 : ∀ a0 r,rec167 a0 = some r → aS Tryz.prog 167 [(.agg (ao a0))] (.tup [(ac r.1),(ac r.2)])) (q : LQuery) (r : Int × Int) (H : iG rec167 q = some r) :
  aS Tryz.prog 167 [(.agg (ao q))] (.tup [(ac r.1),(ac r.2)]) := by
 unfold iG at H
 refine PH.ay Tryz.func167 Tryz.ntmps167 ?_
 refine ae (aa (aI ?_))
 refine af 2 tk rfl (ab (aw 2 tk rfl (ae (ae (aa (af 2 tk rfl (aC tk (zl _) ?_)))))))
 refine ah tk rfl (ab ?_)
 refine du tk 13 12 11 (fun s1 g1=>upd (upd (upd (fun _=>.any) 5 (ac s1.2)) 4 (ac s1.1)) 1 (.ptr (ao q))) nB nO () H (fun fl1 Hp1 j1 s1 g1 hz1 hl1 x1 fb1 hx1 H hg1=>?_) (fun s1 g1 H=>?_)
 ·refine ae (aG (ae (aa (ah tk rfl (aY tk (zn j1) (bm aK hx1) ?_)))))
  refine ah tk rfl ?_
  refine aB tk fun b7=>?_
  refine ah tk rfl (al tk ?_)
  refine ab (ae (aa (ak tk ?_)))
  obtain ⟨x20,h20,H⟩ := av H
  have s20 := hrec167 x1 _ h20
  refine aq Tryz.call167 (eJ.r) s20 ?_
  refine af 5 tk rfl (ab (aw 4 tk rfl (ae (aG (aw 3 tk rfl ?_)))))
  refine aP rfl H (fun H=>?_) (fun H=>?_)
  ·refine bC 2 tk rfl (bc (bC 3 tk rfl (bc (bC 2 tk rfl ?_))))
   exact bu () H hl1 hg1
  refine aw 4 tk rfl ?_
  refine aP rfl H (fun H=>?_) (fun H=>?_)
  ·refine bC 4 tk rfl (bc (bC 3 tk rfl (bc (bC 2 tk rfl ?_))))
   exact bu () H hl1 hg1
  refine ae ?_
  refine cg (γ := Unit) (fun t4 g4=>⟨60,upd (upd (upd (upd (upd (upd (upd (upd (fun _=>.any) 37 (au t4)) 13 (ac (j1 : Int))) 12 (ac (q.inputs.length : Int))) 11 (.list 33 (q.inputs.map ap))) 8 (ac x20.1)) 5 (ac (if x20.2 > s1.2 then x20.2 else s1.2))) 4 (ac s1.1)) 1 (.ptr (ao q)),fun _=>none,fun _=>none⟩) H (fun _ H=>?_) (fun t4 g4 H=>?_)
  ·refine aa (af 4 tk rfl ?_)
   refine aN rfl rfl rfl H (fun H=>?_) (fun H=>?_)
   ·refine af 5 tk rfl (ab ?_)
    refine aJ _ () H Gh.d
   refine af 5 tk rfl (ab ?_)
   refine aJ _ () H Gh.d
  refine aP rfl H (fun H=>?_) (fun H=>?_)
  ·refine bC 5 tk rfl (bc (bC 3 tk rfl (bc (bC 2 tk rfl ?_))))
   exact bu () H hl1 hg1
  refine ax (bc (bC 3 tk rfl (bc (bC 2 tk rfl ?_))))
  exact bu () H hl1 hg1
 refine ae (aw 3 tk rfl ?_)
 refine aP rfl H (fun H=>?_) (fun H=>?_)
 ·refine bC 1 tk rfl (aw 6 tk rfl ?_)
  exact bh tk H rfl
 refine ax (aw 6 tk rfl ?_)
 exact bh tk H rfl
def iH : Nat → LQuery → Option (Int × Int)
 | 0,_=>none
 | n + 1,v0=>iG (fun b0=>iH n b0) v0
theorem WF_query_most  (n : Nat) : (∀ a0 r,iH n a0 = some r → aS Tryz.prog 167 [(.agg (ao a0))] (.tup [(ac r.1),(ac r.2)])) := by
 induction n with
 | zero=>exact (by intros; rename_i h; exact absurd (show (none : Option _) = some _ from h) (by simp))
 | succ n ih =>
  exact (fun v0 r h=>WO_query_most (fun b0=>iH n b0) ih v0  r h)
def kC (q : LQuery) : Option (Int × Int) := eT fun n=>iH n q
theorem W_query_most (q : LQuery) (r : Int × Int) (H : kC q = some r) :
  aS Tryz.prog 167 [(.agg (ao q))] (.tup [(ac r.1),(ac r.2)]) := by
 obtain ⟨n,h⟩ := eA H
 exact (WF_query_most  n) q r h
def fE (rec42 : LExpr → (List Int) → Bool → (List Bool) → Option ((List Int) × Bool × (List Bool))) (e : LExpr) (c0 : List Int) (c1 : Bool) (c2 : List Bool) : Option ((List Int) × Bool × (List Bool)) :=
 bq (
  cond (e.kind == (3 : Int))
   (cond (decide (e.index ≥ (0 : Int)))
    ((decide (e.index < (8 : Int))))
    (false))
   (false)) fun (t1 : Bool) =>
 ag (
  cond t1
   (ag (lL (σ := List Int) (ρ := Empty) (fun (s7 : List Int) =>
    cond (decide ((s7.length : Int) ≤ e.index))
     (ag (cq 8 s7 ([0] : List Int)) fun (x28 : List Int) =>
     some (.next x28))
     (some (.brk s7))) c0) fun fl7=>fl7.thenP fun (s7 : List Int) =>
   ag (
    cond c1
     (some true)
     (ag (arrI 8 c2 e.index) fun (x33 : Bool) =>
     cond x33
      (ag (aT s7 e.index) fun (x39 : Int) =>
      some (x39 != e.value.kind))
      (some false))) fun (t8 : Bool) =>
   ag (aT s7 e.index) fun (_ : Int) =>
   bq (s7.set e.index.toNat e.value.kind) fun (y9 : List Int) =>
   ag (arrI 8 c2 e.index) fun (_ : Bool) =>
   bq (c2.set e.index.toNat true) fun (y10 : List Bool) =>
   some (y9,t8,y10))
   (some (c0,c1,c2))) fun (t6 : List Int × Bool × List Bool) =>
 ag (aH (σ := List Int × Bool × List Bool) (ρ := Empty) (fun (_ : Nat) (x11 : LExpr) (s11 : List Int × Bool × List Bool) =>
  ag (rec42 x11 s11.1 s11.2.1 s11.2.2) fun x66 =>
  some (.next (x66.1,x66.2.1,x66.2.2))) 0 e.args (t6.1,t6.2.1,t6.2.2)) fun fl11=>fl11.thenP fun (s11 : List Int × Bool × List Bool) =>
 some (s11.1,s11.2.1,s11.2.2)
theorem mr (b_c0 : Nat) (g_c0 : OwnRef) (b_c1 : Nat) (b_c2 : Nat) (b_c3 : Nat) (rec42 : LExpr → (List Int) → Bool → (List Bool) → Option ((List Int) × Bool × (List Bool))) (hrec42 : ∀ bq0 gq0 bq1 bq2 bq3 a0 a1 a2 a3 r,rec42 a0 a1 a2 a3 = some r → PH Tryz.prog 42 [(.agg (bl a0)),(.box 1000 bq0 0),(.box 1001 bq1 0),(.box 1002 bq2 0),(.box 1003 bq3 0)] ⟨upd (upd (upd (upd (fun _=>none) 1003 (some ⟨bq3,[(.fn 42 [(.box 1000 bq0 0),(.box 1001 bq1 0),(.box 1002 bq2 0),(.box 1003 bq3 0)])]⟩)) 1002 (some ⟨bq2,(List.map au a3)⟩)) 1001 (some ⟨bq1,[(au a2)]⟩)) 1000 (some ⟨bq0,[(.own 1100 gq0 (a1.map bE).length)]⟩),upd (fun _=>none) 1100 (some ⟨gq0,3,(a1.map bE),true⟩)⟩ (fun u H=>∃ gz0,u = (.tup []) ∧ H = ⟨upd (upd (upd (upd (fun _=>none) 1003 (some ⟨bq3,[(.fn 42 [(.box 1000 bq0 0),(.box 1001 bq1 0),(.box 1002 bq2 0),(.box 1003 bq3 0)])]⟩)) 1002 (some ⟨bq2,(List.map au r.2.2)⟩)) 1001 (some ⟨bq1,[(au r.2.1)]⟩)) 1000 (some ⟨bq0,[(.own 1100 gz0 (r.1.map bE).length)]⟩),upd (fun _=>none) 1100 (some ⟨gz0,3,(r.1.map bE),true⟩)⟩)) (e : LExpr) (c0 : List Int) (c1 : Bool) (c2 : List Bool) (r : (List Int) × Bool × (List Bool)) (H : fE rec42 e c0 c1 c2 = some r) :
  PH Tryz.prog 42 [(.agg (bl e)),(.box 1000 b_c0 0),(.box 1001 b_c1 0),(.box 1002 b_c2 0),(.box 1003 b_c3 0)] ⟨upd (upd (upd (upd (fun _=>none) 1003 (some ⟨b_c3,[(.fn 42 [(.box 1000 b_c0 0),(.box 1001 b_c1 0),(.box 1002 b_c2 0),(.box 1003 b_c3 0)])]⟩)) 1002 (some ⟨b_c2,(List.map au c2)⟩)) 1001 (some ⟨b_c1,[(au c1)]⟩)) 1000 (some ⟨b_c0,[(.own 1100 g_c0 (c0.map bE).length)]⟩),upd (fun _=>none) 1100 (some ⟨g_c0,3,(c0.map bE),true⟩)⟩ (fun u H=>∃ gz0,u = (.tup []) ∧ H = ⟨upd (upd (upd (upd (fun _=>none) 1003 (some ⟨b_c3,[(.fn 42 [(.box 1000 b_c0 0),(.box 1001 b_c1 0),(.box 1002 b_c2 0),(.box 1003 b_c3 0)])]⟩)) 1002 (some ⟨b_c2,(List.map au r.2.2)⟩)) 1001 (some ⟨b_c1,[(au r.2.1)]⟩)) 1000 (some ⟨b_c0,[(.own 1100 gz0 (r.1.map bE).length)]⟩),upd (fun _=>none) 1100 (some ⟨gz0,3,(r.1.map bE),true⟩)⟩) := by
 unfold fE at H
 refine PH.ay Tryz.func42 Tryz.ntmps42 ?_
 refine ae (aa (aI ?_))
 refine ab (ae (ae ?_))
 refine cg (γ := Unit) (fun t1 g1=>⟨68,upd (upd (upd (upd (upd (upd (fun _=>.any) 20 (au t1)) 5 (.ptr (bl e))) 4 (.box 1003 b_c3 0)) 3 (.box 1002 b_c2 0)) 2 (.box 1001 b_c1 0)) 1 (.box 1000 b_c0 0),upd (upd (upd (upd (fun _=>none) 1003 (some ⟨b_c3,[(.fn 42 [(.box 1000 b_c0 0),(.box 1001 b_c1 0),(.box 1002 b_c2 0),(.box 1003 b_c3 0)])]⟩)) 1002 (some ⟨b_c2,(List.map au c2)⟩)) 1001 (some ⟨b_c1,[(au c1)]⟩)) 1000 (some ⟨b_c0,[(.own 1100 g_c0 (c0.map bE).length)]⟩),upd (fun _=>none) 1100 (some ⟨g_c0,3,(c0.map bE),true⟩)⟩) H (fun _ H=>?_) (fun t1 g1 H=>?_)
 ·refine aa (af 4 tk rfl ?_)
  refine aN rfl rfl rfl H (fun H=>?_) (fun H=>?_)
  ·refine af 5 tk rfl ?_
   refine aN rfl rfl rfl H (fun H=>?_) (fun H=>?_)
   ·refine af 4 tk rfl (ab ?_)
    refine aJ _ () H Gh.d
   refine af 4 tk rfl (ab ?_)
   refine aJ _ () H Gh.d
  refine af 9 tk rfl (ab ?_)
  refine aJ _ () H Gh.d
 refine bY (γ := OwnRef) (fun t6 g6=>⟨68,upd (upd (upd (upd (upd (fun _=>.any) 5 (.ptr (bl e))) 4 (.box 1003 b_c3 0)) 3 (.box 1002 b_c2 0)) 2 (.box 1001 b_c1 0)) 1 (.box 1000 b_c0 0),upd (upd (upd (upd (fun _=>none) 1003 (some ⟨b_c3,[(.fn 42 [(.box 1000 b_c0 0),(.box 1001 b_c1 0),(.box 1002 b_c2 0),(.box 1003 b_c3 0)])]⟩)) 1002 (some ⟨b_c2,(List.map au t6.2.2)⟩)) 1001 (some ⟨b_c1,[(au t6.2.1)]⟩)) 1000 (some ⟨b_c0,[(.own 1100 g6 (t6.1.map bE).length)]⟩),upd (fun _=>none) 1100 (some ⟨g6,3,(t6.1.map bE),true⟩)⟩) H (fun _ H=>?_) (fun t6 g6 H=>?_)
 ·refine aP rfl H (fun H=>?_) (fun H=>?_)
  ·refine ae ?_
   obtain ⟨fl7,H7,Hp7⟩ := av H
   refine kf (τ := List Int) (γ := OwnRef) (fun s7 g7=>⟨68,upd (upd (upd (upd (upd (fun _=>.any) 5 (.ptr (bl e))) 4 (.box 1003 b_c3 0)) 3 (.box 1002 b_c2 0)) 2 (.box 1001 b_c1 0)) 1 (.box 1000 b_c0 0),upd (upd (upd (upd (fun _=>none) 1003 (some ⟨b_c3,[(.fn 42 [(.box 1000 b_c0 0),(.box 1001 b_c1 0),(.box 1002 b_c2 0),(.box 1003 b_c3 0)])]⟩)) 1002 (some ⟨b_c2,(List.map au c2)⟩)) 1001 (some ⟨b_c1,[(au c1)]⟩)) 1000 (some ⟨b_c0,[(.own 1100 g7 (s7.map bE).length)]⟩),upd (fun _=>none) 1100 (some ⟨g7,3,(s7.map bE),true⟩)⟩) (fun t=>fl7 = .next t) ?_ (fun s7 g7 hn7=>?_)
   ·refine aG ?_
    refine rY (fun s7 g7=>⟨68,upd (upd (upd (upd (upd (fun _=>.any) 5 (.ptr (bl e))) 4 (.box 1003 b_c3 0)) 3 (.box 1002 b_c2 0)) 2 (.box 1001 b_c1 0)) 1 (.box 1000 b_c0 0),upd (upd (upd (upd (fun _=>none) 1003 (some ⟨b_c3,[(.fn 42 [(.box 1000 b_c0 0),(.box 1001 b_c1 0),(.box 1002 b_c2 0),(.box 1003 b_c3 0)])]⟩)) 1002 (some ⟨b_c2,(List.map au c2)⟩)) 1001 (some ⟨b_c1,[(au c1)]⟩)) 1000 (some ⟨b_c0,[(.own 1100 g7 (s7.map bE).length)]⟩),upd (fun _=>none) 1100 (some ⟨g7,3,(s7.map bE),true⟩)⟩) g_c0 H7 Gh.d (fun m7 s7 g7 hr7=>?_)
    obtain ⟨fb7,H,hg7⟩ := iterM_cons hr7
    refine ae (ae (aa (ak tk ?_)))
    refine gR tk (zl _) ?_
    refine af 3 tk rfl (ab ?_)
    refine aP rfl H (fun H=>?_) (fun H=>?_)
    ·refine ax (aG (aa (ak tk ?_)))
     refine ct tk (rows' := List.map bE ([0] : List Int)) (dz.refl _) ?_
     obtain ⟨x28,h28,H⟩ := av H
     have k28 := bL h28
     refine bZ (rows2' := List.map bE ([0] : List Int)) (rows' := List.map bE x28) tk rfl rfl rfl rfl rfl rfl rfl rfl rfl rfl rfl rfl rfl (dz.refl _) (cn k28.1) (cm k28.2.1) (ck k28.2.2) fun g28=>?_
     refine al tk ?_
     refine ab (bc ?_)
     obtain rfl := az H
     refine rA x28 g28 hg7 Gh.d
    refine db rfl ?_
    obtain rfl := az H
    refine aJ s7 g7 hg7 Gh.d
   have H := kU hn7 Hp7
   refine ae ?_
   refine bY (γ := Unit) (fun t8 g8=>⟨68,upd (upd (upd (upd (upd (fun _=>.any) 5 (.ptr (bl e))) 4 (.box 1003 b_c3 0)) 3 (.box 1002 b_c2 0)) 2 (.box 1001 b_c1 0)) 1 (.box 1000 b_c0 0),upd (upd (upd (upd (fun _=>none) 1003 (some ⟨b_c3,[(.fn 42 [(.box 1000 b_c0 0),(.box 1001 b_c1 0),(.box 1002 b_c2 0),(.box 1003 b_c3 0)])]⟩)) 1002 (some ⟨b_c2,(List.map au c2)⟩)) 1001 (some ⟨b_c1,[(au t8)]⟩)) 1000 (some ⟨b_c0,[(.own 1100 g7 (s7.map bE).length)]⟩),upd (fun _=>none) 1100 (some ⟨g7,3,(s7.map bE),true⟩)⟩) H (fun _ H=>?_) (fun t8 g8 H=>?_)
   ·refine fX (tag := 1100) rfl (fun ho1100=>?_)
    refine bs tk mok ⟨true,true,[32,38,43]⟩ [0,1,2,3,4,5,6,7,8,9,10,11,12,13,14,15,16,17,18] rfl (by decide +kernel) rfl (aU ?_)
    refine bi rfl ?_
    refine ri rfl rfl rfl rfl H (fun H=>?_) (fun H=>?_)
    ·refine bf 16 rfl (bj ?_)
     refine bn ?_
     refine aJ _ () (az H) Gh.d
    refine bf 2 rfl ?_
    obtain ⟨x33,h33,H⟩ := av H
    have k33 := arrI_some h33
    refine rJ rfl rfl rfl rfl rfl rfl rfl rfl rfl k33.1 rfl ?_
    refine sc rfl rfl rfl rfl rfl rfl rfl rfl (by rw [List.getElem?_map,k33.2]; rfl) rfl ?_
    refine bi rfl ?_
    refine ri rfl rfl rfl rfl H (fun H=>?_) (fun H=>?_)
    ·refine aU ?_
     refine bf 2 rfl ?_
     obtain ⟨x39,k39,H⟩ := bB H
     refine dX tk ⟨k39.1,(dG k39.2)⟩ (dH ho1100 k39.2) ?_
     refine ip tk (aR (fun _=>rfl) k39.2) ?_
     refine bf 6 rfl (bj ?_)
     refine bn ?_
     refine aJ _ () (az H) Gh.d
    refine bf 11 rfl (bj ?_)
    refine bn ?_
    refine aJ _ () (az H) Gh.d
   refine fX (tag := 1100) rfl (fun ho1100=>?_)
   refine bs tk mok ⟨true,false,[49,51,54]⟩ [0,1,2,3,4,5,6,7,8,9,10,11] rfl (by decide +kernel) rfl (aU ?_)
   refine bf 7 rfl ?_
   obtain ⟨x55,k55,H⟩ := bB H
   refine dX tk ⟨k55.1,(dG k55.2)⟩ (dH ho1100 k55.2) ?_
   obtain ⟨y9,hy9,H⟩ := cY H
   refine gM tk rfl rfl rfl rfl rfl rfl rfl rfl rfl (by rw [zl]; exact (zg.1 k55.2).1) (PLe.refl _ _) rfl rfl rfl rfl (by decide) (eR (fun _=>rfl) k55.2 rfl hy9) ?_
   obtain ⟨x56,h56,H⟩ := av H
   have k56 := arrI_some h56
   refine rJ rfl rfl rfl rfl rfl rfl rfl rfl rfl k56.1 rfl ?_
   obtain ⟨y10,hy10,H⟩ := cY H
   refine rT rfl rfl rfl rfl rfl rfl rfl rfl rfl rfl (by rw [zl]; exact (zg.1 k56.2).1) (splice_map au _ _ _ (zg.1 k56.2).1 hy10) ?_
   refine bn ?_
   refine aJ _ g7 (az H) (Gh.le (aL (aL (aL (aL (aL bM))))) (aM rfl (eJ.of2 (gp.cons (lZ.of_eq (congrArg (PV.own 1100 g7) (fU (f := bE) hy9))) gp.nil)) (aM rfl (eJ.r) (aM rfl (eJ.r) (aM rfl (eJ.r) bA)))) (cX bw))
  refine ax ?_
  refine aJ _ g_c0 (az H) Gh.d
 refine ae (aa (af 2 tk rfl (aC tk (zl _) ?_)))
 refine ah tk rfl (ab ?_)
 refine du (γ := OwnRef) tk 60 59 58 (fun s11 g11=>upd (upd (upd (upd (fun _=>.any) 4 (.box 1003 b_c3 0)) 3 (.box 1002 b_c2 0)) 2 (.box 1001 b_c1 0)) 1 (.box 1000 b_c0 0)) (fun s11 g11=>upd (upd (upd (upd (fun _=>none) 1003 (some ⟨b_c3,[(.fn 42 [(.box 1000 b_c0 0),(.box 1001 b_c1 0),(.box 1002 b_c2 0),(.box 1003 b_c3 0)])]⟩)) 1002 (some ⟨b_c2,(List.map au s11.2.2)⟩)) 1001 (some ⟨b_c1,[(au s11.2.1)]⟩)) 1000 (some ⟨b_c0,[(.own 1100 g11 (s11.1.map bE).length)]⟩)) (fun s11 g11=>upd (fun _=>none) 1100 (some ⟨g11,3,(s11.1.map bE),true⟩)) g6 H (fun fl11 Hp11 j11 s11 g11 hz11 hl11 x11 fb11 hx11 H hg11=>?_) (fun s11 g11 H=>?_)
 ·refine ae (aG (ae (aa (aY tk (zn j11) (bm aQ hx11) ?_))))
  refine ah tk rfl ?_
  refine aB tk fun b7=>?_
  refine al tk ?_
  refine ab (aa (ak tk ?_))
  refine ak tk ?_
  obtain ⟨x66,h66,H⟩ := av H
  have s66 := hrec42 b_c0 g11 b_c1 b_c2 b_c3 x11 s11.1 s11.2.1 s11.2.2 _ h66
  refine gv (st' := ⟨_,_,upd (upd (upd (upd (upd (fun _=>none) 1003 (some ⟨b_c3,[(.fn 42 [(.box 1000 b_c0 0),(.box 1001 b_c1 0),(.box 1002 b_c2 0),(.box 1003 b_c3 0)])]⟩)) 1002 (some ⟨b_c2,(List.map au s11.2.2)⟩)) 1001 (some ⟨b_c1,[(au s11.2.1)]⟩)) 1000 (some ⟨b_c0,[(.own 1100 g11 (s11.1.map bE).length)]⟩)) 7 (some ⟨b7,(bl x11)⟩),upd (fun _=>none) 1100 (some ⟨g11,3,(s11.1.map bE),true⟩)⟩) (Gh.le (fq _ _) (aM rfl (eJ.r) (aM rfl (eJ.of2 (gp.cons (lZ.own rfl) gp.nil)) (aM rfl (eJ.r) (aM rfl (eJ.r) (aM rfl (eJ.of2 (gp.cons (lZ.fn (gp.cons lZ.boxT (gp.cons lZ.boxT (gp.cons lZ.boxT (gp.cons lZ.boxT gp.nil))))) gp.nil)) bA))))) (cX bw)) ?_
  refine gQ (g := 42) rfl rfl rfl Tryz.call42 [(1000,1000),(1001,1001),(1002,1002),(1003,1003)] [(1100,1100)] rfl rfl rfl rfl (eJ.of2 (gp.cons (lZ.of_eq rfl) (gp.cons lZ.boxT (gp.cons lZ.boxT (gp.cons lZ.boxT (gp.cons lZ.boxT gp.nil)))))) (by rw [eP,eP,eP,eP,gg,fy,gd]; rfl) s66 ?_
  rintro u66 H66h ⟨gz66_0,rfl,rfl⟩
  refine ⟨_,rfl,?_⟩
  refine gv (st' := ⟨_,_,upd (upd (upd (upd (upd (fun _=>none) 1003 (some ⟨b_c3,[(.fn 42 [(.box 1000 b_c0 0),(.box 1001 b_c1 0),(.box 1002 b_c2 0),(.box 1003 b_c3 0)])]⟩)) 1002 (some ⟨b_c2,(List.map au x66.2.2)⟩)) 1001 (some ⟨b_c1,[(au x66.2.1)]⟩)) 1000 (some ⟨b_c0,[(.own 1100 gz66_0 (x66.1.map bE).length)]⟩)) 7 (some ⟨b7,(bl x11)⟩),upd (fun _=>none) 1100 (some ⟨gz66_0,3,(x66.1.map bE),true⟩)⟩) (Gh.le (fq _ _) (aM rfl (eJ.r) (aM rfl (eJ.of2 (gp.cons (lZ.own rfl) gp.nil)) (aM rfl (eJ.r) (aM rfl (eJ.r) (aM rfl (eJ.of2 (gp.cons (lZ.fn (gp.cons lZ.boxT (gp.cons lZ.boxT (gp.cons lZ.boxT (gp.cons lZ.boxT gp.nil))))) gp.nil)) bA))))) (cX bw)) ?_
  refine ab (bc (bC 2 tk rfl ?_))
  exact bu gz66_0 H hl11 hg11
 obtain rfl := az H
 refine lp (st' := ⟨68,fun _=>.any,upd (upd (upd (upd (fun _=>none) 1003 (some ⟨b_c3,[(.fn 42 [(.box 1000 b_c0 0),(.box 1001 b_c1 0),(.box 1002 b_c2 0),(.box 1003 b_c3 0)])]⟩)) 1002 (some ⟨b_c2,(List.map au s11.2.2)⟩)) 1001 (some ⟨b_c1,[(au s11.2.1)]⟩)) 1000 (some ⟨b_c0,[(.own 1100 g11 (s11.1.map bE).length)]⟩),upd (fun _=>none) 1100 (some ⟨g11,3,(s11.1.map bE),true⟩)⟩) (Gh.le bM (aM rfl (eJ.of2 (gp.cons (lZ.own rfl) gp.nil)) (aM rfl (eJ.r) (aM rfl (eJ.r) (aM rfl (eJ.r) bA)))) (cX bw)) ?_
 refine V.endH rfl (PLe.q rfl) ⟨_,rfl,rfl⟩
def cG : Nat → LExpr → (List Int) → Bool → (List Bool) → Option ((List Int) × Bool × (List Bool))
 | 0,_,_,_,_=>none
 | n + 1,v0,v1,v2,v3=>fE (fun b0 b1 b2 b3=>cG n b0 b1 b2 b3) v0 v1 v2 v3
theorem mA  (n : Nat) : (∀ bq0 gq0 bq1 bq2 bq3 a0 a1 a2 a3 r,cG n a0 a1 a2 a3 = some r → PH Tryz.prog 42 [(.agg (bl a0)),(.box 1000 bq0 0),(.box 1001 bq1 0),(.box 1002 bq2 0),(.box 1003 bq3 0)] ⟨upd (upd (upd (upd (fun _=>none) 1003 (some ⟨bq3,[(.fn 42 [(.box 1000 bq0 0),(.box 1001 bq1 0),(.box 1002 bq2 0),(.box 1003 bq3 0)])]⟩)) 1002 (some ⟨bq2,(List.map au a3)⟩)) 1001 (some ⟨bq1,[(au a2)]⟩)) 1000 (some ⟨bq0,[(.own 1100 gq0 (a1.map bE).length)]⟩),upd (fun _=>none) 1100 (some ⟨gq0,3,(a1.map bE),true⟩)⟩ (fun u H=>∃ gz0,u = (.tup []) ∧ H = ⟨upd (upd (upd (upd (fun _=>none) 1003 (some ⟨bq3,[(.fn 42 [(.box 1000 bq0 0),(.box 1001 bq1 0),(.box 1002 bq2 0),(.box 1003 bq3 0)])]⟩)) 1002 (some ⟨bq2,(List.map au r.2.2)⟩)) 1001 (some ⟨bq1,[(au r.2.1)]⟩)) 1000 (some ⟨bq0,[(.own 1100 gz0 (r.1.map bE).length)]⟩),upd (fun _=>none) 1100 (some ⟨gz0,3,(r.1.map bE),true⟩)⟩)) := by
 induction n with
 | zero=>exact (by intros; rename_i h; exact absurd (show (none : Option _) = some _ from h) (by simp))
 | succ n ih =>
  exact (fun bq0 gq0 bq1 bq2 bq3 v0 v1 v2 v3 r h=>mr bq0 gq0 bq1 bq2 bq3 (fun b0 b1 b2 b3=>cG n b0 b1 b2 b3) ih v0 v1 v2 v3  r h)
def em (e : LExpr) (c0 : List Int) (c1 : Bool) (c2 : List Bool) : Option ((List Int) × Bool × (List Bool)) := eT fun n=>cG n e c0 c1 c2
theorem jn (b_c0 : Nat) (g_c0 : OwnRef) (b_c1 : Nat) (b_c2 : Nat) (b_c3 : Nat) (e : LExpr) (c0 : List Int) (c1 : Bool) (c2 : List Bool) (r : (List Int) × Bool × (List Bool)) (H : em e c0 c1 c2 = some r) :
  PH Tryz.prog 42 [(.agg (bl e)),(.box 1000 b_c0 0),(.box 1001 b_c1 0),(.box 1002 b_c2 0),(.box 1003 b_c3 0)] ⟨upd (upd (upd (upd (fun _=>none) 1003 (some ⟨b_c3,[(.fn 42 [(.box 1000 b_c0 0),(.box 1001 b_c1 0),(.box 1002 b_c2 0),(.box 1003 b_c3 0)])]⟩)) 1002 (some ⟨b_c2,(List.map au c2)⟩)) 1001 (some ⟨b_c1,[(au c1)]⟩)) 1000 (some ⟨b_c0,[(.own 1100 g_c0 (c0.map bE).length)]⟩),upd (fun _=>none) 1100 (some ⟨g_c0,3,(c0.map bE),true⟩)⟩ (fun u H=>∃ gz0,u = (.tup []) ∧ H = ⟨upd (upd (upd (upd (fun _=>none) 1003 (some ⟨b_c3,[(.fn 42 [(.box 1000 b_c0 0),(.box 1001 b_c1 0),(.box 1002 b_c2 0),(.box 1003 b_c3 0)])]⟩)) 1002 (some ⟨b_c2,(List.map au r.2.2)⟩)) 1001 (some ⟨b_c1,[(au r.2.1)]⟩)) 1000 (some ⟨b_c0,[(.own 1100 gz0 (r.1.map bE).length)]⟩),upd (fun _=>none) 1100 (some ⟨gz0,3,(r.1.map bE),true⟩)⟩) := by
 obtain ⟨n,h⟩ := eA H
 exact (mA  n) b_c0 g_c0 b_c1 b_c2 b_c3 e c0 c1 c2 r h
def fL (sA : List Int) (v : Int) : Option (Int) :=
 ag (aH (σ := Unit) (ρ := (Int)) (fun (j1 : Nat) (x1 : Int) (_ : Unit) =>
  cond (v == x1)
   (some (.ret (j1 : Int)))
   (some (.next ()))) 0 sA ()) fun fl1=>fl1.thenR fun (_ : Unit) =>
 some (-1)
theorem nj (sA : List Int) (v : Int) (r : Int) (H : fL sA v = some r) :
  aS Tryz.prog 44 [(.list 3 (sA.map bE)),(ac v)] (ac r) := by
 unfold fL at H
 refine PH.ay Tryz.func44 Tryz.ntmps44 ?_
 refine aw 1 tk rfl (ae (ae (aa (ah tk rfl (aC tk (zl _) ?_)))))
 refine ah tk rfl (ab ?_)
 refine ew tk 8 7 0 (fun s1 g1=>upd (fun _=>.any) 1 (ac v)) nB nO () H (fun fl1 Hp1 j1 s1 g1 hz1 hl1 x1 fb1 hx1 H hg1=>?_) (fun s1 g1 H=>?_)
 ·refine ae (aG (aw 2 tk rfl (ae (aa (af 3 tk rfl ?_)))))
  refine aY tk (zn j1) (bm (fun _=>rfl) hx1) ?_
  refine af 2 tk rfl (ab ?_)
  refine aP rfl H (fun H=>?_) (fun H=>?_)
  ·refine aw 2 tk rfl ?_
   obtain rfl := az H
   have e1 : fl1 = .ret _ := hg1
   subst e1
   obtain rfl := br Hp1
   refine bd tk rfl (ps := [(ac (j1 : Int))]) ⟨_,_,rfl,rfl,rfl⟩ (PLe.q rfl)
  refine ax (bc (bC 2 tk rfl ?_))
  exact bu () H hl1 hg1
 refine aw 1 tk rfl ?_
 exact bh tk H rfl
def dw (t : LTable) (c0 : LQuery) : Bool :=
 (t.name == c0.table)
theorem ol (t : LTable) (c0 : LQuery) :
  aS Tryz.prog 230 [(.agg (cJ t)),(.ptr (ao c0))] (au (dw t c0)) := by
 obtain ⟨r,H⟩ : ∃ r,dw t c0 = r := ⟨_,rfl⟩
 rw [H]
 unfold dw at H
 refine PH.ay Tryz.func230 Tryz.ntmps230 ?_
 refine ae (aa (aI ?_))
 refine ah tk rfl (ab (aw 6 tk rfl ?_))
 exact dr tk H rfl
theorem qd {m : Nat} (xs : List LCol) : dR Tryz.prog 195 [.list 68 (xs.map bg)] (ji m 68 (xs.map bg)) := by
 refine PH.ay Tryz.func195 Tryz.ntmps195 ?_
 refine ja tk 0 rfl rfl (fun hz hb=>?_)
 refine aw 1 tk rfl (ae (ae (aa (ah tk rfl ?_))))
 refine qT tk rfl rfl rfl rfl rfl rfl rfl (fun b hn=>?_)
 refine ab ?_
 refine cC rfl (fun h=>?_) (fun h=>?_)
 ·refine aw 1 tk rfl (iI tk 2 902 (e := 68) rfl rfl ?_)
  refine il tk (hn h).symm
 ·refine ax (ae (aa ?_))
  refine lz (rows' := []) tk rfl rfl rfl rfl rfl rfl rfl rfl rfl (gp.refl _) fun g=>?_
  refine ah tk rfl ?_
  refine bZ (rows2' := xs.map bg) (rows' := xs.map bg) tk rfl rfl rfl rfl rfl rfl rfl rfl rfl rfl rfl rfl rfl (dz.refl _) (by simpa using hb) (by simpa using hz) rfl fun g'=>?_
  refine ah tk rfl (ab ?_)
  refine il tk rfl
def bH (sA : List (List UInt8)) (v : List UInt8) : Option (Int) :=
 ag (aH (σ := Unit) (ρ := (Int)) (fun (j1 : Nat) (x1 : List UInt8) (_ : Unit) =>
  cond (v == x1)
   (some (.ret (j1 : Int)))
   (some (.next ()))) 0 sA ()) fun fl1=>fl1.thenR fun (_ : Unit) =>
 some (-1)
theorem iA (sA : List (List UInt8)) (v : List UInt8) (r : Int) (H : bH sA v = some r) :
  aS Tryz.prog 77 [(.list 9 (sA.map aE)),(.str v)] (ac r) := by
 unfold bH at H
 refine PH.ay Tryz.func77 Tryz.ntmps77 ?_
 refine aw 1 tk rfl (ae (ae (aa (ah tk rfl (aC tk (zl _) ?_)))))
 refine ah tk rfl (ab ?_)
 refine ew tk 8 7 0 (fun s1 g1=>upd (fun _=>.any) 1 (.str v)) nB nO () H (fun fl1 Hp1 j1 s1 g1 hz1 hl1 x1 fb1 hx1 H hg1=>?_) (fun s1 g1 H=>?_)
 ·refine ae (aG (aw 2 tk rfl (ae (aa (af 3 tk rfl ?_)))))
  refine aY tk (zn j1) (bm (fun _=>rfl) hx1) ?_
  refine af 2 tk rfl (ab ?_)
  refine aP rfl H (fun H=>?_) (fun H=>?_)
  ·refine aw 2 tk rfl ?_
   obtain rfl := az H
   have e1 : fl1 = .ret _ := hg1
   subst e1
   obtain rfl := br Hp1
   refine bd tk rfl (ps := [(ac (j1 : Int))]) ⟨_,_,rfl,rfl,rfl⟩ (PLe.q rfl)
  refine ax (bc (bC 2 tk rfl ?_))
  exact bu () H hl1 hg1
 refine aw 1 tk rfl ?_
 exact bh tk H rfl
def cU (sA : List (List UInt8)) (v : List UInt8) : Option (Int × (List (List UInt8))) :=
 ag (jV (sA.length : Int)) fun (n1 : Nat) =>
 ag (aH (σ := List (List UInt8)) (ρ := (Int × (List (List UInt8)))) (fun (j1 : Nat) (_ : Nat) (s1 : List (List UInt8)) =>
  ag (aT s1 (j1 : Int)) fun (x14 : List UInt8) =>
  cond (v == x14)
   (some (.ret ((j1 : Int),s1)))
   (some (.next s1))) 0 (List.range n1) sA) fun fl1=>fl1.thenR fun (s1 : List (List UInt8)) =>
 some ((-1),s1)
theorem kB (g_sA : OwnRef) (sA : List (List UInt8)) (v : List UInt8) (r : Int × (List (List UInt8))) (H : cU sA v = some r) :
  PH Tryz.prog 77 [(.own 0 g_sA (sA.map aE).length),(.str v)] ⟨fun _=>none,upd (fun _=>none) 0 (some ⟨g_sA,9,(sA.map aE),true⟩)⟩ (fun u H=>u = (ac r.1) ∧ H = ⟨fun _=>none,upd (fun _=>none) 0 (some ⟨g_sA,9,(r.2.map aE),true⟩)⟩) := by
 unfold cU at H
 refine PH.ay Tryz.func77 Tryz.ntmps77 ?_
 refine aw 1 tk rfl (ae (ae (aa (ah tk rfl (gR tk (zl _) ?_)))))
 refine ah tk rfl (ab ?_)
 obtain ⟨n1,hs1,H⟩ := av H
 have hz1 := jW hs1
 obtain ⟨fl1,H1,Hp1⟩ := av H
 refine kf (τ := List (List UInt8)) (γ := Unit) (fun s1 g1=>⟨19,upd (fun _=>.any) 0 (.own 0 g_sA (s1.map aE).length),fun _=>none,upd (fun _=>none) 0 (some ⟨g_sA,9,(s1.map aE),true⟩)⟩) (fun t=>fl1 = .next t) ?_ (fun s1 g1 hn1=>?_)
 ·refine aG ?_
  refine jC (fun j1 s1 g1=>⟨19,upd (upd (upd (upd (fun _=>.any) 8 (ac (j1 : Int))) 7 (ac (sA.length : Int))) 1 (.str v)) 0 (.own 0 g_sA (s1.map aE).length),fun _=>none,upd (fun _=>none) 0 (some ⟨g_sA,9,(s1.map aE),true⟩)⟩) () H1 Gh.d (fun j1 s1 g1 hj1 hr1=>?_)
  refine aw 1 tk rfl (ae ?_)
  refine cC rfl (fun h=>?_) (fun h=>?_)
  ·have hl1 := natLt hz1 h
   obtain ⟨x1,fb1,hx1,H,hg1⟩ := rMc hl1 hr1
   obtain rfl := natX hx1
   refine ax (ae (aG (aw 2 tk rfl (ae (aa (af 3 tk rfl ?_))))))
   obtain ⟨x14,k14,H⟩ := bB H
   refine kw (tag := 0) rfl (fun ho0=>?_)
   refine jp tk ⟨k14.1,(dG k14.2)⟩ (dH ho0 k14.2) ?_
   refine nc tk rfl rfl rfl rfl rfl rfl rfl (aR (fun _=>rfl) k14.2) rfl rfl ?_
   refine ah tk rfl (ab ?_)
   refine aP rfl H (fun H=>?_) (fun H=>?_)
   ·refine aw 2 tk rfl ?_
    obtain rfl := az H
    have e1 : fl1 = .ret _ := hg1
    subst e1
    obtain rfl := br Hp1
    refine lp (st' := ⟨19,upd (fun _=>.any) 4 (ac (j1 : Int)),fun _=>none,upd (fun _=>none) 0 (some ⟨g_sA,9,(s1.map aE),true⟩)⟩) (Gh.le (aL bM) bA (cX bw)) ?_
    refine rn tk rfl (ps := [(ac (j1 : Int))]) ⟨_,_,rfl,rfl,rfl⟩ (PLe.q rfl) ⟨rfl,rfl⟩
   refine ax (bc (bC 2 tk rfl ?_))
   exact bu () H hl1 hg1 (Gh.le (aL (aL (aL (bU (PLe.q (jH hz1 hl1)) bM)))) bA (cX bw))
  have hn1 := rMd (natGe hz1 h) hr1
  refine db rfl ?_
  refine aJ s1 g1 hn1 Gh.d
 have H := pg hn1 Hp1
 refine aw 1 tk rfl ?_
 obtain rfl := az H
 refine lp (st' := ⟨19,upd (fun _=>.any) 4 (ac (-1)),fun _=>none,upd (fun _=>none) 0 (some ⟨g_sA,9,(s1.map aE),true⟩)⟩) (Gh.le (aL bM) bA (cX bw)) ?_
 refine rn tk rfl (ps := [(ac (-1))]) ⟨_,_,rfl,rfl,rfl⟩ (PLe.q rfl) ⟨rfl,rfl⟩
def bS (y : LCol) (c0 : LCol) : Bool :=
 (y.name == c0.name)
theorem mp (y : LCol) (c0 : LCol) :
  aS Tryz.prog 171 [(.agg (bg y)),(.ptr (bg c0))] (au (bS y c0)) := by
 obtain ⟨r,H⟩ : ∃ r,bS y c0 = r := ⟨_,rfl⟩
 rw [H]
 unfold bS at H
 refine PH.ay Tryz.func171 Tryz.ntmps171 ?_
 refine ae (aa (aI ?_))
 refine ah tk rfl (ab (aw 6 tk rfl ?_))
 exact dr tk H rfl
theorem oV {m : Nat} (xs : List (List UInt8)) : dR Tryz.prog 72 [.list 9 (xs.map aE)] (ji m 9 (xs.map aE)) := by
 refine PH.ay Tryz.func72 Tryz.ntmps72 ?_
 refine ja tk 0 rfl rfl (fun hz hb=>?_)
 refine aw 1 tk rfl (ae (ae (aa (ah tk rfl ?_))))
 refine qT tk rfl rfl rfl rfl rfl rfl rfl (fun b hn=>?_)
 refine ab ?_
 refine cC rfl (fun h=>?_) (fun h=>?_)
 ·refine aw 1 tk rfl (iI tk 2 902 (e := 9) rfl rfl ?_)
  refine il tk (hn h).symm
 ·refine ax (ae (aa ?_))
  refine lz (rows' := []) tk rfl rfl rfl rfl rfl rfl rfl rfl rfl (gp.refl _) fun g=>?_
  refine ah tk rfl ?_
  refine bZ (rows2' := xs.map aE) (rows' := xs.map aE) tk rfl rfl rfl rfl rfl rfl rfl rfl rfl rfl rfl rfl rfl (dz.refl _) (by simpa using hb) (by simpa using hz) rfl fun g'=>?_
  refine ah tk rfl (ab ?_)
  refine il tk rfl
theorem pj {m : Nat} (xs : List Bool) : dR Tryz.prog 73 [.list 4 (xs.map aV)] (ji m 4 (xs.map aV)) := by
 refine PH.ay Tryz.func73 Tryz.ntmps73 ?_
 refine ja tk 0 rfl rfl (fun hz hb=>?_)
 refine aw 1 tk rfl (ae (ae (aa (ah tk rfl ?_))))
 refine qT tk rfl rfl rfl rfl rfl rfl rfl (fun b hn=>?_)
 refine ab ?_
 refine cC rfl (fun h=>?_) (fun h=>?_)
 ·refine aw 1 tk rfl (iI tk 2 902 (e := 4) rfl rfl ?_)
  refine il tk (hn h).symm
 ·refine ax (ae (aa ?_))
  refine lz (rows' := []) tk rfl rfl rfl rfl rfl rfl rfl rfl rfl (gp.refl _) fun g=>?_
  refine ah tk rfl ?_
  refine bZ (rows2' := xs.map aV) (rows' := xs.map aV) tk rfl rfl rfl rfl rfl rfl rfl rfl rfl rfl rfl rfl rfl (dz.refl _) (by simpa using hb) (by simpa using hz) rfl fun g'=>?_
  refine ah tk rfl (ab ?_)
  refine il tk rfl
def aF (e : LExpr) (q : LQuery) : LQuery :=
 (LQuery.mk 2 [] [] [e] [] [] 0 0 [q])
theorem dc (e : LExpr) (q : LQuery) :
  aS Tryz.prog 172 [(.agg (bl e)),(.agg (ao q))] (.agg (ao (aF e q))) := by
 obtain ⟨r,H⟩ : ∃ r,aF e q = r := ⟨_,rfl⟩
 rw [H]
 unfold aF at H
 refine PH.ay Tryz.func172 Tryz.ntmps172 ?_
 refine ae (aa (aI ?_))
 refine aI ?_
 refine aB tk fun b4=>?_
 refine ab (ae (aa (ah tk rfl (ct tk (rows' := List.map am ([e] : List LExpr)) (dz.trans (b := List.map bl [e]) (dz.refl _) (dz.of_eq (bO aQ [e]))) ?_))))
 refine ah tk rfl (ct tk (rows' := List.map ap ([q] : List LQuery)) (dz.trans (b := List.map ao [q]) (dz.refl _) (dz.of_eq (bO aK [q]))) ?_)
 refine ah tk rfl (al tk ?_)
 refine ab ?_
 subst H
 refine bd tk rfl (ps := [(.agg [(ac 2),(.str []),(.val (.slice none 0 0)),(.list 91 (([e] : List LExpr).map am)),(.val (.slice none 0 0)),(.val (.slice none 0 0)),(ac 0),(ac 0),(.list 33 (([q] : List LQuery).map ap))])]) ⟨_,_,rfl,⟨_,_,_,_,_,rfl,rfl,rfl,rfl⟩,rfl⟩ (PLe.of2 (lZ.agg (gp.cons (lZ.of_eq rfl) (gp.cons (lZ.of_eq rfl) (gp.cons (lZ.nil tk rfl) (gp.cons (lZ.of_eq rfl) (gp.cons (lZ.nil tk rfl) (gp.cons (lZ.nil tk rfl) (gp.cons (lZ.of_eq rfl) (gp.cons (lZ.of_eq rfl) (gp.cons (lZ.of_eq rfl) gp.nil)))))))))))
def dC (sA : List (List UInt8)) (f : (List UInt8) → Option (Bool)) : Option (Int) :=
 ag (aH (σ := Unit) (ρ := (Int)) (fun (j1 : Nat) (x1 : List UInt8) (_ : Unit) =>
  ag (f x1) fun x16 =>
  cond x16
   (some (.ret (j1 : Int)))
   (some (.next ()))) 0 sA ()) fun fl1=>fl1.thenR fun (_ : Unit) =>
 some (-1)
theorem jX {g_f : FuncId} {caps_f : List PV} (sA : List (List UInt8)) (f : (List UInt8) → Option (Bool)) (hg_f : ∀ (vs : Array Value) (w : World),(callFunc g_f vs).run Tryz.prog w = .ok (.enter g_f vs) w) (hp_f : ∀ a0 r,f a0 = some r → aS Tryz.prog g_f ((.str a0) :: caps_f) (au r)) (r : Int) (H : dC sA f = some r) :
  aS Tryz.prog 76 [(.list 9 (sA.map aE)),(.fn g_f caps_f)] (ac r) := by
 unfold dC at H
 refine PH.ay Tryz.func76 Tryz.ntmps76 ?_
 refine aw 1 tk rfl (ae (ae (aa (ah tk rfl (aC tk (zl _) ?_)))))
 refine ah tk rfl (ab ?_)
 refine ew tk 8 7 0 (fun s1 g1=>upd (fun _=>.any) 1 (.fn g_f caps_f)) nB nO () H (fun fl1 Hp1 j1 s1 g1 hz1 hl1 x1 fb1 hx1 H hg1=>?_) (fun s1 g1 H=>?_)
 ·refine ae (aG (aw 2 tk rfl (ae (aa (af 3 tk rfl ?_)))))
  refine aY tk (zn j1) (bm (fun _=>rfl) hx1) ?_
  refine ah tk rfl ?_
  obtain ⟨x16,h16,H⟩ := av H
  refine aq hg_f (eJ.r) (hp_f _ _ h16) ?_
  refine ab ?_
  refine aP rfl H (fun H=>?_) (fun H=>?_)
  ·refine aw 2 tk rfl ?_
   obtain rfl := az H
   have e1 : fl1 = .ret _ := hg1
   subst e1
   obtain rfl := br Hp1
   refine bd tk rfl (ps := [(ac (j1 : Int))]) ⟨_,_,rfl,rfl,rfl⟩ (PLe.q rfl)
  refine ax (bc (bC 2 tk rfl ?_))
  exact bu () H hl1 hg1
 refine aw 1 tk rfl ?_
 exact bh tk H rfl
def gU (names : List (List UInt8)) (q : LQuery) : Option (LQuery) :=
 ag (aH (σ := List LExpr) (ρ := Empty) (fun (_ : Nat) (x1 : List UInt8) (s1 : List LExpr) =>
  ag (cq 88 s1 ([(LExpr.mk 2 x1 0 (LVal.mk 0 0 []) [])] : List LExpr)) fun (x23 : List LExpr) =>
  some (.next x23)) 0 names []) fun fl1=>fl1.thenP fun (s1 : List LExpr) =>
 some (LQuery.mk 3 [] names s1 [] [] 0 0 [q])
theorem mV (names : List (List UInt8)) (q : LQuery) (r : LQuery) (H : gU names q = some r) :
  aS Tryz.prog 179 [(.list 9 (names.map aE)),(.agg (ao q))] (.agg (ao r)) := by
 unfold gU at H
 refine PH.ay Tryz.func179 Tryz.ntmps179 ?_
 refine ae (aa (aI ?_))
 refine aB tk fun b4=>?_
 refine ab (ae (aa (af 2 tk rfl (ct tk (rows' := List.map ap ([q] : List LQuery)) (dz.trans (b := List.map ao [q]) (dz.refl _) (dz.of_eq (bO aK [q]))) ?_))))
 refine ah tk rfl ?_
 refine aB tk fun b5=>?_
 refine al tk ?_
 refine ab (ae (ae (aa (ah tk rfl (aC tk (zl _) ?_)))))
 refine ah tk rfl (ab (fS tk 5 3 23 (e := 91) rfl rfl rfl rfl ?_))
 refine du (γ := OwnRef) tk 14 13 12 (fun s1 g1=>upd (upd (fun _=>.any) 5 (.box 5 b5 0)) 4 (.box 4 b4 0)) (fun s1 g1=>upd (upd (fun _=>none) 5 (some ⟨b5,[(ac 3),(.str []),(.list 9 (names.map aE)),(.own 23 g1 (s1.map am).length),(.val (.slice none 0 0)),(.val (.slice none 0 0)),(ac 0),(ac 0),(.list 33 (([q] : List LQuery).map ap))]⟩)) 4 (some ⟨b4,[(ac 0),(.str []),(.val (.slice none 0 0)),(.val (.slice none 0 0)),(.val (.slice none 0 0)),(.val (.slice none 0 0)),(ac 0),(ac 0),(.val (.slice none 0 0))]⟩)) (fun s1 g1=>upd (fun _=>none) 23 (some ⟨g1,91,(s1.map am),true⟩)) (⟨none,0⟩) H (fun fl1 Hp1 j1 s1 g1 hz1 hl1 x1 fb1 hx1 H hg1=>?_) (fun s1 g1 H=>?_)
 ·refine ae (aG (ae (aa ?_)))
  refine aY tk (zn j1) (bm (fun _=>rfl) hx1) ?_
  refine af 2 tk rfl (ab (aa (ah tk rfl (ak tk ?_))))
  refine af 2 tk rfl (ct tk (rows' := List.map am ([(LExpr.mk 2 x1 0 (LVal.mk 0 0 []) [])] : List LExpr)) (dz.trans (b := List.map bl [(LExpr.mk 2 x1 0 (LVal.mk 0 0 []) [])]) (dz.cons (oz.cons (lZ.of_eq rfl) (oz.cons (lZ.of_eq rfl) (oz.cons (lZ.of_eq rfl) (oz.cons (lZ.of_eq rfl) (oz.cons (lZ.of_eq rfl) (oz.cons (lZ.of_eq rfl) (oz.cons (lZ.nil tk rfl) oz.nil))))))) dz.nil) (dz.of_eq (bO aQ [(LExpr.mk 2 x1 0 (LVal.mk 0 0 []) [])]))) ?_)
  obtain ⟨x23,h23,H⟩ := av H
  have k23 := bL h23
  refine bZ (rows2' := List.map am ([(LExpr.mk 2 x1 0 (LVal.mk 0 0 []) [])] : List LExpr)) (rows' := List.map am x23) tk rfl rfl rfl rfl rfl rfl rfl rfl rfl rfl rfl rfl rfl (dz.refl _) (cn k23.1) (cm k23.2.1) (ck k23.2.2) fun g23=>?_
  refine ah tk rfl (al tk ?_)
  refine ab (bc (bC 2 tk rfl ?_))
  exact bu g23 H hl1 hg1
 refine ae (aa (ak tk ?_))
 refine al tk ?_
 refine ab ?_
 obtain rfl := az H
 refine bD 4 3 rfl rfl rfl rfl rfl ?_
 refine bd tk rfl (ps := [(.agg [(ac 3),(.str []),(.list 9 (names.map aE)),(.list 91 (s1.map am)),(.val (.slice none 0 0)),(.val (.slice none 0 0)),(ac 0),(ac 0),(.list 33 (([q] : List LQuery).map ap))])]) ⟨_,_,rfl,⟨_,_,_,_,_,rfl,rfl,rfl,rfl⟩,rfl⟩ (PLe.of2 (lZ.agg (gp.cons (lZ.of_eq rfl) (gp.cons (lZ.of_eq rfl) (gp.cons (lZ.of_eq rfl) (gp.cons (lZ.of_eq rfl) (gp.cons (lZ.nil tk rfl) (gp.cons (lZ.nil tk rfl) (gp.cons (lZ.of_eq rfl) (gp.cons (lZ.of_eq rfl) (gp.cons (lZ.of_eq rfl) gp.nil)))))))))))
theorem grow_236 {m : Nat} {u : Unit} (n : Int) (h : growI 16 n = some u) : dR Tryz.prog 236 [.val (.slice none 0 0),ac n] (ji m 9 []) := by
 have hn := growI_some h
 have hw : IntKind.i64.wrap (n - IntKind.i64.wrap ((0 : Int) - 0)) = n := by
  have e0 : IntKind.i64.wrap ((0 : Int) - 0) = 0 := gN (by omega) (by omega)
  rw [e0,Int.sub_zero,gN (by omega) (by unfold maxLen at hn; omega)]
 refine PH.ay Tryz.func236 Tryz.ntmps236 ?_
 refine aw 1 tk rfl (ae (aw 2 tk rfl ?_))
 refine cC rfl (fun h=>?_) (fun h=>?_)
 ·exfalso; have := of_decide_eq_true h; omega
 refine ax (ae (ae (aa (af 2 tk rfl (rK tk rfl rfl rfl rfl rfl rfl (af 4 tk rfl (ou 14 (q := ac n) rfl (PLe.q (congrArg ac hw)) (ah tk rfl (ab (aw 2 tk rfl ?_))))))))))
 refine cC rfl (fun h=>?_) (fun h=>?_)
 ·refine aa (af 2 tk rfl (rK tk rfl rfl rfl rfl rfl rfl (Ao.subN tk rfl rfl rfl rfl rfl rfl rfl rfl (ah tk rfl ?_))))
  refine rr tk rfl rfl rfl rfl rfl rfl rfl rfl rfl rfl rfl rfl rfl rfl rfl (of_decide_eq_true h) hn.2.1 hn.2.2 fun g=>?_
  refine af 2 tk rfl (Ao.cutO tk rfl rfl rfl rfl rfl rfl rfl rfl rfl ⟨Int.le_refl 0,Nat.zero_le _⟩ rfl rfl rfl (ah tk rfl (ab (aw 2 tk rfl ?_))))
  refine il tk rfl
 ·refine ax (aw 2 tk rfl (iI tk 4 904 (e := 9) rfl rfl ?_))
  refine il tk rfl
def eV (q : LQuery) (inA : LQuery) : LQuery × Bool :=
 bq (
  cond (decide (q.offset > (1099511627776 : Int)))
   (true)
   ((decide (inA.offset > (1099511627776 : Int))))) fun (t1 : Bool) =>
 cond t1
  (((LQuery.mk 0 [] [] [] [] [] 0 0 []),false))
  (((LQuery.mk 10 [] [] [] [] [] (if (if (IntKind.i64.wrap (inA.count - q.offset)) < q.count then (IntKind.i64.wrap (inA.count - q.offset)) else q.count) > (0 : Int) then (if (IntKind.i64.wrap (inA.count - q.offset)) < q.count then (IntKind.i64.wrap (inA.count - q.offset)) else q.count) else (0 : Int)) (IntKind.i64.wrap (q.offset + inA.offset)) inA.inputs),true))
theorem oj (q : LQuery) (inA : LQuery) :
  aS Tryz.prog 118 [(.agg (ao q)),(.agg (ao inA))] (.tup [(.agg (ao ((eV q inA).1))),(au ((eV q inA).2))]) := by
 obtain ⟨r,H⟩ : ∃ r,eV q inA = r := ⟨_,rfl⟩
 rw [H]
 unfold eV at H
 refine PH.ay Tryz.func118 Tryz.ntmps118 ?_
 refine ae (aa (aI ?_))
 refine aI ?_
 refine aB tk fun b4=>?_
 refine ah tk rfl (ab (ae (ae ?_)))
 refine cg (γ := Unit) (fun t1 g1=>⟨32,upd (upd (upd (upd (fun _=>.any) 13 (au t1)) 4 (.box 4 b4 0)) 3 (.ptr (ao inA))) 2 (.ptr (ao q)),upd (fun _=>none) 4 (some ⟨b4,[(ac 0),(.str []),(.val (.slice none 0 0)),(.val (.slice none 0 0)),(.val (.slice none 0 0)),(.val (.slice none 0 0)),(ac 0),(ac 0),(.val (.slice none 0 0))]⟩),fun _=>none⟩) H (fun _ H=>?_) (fun t1 g1 H=>?_)
 ·refine aa (af 4 tk rfl ?_)
  refine aN rfl rfl rfl H (fun H=>?_) (fun H=>?_)
  ·refine af 4 tk rfl (ab ?_)
   refine aJ _ () H Gh.d
  refine af 4 tk rfl (ab ?_)
  refine aJ _ () H Gh.d
 refine aP rfl H (fun H=>?_) (fun H=>?_)
 ·refine ae (aa (ah tk rfl (al tk ?_)))
  refine ah tk rfl (ab ?_)
  subst H
  refine bd tk rfl (ps := [(.agg [(ac 0),(.str []),(.val (.slice none 0 0)),(.val (.slice none 0 0)),(.val (.slice none 0 0)),(.val (.slice none 0 0)),(ac 0),(ac 0),(.val (.slice none 0 0))]),(au false)]) ⟨_,_,rfl,⟨_,_,_,_,_,rfl,rfl,rfl,rfl⟩,_,_,rfl,rfl,rfl⟩ (PLe.of2 (lZ.tup (gp.cons (lZ.agg (gp.cons (lZ.of_eq rfl) (gp.cons (lZ.of_eq rfl) (gp.cons (lZ.nil tk rfl) (gp.cons (lZ.nil tk rfl) (gp.cons (lZ.nil tk rfl) (gp.cons (lZ.nil tk rfl) (gp.cons (lZ.of_eq rfl) (gp.cons (lZ.of_eq rfl) (gp.cons (lZ.nil tk rfl) gp.nil)))))))))) (gp.cons (lZ.of_eq rfl) gp.nil))))
 refine ax (ae (aa (af 17 tk rfl (al tk ?_))))
 refine ah tk rfl (ab ?_)
 subst H
 refine bd tk rfl (ps := [(.agg [(ac 10),(.str []),(.val (.slice none 0 0)),(.val (.slice none 0 0)),(.val (.slice none 0 0)),(.val (.slice none 0 0)),(ac (if (if (IntKind.i64.wrap (inA.count - q.offset)) < q.count then (IntKind.i64.wrap (inA.count - q.offset)) else q.count) > (0 : Int) then (if (IntKind.i64.wrap (inA.count - q.offset)) < q.count then (IntKind.i64.wrap (inA.count - q.offset)) else q.count) else (0 : Int))),(ac (IntKind.i64.wrap (q.offset + inA.offset))),(.list 33 (inA.inputs.map ap))]),(au true)]) ⟨_,_,rfl,⟨_,_,_,_,_,rfl,rfl,rfl,rfl⟩,_,_,rfl,rfl,rfl⟩ (PLe.of2 (lZ.tup (gp.cons (lZ.agg (gp.cons (lZ.of_eq rfl) (gp.cons (lZ.of_eq rfl) (gp.cons (lZ.nil tk rfl) (gp.cons (lZ.nil tk rfl) (gp.cons (lZ.nil tk rfl) (gp.cons (lZ.nil tk rfl) (gp.cons (lZ.of_eq rfl) (gp.cons (lZ.of_eq rfl) (gp.cons (lZ.of_eq rfl) gp.nil)))))))))) (gp.cons (lZ.of_eq rfl) gp.nil))))
def ba (s1A : List LExpr) (s2A : List LExpr) (eq : LExpr → LExpr → Option (Bool)) : Option (Bool) :=
 cond ((s1A.length : Int) != (s2A.length : Int))
  (some false)
  (ag (aH (σ := Unit) (ρ := (Bool)) (fun (j1 : Nat) (x1 : LExpr) (_ : Unit) =>
   ag (aT s2A (j1 : Int)) fun (x24 : LExpr) =>
   ag (eq x1 x24) fun x29 =>
   cond (!x29)
    (some (.ret false))
    (some (.next ()))) 0 s1A ()) fun fl1=>fl1.thenR fun (_ : Unit) =>
  some true)
theorem ci {g_eq : FuncId} {caps_eq : List PV} (s1A : List LExpr) (s2A : List LExpr) (eq : LExpr → LExpr → Option (Bool)) (hg_eq : ∀ (vs : Array Value) (w : World),(callFunc g_eq vs).run Tryz.prog w = .ok (.enter g_eq vs) w) (hp_eq : ∀ a0 a1 r,eq a0 a1 = some r → aS Tryz.prog g_eq ((.agg (bl a0)) :: (.agg (bl a1)) :: caps_eq) (au r)) (r : Bool) (H : ba s1A s2A eq = some r) :
  aS Tryz.prog 29 [(.list 91 (s1A.map am)),(.list 91 (s2A.map am)),(.fn g_eq caps_eq)] (au r) := by
 unfold ba at H
 refine PH.ay Tryz.func29 Tryz.ntmps29 ?_
 refine aw 1 tk rfl (ae (ae (aa (ah tk rfl (aC tk (zl _) ?_)))))
 refine ah tk rfl (aC tk (zl _) ?_)
 refine ah tk rfl (ab ?_)
 refine aP rfl H (fun H=>?_) (fun H=>?_)
 ·refine aw 1 tk rfl ?_
  exact bh tk H rfl
 refine ax (ae (ae (aa (ah tk rfl (aC tk (zl _) ?_)))))
 refine ah tk rfl (ab ?_)
 refine ew tk 17 16 15 (fun s1 g1=>upd (upd (fun _=>.any) 2 (.fn g_eq caps_eq)) 1 (.list 91 (s2A.map am))) nB nO () H (fun fl1 Hp1 j1 s1 g1 hz1 hl1 x1 fb1 hx1 H hg1=>?_) (fun s1 g1 H=>?_)
 ·refine ae (aG (ae (aa (ah tk rfl (aY tk (zn j1) (bm aQ hx1) ?_)))))
  refine ah tk rfl ?_
  refine aB tk fun b8=>?_
  refine ah tk rfl (al tk ?_)
  refine ab (ae (aa (af 2 tk rfl ?_)))
  obtain ⟨x24,k24,H⟩ := bB H
  refine aY tk k24.1 (aR aQ k24.2) ?_
  refine ah tk rfl ?_
  refine aB tk fun b9=>?_
  refine al tk ?_
  refine ab (ae (aa (ah tk rfl (ak tk ?_))))
  refine ak tk ?_
  obtain ⟨x29,h29,H⟩ := av H
  refine aq hg_eq (eJ.r) (hp_eq _ _ _ h29) ?_
  refine ah tk rfl (ab ?_)
  refine aP rfl H (fun H=>?_) (fun H=>?_)
  ·refine aw 1 tk rfl ?_
   obtain rfl := az H
   have e1 : fl1 = .ret _ := hg1
   subst e1
   obtain rfl := br Hp1
   refine bd tk rfl (ps := [(au false)]) ⟨_,_,rfl,rfl,rfl⟩ (PLe.q rfl)
  refine ax (bc (bC 2 tk rfl ?_))
  exact bu () H hl1 hg1
 refine aw 1 tk rfl ?_
 exact bh tk H rfl
def dq (s1A : List (List UInt8)) (s2A : List (List UInt8)) : Option (Bool) :=
 cond ((s1A.length : Int) != (s2A.length : Int))
  (some false)
  (ag (aH (σ := Unit) (ρ := (Bool)) (fun (j1 : Nat) (x1 : List UInt8) (_ : Unit) =>
   ag (aT s2A (j1 : Int)) fun (x22 : List UInt8) =>
   cond (!(x1 == x22))
    (some (.ret false))
    (some (.next ()))) 0 s1A ()) fun fl1=>fl1.thenR fun (_ : Unit) =>
  some true)
theorem ld (s1A : List (List UInt8)) (s2A : List (List UInt8)) (r : Bool) (H : dq s1A s2A = some r) :
  aS Tryz.prog 31 [(.list 9 (s1A.map aE)),(.list 9 (s2A.map aE))] (au r) := by
 unfold dq at H
 refine PH.ay Tryz.func31 Tryz.ntmps31 ?_
 refine aw 1 tk rfl (ae (ae (aa (ah tk rfl (aC tk (zl _) ?_)))))
 refine ah tk rfl (aC tk (zl _) ?_)
 refine ah tk rfl (ab ?_)
 refine aP rfl H (fun H=>?_) (fun H=>?_)
 ·refine aw 1 tk rfl ?_
  exact bh tk H rfl
 refine ax (ae (ae (aa (ah tk rfl (aC tk (zl _) ?_)))))
 refine ah tk rfl (ab ?_)
 refine ew tk 13 12 0 (fun s1 g1=>upd (fun _=>.any) 1 (.list 9 (s2A.map aE))) nB nO () H (fun fl1 Hp1 j1 s1 g1 hz1 hl1 x1 fb1 hx1 H hg1=>?_) (fun s1 g1 H=>?_)
 ·refine ae (aG (aw 2 tk rfl (ae (bs tk mok ⟨false,false,[]⟩ [0,1,2,3,4,5,6,7,8] rfl (by decide +kernel) rfl (bf 2 rfl ?_)))))
  refine bF (zn j1) (bm (fun _=>rfl) hx1) ?_
  refine bf 3 rfl ?_
  obtain ⟨x22,k22,H⟩ := bB H
  refine bF k22.1 (aR (fun _=>rfl) k22.2) ?_
  refine bf 2 rfl (bn ?_)
  refine aP rfl H (fun H=>?_) (fun H=>?_)
  ·refine aw 1 tk rfl ?_
   obtain rfl := az H
   have e1 : fl1 = .ret _ := hg1
   subst e1
   obtain rfl := br Hp1
   refine bd tk rfl (ps := [(au false)]) ⟨_,_,rfl,rfl,rfl⟩ (PLe.q rfl)
  refine ax (bc (bC 2 tk rfl ?_))
  exact bu () H hl1 hg1
 refine aw 1 tk rfl ?_
 exact bh tk H rfl
def ec (s1A : List Bool) (s2A : List Bool) : Option (Bool) :=
 cond ((s1A.length : Int) != (s2A.length : Int))
  (some false)
  (ag (aH (σ := Unit) (ρ := (Bool)) (fun (j1 : Nat) (x1 : Bool) (_ : Unit) =>
   ag (aT s2A (j1 : Int)) fun (x22 : Bool) =>
   cond (!(x1 == x22))
    (some (.ret false))
    (some (.next ()))) 0 s1A ()) fun fl1=>fl1.thenR fun (_ : Unit) =>
  some true)
theorem mt (s1A : List Bool) (s2A : List Bool) (r : Bool) (H : ec s1A s2A = some r) :
  aS Tryz.prog 32 [(.list 4 (s1A.map aV)),(.list 4 (s2A.map aV))] (au r) := by
 unfold ec at H
 refine PH.ay Tryz.func32 Tryz.ntmps32 ?_
 refine aw 1 tk rfl (ae (ae (aa (ah tk rfl (aC tk (zl _) ?_)))))
 refine ah tk rfl (aC tk (zl _) ?_)
 refine ah tk rfl (ab ?_)
 refine aP rfl H (fun H=>?_) (fun H=>?_)
 ·refine aw 1 tk rfl ?_
  exact bh tk H rfl
 refine ax (ae (ae (aa (ah tk rfl (aC tk (zl _) ?_)))))
 refine ah tk rfl (ab ?_)
 refine ew tk 13 12 0 (fun s1 g1=>upd (fun _=>.any) 1 (.list 4 (s2A.map aV))) nB nO () H (fun fl1 Hp1 j1 s1 g1 hz1 hl1 x1 fb1 hx1 H hg1=>?_) (fun s1 g1 H=>?_)
 ·refine ae (aG (aw 2 tk rfl (ae (bs tk mok ⟨false,false,[]⟩ [0,1,2,3,4,5,6,7,8] rfl (by decide +kernel) rfl (bf 2 rfl ?_)))))
  refine bF (zn j1) (bm (fun _=>rfl) hx1) ?_
  refine bf 3 rfl ?_
  obtain ⟨x22,k22,H⟩ := bB H
  refine bF k22.1 (aR (fun _=>rfl) k22.2) ?_
  refine bf 2 rfl (bn ?_)
  refine aP rfl H (fun H=>?_) (fun H=>?_)
  ·refine aw 1 tk rfl ?_
   obtain rfl := az H
   have e1 : fl1 = .ret _ := hg1
   subst e1
   obtain rfl := br Hp1
   refine bd tk rfl (ps := [(au false)]) ⟨_,_,rfl,rfl,rfl⟩ (PLe.q rfl)
  refine ax (bc (bC 2 tk rfl ?_))
  exact bu () H hl1 hg1
 refine aw 1 tk rfl ?_
 exact bh tk H rfl
def aZ (s1A : List LAggregateCall) (s2A : List LAggregateCall) (eq : LAggregateCall → LAggregateCall → Option (Bool)) : Option (Bool) :=
 cond ((s1A.length : Int) != (s2A.length : Int))
  (some false)
  (ag (aH (σ := Unit) (ρ := (Bool)) (fun (j1 : Nat) (x1 : LAggregateCall) (_ : Unit) =>
   ag (aT s2A (j1 : Int)) fun (x24 : LAggregateCall) =>
   ag (eq x1 x24) fun x29 =>
   cond (!x29)
    (some (.ret false))
    (some (.next ()))) 0 s1A ()) fun fl1=>fl1.thenR fun (_ : Unit) =>
  some true)
theorem cN {g_eq : FuncId} {caps_eq : List PV} (s1A : List LAggregateCall) (s2A : List LAggregateCall) (eq : LAggregateCall → LAggregateCall → Option (Bool)) (hg_eq : ∀ (vs : Array Value) (w : World),(callFunc g_eq vs).run Tryz.prog w = .ok (.enter g_eq vs) w) (hp_eq : ∀ a0 a1 r,eq a0 a1 = some r → aS Tryz.prog g_eq ((.agg (aO a0)) :: (.agg (aO a1)) :: caps_eq) (au r)) (r : Bool) (H : aZ s1A s2A eq = some r) :
  aS Tryz.prog 33 [(.list 88 (s1A.map aO)),(.list 88 (s2A.map aO)),(.fn g_eq caps_eq)] (au r) := by
 unfold aZ at H
 refine PH.ay Tryz.func33 Tryz.ntmps33 ?_
 refine aw 1 tk rfl (ae (ae (aa (ah tk rfl (aC tk (zl _) ?_)))))
 refine ah tk rfl (aC tk (zl _) ?_)
 refine ah tk rfl (ab ?_)
 refine aP rfl H (fun H=>?_) (fun H=>?_)
 ·refine aw 1 tk rfl ?_
  exact bh tk H rfl
 refine ax (ae (ae (aa (ah tk rfl (aC tk (zl _) ?_)))))
 refine ah tk rfl (ab ?_)
 refine ew tk 17 16 15 (fun s1 g1=>upd (upd (fun _=>.any) 2 (.fn g_eq caps_eq)) 1 (.list 88 (s2A.map aO))) nB nO () H (fun fl1 Hp1 j1 s1 g1 hz1 hl1 x1 fb1 hx1 H hg1=>?_) (fun s1 g1 H=>?_)
 ·refine ae (aG (ae (aa (ah tk rfl ?_))))
  refine aY tk (zn j1) (bm (fun _=>rfl) hx1) ?_
  refine ah tk rfl ?_
  refine aB tk fun b8=>?_
  refine ah tk rfl (al tk ?_)
  refine ab (ae (aa (af 2 tk rfl ?_)))
  obtain ⟨x24,k24,H⟩ := bB H
  refine aY tk k24.1 (aR (fun _=>rfl) k24.2) ?_
  refine ah tk rfl ?_
  refine aB tk fun b9=>?_
  refine al tk ?_
  refine ab (ae (aa (ah tk rfl (ak tk ?_))))
  refine ak tk ?_
  obtain ⟨x29,h29,H⟩ := av H
  refine aq hg_eq (eJ.r) (hp_eq _ _ _ h29) ?_
  refine ah tk rfl (ab ?_)
  refine aP rfl H (fun H=>?_) (fun H=>?_)
  ·refine aw 1 tk rfl ?_
   obtain rfl := az H
   have e1 : fl1 = .ret _ := hg1
   subst e1
   obtain rfl := br Hp1
   refine bd tk rfl (ps := [(au false)]) ⟨_,_,rfl,rfl,rfl⟩ (PLe.q rfl)
  refine ax (bc (bC 2 tk rfl ?_))
  exact bu () H hl1 hg1
 refine aw 1 tk rfl ?_
 exact bh tk H rfl
def bt (s1A : List LQuery) (s2A : List LQuery) (eq : LQuery → LQuery → Option (Bool)) : Option (Bool) :=
 cond ((s1A.length : Int) != (s2A.length : Int))
  (some false)
  (ag (aH (σ := Unit) (ρ := (Bool)) (fun (j1 : Nat) (x1 : LQuery) (_ : Unit) =>
   ag (aT s2A (j1 : Int)) fun (x24 : LQuery) =>
   ag (eq x1 x24) fun x29 =>
   cond (!x29)
    (some (.ret false))
    (some (.next ()))) 0 s1A ()) fun fl1=>fl1.thenR fun (_ : Unit) =>
  some true)
theorem eu {g_eq : FuncId} {caps_eq : List PV} (s1A : List LQuery) (s2A : List LQuery) (eq : LQuery → LQuery → Option (Bool)) (hg_eq : ∀ (vs : Array Value) (w : World),(callFunc g_eq vs).run Tryz.prog w = .ok (.enter g_eq vs) w) (hp_eq : ∀ a0 a1 r,eq a0 a1 = some r → aS Tryz.prog g_eq ((.agg (ao a0)) :: (.agg (ao a1)) :: caps_eq) (au r)) (r : Bool) (H : bt s1A s2A eq = some r) :
  aS Tryz.prog 34 [(.list 33 (s1A.map ap)),(.list 33 (s2A.map ap)),(.fn g_eq caps_eq)] (au r) := by
 unfold bt at H
 refine PH.ay Tryz.func34 Tryz.ntmps34 ?_
 refine aw 1 tk rfl (ae (ae (aa (ah tk rfl (aC tk (zl _) ?_)))))
 refine ah tk rfl (aC tk (zl _) ?_)
 refine ah tk rfl (ab ?_)
 refine aP rfl H (fun H=>?_) (fun H=>?_)
 ·refine aw 1 tk rfl ?_
  exact bh tk H rfl
 refine ax (ae (ae (aa (ah tk rfl (aC tk (zl _) ?_)))))
 refine ah tk rfl (ab ?_)
 refine ew tk 17 16 15 (fun s1 g1=>upd (upd (fun _=>.any) 2 (.fn g_eq caps_eq)) 1 (.list 33 (s2A.map ap))) nB nO () H (fun fl1 Hp1 j1 s1 g1 hz1 hl1 x1 fb1 hx1 H hg1=>?_) (fun s1 g1 H=>?_)
 ·refine ae (aG (ae (aa (ah tk rfl (aY tk (zn j1) (bm aK hx1) ?_)))))
  refine ah tk rfl ?_
  refine aB tk fun b8=>?_
  refine ah tk rfl (al tk ?_)
  refine ab (ae (aa (af 2 tk rfl ?_)))
  obtain ⟨x24,k24,H⟩ := bB H
  refine aY tk k24.1 (aR aK k24.2) ?_
  refine ah tk rfl ?_
  refine aB tk fun b9=>?_
  refine al tk ?_
  refine ab (ae (aa (ah tk rfl (ak tk ?_))))
  refine ak tk ?_
  obtain ⟨x29,h29,H⟩ := av H
  refine aq hg_eq (eJ.r) (hp_eq _ _ _ h29) ?_
  refine ah tk rfl (ab ?_)
  refine aP rfl H (fun H=>?_) (fun H=>?_)
  ·refine aw 1 tk rfl ?_
   obtain rfl := az H
   have e1 : fl1 = .ret _ := hg1
   subst e1
   obtain rfl := br Hp1
   refine bd tk rfl (ps := [(au false)]) ⟨_,_,rfl,rfl,rfl⟩ (PLe.q rfl)
  refine ax (bc (bC 2 tk rfl ?_))
  exact bu () H hl1 hg1
 refine aw 1 tk rfl ?_
 exact bh tk H rfl
def eE (t : LTable) (name : List UInt8) : Option (Int × Bool) :=
 ag (cd t.columns (fun a0=>some (cT a0 name))) fun x10 =>
 some ((if (0 : Int) > x10 then (0 : Int) else x10),(decide (x10 ≥ (0 : Int))))
theorem px (t : LTable) (name : List UInt8) (r : Int × Bool) (H : eE t name = some r) :
  aS Tryz.prog 103 [(.agg (cJ t)),(.str name)] (.tup [(ac r.1),(au r.2)]) := by
 unfold eE at H
 refine PH.ay Tryz.func103 Tryz.ntmps103 ?_
 refine ae (aa (aI ?_))
 refine aI ?_
 refine af 2 tk rfl (ab (ae (aa (af 3 tk rfl ?_))))
 obtain ⟨x10,h10,H⟩ := av H
 have s10 := fg t.columns (fun a0=>some (cT a0 name)) Tryz.call164 (fun a0 r h=>(az h) ▸ ot a0 name) _ h10
 refine aq Tryz.call163 (eJ.r) s10 ?_
 refine ah tk rfl (ab (aw 6 tk rfl ?_))
 exact bh tk H rfl
def el (sA : LSchema) (name : List UInt8) : Option (Int × Bool) :=
 ag (cr sA.tables (fun a0=>some (cE a0 name))) fun x10 =>
 some ((if (0 : Int) > x10 then (0 : Int) else x10),(decide (x10 ≥ (0 : Int))))
theorem jw (sA : LSchema) (name : List UInt8) (r : Int × Bool) (H : el sA name = some r) :
  aS Tryz.prog 104 [(.agg (aD sA)),(.str name)] (.tup [(ac r.1),(au r.2)]) := by
 unfold el at H
 refine PH.ay Tryz.func104 Tryz.ntmps104 ?_
 refine ae (aa (aI ?_))
 refine aI ?_
 refine af 2 tk rfl (ab (ae (aa (af 3 tk rfl ?_))))
 obtain ⟨x10,h10,H⟩ := av H
 have s10 := fJ sA.tables (fun a0=>some (cE a0 name)) Tryz.call166 (fun a0 r h=>(az h) ▸ pi a0 name) _ h10
 refine aq Tryz.call165 (eJ.r) s10 ?_
 refine ah tk rfl (ab (aw 6 tk rfl ?_))
 exact bh tk H rfl
def ff (a : LForeignKey) (b : LForeignKey) : Option (Bool) :=
 cond (a.table == b.table)
  (ag (et a.columns b.columns) fun x15 =>
  cond x15
   (some (a.refTable == b.refTable))
   (some false))
  (some false)
theorem mg (a : LForeignKey) (b : LForeignKey) (r : Bool) (H : ff a b = some r) :
  aS Tryz.prog 67 [(.agg (gu a)),(.agg (gu b))] (au r) := by
 unfold ff at H
 refine PH.ay Tryz.func67 Tryz.ntmps67 ?_
 refine ae (aa (aI ?_))
 refine aI ?_
 refine ah tk rfl (ab (ae (aa (af 6 tk rfl ?_))))
 refine aN rfl rfl rfl H (fun H=>?_) (fun H=>?_)
 ·refine af 4 tk rfl ?_
  obtain ⟨x15,h15,H⟩ := av H
  have s15 := nk a.columns b.columns _ h15
  refine aq Tryz.call106 (eJ.r) s15 ?_
  refine af 2 tk rfl ?_
  refine aN rfl rfl rfl H (fun H=>?_) (fun H=>?_)
  ·refine af 7 tk rfl (ab ?_)
   exact bh tk H rfl
  refine af 7 tk rfl (ab ?_)
  exact bh tk H rfl
 refine af 14 tk rfl (ab ?_)
 exact bh tk H rfl
def bI (sA : List LForeignKey) (f : LForeignKey → Option (Bool)) : Option (Bool) :=
 ag (ce sA f) fun x7 =>
 some (decide (x7 ≥ (0 : Int)))
theorem gD {g_f : FuncId} {caps_f : List PV} (sA : List LForeignKey) (f : LForeignKey → Option (Bool)) (hg_f : ∀ (vs : Array Value) (w : World),(callFunc g_f vs).run Tryz.prog w = .ok (.enter g_f vs) w) (hp_f : ∀ a0 r,f a0 = some r → aS Tryz.prog g_f ((.agg (gu a0)) :: caps_f) (au r)) (r : Bool) (H : bI sA f = some r) :
  aS Tryz.prog 65 [(.list 135 (sA.map gu)),(.fn g_f caps_f)] (au r) := by
 unfold bI at H
 refine PH.ay Tryz.func65 Tryz.ntmps65 ?_
 refine aw 1 tk rfl (ae (aa (af 2 tk rfl ?_)))
 obtain ⟨x7,h7,H⟩ := av H
 have s7 := gO sA f hg_f hp_f _ h7
 refine aq Tryz.call105 (eJ.r) s7 ?_
 refine af 2 tk rfl (ab ?_)
 exact bh tk H rfl
def iD (a : List UInt8) (b : List UInt8) : Int :=
 bq (dO a b) fun x7 =>
 x7
theorem qu (a : List UInt8) (b : List UInt8) :
  aS Tryz.prog 192 [(.str a),(.str b)] (ac (iD a b)) := by
 obtain ⟨r,H⟩ : ∃ r,iD a b = r := ⟨_,rfl⟩
 rw [H]
 unfold iD at H
 refine PH.ay Tryz.func192 Tryz.ntmps192 ?_
 refine aw 1 tk rfl (ae (aa (af 2 tk rfl ?_)))
 obtain ⟨x7,h7,H⟩ := cY H
 have s7 := kp a b
 rw [h7] at s7
 refine aq Tryz.call243 (eJ.r) s7 ?_
 refine ah tk rfl (ab ?_)
 exact dr tk H rfl
def bN (sA : List LConstraint) (v : LConstraint) : Option (Bool) :=
 ag (cy sA v) fun x7 =>
 some (decide (x7 ≥ (0 : Int)))
theorem gX (sA : List LConstraint) (v : LConstraint) (r : Bool) (H : bN sA v = some r) :
  aS Tryz.prog 69 [(.list 141 (sA.map it)),(.agg (it v))] (au r) := by
 unfold bN at H
 refine PH.ay Tryz.func69 Tryz.ntmps69 ?_
 refine ae (aa (aI ?_))
 refine ah tk rfl (ab (ae (aa (af 2 tk rfl ?_))))
 obtain ⟨x7,h7,H⟩ := av H
 have s7 := iv sA v _ h7
 refine aq Tryz.call109 (eJ.r) s7 ?_
 refine af 2 tk rfl (ab ?_)
 exact bh tk H rfl
def eC (q : LQuery) : Option (Int) :=
 ag (kC q) fun x7 =>
 some x7.2
theorem lH (q : LQuery) (r : Int) (H : eC q = some r) :
  aS Tryz.prog 111 [(.agg (ao q))] (ac r) := by
 unfold eC at H
 refine PH.ay Tryz.func111 Tryz.ntmps111 ?_
 refine ae (aa (aI ?_))
 refine ah tk rfl (ab (ae (aa (ah tk rfl ?_))))
 obtain ⟨x7,h7,H⟩ := av H
 have s7 := W_query_most q _ h7
 refine aq Tryz.call167 (eJ.r) s7 ?_
 refine af 5 tk rfl (ab (aw 2 tk rfl ?_))
 exact bh tk H rfl
def eI (q : LQuery) : Option ((List Int) × Int) :=
 ag (ic q) fun x18 =>
 ag (aH (σ := List Int × Bool × List Bool) (ρ := Empty) (fun (_ : Nat) (x1 : LQuery) (s1 : List Int × Bool × List Bool) =>
  ag (aH (σ := List Int × Bool × List Bool) (ρ := Empty) (fun (_ : Nat) (x12 : LExpr) (s12 : List Int × Bool × List Bool) =>
   ag (em x12 s12.1 s12.2.1 s12.2.2) fun x33 =>
   some (.next (x33.1,x33.2.1,x33.2.2))) 0 x1.exprs (s1.1,s1.2.1,s1.2.2)) fun fl12=>fl12.thenP fun (s12 : List Int × Bool × List Bool) =>
  ag (aH (σ := List Int × Bool × List Bool) (ρ := Empty) (fun (_ : Nat) (x13 : LAggregateCall) (s13 : List Int × Bool × List Bool) =>
   ag (aH (σ := List Int × Bool × List Bool) (ρ := Empty) (fun (_ : Nat) (x16 : LExpr) (s16 : List Int × Bool × List Bool) =>
    ag (em x16 s16.1 s16.2.1 s16.2.2) fun x51 =>
    some (.next (x51.1,x51.2.1,x51.2.2))) 0 x13.args (s13.1,s13.2.1,s13.2.2)) fun fl16=>fl16.thenP fun (s16 : List Int × Bool × List Bool) =>
   some (.next (s16.1,s16.2.1,s16.2.2))) 0 x1.aggregates (s12.1,s12.2.1,s12.2.2)) fun fl13=>fl13.thenP fun (s13 : List Int × Bool × List Bool) =>
  some (.next (s13.1,s13.2.1,s13.2.2))) 0 x18 ([],false,(List.replicate 8 false))) fun fl1=>fl1.thenP fun (s1 : List Int × Bool × List Bool) =>
 cond s1.2.1
  (some ([],13))
  (some (s1.1,0))
theorem nL (q : LQuery) (r : (List Int) × Int) (H : eI q = some r) :
  aS Tryz.prog 12 [(.agg (ao q))] (.tup [(.list 3 (r.1.map bE)),(ac r.2)]) := by
 unfold eI at H
 refine PH.ay Tryz.func12 Tryz.ntmps12 ?_
 refine ae (aa (aI ?_))
 refine af 2 tk rfl (ab (ae (aa ?_)))
 refine aB tk fun b4=>?_
 refine ab (ae (aa ?_))
 refine aB tk fun b5=>?_
 refine ab (ae (aa ?_))
 refine aB tk fun b6=>?_
 refine al tk ?_
 refine ab (ae (aa ?_))
 refine aB tk fun b7=>?_
 refine ab (ae (aa (ah tk rfl (al tk ?_))))
 refine ab (ae (ae (aa (ah tk rfl ?_))))
 obtain ⟨x18,h18,H⟩ := av H
 have s18 := pq (m := 18) q _ h18
 refine aq Tryz.call43 (eJ.r) (PFun.fh s18) ?_
 refine aC tk (zl _) ?_
 refine ah tk rfl (ab ?_)
 obtain ⟨fl1,H1,Hp1⟩ := av H
 refine ja tk 18 rfl rfl (fun hz1 _=>?_)
 rw [zl] at hz1
 refine kf (τ := List Int × Bool × List Bool) (γ := OwnRef) (fun s1 g1=>⟨57,upd (upd (fun _=>.any) 6 (.box 6 b6 0)) 4 (.box 4 b4 0),upd (upd (fun _=>none) 6 (some ⟨b6,[(au s1.2.1)]⟩)) 4 (some ⟨b4,[(.own 1204 g1 (s1.1.map bE).length)]⟩),upd (fun _=>none) 1204 (some ⟨g1,3,(s1.1.map bE),true⟩)⟩) (fun t=>fl1 = .next t) ?_ (fun s1 g1 hn1=>?_)
 ·refine aG (fS tk 4 0 1204 (e := 3) rfl rfl rfl rfl ?_)
  refine jC (fun j1 s1 g1=>⟨57,upd (upd (upd (upd (upd (upd (fun _=>.any) 20 (ac (j1 : Int))) 19 (ac (x18.length : Int))) 18 (.list 33 (x18.map ap))) 7 (.box 7 b7 0)) 6 (.box 6 b6 0)) 4 (.box 4 b4 0),upd (upd (upd (upd (fun _=>none) 7 (some ⟨b7,[(.fn 42 [(.box 4 b4 0),(.box 6 b6 0),(.box 5 b5 0),(.box 7 b7 0)])]⟩)) 6 (some ⟨b6,[(au s1.2.1)]⟩)) 5 (some ⟨b5,(List.map au s1.2.2)⟩)) 4 (some ⟨b4,[(.own 1204 g1 (s1.1.map bE).length)]⟩),upd (fun _=>none) 1204 (some ⟨g1,3,(s1.1.map bE),true⟩)⟩) (⟨none,0⟩) H1 Gh.d (fun j1 s1 g1 hj1 hr1=>?_)
  refine aw 1 tk rfl (ae ?_)
  refine cC rfl (fun h=>?_) (fun h=>?_)
  ·have hl1 := rowsLt h
   obtain ⟨x1,fb1,hx1,H,hg1⟩ := rMc hl1 hr1
   refine ax (ae (aG (ae (aa (aY tk (zn j1) (bm aK hx1) ?_)))))
   refine ah tk rfl ?_
   refine aB tk fun b9=>?_
   refine al tk ?_
   refine ab (ae (ae (aa (ah tk rfl (ak tk ?_)))))
   refine aC tk (zl _) ?_
   refine ah tk rfl (ab ?_)
   refine du (γ := OwnRef) tk 27 26 25 (fun s12 g12=>upd (upd (upd (upd (upd (upd (upd (fun _=>.any) 20 (ac (j1 : Int))) 19 (ac (x18.length : Int))) 18 (.list 33 (x18.map ap))) 9 (.box 9 b9 0)) 7 (.box 7 b7 0)) 6 (.box 6 b6 0)) 4 (.box 4 b4 0)) (fun s12 g12=>upd (upd (upd (upd (upd (fun _=>none) 9 (some ⟨b9,(ao x1)⟩)) 7 (some ⟨b7,[(.fn 42 [(.box 4 b4 0),(.box 6 b6 0),(.box 5 b5 0),(.box 7 b7 0)])]⟩)) 6 (some ⟨b6,[(au s12.2.1)]⟩)) 5 (some ⟨b5,(List.map au s12.2.2)⟩)) 4 (some ⟨b4,[(.own 1204 g12 (s12.1.map bE).length)]⟩)) (fun s12 g12=>upd (fun _=>none) 1204 (some ⟨g12,3,(s12.1.map bE),true⟩)) g1 H (fun fl12 Hp12 j12 s12 g12 hz12 hl12 x12 fb12 hx12 H hg12=>?_) (fun s12 g12 H=>?_)
   ·refine ae (aG (ae (aa (aY tk (zn j12) (bm aQ hx12) ?_))))
    refine ah tk rfl ?_
    refine aB tk fun b11=>?_
    refine al tk ?_
    refine ab (aa (ak tk ?_))
    refine ak tk ?_
    obtain ⟨x33,h33,H⟩ := av H
    have s33 := jn b4 g12 b6 b5 b7 x12 s12.1 s12.2.1 s12.2.2 _ h33
    refine gv (st' := ⟨_,_,upd (upd (upd (upd (upd (upd (fun _=>none) 11 (some ⟨b11,(bl x12)⟩)) 9 (some ⟨b9,(ao x1)⟩)) 7 (some ⟨b7,[(.fn 42 [(.box 1000 b4 0),(.box 1001 b6 0),(.box 1002 b5 0),(.box 1003 b7 0)])]⟩)) 6 (some ⟨b6,[(au s12.2.1)]⟩)) 5 (some ⟨b5,(List.map au s12.2.2)⟩)) 4 (some ⟨b4,[(.own 1100 g12 (s12.1.map bE).length)]⟩),upd (fun _=>none) 1204 (some ⟨g12,3,(s12.1.map bE),true⟩)⟩) (Gh.le (fq _ _) (aM rfl (eJ.of2 (gp.cons (lZ.own rfl) gp.nil)) (aM rfl (eJ.r) (aM rfl (eJ.r) (aM rfl (eJ.of2 (gp.cons (lZ.fn (gp.cons lZ.boxT (gp.cons lZ.boxT (gp.cons lZ.boxT (gp.cons lZ.boxT gp.nil))))) gp.nil)) (aM rfl (eJ.r) (aM rfl (eJ.r) bA)))))) (cX bw)) ?_
    refine gQ (g := 42) rfl rfl rfl Tryz.call42 [(4,1000),(6,1001),(5,1002),(7,1003)] [(1204,1100)] rfl rfl rfl rfl (eJ.of2 (gp.cons (lZ.of_eq rfl) (gp.cons lZ.boxT (gp.cons lZ.boxT (gp.cons lZ.boxT (gp.cons lZ.boxT gp.nil)))))) (by rw [eP,eP,eP,eP,gg,fy,gd]; rfl) s33 ?_
    rintro u33 H33h ⟨gz33_0,rfl,rfl⟩
    refine ⟨_,rfl,?_⟩
    refine gv (st' := ⟨_,_,upd (upd (upd (upd (upd (upd (fun _=>none) 11 (some ⟨b11,(bl x12)⟩)) 9 (some ⟨b9,(ao x1)⟩)) 7 (some ⟨b7,[(.fn 42 [(.box 4 b4 0),(.box 6 b6 0),(.box 5 b5 0),(.box 7 b7 0)])]⟩)) 6 (some ⟨b6,[(au x33.2.1)]⟩)) 5 (some ⟨b5,(List.map au x33.2.2)⟩)) 4 (some ⟨b4,[(.own 1204 gz33_0 (x33.1.map bE).length)]⟩),upd (fun _=>none) 1204 (some ⟨gz33_0,3,(x33.1.map bE),true⟩)⟩) (Gh.le (fq _ _) (aM rfl (eJ.of2 (gp.cons (lZ.own rfl) gp.nil)) (aM rfl (eJ.r) (aM rfl (eJ.r) (aM rfl (eJ.of2 (gp.cons (lZ.fn (gp.cons lZ.boxT (gp.cons lZ.boxT (gp.cons lZ.boxT (gp.cons lZ.boxT gp.nil))))) gp.nil)) (aM rfl (eJ.r) (aM rfl (eJ.r) bA)))))) (cX bw)) ?_
    refine ab (bc (bC 2 tk rfl ?_))
    exact bu gz33_0 H hl12 hg12
   refine ae (aa (ah tk rfl (ak tk ?_)))
   refine aC tk (zl _) ?_
   refine ah tk rfl (ab ?_)
   refine du (γ := OwnRef) tk 38 37 36 (fun s13 g13=>upd (upd (upd (upd (upd (upd (fun _=>.any) 20 (ac (j1 : Int))) 19 (ac (x18.length : Int))) 18 (.list 33 (x18.map ap))) 7 (.box 7 b7 0)) 6 (.box 6 b6 0)) 4 (.box 4 b4 0)) (fun s13 g13=>upd (upd (upd (upd (fun _=>none) 7 (some ⟨b7,[(.fn 42 [(.box 4 b4 0),(.box 6 b6 0),(.box 5 b5 0),(.box 7 b7 0)])]⟩)) 6 (some ⟨b6,[(au s13.2.1)]⟩)) 5 (some ⟨b5,(List.map au s13.2.2)⟩)) 4 (some ⟨b4,[(.own 1204 g13 (s13.1.map bE).length)]⟩)) (fun s13 g13=>upd (fun _=>none) 1204 (some ⟨g13,3,(s13.1.map bE),true⟩)) g12 H (fun fl13 Hp13 j13 s13 g13 hz13 hl13 x13 fb13 hx13 H hg13=>?_) (fun s13 g13 H=>?_)
   ·refine ae (aG (ae (aa ?_)))
    refine aY tk (zn j13) (bm (fun _=>rfl) hx13) ?_
    refine ah tk rfl ?_
    refine aB tk fun b13=>?_
    refine al tk ?_
    refine ab (ae (aa (ah tk rfl (ak tk ?_))))
    refine aC tk (zl _) ?_
    refine ah tk rfl (ab ?_)
    refine du (γ := OwnRef) tk 45 44 43 (fun s16 g16=>upd (upd (upd (upd (upd (upd (upd (upd (upd (fun _=>.any) 38 (ac (j13 : Int))) 37 (ac (x1.aggregates.length : Int))) 36 (.list 88 (x1.aggregates.map aO))) 20 (ac (j1 : Int))) 19 (ac (x18.length : Int))) 18 (.list 33 (x18.map ap))) 7 (.box 7 b7 0)) 6 (.box 6 b6 0)) 4 (.box 4 b4 0)) (fun s16 g16=>upd (upd (upd (upd (fun _=>none) 7 (some ⟨b7,[(.fn 42 [(.box 4 b4 0),(.box 6 b6 0),(.box 5 b5 0),(.box 7 b7 0)])]⟩)) 6 (some ⟨b6,[(au s16.2.1)]⟩)) 5 (some ⟨b5,(List.map au s16.2.2)⟩)) 4 (some ⟨b4,[(.own 1204 g16 (s16.1.map bE).length)]⟩)) (fun s16 g16=>upd (fun _=>none) 1204 (some ⟨g16,3,(s16.1.map bE),true⟩)) g13 H (fun fl16 Hp16 j16 s16 g16 hz16 hl16 x16 fb16 hx16 H hg16=>?_) (fun s16 g16 H=>?_)
    ·refine ae (aG (ae (aa (aY tk (zn j16) (bm aQ hx16) ?_))))
     refine ah tk rfl ?_
     refine aB tk fun b15=>?_
     refine al tk ?_
     refine ab (aa (ak tk ?_))
     refine ak tk ?_
     obtain ⟨x51,h51,H⟩ := av H
     have s51 := jn b4 g16 b6 b5 b7 x16 s16.1 s16.2.1 s16.2.2 _ h51
     refine gv (st' := ⟨_,_,upd (upd (upd (upd (upd (fun _=>none) 15 (some ⟨b15,(bl x16)⟩)) 7 (some ⟨b7,[(.fn 42 [(.box 1000 b4 0),(.box 1001 b6 0),(.box 1002 b5 0),(.box 1003 b7 0)])]⟩)) 6 (some ⟨b6,[(au s16.2.1)]⟩)) 5 (some ⟨b5,(List.map au s16.2.2)⟩)) 4 (some ⟨b4,[(.own 1100 g16 (s16.1.map bE).length)]⟩),upd (fun _=>none) 1204 (some ⟨g16,3,(s16.1.map bE),true⟩)⟩) (Gh.le (fq _ _) (aM rfl (eJ.of2 (gp.cons (lZ.own rfl) gp.nil)) (aM rfl (eJ.r) (aM rfl (eJ.r) (aM rfl (eJ.of2 (gp.cons (lZ.fn (gp.cons lZ.boxT (gp.cons lZ.boxT (gp.cons lZ.boxT (gp.cons lZ.boxT gp.nil))))) gp.nil)) (aM rfl (eJ.r) bA))))) (cX bw)) ?_
     refine gQ (g := 42) rfl rfl rfl Tryz.call42 [(4,1000),(6,1001),(5,1002),(7,1003)] [(1204,1100)] rfl rfl rfl rfl (eJ.of2 (gp.cons (lZ.of_eq rfl) (gp.cons lZ.boxT (gp.cons lZ.boxT (gp.cons lZ.boxT (gp.cons lZ.boxT gp.nil)))))) (by rw [eP,eP,eP,eP,gg,fy,gd]; rfl) s51 ?_
     rintro u51 H51h ⟨gz51_0,rfl,rfl⟩
     refine ⟨_,rfl,?_⟩
     refine gv (st' := ⟨_,_,upd (upd (upd (upd (upd (fun _=>none) 15 (some ⟨b15,(bl x16)⟩)) 7 (some ⟨b7,[(.fn 42 [(.box 4 b4 0),(.box 6 b6 0),(.box 5 b5 0),(.box 7 b7 0)])]⟩)) 6 (some ⟨b6,[(au x51.2.1)]⟩)) 5 (some ⟨b5,(List.map au x51.2.2)⟩)) 4 (some ⟨b4,[(.own 1204 gz51_0 (x51.1.map bE).length)]⟩),upd (fun _=>none) 1204 (some ⟨gz51_0,3,(x51.1.map bE),true⟩)⟩) (Gh.le (fq _ _) (aM rfl (eJ.of2 (gp.cons (lZ.own rfl) gp.nil)) (aM rfl (eJ.r) (aM rfl (eJ.r) (aM rfl (eJ.of2 (gp.cons (lZ.fn (gp.cons lZ.boxT (gp.cons lZ.boxT (gp.cons lZ.boxT (gp.cons lZ.boxT gp.nil))))) gp.nil)) (aM rfl (eJ.r) bA))))) (cX bw)) ?_
     refine ab (bc (bC 2 tk rfl ?_))
     exact bu gz51_0 H hl16 hg16
    refine bc (bC 2 tk rfl ?_)
    exact bu g16 H hl13 hg13
   refine bc (bC 2 tk rfl ?_)
   exact bu g13 H hl1 hg1
  have hn1 := rMd (rowsGe h) hr1
  refine db rfl ?_
  refine aJ s1 g1 hn1 Gh.d
 have H := kU hn1 Hp1
 refine ae (ae (aa (ak tk ?_)))
 refine ab ?_
 refine aP rfl H (fun H=>?_) (fun H=>?_)
 ·refine aw 2 tk rfl ?_
  obtain rfl := az H
  refine bd tk rfl (ps := [(.val (.slice none 0 0)),(ac 13)]) ⟨_,_,rfl,rfl,_,_,rfl,rfl,rfl⟩ (PLe.of2 (lZ.tup (gp.cons (lZ.nil tk rfl) (gp.cons (lZ.of_eq rfl) gp.nil))))
 refine ax (ae (aa (ak tk ?_)))
 refine af 2 tk rfl (ab (eD 2 rfl rfl rfl ?_))
 exact bh tk H rfl
def dQ (sA : List Int) (v : Int) : Option (Bool) :=
 ag (fL sA v) fun x7 =>
 some (decide (x7 ≥ (0 : Int)))
theorem lX (sA : List Int) (v : Int) (r : Bool) (H : dQ sA v = some r) :
  aS Tryz.prog 13 [(.list 3 (sA.map bE)),(ac v)] (au r) := by
 unfold dQ at H
 refine PH.ay Tryz.func13 Tryz.ntmps13 ?_
 refine aw 1 tk rfl (ae (aa (af 2 tk rfl ?_)))
 obtain ⟨x7,h7,H⟩ := av H
 have s7 := nj sA v _ h7
 refine aq Tryz.call44 (eJ.r) s7 ?_
 refine af 2 tk rfl (ab ?_)
 exact bh tk H rfl
def gf (kind : Int) (a : List LCol) (b : List LCol) : Option ((List LCol) × Int) :=
 cond ((a.length : Int) != (b.length : Int))
  (some ([],7))
  (ag (aH (σ := List LCol) (ρ := ((List LCol) × Int)) (fun (j1 : Nat) (x1 : LCol) (s1 : List LCol) =>
   ag (aT b (j1 : Int)) fun (x29 : LCol) =>
   cond (x1.kind != x29.kind)
    (some (.ret ([],7)))
    (cond x1.nullable
     (ag (aT s1 (j1 : Int)) fun (x51 : LCol) =>
     bq (s1.set ((j1 : Int).toNat) (LCol.mk x51.name x51.kind true)) fun (y8 : List LCol) =>
     some (.next y8))
     (cond (kind == (6 : Int))
      (ag (aT b (j1 : Int)) fun (x46 : LCol) =>
      ag (aT s1 (j1 : Int)) fun (x51 : LCol) =>
      bq (s1.set ((j1 : Int).toNat) (LCol.mk x51.name x51.kind x46.nullable)) fun (y9 : List LCol) =>
      some (.next y9))
      (ag (aT s1 (j1 : Int)) fun (x51 : LCol) =>
      bq (s1.set ((j1 : Int).toNat) (LCol.mk x51.name x51.kind false)) fun (y10 : List LCol) =>
      some (.next y10))))) 0 a a) fun fl1=>fl1.thenR fun (s1 : List LCol) =>
  some (s1,0))
theorem pK (kind : Int) (a : List LCol) (b : List LCol) (r : (List LCol) × Int) (H : gf kind a b = some r) :
  aS Tryz.prog 232 [(ac kind),(.list 68 (a.map bg)),(.list 68 (b.map bg))] (.tup [(.list 68 (r.1.map bg)),(ac r.2)]) := by
 unfold gf at H
 refine PH.ay Tryz.func232 Tryz.ntmps232 ?_
 refine aw 2 tk rfl (ae (ae (aa (ah tk rfl (aC tk (zl _) ?_)))))
 refine ah tk rfl (aC tk (zl _) ?_)
 refine ah tk rfl (ab ?_)
 refine aP rfl H (fun H=>?_) (fun H=>?_)
 ·refine aw 2 tk rfl ?_
  obtain rfl := az H
  refine bd tk rfl (ps := [(.val (.slice none 0 0)),(ac 7)]) ⟨_,_,rfl,rfl,_,_,rfl,rfl,rfl⟩ (PLe.of2 (lZ.tup (gp.cons (lZ.nil tk rfl) (gp.cons (lZ.of_eq rfl) gp.nil))))
 refine ax (ae (aa (ah tk rfl ?_)))
 have s16 := qd (m := 16) a
 refine qU (g := 195) rfl rfl rfl Tryz.call195 (eJ.r) rfl rfl s16 (fun g16=>?_)
 refine ah tk rfl (ab (ae (ae (aa (ah tk rfl (aC tk (zl _) ?_))))))
 refine ah tk rfl (ab ?_)
 refine ew (γ := OwnRef) tk 19 18 1 (fun s1 g1=>upd (upd (upd (fun _=>.any) 8 (.own 16 g1 (s1.map bg).length)) 2 (.list 68 (b.map bg))) 0 (ac kind)) nB (fun s1 g1=>upd (fun _=>none) 16 (some ⟨g1,68,(s1.map bg),true⟩)) g16 H (fun fl1 Hp1 j1 s1 g1 hz1 hl1 x1 fb1 hx1 H hg1=>?_) (fun s1 g1 H=>?_)
 ·refine ae (aG (aw 2 tk rfl (ae (ae ?_))))
  refine fX (tag := 16) rfl (fun ho16=>?_)
  refine bs tk mok ⟨false,false,[]⟩ [0,1,2,3,4,5,6,7,8,9,10] rfl (by decide +kernel) rfl (bf 2 rfl ?_)
  refine bF (zn j1) (bm (fun _=>rfl) hx1) ?_
  refine bf 4 rfl ?_
  obtain ⟨x29,k29,H⟩ := bB H
  refine bF k29.1 (aR (fun _=>rfl) k29.2) ?_
  refine bf 3 rfl (bn ?_)
  refine aP rfl H (fun H=>?_) (fun H=>?_)
  ·refine aw 2 tk rfl ?_
   obtain rfl := az H
   have e1 : fl1 = .ret _ := hg1
   subst e1
   obtain rfl := br Hp1
   refine bd tk rfl (ps := [(.val (.slice none 0 0)),(ac 7)]) ⟨_,_,rfl,rfl,_,_,rfl,rfl,rfl⟩ (PLe.of2 (lZ.tup (gp.cons (lZ.nil tk rfl) (gp.cons (lZ.of_eq rfl) gp.nil))))
  refine ax (aa (af 4 tk rfl ?_))
  refine aY tk (zn j1) (bm (fun _=>rfl) hx1) ?_
  refine af 3 tk rfl ?_
  refine aN rfl rfl rfl H (fun H=>?_) (fun H=>?_)
  ·refine af 10 tk rfl ?_
   obtain ⟨x51,k51,H⟩ := bB H
   refine kw (tag := 16) rfl (fun ho16=>?_)
   refine jp tk ⟨k51.1,(dG k51.2)⟩ (dH ho16 k51.2) ?_
   refine ah tk rfl ?_
   obtain ⟨y8,hy8,H⟩ := cY H
   refine pQ tk rfl rfl rfl rfl rfl rfl rfl rfl (by rw [zl]; exact (zg.1 k51.2).1) (PLe.refl _ _) rfl rfl rfl rfl (by decide) (eR (fun _=>rfl) k51.2 rfl hy8) ?_
   refine ab (bc (bC 2 tk rfl ?_))
   exact bu g1 H hl1 hg1 (Gh.le (aL (aL (bU (PLe.q (eW (by omega))) (aL (aL (bU (PLe.of2 (lZ.of_eq (congrArg (PV.own 16 g1) (fU (f := bg) hy8)))) bM)))))) bA (cX bw))
  refine af 3 tk rfl ?_
  refine aN rfl rfl rfl H (fun H=>?_) (fun H=>?_)
  ·refine af 2 tk rfl ?_
   obtain ⟨x46,k46,H⟩ := bB H
   refine aY tk k46.1 (aR (fun _=>rfl) k46.2) ?_
   refine af 4 tk rfl ?_
   obtain ⟨x51,k51,H⟩ := bB H
   refine kw (tag := 16) rfl (fun ho16=>?_)
   refine jp tk ⟨k51.1,(dG k51.2)⟩ (dH ho16 k51.2) ?_
   refine ah tk rfl ?_
   obtain ⟨y9,hy9,H⟩ := cY H
   refine pQ tk rfl rfl rfl rfl rfl rfl rfl rfl (by rw [zl]; exact (zg.1 k51.2).1) (PLe.refl _ _) rfl rfl rfl rfl (by decide) (eR (fun _=>rfl) k51.2 rfl hy9) ?_
   refine ab (bc (bC 2 tk rfl ?_))
   exact bu g1 H hl1 hg1 (Gh.le (aL (aL (bU (PLe.q (eW (by omega))) (aL (aL (bU (PLe.of2 (lZ.of_eq (congrArg (PV.own 16 g1) (fU (f := bg) hy9)))) bM)))))) bA (cX bw))
  refine af 7 tk rfl ?_
  obtain ⟨x51,k51,H⟩ := bB H
  refine kw (tag := 16) rfl (fun ho16=>?_)
  refine jp tk ⟨k51.1,(dG k51.2)⟩ (dH ho16 k51.2) ?_
  refine ah tk rfl ?_
  obtain ⟨y10,hy10,H⟩ := cY H
  refine pQ tk rfl rfl rfl rfl rfl rfl rfl rfl (by rw [zl]; exact (zg.1 k51.2).1) (PLe.refl _ _) rfl rfl rfl rfl (by decide) (eR (fun _=>rfl) k51.2 rfl hy10) ?_
  refine ab (bc (bC 2 tk rfl ?_))
  exact bu g1 H hl1 hg1 (Gh.le (aL (aL (bU (PLe.q (eW (by omega))) (aL (aL (bU (PLe.of2 (lZ.of_eq (congrArg (PV.own 16 g1) (fU (f := bg) hy10)))) bM)))))) bA (cX bw))
 refine aw 3 tk rfl (eD 6 rfl rfl rfl ?_)
 exact bh tk H rfl
def cB (sA : List (List UInt8)) (v : List UInt8) : Option (Bool) :=
 ag (bH sA v) fun x7 =>
 some (decide (x7 ≥ (0 : Int)))
theorem hO (sA : List (List UInt8)) (v : List UInt8) (r : Bool) (H : cB sA v = some r) :
  aS Tryz.prog 38 [(.list 9 (sA.map aE)),(.str v)] (au r) := by
 unfold cB at H
 refine PH.ay Tryz.func38 Tryz.ntmps38 ?_
 refine aw 1 tk rfl (ae (aa (af 2 tk rfl ?_)))
 obtain ⟨x7,h7,H⟩ := av H
 have s7 := iA sA v _ h7
 refine aq Tryz.call77 (eJ.r) s7 ?_
 refine af 2 tk rfl (ab ?_)
 exact bh tk H rfl
def co (sA : List (List UInt8)) (v : List UInt8) : Option (Bool × (List (List UInt8))) :=
 ag (cU sA v) fun x7 =>
 ag (lQ (x7.2.length = sA.length) ()) fun (_ : Unit) =>
 some ((decide (x7.1 ≥ (0 : Int))),x7.2)
theorem jI (g_sA : OwnRef) (sA : List (List UInt8)) (v : List UInt8) (r : Bool × (List (List UInt8))) (H : co sA v = some r) :
  PH Tryz.prog 38 [(.own 0 g_sA (sA.map aE).length),(.str v)] ⟨fun _=>none,upd (fun _=>none) 0 (some ⟨g_sA,9,(sA.map aE),true⟩)⟩ (fun u H=>u = (au r.1) ∧ H = ⟨fun _=>none,upd (fun _=>none) 0 (some ⟨g_sA,9,(r.2.map aE),true⟩)⟩) := by
 unfold co at H
 refine PH.ay Tryz.func38 Tryz.ntmps38 ?_
 refine aw 1 tk rfl (ae (aa (af 2 tk rfl ?_)))
 obtain ⟨x7,h7,H⟩ := av H
 have s7 := kB g_sA sA v _ h7
 obtain ⟨_,q7_0,H⟩ := av H
 have l7_0 := (nJ q7_0).1
 have z7_0 : (List.map aE sA).length = (List.map aE x7.2).length := by simpa using (l7_0).symm
 refine gQ (g := 77) rfl rfl rfl Tryz.call77 [] [(0,0)] rfl rfl rfl rfl (eJ.of2 (gp.cons (lZ.own rfl) (gp.cons (lZ.of_eq rfl) gp.nil))) (by rw [gg,fy,gd]; rfl) s7 ?_
 rintro u7 H7h ⟨rfl,rfl⟩
 refine ⟨_,rfl,?_⟩
 refine gv (st' := ⟨_,_,fun _=>none,upd (fun _=>none) 0 (some ⟨g_sA,9,(x7.2.map aE),true⟩)⟩) (Gh.le (fq _ _) bA (cX bw)) ?_
 refine af 2 tk rfl (ab ?_)
 obtain rfl := az H
 refine lp (st' := ⟨9,upd (fun _=>.any) 4 (au (decide (x7.1 ≥ (0 : Int)))),fun _=>none,upd (fun _=>none) 0 (some ⟨g_sA,9,(x7.2.map aE),true⟩)⟩) (Gh.le (aL bM) bA (cX bw)) ?_
 refine rn tk rfl (ps := [(au (decide (x7.1 ≥ (0 : Int))))]) ⟨_,_,rfl,rfl,rfl⟩ (PLe.q rfl) ⟨rfl,rfl⟩
def bK (sA : List LCol) (f : LCol → Option (Bool)) : Option (Bool) :=
 ag (cd sA f) fun x7 =>
 some (decide (x7 ≥ (0 : Int)))
theorem iz {g_f : FuncId} {caps_f : List PV} (sA : List LCol) (f : LCol → Option (Bool)) (hg_f : ∀ (vs : Array Value) (w : World),(callFunc g_f vs).run Tryz.prog w = .ok (.enter g_f vs) w) (hp_f : ∀ a0 r,f a0 = some r → aS Tryz.prog g_f ((.agg (bg a0)) :: caps_f) (au r)) (r : Bool) (H : bK sA f = some r) :
  aS Tryz.prog 170 [(.list 68 (sA.map bg)),(.fn g_f caps_f)] (au r) := by
 unfold bK at H
 refine PH.ay Tryz.func170 Tryz.ntmps170 ?_
 refine aw 1 tk rfl (ae (aa (af 2 tk rfl ?_)))
 obtain ⟨x7,h7,H⟩ := av H
 have s7 := fg sA f hg_f hp_f _ h7
 refine aq Tryz.call163 (eJ.r) s7 ?_
 refine af 2 tk rfl (ab ?_)
 exact bh tk H rfl
def kH (_rec74 : LExpr → Option (LExpr)) (rec119 : LExpr → (List (List UInt8)) → (List LExpr) → Option (LExpr)) (e : LExpr) : Option (LExpr) :=
 ag (rec119 e ([] : List (List UInt8)) ([] : List LExpr)) fun x4 =>
 some x4
theorem WO_expr_Clone (rec74 : LExpr → Option (LExpr)) (rec119 : LExpr → (List (List UInt8)) → (List LExpr) → Option (LExpr)) (_hrec74 : ∀ a0 r,rec74 a0 = some r → aS Tryz.prog 74 [(.agg (bl a0))] (.agg (bl r))) (hrec119 : ∀ a0 a1 a2 r,rec119 a0 a1 a2 = some r → aS Tryz.prog 119 [(.agg (bl a0)),(.list 9 (a1.map aE)),(.list 91 (a2.map am))] (.agg (bl r))) (e : LExpr) (r : LExpr) (H : kH rec74 rec119 e = some r) :
  aS Tryz.prog 74 [(.agg (bl e))] (.agg (bl r)) := by
 unfold kH at H
 refine PH.ay Tryz.func74 Tryz.ntmps74 ?_
 refine ae (aa (aI ?_))
 refine aB tk fun b2=>?_
 refine ab (ae (aa (ah tk rfl ?_)))
 obtain ⟨x4,h4,H⟩ := av H
 have s4 := hrec119 e ([] : List (List UInt8)) ([] : List LExpr) _ h4
 refine aq Tryz.call119 (eJ.of2 (gp.cons (lZ.of_eq rfl) (gp.cons (lZ.nil tk rfl) (gp.cons (lZ.nil tk rfl) gp.nil)))) s4 ?_
 refine al tk ?_
 refine ab ?_
 exact nU tk H rfl rfl rfl rfl rfl
def dW (rec74 : LExpr → Option (LExpr)) (rec119 : LExpr → (List (List UInt8)) → (List LExpr) → Option (LExpr)) (e : LExpr) (names : List (List UInt8)) (l : List LExpr) : Option (LExpr) :=
 ag (
  cond (e.kind == (2 : Int))
   (ag (bH names e.name) fun x17 =>
   cond (decide (x17 ≥ (0 : Int)))
    (cond (decide (x17 < (l.length : Int)))
     (ag (aT l x17) fun (x28 : LExpr) =>
     ag (rec74 x28) fun x30 =>
     some (.ret x30))
     (some (.next ())))
    (some (.next ())))
   (some (.next ()))) fun (fl1 : Flow (Unit) (LExpr))=>fl1.thenR fun _ =>
 ag (aH (σ := List LExpr) (ρ := Empty) (fun (_ : Nat) (x2 : LExpr) (s2 : List LExpr) =>
  ag (rec119 x2 names l) fun x45 =>
  ag (cq 88 s2 ([x45] : List LExpr)) fun (x47 : List LExpr) =>
  some (.next x47)) 0 e.args []) fun fl2=>fl2.thenP fun (s2 : List LExpr) =>
 some (LExpr.mk e.kind e.name e.index e.value s2)
theorem pW (rec74 : LExpr → Option (LExpr)) (rec119 : LExpr → (List (List UInt8)) → (List LExpr) → Option (LExpr)) (hrec74 : ∀ a0 r,rec74 a0 = some r → aS Tryz.prog 74 [(.agg (bl a0))] (.agg (bl r))) (hrec119 : ∀ a0 a1 a2 r,rec119 a0 a1 a2 = some r → aS Tryz.prog 119 [(.agg (bl a0)),(.list 9 (a1.map aE)),(.list 91 (a2.map am))] (.agg (bl r))) (e : LExpr) (names : List (List UInt8)) (l : List LExpr) (r : LExpr) (H : dW rec74 rec119 e names l = some r) :
  aS Tryz.prog 119 [(.agg (bl e)),(.list 9 (names.map aE)),(.list 91 (l.map am))] (.agg (bl r)) := by
 unfold dW at H
 refine PH.ay Tryz.func119 Tryz.ntmps119 ?_
 refine ae (aa (aI ?_))
 refine aB tk fun b6=>?_
 refine ab (ae (aw 3 tk rfl ?_))
 refine V.cutR (γ := Unit) (fun t1 g1=>⟨51,upd (upd (upd (upd (fun _=>.any) 6 (.box 6 b6 0)) 3 (.ptr (bl e))) 2 (.list 91 (l.map am))) 1 (.list 9 (names.map aE)),upd (fun _=>none) 6 (some ⟨b6,[(ac 0),(.str []),(ac 0),(ac 0),(ac 0),(.str []),(.val (.slice none 0 0))]⟩),fun _=>none⟩) H (fun _ H Hp1=>?_) (fun t1 g1 H=>?_)
 ·refine aP rfl H (fun H=>?_) (fun H=>?_)
  ·refine ae (aa (af 3 tk rfl ?_))
   obtain ⟨x17,h17,H⟩ := av H
   have s17 := iA names e.name _ h17
   refine aq Tryz.call77 (eJ.r) s17 ?_
   refine ah tk rfl (ab (ae (aa (af 3 tk rfl ?_))))
   refine aN rfl rfl rfl H (fun H=>?_) (fun H=>?_)
   ·refine af 2 tk rfl (aC tk (zl _) ?_)
    refine af 2 tk rfl (ab ?_)
    refine aP rfl H (fun H=>?_) (fun H=>?_)
    ·refine ae (aa (af 2 tk rfl ?_))
     obtain ⟨x28,k28,H⟩ := bB H
     refine aY tk k28.1 (aR aQ k28.2) ?_
     refine ah tk rfl ?_
     obtain ⟨x30,h30,H⟩ := av H
     have s30 := hrec74 x28 _ h30
     refine aq Tryz.call74 (eJ.r) s30 ?_
     refine al tk ?_
     refine ab ?_
     obtain rfl := az H
     obtain rfl := br Hp1
     refine bd tk rfl (ps := [(.agg (bl x30))]) ⟨_,_,rfl,⟨_,_,_,_,_,rfl,rfl,rfl,rfl⟩,rfl⟩ (PLe.q rfl)
    refine ax ?_
    refine aJ _ () (az H).symm Gh.d
   refine af 5 tk rfl (ab (bQ rfl (ax ?_)))
   refine aJ _ () (az H).symm Gh.d
  refine ax ?_
  refine aJ _ () (az H).symm Gh.d
 refine ae (aa (ah tk rfl ?_))
 refine aB tk fun b8=>?_
 refine al tk ?_
 refine ab (ae (aa (ah tk rfl (al tk ?_))))
 refine ab (ae (ae (aa (af 2 tk rfl (aC tk (zl _) ?_)))))
 refine ah tk rfl (ab (fS tk 8 6 47 (e := 91) rfl rfl rfl rfl ?_))
 refine du (γ := OwnRef) tk 36 35 34 (fun s2 g2=>upd (upd (upd (upd (fun _=>.any) 8 (.box 8 b8 0)) 6 (.box 6 b6 0)) 2 (.list 91 (l.map am))) 1 (.list 9 (names.map aE))) (fun s2 g2=>upd (upd (fun _=>none) 8 (some ⟨b8,[(ac e.kind),(.str e.name),(ac e.index),(ac e.value.kind),(ac e.value.int),(.str e.value.text),(.own 47 g2 (s2.map am).length)]⟩)) 6 (some ⟨b6,[(ac 0),(.str []),(ac 0),(ac 0),(ac 0),(.str []),(.val (.slice none 0 0))]⟩)) (fun s2 g2=>upd (fun _=>none) 47 (some ⟨g2,91,(s2.map am),true⟩)) (⟨none,0⟩) H (fun fl2 Hp2 j2 s2 g2 hz2 hl2 x2 fb2 hx2 H hg2=>?_) (fun s2 g2 H=>?_)
 ·refine ae (aG (ae (aa (aY tk (zn j2) (bm aQ hx2) ?_))))
  refine ah tk rfl ?_
  refine aB tk fun b10=>?_
  refine al tk ?_
  refine ab (bX 10 ?_)
  refine bs tk mok ⟨true,false,[42]⟩ [0,1,2,3,4,5,6,7,8,9] rfl (by decide +kernel) rfl (bi rfl (aU ?_))
  refine bf 3 rfl ?_
  obtain ⟨x45,h45,H⟩ := av H
  have s45 := hrec119 x2 names l _ h45
  refine be Tryz.call119 (eJ.r) s45 ?_
  refine bi rfl ?_
  obtain ⟨x47,h47,H⟩ := av H
  have k47 := bL h47
  refine dY (rows2' := List.map am ([x45] : List LExpr)) (rows' := List.map am x47) tk rfl rfl rfl rfl rfl rfl rfl rfl rfl rfl rfl rfl rfl rfl (dz.trans (b := List.map bl [x45]) (dz.refl _) (dz.of_eq (bO aQ [x45]))) (cn k47.1) (cm k47.2.1) (ck k47.2.2) fun g47=>?_
  refine bi rfl (bj ?_)
  refine bn (bc (bC 2 tk rfl ?_))
  exact bu g47 H hl2 hg2
 refine ae (aa (ak tk ?_))
 refine al tk ?_
 refine ab (bD 6 6 rfl rfl rfl rfl rfl ?_)
 exact nU tk H rfl rfl rfl rfl rfl
mutual
def fW : Nat → LExpr → Option (LExpr)
 | 0,_=>none
 | n + 1,v0=>kH (fun b0=>fW n b0) (fun b0 b1 b2=>bp n b0 b1 b2) v0
def bp : Nat → LExpr → (List (List UInt8)) → (List LExpr) → Option (LExpr)
 | 0,_,_,_=>none
 | n + 1,v0,v1,v2=>dW (fun b0=>fW n b0) (fun b0 b1 b2=>bp n b0 b1 b2) v0 v1 v2
end
theorem pw  (n : Nat) : (∀ a0 r,fW n a0 = some r → aS Tryz.prog 74 [(.agg (bl a0))] (.agg (bl r))) ∧ (∀ a0 a1 a2 r,bp n a0 a1 a2 = some r → aS Tryz.prog 119 [(.agg (bl a0)),(.list 9 (a1.map aE)),(.list 91 (a2.map am))] (.agg (bl r))) := by
 induction n with
 | zero=>exact ⟨(by intros; rename_i h; exact absurd (show (none : Option _) = some _ from h) (by simp)),(by intros; rename_i h; exact absurd (show (none : Option _) = some _ from h) (by simp))⟩
 | succ n ih =>
  exact ⟨(fun v0 r h=>WO_expr_Clone (fun b0=>fW n b0) (fun b0 b1 b2=>bp n b0 b1 b2) ih.1 ih.2 v0  r h),(fun v0 v1 v2 r h=>pW (fun b0=>fW n b0) (fun b0 b1 b2=>bp n b0 b1 b2) ih.1 ih.2 v0 v1 v2  r h)⟩
def eg (e : LExpr) : Option (LExpr) := eT fun n=>fW n e
theorem fZ (e : LExpr) (r : LExpr) (H : eg e = some r) :
  aS Tryz.prog 74 [(.agg (bl e))] (.agg (bl r)) := by
 obtain ⟨n,h⟩ := eA H
 exact (pw  n).1 e r h
def cD (e : LExpr) (names : List (List UInt8)) (l : List LExpr) : Option (LExpr) := eT fun n=>bp n e names l
theorem iB (e : LExpr) (names : List (List UInt8)) (l : List LExpr) (r : LExpr) (H : cD e names l = some r) :
  aS Tryz.prog 119 [(.agg (bl e)),(.list 9 (names.map aE)),(.list 91 (l.map am))] (.agg (bl r)) := by
 obtain ⟨n,h⟩ := eA H
 exact (pw  n).2 e names l r h
def cI (sA : List (List UInt8)) (f : (List UInt8) → Option (Bool)) : Option (Bool) :=
 ag (dC sA f) fun x7 =>
 some (decide (x7 ≥ (0 : Int)))
theorem jx {g_f : FuncId} {caps_f : List PV} (sA : List (List UInt8)) (f : (List UInt8) → Option (Bool)) (hg_f : ∀ (vs : Array Value) (w : World),(callFunc g_f vs).run Tryz.prog w = .ok (.enter g_f vs) w) (hp_f : ∀ a0 r,f a0 = some r → aS Tryz.prog g_f ((.str a0) :: caps_f) (au r)) (r : Bool) (H : cI sA f = some r) :
  aS Tryz.prog 36 [(.list 9 (sA.map aE)),(.fn g_f caps_f)] (au r) := by
 unfold cI at H
 refine PH.ay Tryz.func36 Tryz.ntmps36 ?_
 refine aw 1 tk rfl (ae (aa (af 2 tk rfl ?_)))
 obtain ⟨x7,h7,H⟩ := av H
 have s7 := jX sA f hg_f hp_f _ h7
 refine aq Tryz.call76 (eJ.r) s7 ?_
 refine af 2 tk rfl (ab ?_)
 exact bh tk H rfl
def fD (slices : List (List (List UInt8))) : Option ((List (List UInt8))) :=
 ag (aH (σ := Int) (ρ := Empty) (fun (_ : Nat) (x1 : List (List UInt8)) (s1 : Int) =>
  cond (decide ((IntKind.i64.wrap (s1 + (x1.length : Int))) < (0 : Int)))
   (none)
   (some (.next (IntKind.i64.wrap (s1 + (x1.length : Int)))))) 0 slices 0) fun fl1=>fl1.thenP fun (s1 : Int) =>
 ag (growI 16 s1) fun (_ : Unit) =>
 ag (aH (σ := List (List UInt8)) (ρ := Empty) (fun (_ : Nat) (x2 : List (List UInt8)) (s2 : List (List UInt8)) =>
  ag (cq 16 s2 x2) fun (x33 : List (List UInt8)) =>
  some (.next x33)) 0 slices []) fun fl2=>fl2.thenP fun (s2 : List (List UInt8)) =>
 some s2
theorem kX {m : Nat} (slices : List (List (List UInt8))) (r : (List (List UInt8))) (H : fD slices = some r) :
  dR Tryz.prog 180 [(.list 27 (slices.map (jm 9 aE)))] (ji m 9 (r.map aE)) := by
 unfold fD at H
 refine PH.ay Tryz.func180 Tryz.ntmps180 ?_
 refine aw 1 tk rfl (aw 1 tk rfl (ae (ae (aa (ah tk rfl (aC tk (zl _) ?_))))))
 refine ah tk rfl (ab ?_)
 refine du tk 11 10 9 (fun s1 g1=>upd (upd (fun _=>.any) 3 (ac s1)) 0 (.list 27 (slices.map (jm 9 aE)))) nB nO () H (fun fl1 Hp1 j1 s1 g1 hz1 hl1 x1 fb1 hx1 H hg1=>?_) (fun s1 g1 H=>?_)
 ·refine ae (aG (ae (aa ?_)))
  refine aY tk (zn j1) (bm (fun _=>rfl) hx1) ?_
  refine af 2 tk rfl (ab (ae (aa (af 2 tk rfl (aC tk (zl _) ?_)))))
  refine af 2 tk rfl (ab (aw 2 tk rfl ?_))
  refine aP rfl H (fun H=>?_) (fun H=>?_)
  ·cases H
  refine ax (bc (bC 2 tk rfl ?_))
  exact bu () H hl1 hg1
 refine ae (aa (ah tk rfl ?_))
 obtain ⟨_,h24,H⟩ := av H
 have s24 := grow_236 (m := 24) s1 h24
 refine qU (g := 236) rfl rfl rfl Tryz.call236 (eJ.r) rfl rfl s24 (fun g24=>?_)
 refine ah tk rfl (ab (ae (ae (aa (ah tk rfl (aC tk (zl _) ?_))))))
 refine ah tk rfl (ab ?_)
 refine du (γ := OwnRef) tk 27 26 25 (fun s2 g2=>upd (fun _=>.any) 6 (.own 24 g2 (s2.map aE).length)) nB (fun s2 g2=>upd (fun _=>none) 24 (some ⟨g2,9,(s2.map aE),true⟩)) g24 H (fun fl2 Hp2 j2 s2 g2 hz2 hl2 x2 fb2 hx2 H hg2=>?_) (fun s2 g2 H=>?_)
 ·refine ae (aG (ae (aa ?_)))
  refine aY tk (zn j2) (bm (fun _=>rfl) hx2) ?_
  refine af 2 tk rfl (ab (aa (af 2 tk rfl ?_)))
  obtain ⟨x33,h33,H⟩ := av H
  have k33 := bL h33
  refine bZ (rows2' := List.map aE x2) (rows' := List.map aE x33) tk rfl rfl rfl rfl rfl rfl rfl rfl rfl rfl rfl rfl rfl (dz.refl _) (cn k33.1) (cm k33.2.1) (ck k33.2.2) fun g33=>?_
  refine ah tk rfl (ab (bc (bC 2 tk rfl ?_)))
  exact bu g33 H hl2 hg2
 refine aw 2 tk rfl ?_
 obtain rfl := az H
 refine il tk rfl
def kF (rec30 : LExpr → LExpr → Option (Bool)) (a : LExpr) (b : LExpr) : Option (Bool) :=
 cond (a.kind == b.kind)
  (cond (a.index == b.index)
   (cond (a.name == b.name)
    (cond (a.value.kind == b.value.kind && (a.value.int == b.value.int && (a.value.text == b.value.text && true)))
     (ag (ba a.args b.args (fun a0 a1=>rec30 a0 a1)) fun x36 =>
     some x36)
     (some false))
    (some false))
   (some false))
  (some false)
theorem WO_expr_Equal (rec30 : LExpr → LExpr → Option (Bool)) (hrec30 : ∀ a0 a1 r,rec30 a0 a1 = some r → aS Tryz.prog 30 [(.agg (bl a0)),(.agg (bl a1))] (au r)) (a : LExpr) (b : LExpr) (r : Bool) (H : kF rec30 a b = some r) :
  aS Tryz.prog 30 [(.agg (bl a)),(.agg (bl b))] (au r) := by
 unfold kF at H
 refine PH.ay Tryz.func30 Tryz.ntmps30 ?_
 refine ae (aa (aI ?_))
 refine aI ?_
 refine ah tk rfl (ab (ae (aa (af 6 tk rfl ?_))))
 refine aN rfl rfl rfl H (fun H=>?_) (fun H=>?_)
 ·refine af 7 tk rfl ?_
  refine aN rfl rfl rfl H (fun H=>?_) (fun H=>?_)
  ·refine af 7 tk rfl ?_
   refine aN rfl rfl rfl H (fun H=>?_) (fun H=>?_)
   ·refine af 7 tk rfl ?_
    refine aN rfl rfl rfl H (fun H=>?_) (fun H=>?_)
    ·refine af 4 tk rfl ?_
     obtain ⟨x36,h36,H⟩ := av H
     have s36 := ci a.args b.args (fun a0 a1=>rec30 a0 a1) Tryz.call30 (fun a0 a1 r h=>hrec30 a0 a1 r h) _ h36
     refine aq Tryz.call29 (eJ.r) s36 ?_
     refine af 2 tk rfl (ab ?_)
     exact bh tk H rfl
    refine af 7 tk rfl (ab ?_)
    exact bh tk H rfl
   refine af 14 tk rfl (ab ?_)
   exact bh tk H rfl
  refine af 21 tk rfl (ab ?_)
  exact bh tk H rfl
 refine af 28 tk rfl (ab ?_)
 exact bh tk H rfl
def gk : Nat → LExpr → LExpr → Option (Bool)
 | 0,_,_=>none
 | n + 1,v0,v1=>kF (fun b0 b1=>gk n b0 b1) v0 v1
theorem WF_expr_Equal  (n : Nat) : (∀ a0 a1 r,gk n a0 a1 = some r → aS Tryz.prog 30 [(.agg (bl a0)),(.agg (bl a1))] (au r)) := by
 induction n with
 | zero=>exact (by intros; rename_i h; exact absurd (show (none : Option _) = some _ from h) (by simp))
 | succ n ih =>
  exact (fun v0 v1 r h=>WO_expr_Equal (fun b0 b1=>gk n b0 b1) ih v0 v1  r h)
def gV (a : LExpr) (b : LExpr) : Option (Bool) := eT fun n=>gk n a b
theorem pF (a : LExpr) (b : LExpr) (r : Bool) (H : gV a b = some r) :
  aS Tryz.prog 30 [(.agg (bl a)),(.agg (bl b))] (au r) := by
 obtain ⟨n,h⟩ := eA H
 exact (WF_expr_Equal  n) a b r h
def dV (t : LTable) : Option (Int) :=
 ag (ek t.name) fun x11 =>
 cond (!x11)
  (some 23)
  (cond ((t.columns.length : Int) == (0 : Int))
   (some 3)
   (cond (decide ((t.columns.length : Int) > (6 : Int)))
    (some 2)
    (ag (aH (σ := Unit) (ρ := (Int)) (fun (j1 : Nat) (x1 : LCol) (_ : Unit) =>
     ag (ek x1.name) fun x31 =>
     cond (!x31)
      (some (.ret 23))
      (ag (eE t x1.name) fun x37 =>
      cond (decide (x37.1 < (j1 : Int)))
       (some (.ret 5))
       (cond (decide (x1.kind < (1 : Int)))
        (some (.ret 7))
        (cond (decide (x1.kind > (3 : Int)))
         (some (.ret 7))
         (some (.next ())))))) 0 t.columns ()) fun fl1=>fl1.thenR fun (_ : Unit) =>
    ag (aH (σ := Unit) (ρ := (Int)) (fun (j2 : Nat) (x2 : Int) (_ : Unit) =>
     cond (decide (x2 < (0 : Int)))
      (some (.ret 9))
      (cond (decide (x2 ≥ (t.columns.length : Int)))
       (some (.ret 9))
       (ag (aT t.columns x2) fun (x73 : LCol) =>
       cond x73.nullable
        (some (.ret 9))
        (cond (decide ((j2 : Int) > (0 : Int)))
         (ag (aT t.primaryKey (IntKind.i64.wrap ((j2 : Int) - (1 : Int)))) fun (x86 : Int) =>
         cond (decide (x2 ≤ x86))
          (some (.ret 9))
          (some (.next ())))
         (some (.next ())))))) 0 t.primaryKey ()) fun fl2=>fl2.thenR fun (_ : Unit) =>
    cond ((t.primaryKey.length : Int) == (0 : Int))
     (some 9)
     (some 0))))
theorem nR (t : LTable) (r : Int) (H : dV t = some r) :
  aS Tryz.prog 63 [(.agg (cJ t))] (ac r) := by
 unfold dV at H
 refine PH.ay Tryz.func63 Tryz.ntmps63 ?_
 refine ae (aa (aI ?_))
 refine ah tk rfl (ab (ae (ae (aa (af 2 tk rfl ?_)))))
 obtain ⟨x11,h11,H⟩ := av H
 have s11 := lR t.name _ h11
 refine aq Tryz.call102 (eJ.r) s11 ?_
 refine ah tk rfl (ab ?_)
 refine aP rfl H (fun H=>?_) (fun H=>?_)
 ·refine aw 1 tk rfl ?_
  exact bh tk H rfl
 refine ax (ae (ae (aa (af 2 tk rfl (aC tk (zl _) ?_)))))
 refine ah tk rfl (ab ?_)
 refine aP rfl H (fun H=>?_) (fun H=>?_)
 ·refine aw 1 tk rfl ?_
  exact bh tk H rfl
 refine ax (ae (ae (aa (af 2 tk rfl (aC tk (zl _) ?_)))))
 refine ah tk rfl (ab ?_)
 refine aP rfl H (fun H=>?_) (fun H=>?_)
 ·refine aw 1 tk rfl ?_
  exact bh tk H rfl
 refine ax (ae (ae (aa (af 2 tk rfl (aC tk (zl _) ?_)))))
 refine ah tk rfl (ab ?_)
 refine ew tk 24 23 22 (fun s1 g1=>upd (fun _=>.any) 1 (.ptr (cJ t))) nB nO () H (fun fl1 Hp1 j1 s1 g1 hz1 hl1 x1 fb1 hx1 H hg1=>?_) (fun s1 g1 H=>?_)
 ·refine ae (aG (ae (aa (ah tk rfl ?_))))
  refine aY tk (zn j1) (bm (fun _=>rfl) hx1) ?_
  refine ah tk rfl ?_
  refine aB tk fun b4=>?_
  refine ah tk rfl (al tk ?_)
  refine ab (ae (ae (aa (ah tk rfl (ak tk ?_)))))
  obtain ⟨x31,h31,H⟩ := av H
  have s31 := lR x1.name _ h31
  refine aq Tryz.call102 (eJ.r) s31 ?_
  refine ah tk rfl (ab ?_)
  refine aP rfl H (fun H=>?_) (fun H=>?_)
  ·refine aw 1 tk rfl ?_
   obtain rfl := az H
   have e1 : fl1 = .ret _ := hg1
   subst e1
   obtain rfl := br Hp1
   refine bd tk rfl (ps := [(ac 23)]) ⟨_,_,rfl,rfl,rfl⟩ (PLe.q rfl)
  refine ax (ae (ae (aa (af 2 tk rfl (ak tk ?_)))))
  obtain ⟨x37,h37,H⟩ := av H
  have s37 := px t x1.name _ h37
  refine aq Tryz.call103 (eJ.r) s37 ?_
  refine af 5 tk rfl (ab (aw 3 tk rfl ?_))
  refine aP rfl H (fun H=>?_) (fun H=>?_)
  ·refine aw 1 tk rfl ?_
   obtain rfl := az H
   have e1 : fl1 = .ret _ := hg1
   subst e1
   obtain rfl := br Hp1
   refine bd tk rfl (ps := [(ac 5)]) ⟨_,_,rfl,rfl,rfl⟩ (PLe.q rfl)
  refine ax (ae (aa (ah tk rfl (ak tk ?_))))
  refine af 2 tk rfl ?_
  refine aN rfl rfl rfl H (fun H=>?_) (fun H=>?_)
  ·refine af 4 tk rfl (ab (cM rfl (aw 1 tk rfl ?_)))
   obtain rfl := az H
   have e1 : fl1 = .ret _ := hg1
   subst e1
   obtain rfl := br Hp1
   refine bd tk rfl (ps := [(ac 7)]) ⟨_,_,rfl,rfl,rfl⟩ (PLe.q rfl)
  refine ah tk rfl (ak tk ?_)
  refine af 2 tk rfl (ab ?_)
  refine aP rfl H (fun H=>?_) (fun H=>?_)
  ·refine aw 1 tk rfl ?_
   obtain rfl := az H
   have e1 : fl1 = .ret _ := hg1
   subst e1
   obtain rfl := br Hp1
   refine bd tk rfl (ps := [(ac 7)]) ⟨_,_,rfl,rfl,rfl⟩ (PLe.q rfl)
  refine ax (bc (bC 2 tk rfl ?_))
  exact bu () H hl1 hg1
 refine ae (ae (aa (af 2 tk rfl (aC tk (zl _) ?_))))
 refine ah tk rfl (ab ?_)
 refine ew tk 55 54 53 (fun s2 g2=>upd (fun _=>.any) 1 (.ptr (cJ t))) nB nO () H (fun fl2 Hp2 j2 s2 g2 hz2 hl2 x2 fb2 hx2 H hg2=>?_) (fun s2 g2 H=>?_)
 ·refine ae (aG (ae (aa (ah tk rfl ?_))))
  refine aY tk (zn j2) (bm (fun _=>rfl) hx2) ?_
  refine af 3 tk rfl (ab (ae (aa (af 3 tk rfl ?_))))
  refine aN rfl rfl rfl H (fun H=>?_) (fun H=>?_)
  ·refine af 28 tk rfl (ab (cM rfl (aw 1 tk rfl ?_)))
   obtain rfl := az H
   have e2 : fl2 = .ret _ := hg2
   subst e2
   obtain rfl := br Hp2
   refine bd tk rfl (ps := [(ac 9)]) ⟨_,_,rfl,rfl,rfl⟩ (PLe.q rfl)
  refine af 3 tk rfl (aC tk (zl _) ?_)
  refine af 3 tk rfl ?_
  refine aN rfl rfl rfl H (fun H=>?_) (fun H=>?_)
  ·refine af 21 tk rfl (ab (cM rfl (aw 1 tk rfl ?_)))
   obtain rfl := az H
   have e2 : fl2 = .ret _ := hg2
   subst e2
   obtain rfl := br Hp2
   refine bd tk rfl (ps := [(ac 9)]) ⟨_,_,rfl,rfl,rfl⟩ (PLe.q rfl)
  refine af 3 tk rfl ?_
  obtain ⟨x73,k73,H⟩ := bB H
  refine aY tk k73.1 (aR (fun _=>rfl) k73.2) ?_
  refine af 4 tk rfl ?_
  refine aN rfl rfl rfl H (fun H=>?_) (fun H=>?_)
  ·refine af 13 tk rfl (ab (cM rfl (aw 1 tk rfl ?_)))
   obtain rfl := az H
   have e2 : fl2 = .ret _ := hg2
   subst e2
   obtain rfl := br Hp2
   refine bd tk rfl (ps := [(ac 9)]) ⟨_,_,rfl,rfl,rfl⟩ (PLe.q rfl)
  refine af 3 tk rfl ?_
  refine aN rfl rfl rfl H (fun H=>?_) (fun H=>?_)
  ·refine af 5 tk rfl ?_
   obtain ⟨x86,k86,H⟩ := bB H
   refine aY tk k86.1 (aR (fun _=>rfl) k86.2) ?_
   refine af 4 tk rfl (ab ?_)
   refine aP rfl H (fun H=>?_) (fun H=>?_)
   ·refine aw 1 tk rfl ?_
    obtain rfl := az H
    have e2 : fl2 = .ret _ := hg2
    subst e2
    obtain rfl := br Hp2
    refine bd tk rfl (ps := [(ac 9)]) ⟨_,_,rfl,rfl,rfl⟩ (PLe.q rfl)
   refine ax (bc (bC 2 tk rfl ?_))
   exact bu () H hl2 hg2
  refine af 10 tk rfl (ab (bQ rfl (ax (bc (bC 2 tk rfl ?_)))))
  exact bu () H hl2 hg2
 refine ae (ae (aa (af 2 tk rfl (aC tk (zl _) ?_))))
 refine ah tk rfl (ab ?_)
 refine aP rfl H (fun H=>?_) (fun H=>?_)
 ·refine aw 1 tk rfl ?_
  exact bh tk H rfl
 refine ax (aw 1 tk rfl ?_)
 exact bh tk H rfl
def dF (sA : LSchema) (fk : LForeignKey) : Option (Int) :=
 ag (el sA fk.table) fun x17 =>
 ag (el sA fk.refTable) fun x24 =>
 bq (
  cond (!x17.2)
   (true)
   ((!x24.2))) fun (t1 : Bool) =>
 cond t1
  (some 4)
  (ag (aT sA.tables x17.1) fun (x36 : LTable) =>
  ag (aT sA.tables x24.1) fun (x41 : LTable) =>
  cond ((fk.columns.length : Int) != (x41.primaryKey.length : Int))
   (some 3)
   (ag (aH (σ := Unit) (ρ := (Int)) (fun (j2 : Nat) (x2 : Int) (_ : Unit) =>
    bq (
     cond (decide (x2 < (0 : Int)))
      (true)
      ((decide (x2 ≥ (x36.columns.length : Int))))) fun (t4 : Bool) =>
    cond t4
     (some (.ret 3))
     (ag (aT x36.columns x2) fun (x70 : LCol) =>
     ag (aT x41.primaryKey (j2 : Int)) fun (x78 : Int) =>
     ag (aT x41.columns x78) fun (x80 : LCol) =>
     cond (x70.kind != x80.kind)
      (some (.ret 7))
      (some (.next ())))) 0 fk.columns ()) fun fl2=>fl2.thenR fun (_ : Unit) =>
   some 0))
theorem lT (sA : LSchema) (fk : LForeignKey) (r : Int) (H : dF sA fk = some r) :
  aS Tryz.prog 64 [(.agg (aD sA)),(.agg (gu fk))] (ac r) := by
 unfold dF at H
 refine PH.ay Tryz.func64 Tryz.ntmps64 ?_
 refine ae (aa (aI ?_))
 refine aI ?_
 refine ah tk rfl (ab (ae (aa (af 3 tk rfl ?_))))
 obtain ⟨x17,h17,H⟩ := av H
 have s17 := jw sA fk.table _ h17
 refine aq Tryz.call104 (eJ.r) s17 ?_
 refine af 5 tk rfl (ab (ae (aa (af 3 tk rfl ?_))))
 obtain ⟨x24,h24,H⟩ := av H
 have s24 := jw sA fk.refTable _ h24
 refine aq Tryz.call104 (eJ.r) s24 ?_
 refine af 5 tk rfl (ab (ae (ae ?_)))
 refine cg (γ := Unit) (fun t1 g1=>⟨85,upd (upd (upd (upd (upd (fun _=>.any) 32 (au t1)) 7 (ac x24.1)) 5 (ac x17.1)) 3 (.ptr (gu fk))) 2 (.ptr (aD sA)),fun _=>none,fun _=>none⟩) H (fun _ H=>?_) (fun t1 g1 H=>?_)
 ·refine aa (af 3 tk rfl ?_)
  refine aN rfl rfl rfl H (fun H=>?_) (fun H=>?_)
  ·refine af 3 tk rfl (ab ?_)
   refine aJ _ () H Gh.d
  refine af 3 tk rfl (ab ?_)
  refine aJ _ () H Gh.d
 refine aP rfl H (fun H=>?_) (fun H=>?_)
 ·refine aw 1 tk rfl ?_
  exact bh tk H rfl
 refine ax (ae (bs tk mok ⟨false,false,[]⟩ [0,1,2,3,4,5,6,7,8,9,10,11,12,13] rfl (by decide +kernel) rfl (bf 3 rfl ?_)))
 obtain ⟨x36,k36,H⟩ := bB H
 refine bF k36.1 (aR (fun _=>rfl) k36.2) ?_
 refine bf 4 rfl ?_
 obtain ⟨x41,k41,H⟩ := bB H
 refine bF k41.1 (aR (fun _=>rfl) k41.2) ?_
 refine bi rfl ?_
 refine oZ rfl rfl rfl rfl rfl rfl rfl rfl fun b9=>?_
 refine oZ rfl rfl rfl rfl rfl rfl rfl rfl fun b10=>?_
 refine bj ?_
 refine bj ?_
 refine bn (ae (ae (aa (af 2 tk rfl (aC tk (zl _) ?_)))))
 refine ah tk rfl (ak tk ?_)
 refine aC tk (zl _) ?_
 refine ah tk rfl (ab ?_)
 refine aP rfl H (fun H=>?_) (fun H=>?_)
 ·refine aw 1 tk rfl ?_
  exact bh tk H rfl
 refine ax (ae (ae (aa (af 2 tk rfl (aC tk (zl _) ?_)))))
 refine ah tk rfl (ab ?_)
 obtain ⟨fl2,H2,Hp2⟩ := av H
 refine ja tk 51 rfl rfl (fun hz2 _=>?_)
 rw [zl] at hz2
 refine kf (τ := Unit) (γ := Unit) (fun s2 g2=>⟨85,fun _=>.any,fun _=>none,fun _=>none⟩) (fun t=>fl2 = .next t) ?_ (fun s2 g2 hn2=>?_)
 ·refine aG ?_
  refine jC (fun j2 s2 g2=>⟨85,upd (upd (upd (upd (upd (fun _=>.any) 53 (ac (j2 : Int))) 52 (ac (fk.columns.length : Int))) 51 (.list 3 (fk.columns.map bE))) 10 (.box 10 b10 0)) 9 (.box 9 b9 0),upd (upd (fun _=>none) 10 (some ⟨b10,(cJ x41)⟩)) 9 (some ⟨b9,(cJ x36)⟩),fun _=>none⟩) () H2 Gh.d (fun j2 s2 g2 hj2 hr2=>?_)
  refine aw 1 tk rfl (ae ?_)
  refine cC rfl (fun h=>?_) (fun h=>?_)
  ·have hl2 := rowsLt h
   obtain ⟨x2,fb2,hx2,H,hg2⟩ := rMc hl2 hr2
   refine ax (ae (aG (ae (aa (ah tk rfl ?_)))))
   refine aY tk (zn j2) (bm (fun _=>rfl) hx2) ?_
   refine af 3 tk rfl (ab (ae (ae ?_)))
   refine cg (γ := Unit) (fun t4 g4=>⟨85,upd (upd (upd (upd (upd (upd (upd (upd (fun _=>.any) 66 (au t4)) 53 (ac (j2 : Int))) 52 (ac (fk.columns.length : Int))) 51 (.list 3 (fk.columns.map bE))) 12 (ac x2)) 11 (ac (j2 : Int))) 10 (.box 10 b10 0)) 9 (.box 9 b9 0),upd (upd (fun _=>none) 10 (some ⟨b10,(cJ x41)⟩)) 9 (some ⟨b9,(cJ x36)⟩),fun _=>none⟩) H (fun _ H=>?_) (fun t4 g4 H=>?_)
   ·refine aa (af 3 tk rfl ?_)
    refine aN rfl rfl rfl H (fun H=>?_) (fun H=>?_)
    ·refine af 6 tk rfl (ab ?_)
     refine aJ _ () H Gh.d
    refine af 2 tk rfl (ak tk ?_)
    refine aC tk (zl _) ?_
    refine af 2 tk rfl (ab ?_)
    refine aJ _ () H Gh.d
   refine aP rfl H (fun H=>?_) (fun H=>?_)
   ·refine aw 1 tk rfl ?_
    obtain rfl := az H
    have e2 : fl2 = .ret _ := hg2
    subst e2
    obtain rfl := br Hp2
    refine bd tk rfl (ps := [(ac 3)]) ⟨_,_,rfl,rfl,rfl⟩ (PLe.q rfl)
   refine ax (ae (bs tk mok ⟨true,false,[72,79,82]⟩ [0,1,2,3,4,5,6,7,8,9,10,11,12,13,14,15,16] rfl (by decide +kernel) rfl (bi rfl (aU ?_))))
   refine bi rfl ?_
   obtain ⟨x70,k70,H⟩ := bB H
   refine bF k70.1 (aR (fun _=>rfl) k70.2) ?_
   refine bf 3 rfl (aU ?_)
   refine bi rfl (aU ?_)
   refine bi rfl ?_
   obtain ⟨x78,k78,H⟩ := bB H
   refine bF k78.1 (aR (fun _=>rfl) k78.2) ?_
   refine bi rfl ?_
   obtain ⟨x80,k80,H⟩ := bB H
   refine bF k80.1 (aR (fun _=>rfl) k80.2) ?_
   refine bf 3 rfl (bn ?_)
   refine aP rfl H (fun H=>?_) (fun H=>?_)
   ·refine aw 1 tk rfl ?_
    obtain rfl := az H
    have e2 : fl2 = .ret _ := hg2
    subst e2
    obtain rfl := br Hp2
    refine bd tk rfl (ps := [(ac 7)]) ⟨_,_,rfl,rfl,rfl⟩ (PLe.q rfl)
   refine ax (bc (bC 2 tk rfl ?_))
   exact bu () H hl2 hg2
  have hn2 := rMd (rowsGe h) hr2
  refine db rfl ?_
  refine aJ s2 g2 hn2 Gh.d
 have H := pg hn2 Hp2
 refine aw 1 tk rfl ?_
 exact bh tk H rfl
def eG (other : LForeignKey) (c0 : LForeignKey) : Option (Bool) :=
 ag (ff other c0) fun x6 =>
 some x6
theorem pB (other : LForeignKey) (c0 : LForeignKey) (r : Bool) (H : eG other c0 = some r) :
  aS Tryz.prog 66 [(.agg (gu other)),(.ptr (gu c0))] (au r) := by
 unfold eG at H
 refine PH.ay Tryz.func66 Tryz.ntmps66 ?_
 refine ae (aa (aI ?_))
 refine ah tk rfl (ab (ae (aa (af 2 tk rfl ?_))))
 obtain ⟨x6,h6,H⟩ := av H
 have s6 := mg other c0 _ h6
 refine aq Tryz.call67 (eJ.r) s6 ?_
 refine ah tk rfl (ab ?_)
 exact bh tk H rfl
def jk (a : LVal) (b : LVal) : Int :=
 bq (fP a.kind b.kind) fun x11 =>
 cond (x11 != (0 : Int))
  (x11)
  (bq (fP a.int b.int) fun x19 =>
  cond (x19 != (0 : Int))
   (x19)
   (bq (iD a.text b.text) fun x27 =>
   x27))
theorem re (a : LVal) (b : LVal) :
  aS Tryz.prog 123 [(.agg (eM a)),(.agg (eM b))] (ac (jk a b)) := by
 obtain ⟨r,H⟩ : ∃ r,jk a b = r := ⟨_,rfl⟩
 rw [H]
 unfold jk at H
 refine PH.ay Tryz.func123 Tryz.ntmps123 ?_
 refine ae (aa (aI ?_))
 refine aI ?_
 refine ah tk rfl (ab (ae (ae (aa (af 4 tk rfl ?_)))))
 obtain ⟨x11,h11,H⟩ := cY H
 have s11 := lf a.kind b.kind
 rw [h11] at s11
 refine aq Tryz.call124 (eJ.r) s11 ?_
 refine ah tk rfl (ab (aw 2 tk rfl ?_))
 refine aP rfl H (fun H=>?_) (fun H=>?_)
 ·refine aw 2 tk rfl ?_
  exact dr tk H rfl
 refine ax (ae (ae (aa (af 4 tk rfl ?_))))
 obtain ⟨x19,h19,H⟩ := cY H
 have s19 := lf a.int b.int
 rw [h19] at s19
 refine aq Tryz.call124 (eJ.r) s19 ?_
 refine ah tk rfl (ab (aw 2 tk rfl ?_))
 refine aP rfl H (fun H=>?_) (fun H=>?_)
 ·refine aw 2 tk rfl ?_
  exact dr tk H rfl
 refine ax (ae (aa (af 4 tk rfl ?_)))
 obtain ⟨x27,h27,H⟩ := cY H
 have s27 := qu a.text b.text
 rw [h27] at s27
 refine aq Tryz.call192 (eJ.r) s27 ?_
 refine ah tk rfl (ab ?_)
 exact dr tk H rfl
def cL (kinds : List Int) (c0 : LQuery) : Option (Bool) :=
 ag (dQ kinds c0.kind) fun x7 =>
 some x7
theorem dZ (kinds : List Int) (c0 : LQuery) (r : Bool) (H : cL kinds c0 = some r) :
  aS Tryz.prog 229 [(.list 3 (kinds.map bE)),(.ptr (ao c0))] (au r) := by
 unfold cL at H
 refine PH.ay Tryz.func229 Tryz.ntmps229 ?_
 refine aw 1 tk rfl (ae (aa (af 3 tk rfl ?_)))
 obtain ⟨x7,h7,H⟩ := av H
 have s7 := lX kinds c0.kind _ h7
 refine aq Tryz.call13 (eJ.r) s7 ?_
 refine ah tk rfl (ab ?_)
 exact bh tk H rfl
def eQ (l : List LExpr) : Option ((List LExpr)) :=
 ag (aH (σ := List LExpr) (ρ := Empty) (fun (_ : Nat) (x1 : LExpr) (s1 : List LExpr) =>
  ag (eg x1) fun x14 =>
  ag (cq 88 s1 ([x14] : List LExpr)) fun (x16 : List LExpr) =>
  some (.next x16)) 0 l []) fun fl1=>fl1.thenP fun (s1 : List LExpr) =>
 some s1
theorem jZ (l : List LExpr) (r : (List LExpr)) (H : eQ l = some r) :
  aS Tryz.prog 75 [(.list 91 (l.map am))] (.list 91 (r.map am)) := by
 unfold eQ at H
 refine PH.ay Tryz.func75 Tryz.ntmps75 ?_
 refine aw 1 tk rfl (aw 1 tk rfl (ae (ae (aa (ah tk rfl (aC tk (zl _) ?_))))))
 refine ah tk rfl (ab (iI tk 3 16 (e := 91) rfl rfl ?_))
 refine du (γ := OwnRef) tk 8 7 6 (fun s1 g1=>upd (fun _=>.any) 3 (.own 16 g1 (s1.map am).length)) nB (fun s1 g1=>upd (fun _=>none) 16 (some ⟨g1,91,(s1.map am),true⟩)) (⟨none,0⟩) H (fun fl1 Hp1 j1 s1 g1 hz1 hl1 x1 fb1 hx1 H hg1=>?_) (fun s1 g1 H=>?_)
 ·refine ae (aG (ae (aa (aY tk (zn j1) (bm aQ hx1) ?_))))
  refine ah tk rfl ?_
  refine aB tk fun b5=>?_
  refine al tk ?_
  refine ab (aa (ah tk rfl (ak tk ?_)))
  obtain ⟨x14,h14,H⟩ := av H
  have s14 := fZ x1 _ h14
  refine aq Tryz.call74 (eJ.r) s14 ?_
  refine ct tk (rows' := List.map am ([x14] : List LExpr)) (dz.trans (b := List.map bl [x14]) (dz.refl _) (dz.of_eq (bO aQ [x14]))) ?_
  obtain ⟨x16,h16,H⟩ := av H
  have k16 := bL h16
  refine bZ (rows2' := List.map am ([x14] : List LExpr)) (rows' := List.map am x16) tk rfl rfl rfl rfl rfl rfl rfl rfl rfl rfl rfl rfl rfl (dz.refl _) (cn k16.1) (cm k16.2.1) (ck k16.2.2) fun g16=>?_
  refine ah tk rfl (ab (bc (bC 2 tk rfl ?_)))
  exact bu g16 H hl1 hg1
 refine aw 2 tk rfl (eD 2 rfl rfl rfl ?_)
 exact bh tk H rfl
def cz (l : List LExpr) : Option (LExpr) :=
 cond ((l.length : Int) == (0 : Int))
  (bq (boolV true) fun x9 =>
  some (LExpr.mk 1 [] 0 x9 []))
  (ag (aT l 0) fun (x12 : LExpr) =>
  ag (eg x12) fun x14 =>
  ag (kI l 1 (l.length : Int)) fun (x16 : List LExpr) =>
  ag (aH (σ := LExpr) (ρ := Empty) (fun (_ : Nat) (x1 : LExpr) (s1 : LExpr) =>
   ag (eg x1) fun x24 =>
   some (.next (LExpr.mk 5 [97,110,100] 0 (LVal.mk 0 0 []) [s1,x24]))) 0 x16 x14) fun fl1=>fl1.thenP fun (s1 : LExpr) =>
  some s1)
theorem fe (l : List LExpr) (r : LExpr) (H : cz l = some r) :
  aS Tryz.prog 173 [(.list 91 (l.map am))] (.agg (bl r)) := by
 unfold cz at H
 refine PH.ay Tryz.func173 Tryz.ntmps173 ?_
 refine ae (aa ?_)
 refine aB tk fun b2=>?_
 refine ab (ae (ae (aa (ah tk rfl (aC tk (zl _) ?_)))))
 refine ah tk rfl (ab ?_)
 refine aP rfl H (fun H=>?_) (fun H=>?_)
 ·refine ae (aa ?_)
  obtain ⟨x9,h9,H⟩ := cY H
  have s9 := boolV_spec true
  rw [h9] at s9
  refine aq Tryz.call234 (eJ.r) s9 ?_
  refine ah tk rfl (al tk ?_)
  refine ab ?_
  obtain rfl := az H
  refine bd tk rfl (ps := [(.agg [(ac 1),(.str []),(ac 0),(ac x9.kind),(ac x9.int),(.str x9.text),(.val (.slice none 0 0))])]) ⟨_,_,rfl,⟨_,_,_,_,_,rfl,rfl,rfl,rfl⟩,rfl⟩ (PLe.of2 (lZ.agg (gp.cons (lZ.of_eq rfl) (gp.cons (lZ.of_eq rfl) (gp.cons (lZ.of_eq rfl) (gp.cons (lZ.of_eq rfl) (gp.cons (lZ.of_eq rfl) (gp.cons (lZ.of_eq rfl) (gp.cons (lZ.nil tk rfl) gp.nil)))))))))
 refine ax (ae (aa (ah tk rfl ?_)))
 obtain ⟨x12,k12,H⟩ := bB H
 refine aY tk k12.1 (aR aQ k12.2) ?_
 refine ah tk rfl ?_
 obtain ⟨x14,h14,H⟩ := av H
 have s14 := fZ x12 _ h14
 refine aq Tryz.call74 (eJ.r) s14 ?_
 refine aB tk fun b3=>?_
 refine al tk ?_
 refine ab (ae (ae (aa (ah tk rfl ?_))))
 obtain ⟨x16,h16,H⟩ := av H
 have k16 := lI h16
 refine rz tk rfl rfl rfl rfl rfl (zl _) rfl rfl k16.1 (mK k16.2) rfl (aC tk (zl _) ?_)
 refine ah tk rfl (ab ?_)
 refine du tk 18 17 16 (fun s1 g1=>upd (upd (fun _=>.any) 3 (.box 3 b3 0)) 2 (.box 2 b2 0)) (fun s1 g1=>upd (upd (fun _=>none) 3 (some ⟨b3,(bl s1)⟩)) 2 (some ⟨b2,[(ac 0),(.str []),(ac 0),(ac 0),(ac 0),(.str []),(.val (.slice none 0 0))]⟩)) nO () H (fun fl1 Hp1 j1 s1 g1 hz1 hl1 x1 fb1 hx1 H hg1=>?_) (fun s1 g1 H=>?_)
 ·refine ae (aG (ae (aa (aY tk (zn j1) (bm aQ hx1) ?_))))
  refine ah tk rfl ?_
  refine aB tk fun b5=>?_
  refine al tk ?_
  refine ab (bX 5 ?_)
  refine bs tk mok ⟨true,false,[23]⟩ [0,1,2,3,4,5] rfl (by decide +kernel) rfl (aU ?_)
  refine bi rfl ?_
  obtain ⟨x24,h24,H⟩ := av H
  have s24 := fZ x1 _ h24
  refine be Tryz.call74 (eJ.r) s24 ?_
  refine bf 2 rfl (bj ?_)
  refine bn (bc (bC 2 tk rfl ?_))
  exact bu () H hl1 hg1 (Gh.le (aL (aL (bU (PLe.q (eW (by omega))) (aL (aL bM))))) (aM rfl (eJ.r) (aM rfl (eJ.of2 (gp.cons (lZ.of_eq rfl) (gp.cons (lZ.of_eq rfl) (gp.cons (lZ.of_eq rfl) (gp.cons (lZ.of_eq rfl) (gp.cons (lZ.of_eq rfl) (gp.cons (lZ.of_eq rfl) (gp.cons (lZ.list (dz.trans (b := List.map bl [s1,x24]) (dz.refl _) (dz.of_eq (bO aQ [s1,x24])))) gp.nil)))))))) bA)) bw)
 refine ae (aa (ak tk ?_))
 refine al tk ?_
 refine ab ?_
 exact nU tk H rfl rfl rfl rfl rfl
def gZ (rec174 : LExpr → Option ((List LExpr))) (e : LExpr) : Option ((List LExpr)) :=
 bq (
  cond (e.kind == (5 : Int))
   (cond (e.name == ([97,110,100] : List UInt8))
    (((e.args.length : Int) == (2 : Int)))
    (false))
   (false)) fun (t1 : Bool) =>
 cond t1
  (ag (aT e.args 0) fun (x19 : LExpr) =>
  ag (aT e.args 1) fun (x24 : LExpr) =>
  ag (rec174 x19) fun x21 =>
  ag (rec174 x24) fun x26 =>
  ag (cq 88 x21 x26) fun (x27 : List LExpr) =>
  some x27)
  (ag (eg e) fun x29 =>
  some [x29])
theorem qy {m : Nat} (rec174 : LExpr → Option ((List LExpr))) (hrec174 : ∀ m a0 r,rec174 a0 = some r → dR Tryz.prog 174 [(.agg (bl a0))] (ji m 91 (r.map am))) (e : LExpr) (r : (List LExpr)) (H : gZ rec174 e = some r) :
  dR Tryz.prog 174 [(.agg (bl e))] (ji m 91 (r.map am)) := by
 unfold gZ at H
 refine PH.ay Tryz.func174 Tryz.ntmps174 ?_
 refine ae (aa (aI ?_))
 refine ah tk rfl (ab (ae (ae ?_)))
 refine cg (γ := Unit) (fun t1 g1=>⟨31,upd (upd (fun _=>.any) 16 (au t1)) 1 (.ptr (bl e)),fun _=>none,fun _=>none⟩) H (fun _ H=>?_) (fun t1 g1 H=>?_)
 ·refine aa (af 4 tk rfl ?_)
  refine aN rfl rfl rfl H (fun H=>?_) (fun H=>?_)
  ·refine af 5 tk rfl ?_
   refine aN rfl rfl rfl H (fun H=>?_) (fun H=>?_)
   ·refine af 2 tk rfl (aC tk (zl _) ?_)
    refine af 2 tk rfl (ab ?_)
    refine aJ _ () H Gh.d
   refine af 5 tk rfl (ab ?_)
   refine aJ _ () H Gh.d
  refine af 10 tk rfl (ab ?_)
  refine aJ _ () H Gh.d
 refine aP rfl H (fun H=>?_) (fun H=>?_)
 ·refine ae (bs tk mok ⟨false,false,[]⟩ [0,1,2,3,5,6,7,8,4,9,10,11] rfl (by decide +kernel) rfl (bf 2 rfl ?_))
  obtain ⟨x19,k19,H⟩ := bB H
  refine bF k19.1 (aR aQ k19.2) ?_
  refine bf 3 rfl ?_
  obtain ⟨x24,k24,H⟩ := bB H
  refine bF k24.1 (aR aQ k24.2) ?_
  refine bi rfl ?_
  obtain ⟨x21,h21,H⟩ := av H
  have s21 := hrec174 21 x19 _ h21
  refine iO (g := 174) rfl rfl rfl rfl Tryz.call174 (eJ.r) rfl rfl s21 (fun g21=>?_)
  obtain ⟨x26,h26,H⟩ := av H
  have s26 := hrec174 26 x24 _ h26
  refine be Tryz.call174 (eJ.r) (PFun.fh s26) ?_
  obtain ⟨x27,h27,H⟩ := av H
  have k27 := bL h27
  refine dY (rows2' := List.map am x26) (rows' := List.map am x27) tk rfl rfl rfl rfl rfl rfl rfl rfl rfl rfl rfl rfl rfl rfl (dz.refl _) (cn k27.1) (cm k27.2.1) (ck k27.2.2) fun g27=>?_
  refine bi rfl (bn ?_)
  obtain rfl := az H
  refine il tk rfl
 refine ax (ae (aa (ah tk rfl ?_)))
 obtain ⟨x29,h29,H⟩ := av H
 have s29 := fZ e _ h29
 refine aq Tryz.call74 (eJ.r) s29 ?_
 refine lz (rows' := List.map am ([x29] : List LExpr)) tk rfl rfl rfl rfl rfl rfl rfl (congrArg (List.map List.length) (bO aQ ([x29] : List LExpr))).symm rfl (gp.trans (b := (List.map bl ([x29] : List LExpr)).flatten) (gp.refl _) (gp.of_eq (congrArg List.flatten (bO aQ ([x29] : List LExpr))))) fun g30=>?_
 refine ah tk rfl (ab ?_)
 obtain rfl := az H
 refine il tk rfl
def eU : Nat → LExpr → Option ((List LExpr))
 | 0,_=>none
 | n + 1,v0=>gZ (fun b0=>eU n b0) v0
theorem qq  (n : Nat) : (∀ m a0 r,eU n a0 = some r → dR Tryz.prog 174 [(.agg (bl a0))] (ji m 91 (r.map am))) := by
 induction n with
 | zero=>exact (by intros; rename_i h; exact absurd (show (none : Option _) = some _ from h) (by simp))
 | succ n ih =>
  exact (fun m v0 r h=>qy (m := m) (fun b0=>eU n b0) ih v0  r h)
def fR (e : LExpr) : Option ((List LExpr)) := eT fun n=>eU n e
theorem iN {m : Nat} (e : LExpr) (r : (List LExpr)) (H : fR e = some r) :
  dR Tryz.prog 174 [(.agg (bl e))] (ji m 91 (r.map am)) := by
 obtain ⟨n,h⟩ := eA H
 exact (qq  n) m e r h
def fv (rec120 : LExpr → Int → (List (List UInt8)) → Option (List (List UInt8))) (e : LExpr) (kind : Int) (l : List (List UInt8)) : Option (List (List UInt8)) :=
 ag (
  cond (e.kind == kind)
   (ag (co l e.name) fun x17 =>
   ag (lQ (x17.2.length = l.length) ()) fun (_ : Unit) =>
   some (x17.2,(!x17.1)))
   (some (l,false))) fun (t1 : List (List UInt8) × Bool) =>
 ag (
  cond t1.2
   (ag (cq 16 t1.1 ([e.name] : List (List UInt8))) fun (x24 : List (List UInt8)) =>
   some x24)
   (some t1.1)) fun (t2 : List (List UInt8)) =>
 ag (aH (σ := List (List UInt8)) (ρ := Empty) (fun (_ : Nat) (x3 : LExpr) (s3 : List (List UInt8)) =>
  ag (rec120 x3 kind s3) fun x35 =>
  some (.next x35)) 0 e.args t2) fun fl3=>fl3.thenP fun (s3 : List (List UInt8)) =>
 some s3
theorem WO_expr_names (g_l : OwnRef) (rec120 : LExpr → Int → (List (List UInt8)) → Option (List (List UInt8))) (hrec120 : ∀ g2 a0 a1 a2 r,rec120 a0 a1 a2 = some r → PH Tryz.prog 120 [(.agg (bl a0)),(ac a1),(.own 2 g2 (a2.map aE).length)] ⟨fun _=>none,upd (fun _=>none) 2 (some ⟨g2,9,(a2.map aE),true⟩)⟩ (fun u H=>∃ gz : OwnRef,u = .own 2 gz (r.map aE).length ∧ H = ⟨fun _=>none,upd (fun _=>none) 2 (some ⟨gz,9,(r.map aE),true⟩)⟩)) (e : LExpr) (kind : Int) (l : List (List UInt8)) (r : List (List UInt8)) (H : fv rec120 e kind l = some r) :
  PH Tryz.prog 120 [(.agg (bl e)),(ac kind),(.own 2 g_l (l.map aE).length)] ⟨fun _=>none,upd (fun _=>none) 2 (some ⟨g_l,9,(l.map aE),true⟩)⟩ (fun u H=>∃ gz : OwnRef,u = .own 2 gz (r.map aE).length ∧ H = ⟨fun _=>none,upd (fun _=>none) 2 (some ⟨gz,9,(r.map aE),true⟩)⟩) := by
 unfold fv at H
 refine PH.ay Tryz.func120 Tryz.ntmps120 ?_
 refine ae (aa (aI ?_))
 refine ah tk rfl (ab (ae (ae ?_)))
 refine bY (γ := OwnRef) (fun t1 g1=>⟨38,upd (upd (upd (upd (fun _=>.any) 19 (au t1.2)) 3 (.ptr (bl e))) 2 (.own 2 g1 (t1.1.map aE).length)) 1 (ac kind),fun _=>none,upd (fun _=>none) 2 (some ⟨g1,9,(t1.1.map aE),true⟩)⟩) H (fun _ H=>?_) (fun t1 g1 H=>?_)
 ·refine aa (af 5 tk rfl ?_)
  refine aN rfl rfl rfl H (fun H=>?_) (fun H=>?_)
  ·refine af 3 tk rfl ?_
   obtain ⟨x17,h17,H⟩ := av H
   have s17 := jI g_l l e.name _ h17
   obtain ⟨_,q17_0,H⟩ := av H
   have l17_0 := (nJ q17_0).1
   have z17_0 : (List.map aE l).length = (List.map aE x17.2).length := by simpa using (l17_0).symm
   refine gQ (g := 38) rfl rfl rfl Tryz.call38 [] [(2,0)] rfl rfl rfl rfl (eJ.of2 (gp.cons (lZ.own rfl) (gp.cons (lZ.of_eq rfl) gp.nil))) (by rw [gg,fy,gd]; rfl) s17 ?_
   rintro u17 H17h ⟨rfl,rfl⟩
   refine ⟨_,rfl,?_⟩
   refine gv (st' := ⟨_,_,fun _=>none,upd (fun _=>none) 2 (some ⟨g_l,9,(x17.2.map aE),true⟩)⟩) (Gh.le (fq _ _) bA (cX bw)) ?_
   refine af 2 tk rfl (ab ?_)
   refine aJ _ g_l (az H) (Gh.le (aL (bU (PLe.of2 (lZ.of_eq (congrArg (PV.own 2 g_l) z17_0))) (aL (aL bM)))) bA (cX bw))
  refine af 6 tk rfl (ab ?_)
  refine aJ _ g_l (az H) Gh.d
 refine bY (γ := OwnRef) (fun t2 g2=>⟨38,upd (upd (upd (fun _=>.any) 3 (.ptr (bl e))) 2 (.own 2 g2 (t2.map aE).length)) 1 (ac kind),fun _=>none,upd (fun _=>none) 2 (some ⟨g2,9,(t2.map aE),true⟩)⟩) H (fun _ H=>?_) (fun t2 g2 H=>?_)
 ·refine aP rfl H (fun H=>?_) (fun H=>?_)
  ·refine aa (af 3 tk rfl (ct tk (rows' := List.map aE ([e.name] : List (List UInt8))) (dz.refl _) ?_))
   obtain ⟨x24,h24,H⟩ := av H
   have k24 := bL h24
   refine bZ (rows2' := List.map aE ([e.name] : List (List UInt8))) (rows' := List.map aE x24) tk rfl rfl rfl rfl rfl rfl rfl rfl rfl rfl rfl rfl rfl (dz.refl _) (cn k24.1) (cm k24.2.1) (ck k24.2.2) fun g24=>?_
   refine ah tk rfl (ab ?_)
   refine aJ _ g24 (az H) Gh.d
  refine ax ?_
  refine aJ _ g1 (az H) Gh.d
 refine ae (ae (aa (af 2 tk rfl (aC tk (zl _) ?_))))
 refine ah tk rfl (ab ?_)
 refine du (γ := OwnRef) tk 28 27 26 (fun s3 g3=>upd (upd (fun _=>.any) 2 (.own 2 g3 (s3.map aE).length)) 1 (ac kind)) nB (fun s3 g3=>upd (fun _=>none) 2 (some ⟨g3,9,(s3.map aE),true⟩)) g2 H (fun fl3 Hp3 j3 s3 g3 hz3 hl3 x3 fb3 hx3 H hg3=>?_) (fun s3 g3 H=>?_)
 ·refine ae (aG (ae (aa (aY tk (zn j3) (bm aQ hx3) ?_))))
  refine ah tk rfl ?_
  refine aB tk fun b8=>?_
  refine al tk ?_
  refine ab (aa (ak tk ?_))
  refine af 2 tk rfl ?_
  obtain ⟨x35,h35,H⟩ := av H
  have s35 := hrec120 g3 x3 kind s3 _ h35
  refine gQ (g := 120) rfl rfl rfl Tryz.call120 [] [(2,2)] rfl rfl rfl rfl (eJ.of2 (gp.cons (lZ.of_eq rfl) (gp.cons (lZ.of_eq rfl) (gp.cons (lZ.own rfl) gp.nil)))) (by rw [gg,fy,gd]; rfl) s35 ?_
  rintro u35 H35h ⟨gw35,rfl,rfl⟩
  refine ⟨_,rfl,?_⟩
  refine gv (st' := ⟨_,_,upd (fun _=>none) 8 (some ⟨b8,(bl x3)⟩),upd (fun _=>none) 2 (some ⟨gw35,9,(x35.map aE),true⟩)⟩) (Gh.le (fq _ _) (aM rfl (eJ.r) bA) (cX bw)) ?_
  refine ou 35 (q := (.own 2 gw35 (x35.map aE).length)) rfl (PLe.of2 (lZ.own rfl)) (ah tk rfl (ab (bc (bC 2 tk rfl ?_))))
  exact bu gw35 H hl3 hg3
 refine aw 2 tk rfl ?_
 obtain rfl := az H
 refine lp (st' := ⟨38,upd (fun _=>.any) 6 (.own 2 g3 (s3.map aE).length),fun _=>none,upd (fun _=>none) 2 (some ⟨g3,9,(s3.map aE),true⟩)⟩) (Gh.le (aL bM) bA (cX bw)) ?_
 refine rn tk rfl (ps := [(.own 2 g3 (s3.map aE).length)]) ⟨_,_,rfl,rfl,rfl⟩ (PLe.of2 (lZ.own rfl)) ⟨_,rfl,rfl⟩
def fY : Nat → LExpr → Int → (List (List UInt8)) → Option (List (List UInt8))
 | 0,_,_,_=>none
 | n + 1,v0,v1,v2=>fv (fun b0 b1 b2=>fY n b0 b1 b2) v0 v1 v2
theorem WF_expr_names  (n : Nat) : (∀ g2 a0 a1 a2 r,fY n a0 a1 a2 = some r → PH Tryz.prog 120 [(.agg (bl a0)),(ac a1),(.own 2 g2 (a2.map aE).length)] ⟨fun _=>none,upd (fun _=>none) 2 (some ⟨g2,9,(a2.map aE),true⟩)⟩ (fun u H=>∃ gz : OwnRef,u = .own 2 gz (r.map aE).length ∧ H = ⟨fun _=>none,upd (fun _=>none) 2 (some ⟨gz,9,(r.map aE),true⟩)⟩)) := by
 induction n with
 | zero=>exact (by intros; rename_i h; exact absurd (show (none : Option _) = some _ from h) (by simp))
 | succ n ih =>
  exact (fun g2 v0 v1 v2 r h=>WO_expr_names g2 (fun b0 b1 b2=>fY n b0 b1 b2) ih v0 v1 v2  r h)
def eN (e : LExpr) (kind : Int) (l : List (List UInt8)) : Option (List (List UInt8)) := eT fun n=>fY n e kind l
theorem W_expr_names (g_l : OwnRef) (e : LExpr) (kind : Int) (l : List (List UInt8)) (r : List (List UInt8)) (H : eN e kind l = some r) :
  PH Tryz.prog 120 [(.agg (bl e)),(ac kind),(.own 2 g_l (l.map aE).length)] ⟨fun _=>none,upd (fun _=>none) 2 (some ⟨g_l,9,(l.map aE),true⟩)⟩ (fun u H=>∃ gz : OwnRef,u = .own 2 gz (r.map aE).length ∧ H = ⟨fun _=>none,upd (fun _=>none) 2 (some ⟨gz,9,(r.map aE),true⟩)⟩) := by
 obtain ⟨n,h⟩ := eA H
 exact (WF_expr_names  n) g_l e kind l r h
def eZ (sA : List UInt8) (c0 : List (List UInt8)) : Option (Bool) :=
 ag (cB c0 sA) fun x6 =>
 some (!x6)
theorem pE (sA : List UInt8) (c0 : List (List UInt8)) (r : Bool) (H : eZ sA c0 = some r) :
  aS Tryz.prog 235 [(.str sA),(.ptr [(.list 9 (c0.map aE))])] (au r) := by
 unfold eZ at H
 refine PH.ay Tryz.func235 Tryz.ntmps235 ?_
 refine aw 1 tk rfl (ae (aa (af 2 tk rfl ?_)))
 obtain ⟨x6,h6,H⟩ := av H
 have s6 := hO c0 sA _ h6
 refine aq Tryz.call38 (eJ.r) s6 ?_
 refine af 2 tk rfl (ab ?_)
 exact bh tk H rfl
def ia (q : LQuery) (inA : LQuery) : Option (LQuery) :=
 ag (jV (q.exprs.length : Int)) fun (n1 : Nat) =>
 ag (aH (σ := List LExpr) (ρ := Empty) (fun (j1 : Nat) (_ : Nat) (s1 : List LExpr) =>
  ag (aT s1 (j1 : Int)) fun (x13 : LExpr) =>
  ag (cD x13 inA.names inA.exprs) fun x23 =>
  ag (aT s1 (j1 : Int)) fun (_ : LExpr) =>
  bq (s1.set ((j1 : Int).toNat) x23) fun (y4 : List LExpr) =>
  some (.next y4)) 0 (List.range n1) q.exprs) fun fl1=>fl1.thenP fun (s1 : List LExpr) =>
 some (LQuery.mk q.kind q.table q.names s1 q.aggregates q.descending q.count q.offset inA.inputs)
theorem nr (g_q : OwnRef) (q : LQuery) (inA : LQuery) (r : LQuery) (H : ia q inA = some r) :
  PH Tryz.prog 117 [(.agg [(ac q.kind),(.str q.table),(.list 9 (q.names.map aE)),(.own 3000 g_q (q.exprs.map am).length),(.list 88 (q.aggregates.map aO)),(.list 4 (q.descending.map aV)),(ac q.count),(ac q.offset),(.list 33 (q.inputs.map ap))]),(.agg (ao inA))] ⟨fun _=>none,upd (fun _=>none) 3000 (some ⟨g_q,91,(List.map am q.exprs),true⟩)⟩ (fun u H=>u = (.agg (ao r)) ∧ H = Heap.empty) := by
 unfold ia at H
 refine PH.ay Tryz.func117 Tryz.ntmps117 ?_
 refine ae (aa ?_)
 refine ii (d := 2) fun b2=>?_
 refine aI ?_
 refine aB tk fun b4=>?_
 refine ab (ae (ae (aa (ah tk rfl (ak tk ?_)))))
 refine gR tk (zl _) ?_
 refine ah tk rfl (ab ?_)
 obtain ⟨n1,hs1,H⟩ := av H
 have hz1 := jW hs1
 obtain ⟨fl1,H1,Hp1⟩ := av H
 refine kf (τ := List LExpr) (γ := OwnRef) (fun s1 g1=>⟨30,upd (upd (upd (fun _=>.any) 4 (.box 4 b4 0)) 3 (.ptr (ao inA))) 2 (.box 2 b2 0),upd (upd (fun _=>none) 4 (some ⟨b4,[(ac 0),(.str []),(.val (.slice none 0 0)),(.val (.slice none 0 0)),(.val (.slice none 0 0)),(.val (.slice none 0 0)),(ac 0),(ac 0),(.val (.slice none 0 0))]⟩)) 2 (some ⟨b2,[(ac q.kind),(.str q.table),(.list 9 (q.names.map aE)),(.own 3000 g1 (s1.map am).length),(.list 88 (q.aggregates.map aO)),(.list 4 (q.descending.map aV)),(ac q.count),(ac q.offset),(.list 33 (q.inputs.map ap))]⟩),upd (fun _=>none) 3000 (some ⟨g1,91,(s1.map am),true⟩)⟩) (fun t=>fl1 = .next t) ?_ (fun s1 g1 hn1=>?_)
 ·refine aG ?_
  refine jC (fun j1 s1 g1=>⟨30,upd (upd (upd (upd (upd (upd (fun _=>.any) 10 (ac (j1 : Int))) 9 (ac (q.exprs.length : Int))) 8 (.own 3000 g1 (s1.map am).length)) 4 (.box 4 b4 0)) 3 (.ptr (ao inA))) 2 (.box 2 b2 0),upd (upd (fun _=>none) 4 (some ⟨b4,[(ac 0),(.str []),(.val (.slice none 0 0)),(.val (.slice none 0 0)),(.val (.slice none 0 0)),(.val (.slice none 0 0)),(ac 0),(ac 0),(.val (.slice none 0 0))]⟩)) 2 (some ⟨b2,[(ac q.kind),(.str q.table),(.list 9 (q.names.map aE)),(.own 3000 g1 (s1.map am).length),(.list 88 (q.aggregates.map aO)),(.list 4 (q.descending.map aV)),(ac q.count),(ac q.offset),(.list 33 (q.inputs.map ap))]⟩),upd (fun _=>none) 3000 (some ⟨g1,91,(s1.map am),true⟩)⟩) g_q H1 Gh.d (fun j1 s1 g1 hj1 hr1=>?_)
  refine aw 1 tk rfl (ae ?_)
  refine cC rfl (fun h=>?_) (fun h=>?_)
  ·have hl1 := natLt hz1 h
   obtain ⟨x1,fb1,hx1,H,hg1⟩ := rMc hl1 hr1
   obtain rfl := natX hx1
   refine ax (ae (aG (ae (aa (ah tk rfl ?_)))))
   obtain ⟨x13,k13,H⟩ := bB H
   refine kw (tag := 3000) rfl (fun ho3000=>?_)
   refine jp tk ⟨k13.1,(dG k13.2)⟩ (dH ho3000 k13.2) ?_
   refine nc tk rfl rfl rfl rfl rfl rfl rfl (aR aQ k13.2) rfl rfl ?_
   refine aB tk fun b6=>?_
   refine ah tk rfl (al tk ?_)
   refine ab ?_
   refine fX (tag := 3000) rfl (fun ho3000=>?_)
   refine bX 6 ?_
   refine bs tk mok ⟨true,false,[18,20,22]⟩ [0,1,2,3,4,5,6,7,8,9,10] rfl (by decide +kernel) rfl (bi rfl (aU ?_))
   refine bf 6 rfl ?_
   obtain ⟨x23,h23,H⟩ := av H
   have s23 := iB x13 inA.names inA.exprs _ h23
   refine be Tryz.call119 (eJ.r) s23 ?_
   obtain ⟨x24,k24,H⟩ := bB H
   refine dX tk ⟨k24.1,(dG k24.2)⟩ (dH ho3000 k24.2) ?_
   obtain ⟨y4,hy4,H⟩ := cY H
   refine gM tk rfl rfl rfl rfl rfl rfl rfl rfl rfl (by rw [zl]; exact (zg.1 k24.2).1) (PLe.refl _ _) rfl rfl rfl rfl (by decide) (eR aQ k24.2 rfl hy4) ?_
   refine bn (bc (bC 2 tk rfl ?_))
   exact bu g1 H hl1 hg1 (Gh.le (aL (aL (aL (bU (PLe.of2 (lZ.of_eq (congrArg (PV.own 3000 g1) (fU (f := am) hy4)))) (aL (bU (PLe.q (jH hz1 hl1)) bM)))))) (aM rfl (eJ.of2 (gp.cons (lZ.of_eq rfl) (gp.cons (lZ.of_eq rfl) (gp.cons (lZ.of_eq rfl) (gp.cons (lZ.of_eq (congrArg (PV.own 3000 g1) (fU (f := am) hy4))) (gp.cons (lZ.of_eq rfl) (gp.cons (lZ.of_eq rfl) (gp.cons (lZ.of_eq rfl) (gp.cons (lZ.of_eq rfl) (gp.cons (lZ.of_eq rfl) gp.nil)))))))))) (aM rfl (eJ.r) bA)) (cX bw))
  have hn1 := rMd (natGe hz1 h) hr1
  refine db rfl ?_
  refine aJ s1 g1 hn1 Gh.d
 have H := kU hn1 Hp1
 refine ae (aa (af 3 tk rfl (al tk ?_)))
 refine ab (ae (aa (ak tk ?_)))
 refine al tk ?_
 refine ab (bD 4 3 rfl rfl rfl rfl rfl ?_)
 exact nU tk H rfl rfl rfl rfl rfl
def fA (x : LAggregateCall) (y : LAggregateCall) : Option (Bool) :=
 cond (x.name == y.name)
  (cond (x.function == y.function)
   (ag (ba x.args y.args (fun a0 a1=>gV a0 a1)) fun x22 =>
   some x22)
   (some false))
  (some false)
theorem ra (x : LAggregateCall) (y : LAggregateCall) (r : Bool) (H : fA x y = some r) :
  aS Tryz.prog 28 [(.agg (aO x)),(.agg (aO y))] (au r) := by
 unfold fA at H
 refine PH.ay Tryz.func28 Tryz.ntmps28 ?_
 refine ae (aa (aI ?_))
 refine aI ?_
 refine ah tk rfl (ab (ae (aa (af 6 tk rfl ?_))))
 refine aN rfl rfl rfl H (fun H=>?_) (fun H=>?_)
 ·refine af 7 tk rfl ?_
  refine aN rfl rfl rfl H (fun H=>?_) (fun H=>?_)
  ·refine af 4 tk rfl ?_
   obtain ⟨x22,h22,H⟩ := av H
   have s22 := ci x.args y.args (fun a0 a1=>gV a0 a1) Tryz.call30 (fun a0 a1 r h=>pF a0 a1 r h) _ h22
   refine aq Tryz.call29 (eJ.r) s22 ?_
   refine af 2 tk rfl (ab ?_)
   exact bh tk H rfl
  refine af 7 tk rfl (ab ?_)
  exact bh tk H rfl
 refine af 14 tk rfl (ab ?_)
 exact bh tk H rfl
def fF (a : LVal) (op : List UInt8) (b : LVal) : Bool × Int :=
 bq (
  cond (!(op == ([61] : List UInt8)))
   (cond (!(op == ([60] : List UInt8)))
    ((!(op == ([60,61] : List UInt8))))
    (false))
   (false)) fun (t1 : Bool) =>
 cond t1
  ((false,3))
  (bq (
   cond (a.kind == (0 : Int))
    (true)
    ((b.kind == (0 : Int)))) fun (t2 : Bool) =>
  cond t2
   ((true,0))
   (bq (jk a b) fun x29 =>
   cond (x29 == (0 : Int))
    (cond (!(op == ([60] : List UInt8)))
     ((true,0))
     (cond (decide (x29 < (0 : Int)))
      (((!(op == ([61] : List UInt8))),0))
      ((false,0))))
    (cond (decide (x29 < (0 : Int)))
     (((!(op == ([61] : List UInt8))),0))
     ((false,0)))))
theorem qt (a : LVal) (op : List UInt8) (b : LVal) :
  aS Tryz.prog 107 [(.agg (eM a)),(.str op),(.agg (eM b))] (.tup [(au ((fF a op b).1)),(ac ((fF a op b).2))]) := by
 obtain ⟨r,H⟩ : ∃ r,fF a op b = r := ⟨_,rfl⟩
 rw [H]
 unfold fF at H
 refine PH.ay Tryz.func107 Tryz.ntmps107 ?_
 refine ae (aa (aI ?_))
 refine aI ?_
 refine af 2 tk rfl (ab (ae (ae ?_)))
 refine cg (γ := Unit) (fun t1 g1=>⟨44,upd (upd (upd (upd (fun _=>.any) 18 (au t1)) 5 (.ptr (eM b))) 3 (.ptr (eM a))) 1 (.str op),fun _=>none,fun _=>none⟩) H (fun _ H=>?_) (fun t1 g1 H=>?_)
 ·refine aa (af 3 tk rfl ?_)
  refine aN rfl rfl rfl H (fun H=>?_) (fun H=>?_)
  ·refine af 4 tk rfl ?_
   refine aN rfl rfl rfl H (fun H=>?_) (fun H=>?_)
   ·refine af 3 tk rfl (ab ?_)
    refine aJ _ () H Gh.d
   refine af 3 tk rfl (ab ?_)
   refine aJ _ () H Gh.d
  refine af 7 tk rfl (ab ?_)
  refine aJ _ () H Gh.d
 refine aP rfl H (fun H=>?_) (fun H=>?_)
 ·refine aw 2 tk rfl ?_
  exact dr tk H rfl
 refine ax (ae (ae ?_))
 refine cg (γ := Unit) (fun t2 g2=>⟨44,upd (upd (upd (upd (fun _=>.any) 26 (au t2)) 5 (.ptr (eM b))) 3 (.ptr (eM a))) 1 (.str op),fun _=>none,fun _=>none⟩) H (fun _ H=>?_) (fun t2 g2 H=>?_)
 ·refine aa (af 4 tk rfl ?_)
  refine aN rfl rfl rfl H (fun H=>?_) (fun H=>?_)
  ·refine af 4 tk rfl (ab ?_)
   refine aJ _ () H Gh.d
  refine af 4 tk rfl (ab ?_)
  refine aJ _ () H Gh.d
 refine aP rfl H (fun H=>?_) (fun H=>?_)
 ·refine aw 2 tk rfl ?_
  exact dr tk H rfl
 refine ax (ae (aa (af 2 tk rfl ?_)))
 obtain ⟨x29,h29,H⟩ := cY H
 have s29 := re a b
 rw [h29] at s29
 refine aq Tryz.call123 (eJ.r) s29 ?_
 refine ah tk rfl (ab (ae (aa (af 3 tk rfl ?_))))
 refine aN rfl rfl rfl H (fun H=>?_) (fun H=>?_)
 ·refine af 4 tk rfl ?_
  refine aN rfl rfl rfl H (fun H=>?_) (fun H=>?_)
  ·refine af 9 tk rfl (ab ?_)
   exact dr tk H rfl
  refine af 3 tk rfl ?_
  refine aN rfl rfl rfl H (fun H=>?_) (fun H=>?_)
  ·refine af 6 tk rfl (ab ?_)
   exact dr tk H rfl
  refine af 6 tk rfl (ab ?_)
  exact dr tk H rfl
 refine af 7 tk rfl ?_
 refine aN rfl rfl rfl H (fun H=>?_) (fun H=>?_)
 ·refine af 6 tk rfl (ab ?_)
  exact dr tk H rfl
 refine af 6 tk rfl (ab ?_)
 exact dr tk H rfl
def iX (q : LQuery) : Option (Bool) :=
 ag (
  cond (decide (q.kind < (1 : Int)))
   (some true)
   (cond (decide (q.kind > (10 : Int)))
    (some true)
    (ag (aT ([(-1),0,1,1,2,2,2,2,1,1,1] : List Int) q.kind) fun (x21 : Int) =>
    some ((q.inputs.length : Int) != x21)))) fun (t1 : Bool) =>
 cond t1
  (some false)
  (ag (
   ag (cL ([1] : List Int) q) fun x29 =>
   cond (!x29)
    (some (!(q.table == ([] : List UInt8))))
    (some false)) fun (t2 : Bool) =>
  ag (
   cond t2
    (some t2)
    (ag (
     ag (cL ([3,8] : List Int) q) fun x38 =>
     cond (!x38)
      (some (decide ((q.names.length : Int) > (0 : Int))))
      (some false)) fun (t7 : Bool) =>
    cond t7
     (some t7)
     (ag (
      ag (cL ([8] : List Int) q) fun x48 =>
      cond (!x48)
       (some (decide ((q.aggregates.length : Int) > (0 : Int))))
       (some false)) fun (t8 : Bool) =>
     cond t8
      (some t8)
      (ag (
       ag (cL ([9] : List Int) q) fun x58 =>
       cond (!x58)
        (some (decide ((q.descending.length : Int) > (0 : Int))))
        (some false)) fun (t9 : Bool) =>
      cond t9
       (some t9)
       (ag (cL ([10] : List Int) q) fun x68 =>
       cond (!x68)
        (cond (q.count != (0 : Int))
         (some true)
         (some (q.offset != (0 : Int))))
        (some false)))))) fun (t6 : Bool) =>
  cond t6
   (some false)
   (ag (cL ([2,4,5] : List Int) q) fun x83 =>
   cond x83
    (some ((q.exprs.length : Int) == (1 : Int)))
    (ag (cL ([3,8] : List Int) q) fun x91 =>
    cond x91
     (cond ((q.exprs.length : Int) == (q.names.length : Int))
      (some (decide ((IntKind.i64.wrap ((q.exprs.length : Int) + (q.aggregates.length : Int))) > (0 : Int))))
      (some false))
     (ag (cL ([9] : List Int) q) fun x112 =>
     cond x112
      (cond ((q.exprs.length : Int) == (q.descending.length : Int))
       (some (decide ((q.exprs.length : Int) > (0 : Int))))
       (some false))
      (ag (cL ([10] : List Int) q) fun x129 =>
      cond x129
       (cond ((q.exprs.length : Int) == (0 : Int))
        (cond (decide (q.count ≥ (0 : Int)))
         (some (decide (q.offset ≥ (0 : Int))))
         (some false))
        (some false))
       (some ((q.exprs.length : Int) == (0 : Int))))))))
theorem W_query_shape (q : LQuery) (r : Bool) (H : iX q = some r) :
  aS Tryz.prog 168 [(.agg (ao q))] (au r) := by
 unfold iX at H
 refine PH.ay Tryz.func168 Tryz.ntmps168 ?_
 refine ae (aa (aI ?_))
 refine ah tk rfl (ab (ae (aa (rD (e := 3) (rows := [[(ac (-1))],[(ac 0)],[(ac 1)],[(ac 1)],[(ac 2)],[(ac 2)],[(ac 2)],[(ac 2)],[(ac 1)],[(ac 1)],[(ac 1)]]) tk rfl rfl rfl rfl (rows' := List.map bE ([(-1),0,1,1,2,2,2,2,1,1,1] : List Int)) (by kernel_rfl) (dz.refl _) rfl rfl (ah tk rfl (ab (ae (ae ?_))))))))
 refine bY (γ := Unit) (fun t1 g1=>⟨148,upd (upd (fun _=>.any) 24 (au t1)) 1 (.ptr (ao q)),fun _=>none,fun _=>none⟩) H (fun _ H=>?_) (fun t1 g1 H=>?_)
 ·refine bs tk mok ⟨false,false,[]⟩ [0,1,2,3,4,5,6,7,8,9,10,11,12,13,14,15,16,17,18] rfl (by decide +kernel) rfl (bf 4 rfl ?_)
  refine ri rfl rfl rfl rfl H (fun H=>?_) (fun H=>?_)
  ·refine bf 15 rfl (bn ?_)
   refine aJ _ () (az H) Gh.d
  refine bf 5 rfl ?_
  refine ri rfl rfl rfl rfl H (fun H=>?_) (fun H=>?_)
  ·refine bf 10 rfl (bn ?_)
   refine aJ _ () (az H) Gh.d
  refine bf 2 rfl (rx rfl rfl rfl rfl rfl rfl (zl _) rfl (bf 3 rfl ?_))
  obtain ⟨x21,k21,H⟩ := bB H
  refine bF k21.1 (aR (fun _=>rfl) k21.2) ?_
  refine bf 3 rfl (bn ?_)
  refine aJ _ () (az H) Gh.d
 refine aP rfl H (fun H=>?_) (fun H=>?_)
 ·refine aw 1 tk rfl ?_
  exact bh tk H rfl
 refine ax (aw 2 tk rfl (ae (aG (ae (ae ?_)))))
 refine bY (γ := Unit) (fun t2 g2=>⟨148,upd (upd (upd (fun _=>.any) 26 (au t2)) 4 (.fn 229 [(.ptr (ao q))])) 1 (.ptr (ao q)),fun _=>none,fun _=>none⟩) H (fun _ H=>?_) (fun t2 g2 H=>?_)
 ·refine aa (ah tk rfl (ct tk (rows' := List.map bE ([1] : List Int)) (dz.refl _) ?_))
  obtain ⟨x29,h29,H⟩ := av H
  have s29 := dZ ([1] : List Int) q _ h29
  refine aq Tryz.call229 (eJ.r) s29 ?_
  refine af 2 tk rfl ?_
  refine aN rfl rfl rfl H (fun H=>?_) (fun H=>?_)
  ·refine af 5 tk rfl (ab ?_)
   refine aJ _ () (az H) Gh.d
  refine af 5 tk rfl (ab ?_)
  refine aJ _ () (az H) Gh.d
 refine bY (γ := Unit) (fun t6 g6=>⟨148,upd (upd (upd (fun _=>.any) 26 (au t6)) 4 (.fn 229 [(.ptr (ao q))])) 1 (.ptr (ao q)),fun _=>none,fun _=>none⟩) H (fun _ H=>?_) (fun t6 g6 H=>?_)
 ·refine aP rfl H (fun H=>?_) (fun H=>?_)
  ·refine ax ?_
   refine aJ _ () (az H) Gh.d
  refine ae ?_
  refine bY (γ := Unit) (fun t7 g7=>⟨148,upd (upd (upd (fun _=>.any) 26 (au t7)) 4 (.fn 229 [(.ptr (ao q))])) 1 (.ptr (ao q)),fun _=>none,fun _=>none⟩) H (fun _ H=>?_) (fun t7 g7 H=>?_)
  ·refine aa (ah tk rfl (ct tk (rows' := List.map bE ([3,8] : List Int)) (dz.refl _) ?_))
   obtain ⟨x38,h38,H⟩ := av H
   have s38 := dZ ([3,8] : List Int) q _ h38
   refine aq Tryz.call229 (eJ.r) s38 ?_
   refine af 2 tk rfl ?_
   refine aN rfl rfl rfl H (fun H=>?_) (fun H=>?_)
   ·refine af 2 tk rfl (aC tk (zl _) ?_)
    refine af 3 tk rfl (ab ?_)
    refine aJ _ () (az H) Gh.d
   refine af 6 tk rfl (ab ?_)
   refine aJ _ () (az H) Gh.d
  refine aP rfl H (fun H=>?_) (fun H=>?_)
  ·refine ax ?_
   refine aJ _ () (az H) Gh.d
  refine ae ?_
  refine bY (γ := Unit) (fun t8 g8=>⟨148,upd (upd (upd (fun _=>.any) 26 (au t8)) 4 (.fn 229 [(.ptr (ao q))])) 1 (.ptr (ao q)),fun _=>none,fun _=>none⟩) H (fun _ H=>?_) (fun t8 g8 H=>?_)
  ·refine aa (ah tk rfl (ct tk (rows' := List.map bE ([8] : List Int)) (dz.refl _) ?_))
   obtain ⟨x48,h48,H⟩ := av H
   have s48 := dZ ([8] : List Int) q _ h48
   refine aq Tryz.call229 (eJ.r) s48 ?_
   refine af 2 tk rfl ?_
   refine aN rfl rfl rfl H (fun H=>?_) (fun H=>?_)
   ·refine af 2 tk rfl (aC tk (zl _) ?_)
    refine af 3 tk rfl (ab ?_)
    refine aJ _ () (az H) Gh.d
   refine af 6 tk rfl (ab ?_)
   refine aJ _ () (az H) Gh.d
  refine aP rfl H (fun H=>?_) (fun H=>?_)
  ·refine ax ?_
   refine aJ _ () (az H) Gh.d
  refine ae ?_
  refine bY (γ := Unit) (fun t9 g9=>⟨148,upd (upd (upd (fun _=>.any) 26 (au t9)) 4 (.fn 229 [(.ptr (ao q))])) 1 (.ptr (ao q)),fun _=>none,fun _=>none⟩) H (fun _ H=>?_) (fun t9 g9 H=>?_)
  ·refine aa (ah tk rfl (ct tk (rows' := List.map bE ([9] : List Int)) (dz.refl _) ?_))
   obtain ⟨x58,h58,H⟩ := av H
   have s58 := dZ ([9] : List Int) q _ h58
   refine aq Tryz.call229 (eJ.r) s58 ?_
   refine af 2 tk rfl ?_
   refine aN rfl rfl rfl H (fun H=>?_) (fun H=>?_)
   ·refine af 2 tk rfl (aC tk (zl _) ?_)
    refine af 3 tk rfl (ab ?_)
    refine aJ _ () (az H) Gh.d
   refine af 6 tk rfl (ab ?_)
   refine aJ _ () (az H) Gh.d
  refine aP rfl H (fun H=>?_) (fun H=>?_)
  ·refine ax ?_
   refine aJ _ () (az H) Gh.d
  refine aa (ah tk rfl (ct tk (rows' := List.map bE ([10] : List Int)) (dz.refl _) ?_))
  obtain ⟨x68,h68,H⟩ := av H
  have s68 := dZ ([10] : List Int) q _ h68
  refine aq Tryz.call229 (eJ.r) s68 ?_
  refine af 2 tk rfl ?_
  refine aN rfl rfl rfl H (fun H=>?_) (fun H=>?_)
  ·refine af 4 tk rfl ?_
   refine aN rfl rfl rfl H (fun H=>?_) (fun H=>?_)
   ·refine af 6 tk rfl (ab ?_)
    refine aJ _ () (az H) Gh.d
   refine af 6 tk rfl (ab ?_)
   refine aJ _ () (az H) Gh.d
  refine af 10 tk rfl (ab ?_)
  refine aJ _ () (az H) Gh.d
 refine aP rfl H (fun H=>?_) (fun H=>?_)
 ·refine aw 1 tk rfl ?_
  exact bh tk H rfl
 refine ae (aa (ah tk rfl (ct tk (rows' := List.map bE ([2,4,5] : List Int)) (dz.refl _) ?_)))
 obtain ⟨x83,h83,H⟩ := av H
 have s83 := dZ ([2,4,5] : List Int) q _ h83
 refine aq Tryz.call229 (eJ.r) s83 ?_
 refine ah tk rfl (ab ?_)
 refine aP rfl H (fun H=>?_) (fun H=>?_)
 ·refine ae (aa (af 2 tk rfl (aC tk (zl _) ?_)))
  refine af 2 tk rfl (ab ?_)
  exact bh tk H rfl
 refine ae (aa (ah tk rfl (ct tk (rows' := List.map bE ([3,8] : List Int)) (dz.refl _) ?_)))
 obtain ⟨x91,h91,H⟩ := av H
 have s91 := dZ ([3,8] : List Int) q _ h91
 refine aq Tryz.call229 (eJ.r) s91 ?_
 refine ah tk rfl (ab ?_)
 refine aP rfl H (fun H=>?_) (fun H=>?_)
 ·refine ae (aa (af 2 tk rfl (aC tk (zl _) ?_)))
  refine af 2 tk rfl (aC tk (zl _) ?_)
  refine af 2 tk rfl ?_
  refine aN rfl rfl rfl H (fun H=>?_) (fun H=>?_)
  ·refine af 2 tk rfl (aC tk (zl _) ?_)
   refine af 2 tk rfl (aC tk (zl _) ?_)
   refine af 4 tk rfl (ab ?_)
   exact bh tk H rfl
  refine af 10 tk rfl (ab ?_)
  exact bh tk H rfl
 refine ae (aa (ah tk rfl (ct tk (rows' := List.map bE ([9] : List Int)) (dz.refl _) ?_)))
 obtain ⟨x112,h112,H⟩ := av H
 have s112 := dZ ([9] : List Int) q _ h112
 refine aq Tryz.call229 (eJ.r) s112 ?_
 refine ah tk rfl (ab ?_)
 refine aP rfl H (fun H=>?_) (fun H=>?_)
 ·refine ae (aa (af 2 tk rfl (aC tk (zl _) ?_)))
  refine af 2 tk rfl (aC tk (zl _) ?_)
  refine af 2 tk rfl ?_
  refine aN rfl rfl rfl H (fun H=>?_) (fun H=>?_)
  ·refine af 2 tk rfl (aC tk (zl _) ?_)
   refine af 3 tk rfl (ab ?_)
   exact bh tk H rfl
  refine af 6 tk rfl (ab ?_)
  exact bh tk H rfl
 refine ae (aa (ah tk rfl (ct tk (rows' := List.map bE ([10] : List Int)) (dz.refl _) ?_)))
 obtain ⟨x129,h129,H⟩ := av H
 have s129 := dZ ([10] : List Int) q _ h129
 refine aq Tryz.call229 (eJ.r) s129 ?_
 refine ah tk rfl (ab ?_)
 refine aP rfl H (fun H=>?_) (fun H=>?_)
 ·refine ae (aa (af 2 tk rfl (aC tk (zl _) ?_)))
  refine af 2 tk rfl ?_
  refine aN rfl rfl rfl H (fun H=>?_) (fun H=>?_)
  ·refine af 5 tk rfl ?_
   refine aN rfl rfl rfl H (fun H=>?_) (fun H=>?_)
   ·refine af 5 tk rfl (ab ?_)
    exact bh tk H rfl
   refine af 5 tk rfl (ab ?_)
   exact bh tk H rfl
  refine af 10 tk rfl (ab ?_)
  exact bh tk H rfl
 refine ax (bc (ae (aa (af 2 tk rfl (aC tk (zl _) ?_)))))
 refine af 2 tk rfl (ab ?_)
 exact bh tk H rfl
def ca (c : LChecker) (l : List LCol) (e : LExpr) : Int :=
 bq (dA l c.vars e) fun x15 =>
 cond (x15.2.2 == (0 : Int))
  (cond (x15.1 != (2 : Int))
   (cond (x15.1 != (0 : Int))
    (7)
    (x15.2.2))
   (x15.2.2))
  (x15.2.2)
theorem jl (c : LChecker) (l : List LCol) (e : LExpr) :
  aS Tryz.prog 231 [(.agg (de c)),(.list 68 (l.map bg)),(.agg (bl e))] (ac (ca c l e)) := by
 obtain ⟨r,H⟩ : ∃ r,ca c l e = r := ⟨_,rfl⟩
 rw [H]
 unfold ca at H
 refine PH.ay Tryz.func231 Tryz.ntmps231 ?_
 refine ae (aa (aI ?_))
 refine aI ?_
 refine ah tk rfl (ab (ae (aa (af 4 tk rfl ?_))))
 obtain ⟨x15,h15,H⟩ := cY H
 have s15 := lC l c.vars e
 rw [h15] at s15
 refine aq Tryz.call132 (eJ.r) s15 ?_
 refine af 7 tk rfl (ab (ae (ae (aa (af 3 tk rfl ?_)))))
 refine aN rfl rfl rfl H (fun H=>?_) (fun H=>?_)
 ·refine af 4 tk rfl ?_
  refine aN rfl rfl rfl H (fun H=>?_) (fun H=>?_)
  ·refine af 3 tk rfl (ab ?_)
   refine aP rfl H (fun H=>?_) (fun H=>?_)
   ·refine aw 1 tk rfl ?_
    exact dr tk H rfl
   refine ax (aw 2 tk rfl ?_)
   exact dr tk H rfl
  refine af 3 tk rfl (ab (bQ rfl (ax (aw 2 tk rfl ?_))))
  exact dr tk H rfl
 refine af 7 tk rfl (ab (bQ rfl (ax (aw 2 tk rfl ?_))))
 exact dr tk H rfl
def eH (c : LChecker) (inA : List LCol) (a : LAggregateCall) : Option (Int × Int) :=
 ag (
  bq (cR a.name) fun x13 =>
  cond (!x13)
   (some true)
   (ag (cB ([[99,111,117,110,116],[115,117,109],[109,105,110],[109,97,120]] : List (List UInt8)) a.function) fun x19 =>
   cond (!x19)
    (some true)
    (cond (decide ((a.args.length : Int) > (1 : Int)))
     (some true)
     (cond (decide ((a.args.length : Int) < (1 : Int)))
      (some (!(a.function == ([99,111,117,110,116] : List UInt8))))
      (some false))))) fun (t1 : Bool) =>
 cond t1
  (some (0,3))
  (cond ((a.args.length : Int) == (0 : Int))
   (some (1,0))
   (ag (aT a.args 0) fun (x49 : LExpr) =>
   bq (dA inA c.vars x49) fun x51 =>
   cond (x51.2.2 != (0 : Int))
    (some (0,x51.2.2))
    (bq (
     cond (x51.1 == (0 : Int))
      (true)
      (cond (a.function == ([115,117,109] : List UInt8))
       ((x51.1 != (1 : Int)))
       (false))) fun (t2 : Bool) =>
    cond t2
     (some (0,7))
     (cond (a.function == ([99,111,117,110,116] : List UInt8))
      (some (1,0))
      (some (x51.1,0))))))
theorem pC (c : LChecker) (inA : List LCol) (a : LAggregateCall) (r : Int × Int) (H : eH c inA a = some r) :
  aS Tryz.prog 267 [(.agg (de c)),(.list 68 (inA.map bg)),(.agg (aO a))] (.tup [(ac r.1),(ac r.2)]) := by
 unfold eH at H
 refine PH.ay Tryz.func267 Tryz.ntmps267 ?_
 refine ae (aa (aI ?_))
 refine aI ?_
 refine af 2 tk rfl (ab (ae (ae ?_)))
 refine bY (γ := Unit) (fun t1 g1=>⟨76,upd (upd (upd (upd (fun _=>.any) 38 (au t1)) 5 (.ptr (aO a))) 3 (.ptr (de c))) 1 (.list 68 (inA.map bg)),fun _=>none,fun _=>none⟩) H (fun _ H=>?_) (fun t1 g1 H=>?_)
 ·refine aa (af 2 tk rfl ?_)
  obtain ⟨x13,h13,H⟩ := cY H
  have s13 := kO a.name
  rw [h13] at s13
  refine aq Tryz.call127 (eJ.r) s13 ?_
  refine af 2 tk rfl ?_
  refine aN rfl rfl rfl H (fun H=>?_) (fun H=>?_)
  ·refine af 23 tk rfl (ab ?_)
   refine aJ _ () (az H) Gh.d
  refine ct tk (rows' := List.map aE ([[99,111,117,110,116],[115,117,109],[109,105,110],[109,97,120]] : List (List UInt8))) (dz.refl _) ?_
  refine af 2 tk rfl ?_
  obtain ⟨x19,h19,H⟩ := av H
  have s19 := hO ([[99,111,117,110,116],[115,117,109],[109,105,110],[109,97,120]] : List (List UInt8)) a.function _ h19
  refine aq Tryz.call38 (eJ.r) s19 ?_
  refine af 3 tk rfl ?_
  refine aN rfl rfl rfl H (fun H=>?_) (fun H=>?_)
  ·refine af 16 tk rfl (ab ?_)
   refine aJ _ () (az H) Gh.d
  refine af 2 tk rfl (aC tk (zl _) ?_)
  refine af 3 tk rfl ?_
  refine aN rfl rfl rfl H (fun H=>?_) (fun H=>?_)
  ·refine af 10 tk rfl (ab ?_)
   refine aJ _ () (az H) Gh.d
  refine af 2 tk rfl (aC tk (zl _) ?_)
  refine af 2 tk rfl ?_
  refine aN rfl rfl rfl H (fun H=>?_) (fun H=>?_)
  ·refine af 5 tk rfl (ab ?_)
   refine aJ _ () (az H) Gh.d
  refine af 5 tk rfl (ab ?_)
  refine aJ _ () (az H) Gh.d
 refine aP rfl H (fun H=>?_) (fun H=>?_)
 ·refine aw 2 tk rfl ?_
  exact bh tk H rfl
 refine ax (ae (ae (aa (af 2 tk rfl (aC tk (zl _) ?_)))))
 refine ah tk rfl (ab ?_)
 refine aP rfl H (fun H=>?_) (fun H=>?_)
 ·refine aw 2 tk rfl ?_
  exact bh tk H rfl
 refine ax (ae (bs tk mok ⟨false,false,[]⟩ [0,1,2,3,4,5,6,7,8,9,10,11,12,13,14] rfl (by decide +kernel) rfl (bf 5 rfl ?_)))
 obtain ⟨x49,k49,H⟩ := bB H
 refine bF k49.1 (aR aQ k49.2) ?_
 refine bi rfl ?_
 obtain ⟨x51,h51,H⟩ := cY H
 have s51 := lC inA c.vars x49
 rw [h51] at s51
 refine be Tryz.call132 (eJ.r) s51 ?_
 refine bf 7 rfl (bn (ae (aG (aw 3 tk rfl ?_))))
 refine aP rfl H (fun H=>?_) (fun H=>?_)
 ·refine aw 3 tk rfl ?_
  exact bh tk H rfl
 refine ae ?_
 refine cg (γ := Unit) (fun t2 g2=>⟨76,upd (upd (upd (fun _=>.any) 59 (au t2)) 8 (ac x51.1)) 5 (.ptr (aO a)),fun _=>none,fun _=>none⟩) H (fun _ H=>?_) (fun t2 g2 H=>?_)
 ·refine aa (af 3 tk rfl ?_)
  refine aN rfl rfl rfl H (fun H=>?_) (fun H=>?_)
  ·refine af 9 tk rfl (ab ?_)
   refine aJ _ () H Gh.d
  refine af 4 tk rfl ?_
  refine aN rfl rfl rfl H (fun H=>?_) (fun H=>?_)
  ·refine af 5 tk rfl (ab ?_)
   refine aJ _ () H Gh.d
  refine af 5 tk rfl (ab ?_)
  refine aJ _ () H Gh.d
 refine aP rfl H (fun H=>?_) (fun H=>?_)
 ·refine aw 2 tk rfl ?_
  exact bh tk H rfl
 refine aw 4 tk rfl ?_
 refine aP rfl H (fun H=>?_) (fun H=>?_)
 ·refine aw 2 tk rfl ?_
  exact bh tk H rfl
 refine ax (bc (aw 3 tk rfl ?_))
 exact bh tk H rfl
def kg (rec27 : LQuery → Option (LQuery)) (q : LQuery) : Option (LQuery) :=
 ag (aH (σ := List LExpr) (ρ := Empty) (fun (_ : Nat) (x1 : LExpr) (s1 : List LExpr) =>
  ag (eg x1) fun x32 =>
  ag (cq 88 s1 ([x32] : List LExpr)) fun (x34 : List LExpr) =>
  some (.next x34)) 0 q.exprs []) fun fl1=>fl1.thenP fun (s1 : List LExpr) =>
 ag (aH (σ := List LAggregateCall) (ρ := Empty) (fun (_ : Nat) (x2 : LAggregateCall) (s2 : List LAggregateCall) =>
  ag (eQ x2.args) fun x52 =>
  ag (cq 56 s2 ([(LAggregateCall.mk x2.name x2.function x52)] : List LAggregateCall)) fun (x55 : List LAggregateCall) =>
  some (.next x55)) 0 q.aggregates []) fun fl2=>fl2.thenP fun (s2 : List LAggregateCall) =>
 ag (aH (σ := List LQuery) (ρ := Empty) (fun (_ : Nat) (x3 : LQuery) (s3 : List LQuery) =>
  ag (rec27 x3) fun x68 =>
  ag (cq 160 s3 ([x68] : List LQuery)) fun (x70 : List LQuery) =>
  some (.next x70)) 0 q.inputs []) fun fl3=>fl3.thenP fun (s3 : List LQuery) =>
 some (LQuery.mk q.kind q.table q.names s1 s2 q.descending q.count q.offset s3)
theorem WO_query_Clone (rec27 : LQuery → Option (LQuery)) (hrec27 : ∀ a0 r,rec27 a0 = some r → aS Tryz.prog 27 [(.agg (ao a0))] (.agg (ao r))) (q : LQuery) (r : LQuery) (H : kg rec27 q = some r) :
  aS Tryz.prog 27 [(.agg (ao q))] (.agg (ao r)) := by
 unfold kg at H
 refine PH.ay Tryz.func27 Tryz.ntmps27 ?_
 refine ae (aa (aI ?_))
 refine aB tk fun b2=>?_
 refine ab (ae (aa (ah tk rfl ?_)))
 refine aB tk fun b3=>?_
 refine al tk ?_
 refine ab (ae (bs tk mok ⟨false,false,[]⟩ [0,1,3,4,2,6,5,7,8,9] rfl (by decide +kernel) rfl (bf 4 rfl ?_)))
 have s13 := oV (m := 13) q.names
 refine iO (g := 72) rfl rfl rfl rfl Tryz.call72 (eJ.r) rfl rfl s13 (fun g13=>?_)
 refine bi rfl ?_
 have s16 := pj (m := 16) q.descending
 refine iO (g := 73) rfl rfl rfl rfl Tryz.call73 (eJ.r) rfl rfl s16 (fun g16=>?_)
 refine bj ?_
 refine bi rfl (bj ?_)
 refine bn (ae (aa (ah tk rfl (al tk ?_))))
 refine ah tk rfl (al tk ?_)
 refine ah tk rfl (al tk ?_)
 refine ab (ae (ae (aa (af 2 tk rfl (aC tk (zl _) ?_)))))
 refine ah tk rfl (ab (fS tk 3 3 34 (e := 91) rfl rfl rfl rfl ?_))
 refine du (γ := OwnRef) tk 25 24 23 (fun s1 g1=>upd (upd (upd (fun _=>.any) 3 (.box 3 b3 0)) 2 (.box 2 b2 0)) 1 (.ptr (ao q))) (fun s1 g1=>upd (upd (fun _=>none) 3 (some ⟨b3,[(ac q.kind),(.str q.table),(.own 13 g13 (q.names.map aE).length),(.own 34 g1 (s1.map am).length),(.val (.slice none 0 0)),(.own 16 g16 (q.descending.map aV).length),(ac q.count),(ac q.offset),(.val (.slice none 0 0))]⟩)) 2 (some ⟨b2,[(ac 0),(.str []),(.val (.slice none 0 0)),(.val (.slice none 0 0)),(.val (.slice none 0 0)),(.val (.slice none 0 0)),(ac 0),(ac 0),(.val (.slice none 0 0))]⟩)) (fun s1 g1=>upd (upd (upd (fun _=>none) 34 (some ⟨g1,91,(s1.map am),true⟩)) 16 (some ⟨g16,4,(q.descending.map aV),true⟩)) 13 (some ⟨g13,9,(q.names.map aE),true⟩)) (⟨none,0⟩) H (fun fl1 Hp1 j1 s1 g1 hz1 hl1 x1 fb1 hx1 H hg1=>?_) (fun s1 g1 H=>?_)
 ·refine ae (aG (ae (aa (aY tk (zn j1) (bm aQ hx1) ?_))))
  refine ah tk rfl ?_
  refine aB tk fun b5=>?_
  refine al tk ?_
  refine ab (bX 5 ?_)
  refine bs tk mok ⟨true,false,[31]⟩ [0,1,2,3,4,5,6,7] rfl (by decide +kernel) rfl (bi rfl (aU ?_))
  refine bi rfl ?_
  obtain ⟨x32,h32,H⟩ := av H
  have s32 := fZ x1 _ h32
  refine be Tryz.call74 (eJ.r) s32 ?_
  refine bi rfl ?_
  obtain ⟨x34,h34,H⟩ := av H
  have k34 := bL h34
  refine dY (rows2' := List.map am ([x32] : List LExpr)) (rows' := List.map am x34) tk rfl rfl rfl rfl rfl rfl rfl rfl rfl rfl rfl rfl rfl rfl (dz.trans (b := List.map bl [x32]) (dz.refl _) (dz.of_eq (bO aQ [x32]))) (cn k34.1) (cm k34.2.1) (ck k34.2.2) fun g34=>?_
  refine bi rfl (bj ?_)
  refine bn (bc (bC 2 tk rfl ?_))
  exact bu g34 H hl1 hg1
 refine ae (ae (aa (af 2 tk rfl (aC tk (zl _) ?_))))
 refine ah tk rfl (ab (fS tk 3 4 55 (e := 88) rfl rfl rfl rfl ?_))
 refine du (γ := OwnRef) tk 40 39 38 (fun s2 g2=>upd (upd (upd (fun _=>.any) 3 (.box 3 b3 0)) 2 (.box 2 b2 0)) 1 (.ptr (ao q))) (fun s2 g2=>upd (upd (fun _=>none) 3 (some ⟨b3,[(ac q.kind),(.str q.table),(.own 13 g13 (q.names.map aE).length),(.own 34 g1 (s1.map am).length),(.own 55 g2 (s2.map aO).length),(.own 16 g16 (q.descending.map aV).length),(ac q.count),(ac q.offset),(.val (.slice none 0 0))]⟩)) 2 (some ⟨b2,[(ac 0),(.str []),(.val (.slice none 0 0)),(.val (.slice none 0 0)),(.val (.slice none 0 0)),(.val (.slice none 0 0)),(ac 0),(ac 0),(.val (.slice none 0 0))]⟩)) (fun s2 g2=>upd (upd (upd (upd (fun _=>none) 55 (some ⟨g2,88,(s2.map aO),true⟩)) 34 (some ⟨g1,91,(s1.map am),true⟩)) 16 (some ⟨g16,4,(q.descending.map aV),true⟩)) 13 (some ⟨g13,9,(q.names.map aE),true⟩)) (⟨none,0⟩) H (fun fl2 Hp2 j2 s2 g2 hz2 hl2 x2 fb2 hx2 H hg2=>?_) (fun s2 g2 H=>?_)
 ·refine ae (aG (ae (aa ?_)))
  refine aY tk (zn j2) (bm (fun _=>rfl) hx2) ?_
  refine ah tk rfl ?_
  refine aB tk fun b7=>?_
  refine al tk ?_
  refine ab (bX 7 ?_)
  refine bs tk mok ⟨true,false,[47,49,51]⟩ [0,1,2,3,4,5,6,7,8,9,10,11,12,13] rfl (by decide +kernel) rfl (bi rfl (aU ?_))
  refine bf 6 rfl ?_
  obtain ⟨x52,h52,H⟩ := av H
  have s52 := jZ x2.args _ h52
  refine be Tryz.call75 (eJ.r) s52 ?_
  refine bf 2 rfl ?_
  obtain ⟨x55,h55,H⟩ := av H
  have k55 := bL h55
  refine dY (rows2' := List.map aO ([(LAggregateCall.mk x2.name x2.function x52)] : List LAggregateCall)) (rows' := List.map aO x55) tk rfl rfl rfl rfl rfl rfl rfl rfl rfl rfl rfl rfl rfl rfl (dz.refl _) (cn k55.1) (cm k55.2.1) (ck k55.2.2) fun g55=>?_
  refine bi rfl (bj ?_)
  refine bn (bc (bC 2 tk rfl ?_))
  exact bu g55 H hl2 hg2
 refine ae (ae (aa (af 2 tk rfl (aC tk (zl _) ?_))))
 refine ah tk rfl (ab (fS tk 3 8 70 (e := 33) rfl rfl rfl rfl ?_))
 refine du (γ := OwnRef) tk 61 60 59 (fun s3 g3=>upd (upd (fun _=>.any) 3 (.box 3 b3 0)) 2 (.box 2 b2 0)) (fun s3 g3=>upd (upd (fun _=>none) 3 (some ⟨b3,[(ac q.kind),(.str q.table),(.own 13 g13 (q.names.map aE).length),(.own 34 g1 (s1.map am).length),(.own 55 g2 (s2.map aO).length),(.own 16 g16 (q.descending.map aV).length),(ac q.count),(ac q.offset),(.own 70 g3 (s3.map ap).length)]⟩)) 2 (some ⟨b2,[(ac 0),(.str []),(.val (.slice none 0 0)),(.val (.slice none 0 0)),(.val (.slice none 0 0)),(.val (.slice none 0 0)),(ac 0),(ac 0),(.val (.slice none 0 0))]⟩)) (fun s3 g3=>upd (upd (upd (upd (upd (fun _=>none) 70 (some ⟨g3,33,(s3.map ap),true⟩)) 55 (some ⟨g2,88,(s2.map aO),true⟩)) 34 (some ⟨g1,91,(s1.map am),true⟩)) 16 (some ⟨g16,4,(q.descending.map aV),true⟩)) 13 (some ⟨g13,9,(q.names.map aE),true⟩)) (⟨none,0⟩) H (fun fl3 Hp3 j3 s3 g3 hz3 hl3 x3 fb3 hx3 H hg3=>?_) (fun s3 g3 H=>?_)
 ·refine ae (aG (ae (aa (aY tk (zn j3) (bm aK hx3) ?_))))
  refine ah tk rfl ?_
  refine aB tk fun b9=>?_
  refine al tk ?_
  refine ab (bX 9 ?_)
  refine bs tk mok ⟨true,false,[67]⟩ [0,1,2,3,4,5,6,7] rfl (by decide +kernel) rfl (bi rfl (aU ?_))
  refine bi rfl ?_
  obtain ⟨x68,h68,H⟩ := av H
  have s68 := hrec27 x3 _ h68
  refine be Tryz.call27 (eJ.r) s68 ?_
  refine bi rfl ?_
  obtain ⟨x70,h70,H⟩ := av H
  have k70 := bL h70
  refine dY (rows2' := List.map ap ([x68] : List LQuery)) (rows' := List.map ap x70) tk rfl rfl rfl rfl rfl rfl rfl rfl rfl rfl rfl rfl rfl rfl (dz.trans (b := List.map ao [x68]) (dz.refl _) (dz.of_eq (bO aK [x68]))) (cn k70.1) (cm k70.2.1) (ck k70.2.2) fun g70=>?_
  refine bi rfl (bj ?_)
  refine bn (bc (bC 2 tk rfl ?_))
  exact bu g70 H hl3 hg3
 refine ae (aa (ak tk ?_))
 refine al tk ?_
 refine ab (bD 2 2 rfl rfl rfl rfl rfl (bD 2 3 rfl rfl rfl rfl rfl (bD 2 4 rfl rfl rfl rfl rfl (bD 2 5 rfl rfl rfl rfl rfl (bD 2 8 rfl rfl rfl rfl rfl ?_)))))
 exact nU tk H rfl rfl rfl rfl rfl
def gB : Nat → LQuery → Option (LQuery)
 | 0,_=>none
 | n + 1,v0=>kg (fun b0=>gB n b0) v0
theorem WF_query_Clone  (n : Nat) : (∀ a0 r,gB n a0 = some r → aS Tryz.prog 27 [(.agg (ao a0))] (.agg (ao r))) := by
 induction n with
 | zero=>exact (by intros; rename_i h; exact absurd (show (none : Option _) = some _ from h) (by simp))
 | succ n ih =>
  exact (fun v0 r h=>WO_query_Clone (fun b0=>gB n b0) ih v0  r h)
def gE (q : LQuery) : Option (LQuery) := eT fun n=>gB n q
theorem ka (q : LQuery) (r : LQuery) (H : gE q = some r) :
  aS Tryz.prog 27 [(.agg (ao q))] (.agg (ao r)) := by
 obtain ⟨n,h⟩ := eA H
 exact (WF_query_Clone  n) q r h
def fw (q : LQuery) : Option (LQuery) :=
 ag (aH (σ := List LExpr) (ρ := Empty) (fun (_ : Nat) (x1 : LExpr) (s1 : List LExpr) =>
  ag (eg x1) fun x32 =>
  ag (cq 88 s1 ([x32] : List LExpr)) fun (x34 : List LExpr) =>
  some (.next x34)) 0 q.exprs []) fun fl1=>fl1.thenP fun (s1 : List LExpr) =>
 ag (aH (σ := List LAggregateCall) (ρ := Empty) (fun (_ : Nat) (x2 : LAggregateCall) (s2 : List LAggregateCall) =>
  ag (eQ x2.args) fun x52 =>
  ag (cq 56 s2 ([(LAggregateCall.mk x2.name x2.function x52)] : List LAggregateCall)) fun (x55 : List LAggregateCall) =>
  some (.next x55)) 0 q.aggregates []) fun fl2=>fl2.thenP fun (s2 : List LAggregateCall) =>
 ag (aH (σ := List LQuery) (ρ := Empty) (fun (_ : Nat) (x3 : LQuery) (s3 : List LQuery) =>
  ag (gE x3) fun x68 =>
  ag (cq 160 s3 ([x68] : List LQuery)) fun (x70 : List LQuery) =>
  some (.next x70)) 0 q.inputs []) fun fl3=>fl3.thenP fun (s3 : List LQuery) =>
 some (LQuery.mk q.kind q.table q.names s1 s2 q.descending q.count q.offset s3)
theorem kP {m : Nat} (q : LQuery) (r : LQuery) (H : fw q = some r) :
  dR Tryz.prog 27 [(.agg (ao q))] (OwnG m 33 (List.map ap r.inputs) (fun gz=>(.agg [(ac r.kind),(.str r.table),(.list 9 (r.names.map aE)),(.list 91 (r.exprs.map am)),(.list 88 (r.aggregates.map aO)),(.list 4 (r.descending.map aV)),(ac r.count),(ac r.offset),(.own m gz (r.inputs.map ap).length)]))) := by
 unfold fw at H
 refine PH.ay Tryz.func27 Tryz.ntmps27 ?_
 refine ae (aa (aI ?_))
 refine aB tk fun b2=>?_
 refine ab (ae (aa (ah tk rfl ?_)))
 refine aB tk fun b3=>?_
 refine al tk ?_
 refine ab (ae (bs tk mok ⟨false,false,[]⟩ [0,1,3,4,2,6,5,7,8,9] rfl (by decide +kernel) rfl (bf 4 rfl ?_)))
 have s13 := oV (m := 13) q.names
 refine iO (g := 72) rfl rfl rfl rfl Tryz.call72 (eJ.r) rfl rfl s13 (fun g13=>?_)
 refine bi rfl ?_
 have s16 := pj (m := 16) q.descending
 refine iO (g := 73) rfl rfl rfl rfl Tryz.call73 (eJ.r) rfl rfl s16 (fun g16=>?_)
 refine bj ?_
 refine bi rfl (bj ?_)
 refine bn (ae (aa (ah tk rfl (al tk ?_))))
 refine ah tk rfl (al tk ?_)
 refine ah tk rfl (al tk ?_)
 refine ab (ae (ae (aa (af 2 tk rfl (aC tk (zl _) ?_)))))
 refine ah tk rfl (ab (fS tk 3 3 34 (e := 91) rfl rfl rfl rfl ?_))
 refine du (γ := OwnRef) tk 25 24 23 (fun s1 g1=>upd (upd (upd (fun _=>.any) 3 (.box 3 b3 0)) 2 (.box 2 b2 0)) 1 (.ptr (ao q))) (fun s1 g1=>upd (upd (fun _=>none) 3 (some ⟨b3,[(ac q.kind),(.str q.table),(.own 13 g13 (q.names.map aE).length),(.own 34 g1 (s1.map am).length),(.val (.slice none 0 0)),(.own 16 g16 (q.descending.map aV).length),(ac q.count),(ac q.offset),(.val (.slice none 0 0))]⟩)) 2 (some ⟨b2,[(ac 0),(.str []),(.val (.slice none 0 0)),(.val (.slice none 0 0)),(.val (.slice none 0 0)),(.val (.slice none 0 0)),(ac 0),(ac 0),(.val (.slice none 0 0))]⟩)) (fun s1 g1=>upd (upd (upd (fun _=>none) 34 (some ⟨g1,91,(s1.map am),true⟩)) 16 (some ⟨g16,4,(q.descending.map aV),true⟩)) 13 (some ⟨g13,9,(q.names.map aE),true⟩)) (⟨none,0⟩) H (fun fl1 Hp1 j1 s1 g1 hz1 hl1 x1 fb1 hx1 H hg1=>?_) (fun s1 g1 H=>?_)
 ·refine ae (aG (ae (aa (aY tk (zn j1) (bm aQ hx1) ?_))))
  refine ah tk rfl ?_
  refine aB tk fun b5=>?_
  refine al tk ?_
  refine ab (bX 5 ?_)
  refine bs tk mok ⟨true,false,[31]⟩ [0,1,2,3,4,5,6,7] rfl (by decide +kernel) rfl (bi rfl (aU ?_))
  refine bi rfl ?_
  obtain ⟨x32,h32,H⟩ := av H
  have s32 := fZ x1 _ h32
  refine be Tryz.call74 (eJ.r) s32 ?_
  refine bi rfl ?_
  obtain ⟨x34,h34,H⟩ := av H
  have k34 := bL h34
  refine dY (rows2' := List.map am ([x32] : List LExpr)) (rows' := List.map am x34) tk rfl rfl rfl rfl rfl rfl rfl rfl rfl rfl rfl rfl rfl rfl (dz.trans (b := List.map bl [x32]) (dz.refl _) (dz.of_eq (bO aQ [x32]))) (cn k34.1) (cm k34.2.1) (ck k34.2.2) fun g34=>?_
  refine bi rfl (bj ?_)
  refine bn (bc (bC 2 tk rfl ?_))
  exact bu g34 H hl1 hg1
 refine ae (ae (aa (af 2 tk rfl (aC tk (zl _) ?_))))
 refine ah tk rfl (ab (fS tk 3 4 55 (e := 88) rfl rfl rfl rfl ?_))
 refine du (γ := OwnRef) tk 40 39 38 (fun s2 g2=>upd (upd (upd (fun _=>.any) 3 (.box 3 b3 0)) 2 (.box 2 b2 0)) 1 (.ptr (ao q))) (fun s2 g2=>upd (upd (fun _=>none) 3 (some ⟨b3,[(ac q.kind),(.str q.table),(.own 13 g13 (q.names.map aE).length),(.own 34 g1 (s1.map am).length),(.own 55 g2 (s2.map aO).length),(.own 16 g16 (q.descending.map aV).length),(ac q.count),(ac q.offset),(.val (.slice none 0 0))]⟩)) 2 (some ⟨b2,[(ac 0),(.str []),(.val (.slice none 0 0)),(.val (.slice none 0 0)),(.val (.slice none 0 0)),(.val (.slice none 0 0)),(ac 0),(ac 0),(.val (.slice none 0 0))]⟩)) (fun s2 g2=>upd (upd (upd (upd (fun _=>none) 55 (some ⟨g2,88,(s2.map aO),true⟩)) 34 (some ⟨g1,91,(s1.map am),true⟩)) 16 (some ⟨g16,4,(q.descending.map aV),true⟩)) 13 (some ⟨g13,9,(q.names.map aE),true⟩)) (⟨none,0⟩) H (fun fl2 Hp2 j2 s2 g2 hz2 hl2 x2 fb2 hx2 H hg2=>?_) (fun s2 g2 H=>?_)
 ·refine ae (aG (ae (aa ?_)))
  refine aY tk (zn j2) (bm (fun _=>rfl) hx2) ?_
  refine ah tk rfl ?_
  refine aB tk fun b7=>?_
  refine al tk ?_
  refine ab (bX 7 ?_)
  refine bs tk mok ⟨true,false,[47,49,51]⟩ [0,1,2,3,4,5,6,7,8,9,10,11,12,13] rfl (by decide +kernel) rfl (bi rfl (aU ?_))
  refine bf 6 rfl ?_
  obtain ⟨x52,h52,H⟩ := av H
  have s52 := jZ x2.args _ h52
  refine be Tryz.call75 (eJ.r) s52 ?_
  refine bf 2 rfl ?_
  obtain ⟨x55,h55,H⟩ := av H
  have k55 := bL h55
  refine dY (rows2' := List.map aO ([(LAggregateCall.mk x2.name x2.function x52)] : List LAggregateCall)) (rows' := List.map aO x55) tk rfl rfl rfl rfl rfl rfl rfl rfl rfl rfl rfl rfl rfl rfl (dz.refl _) (cn k55.1) (cm k55.2.1) (ck k55.2.2) fun g55=>?_
  refine bi rfl (bj ?_)
  refine bn (bc (bC 2 tk rfl ?_))
  exact bu g55 H hl2 hg2
 refine ae (ae (aa (af 2 tk rfl (aC tk (zl _) ?_))))
 refine ah tk rfl (ab (fS tk 3 8 70 (e := 33) rfl rfl rfl rfl ?_))
 refine du (γ := OwnRef) tk 61 60 59 (fun s3 g3=>upd (upd (fun _=>.any) 3 (.box 3 b3 0)) 2 (.box 2 b2 0)) (fun s3 g3=>upd (upd (fun _=>none) 3 (some ⟨b3,[(ac q.kind),(.str q.table),(.own 13 g13 (q.names.map aE).length),(.own 34 g1 (s1.map am).length),(.own 55 g2 (s2.map aO).length),(.own 16 g16 (q.descending.map aV).length),(ac q.count),(ac q.offset),(.own 70 g3 (s3.map ap).length)]⟩)) 2 (some ⟨b2,[(ac 0),(.str []),(.val (.slice none 0 0)),(.val (.slice none 0 0)),(.val (.slice none 0 0)),(.val (.slice none 0 0)),(ac 0),(ac 0),(.val (.slice none 0 0))]⟩)) (fun s3 g3=>upd (upd (upd (upd (upd (fun _=>none) 70 (some ⟨g3,33,(s3.map ap),true⟩)) 55 (some ⟨g2,88,(s2.map aO),true⟩)) 34 (some ⟨g1,91,(s1.map am),true⟩)) 16 (some ⟨g16,4,(q.descending.map aV),true⟩)) 13 (some ⟨g13,9,(q.names.map aE),true⟩)) (⟨none,0⟩) H (fun fl3 Hp3 j3 s3 g3 hz3 hl3 x3 fb3 hx3 H hg3=>?_) (fun s3 g3 H=>?_)
 ·refine ae (aG (ae (aa (aY tk (zn j3) (bm aK hx3) ?_))))
  refine ah tk rfl ?_
  refine aB tk fun b9=>?_
  refine al tk ?_
  refine ab (bX 9 ?_)
  refine bs tk mok ⟨true,false,[67]⟩ [0,1,2,3,4,5,6,7] rfl (by decide +kernel) rfl (bi rfl (aU ?_))
  refine bi rfl ?_
  obtain ⟨x68,h68,H⟩ := av H
  have s68 := ka x3 _ h68
  refine be Tryz.call27 (eJ.r) s68 ?_
  refine bi rfl ?_
  obtain ⟨x70,h70,H⟩ := av H
  have k70 := bL h70
  refine dY (rows2' := List.map ap ([x68] : List LQuery)) (rows' := List.map ap x70) tk rfl rfl rfl rfl rfl rfl rfl rfl rfl rfl rfl rfl rfl rfl (dz.trans (b := List.map ao [x68]) (dz.refl _) (dz.of_eq (bO aK [x68]))) (cn k70.1) (cm k70.2.1) (ck k70.2.2) fun g70=>?_
  refine bi rfl (bj ?_)
  refine bn (bc (bC 2 tk rfl ?_))
  exact bu g70 H hl3 hg3
 refine ae (aa (ak tk ?_))
 refine al tk ?_
 refine ab ?_
 obtain rfl := az H
 refine bD 2 2 rfl rfl rfl rfl rfl (bD 2 3 rfl rfl rfl rfl rfl (bD 2 4 rfl rfl rfl rfl rfl (bD 2 5 rfl rfl rfl rfl rfl ?_)))
 refine rp tk rfl (ps := [(.agg [(ac q.kind),(.str q.table),(.list 9 (q.names.map aE)),(.list 91 (s1.map am)),(.list 88 (s2.map aO)),(.list 4 (q.descending.map aV)),(ac q.count),(ac q.offset),(.own 70 g3 (s3.map ap).length)])]) (by exact ⟨_,_,rfl,⟨_,_,_,_,_,rfl,rfl,rfl,rfl⟩,rfl⟩) (tag := 70) rfl rfl (PLe.of2 (lZ.agg (gp.cons (lZ.of_eq rfl) (gp.cons (lZ.of_eq rfl) (gp.cons (lZ.of_eq rfl) (gp.cons (lZ.of_eq rfl) (gp.cons (lZ.of_eq rfl) (gp.cons (lZ.of_eq rfl) (gp.cons (lZ.of_eq rfl) (gp.cons (lZ.of_eq rfl) (gp.cons (lZ.own rfl) gp.nil)))))))))))
def kK (q : LQuery) : Option (LQuery) :=
 ag (aH (σ := List LExpr) (ρ := Empty) (fun (_ : Nat) (x1 : LExpr) (s1 : List LExpr) =>
  ag (eg x1) fun x32 =>
  ag (cq 88 s1 ([x32] : List LExpr)) fun (x34 : List LExpr) =>
  some (.next x34)) 0 q.exprs []) fun fl1=>fl1.thenP fun (s1 : List LExpr) =>
 ag (aH (σ := List LAggregateCall) (ρ := Empty) (fun (_ : Nat) (x2 : LAggregateCall) (s2 : List LAggregateCall) =>
  ag (eQ x2.args) fun x52 =>
  ag (cq 56 s2 ([(LAggregateCall.mk x2.name x2.function x52)] : List LAggregateCall)) fun (x55 : List LAggregateCall) =>
  some (.next x55)) 0 q.aggregates []) fun fl2=>fl2.thenP fun (s2 : List LAggregateCall) =>
 ag (aH (σ := List LQuery) (ρ := Empty) (fun (_ : Nat) (x3 : LQuery) (s3 : List LQuery) =>
  ag (gE x3) fun x68 =>
  ag (cq 160 s3 ([x68] : List LQuery)) fun (x70 : List LQuery) =>
  some (.next x70)) 0 q.inputs []) fun fl3=>fl3.thenP fun (s3 : List LQuery) =>
 some (LQuery.mk q.kind q.table q.names s1 s2 q.descending q.count q.offset s3)
theorem rj {m : Nat} (q : LQuery) (r : LQuery) (H : kK q = some r) :
  dR Tryz.prog 27 [(.agg (ao q))] (OwnG m 91 (List.map am r.exprs) (fun gz=>(.agg [(ac r.kind),(.str r.table),(.list 9 (r.names.map aE)),(.own m gz (r.exprs.map am).length),(.list 88 (r.aggregates.map aO)),(.list 4 (r.descending.map aV)),(ac r.count),(ac r.offset),(.list 33 (r.inputs.map ap))]))) := by
 unfold kK at H
 refine PH.ay Tryz.func27 Tryz.ntmps27 ?_
 refine ae (aa (aI ?_))
 refine aB tk fun b2=>?_
 refine ab (ae (aa (ah tk rfl ?_)))
 refine aB tk fun b3=>?_
 refine al tk ?_
 refine ab (ae (bs tk mok ⟨false,false,[]⟩ [0,1,3,4,2,6,5,7,8,9] rfl (by decide +kernel) rfl (bf 4 rfl ?_)))
 have s13 := oV (m := 13) q.names
 refine iO (g := 72) rfl rfl rfl rfl Tryz.call72 (eJ.r) rfl rfl s13 (fun g13=>?_)
 refine bi rfl ?_
 have s16 := pj (m := 16) q.descending
 refine iO (g := 73) rfl rfl rfl rfl Tryz.call73 (eJ.r) rfl rfl s16 (fun g16=>?_)
 refine bj ?_
 refine bi rfl (bj ?_)
 refine bn (ae (aa (ah tk rfl (al tk ?_))))
 refine ah tk rfl (al tk ?_)
 refine ah tk rfl (al tk ?_)
 refine ab (ae (ae (aa (af 2 tk rfl (aC tk (zl _) ?_)))))
 refine ah tk rfl (ab (fS tk 3 3 34 (e := 91) rfl rfl rfl rfl ?_))
 refine du (γ := OwnRef) tk 25 24 23 (fun s1 g1=>upd (upd (upd (fun _=>.any) 3 (.box 3 b3 0)) 2 (.box 2 b2 0)) 1 (.ptr (ao q))) (fun s1 g1=>upd (upd (fun _=>none) 3 (some ⟨b3,[(ac q.kind),(.str q.table),(.own 13 g13 (q.names.map aE).length),(.own 34 g1 (s1.map am).length),(.val (.slice none 0 0)),(.own 16 g16 (q.descending.map aV).length),(ac q.count),(ac q.offset),(.val (.slice none 0 0))]⟩)) 2 (some ⟨b2,[(ac 0),(.str []),(.val (.slice none 0 0)),(.val (.slice none 0 0)),(.val (.slice none 0 0)),(.val (.slice none 0 0)),(ac 0),(ac 0),(.val (.slice none 0 0))]⟩)) (fun s1 g1=>upd (upd (upd (fun _=>none) 34 (some ⟨g1,91,(s1.map am),true⟩)) 16 (some ⟨g16,4,(q.descending.map aV),true⟩)) 13 (some ⟨g13,9,(q.names.map aE),true⟩)) (⟨none,0⟩) H (fun fl1 Hp1 j1 s1 g1 hz1 hl1 x1 fb1 hx1 H hg1=>?_) (fun s1 g1 H=>?_)
 ·refine ae (aG (ae (aa (aY tk (zn j1) (bm aQ hx1) ?_))))
  refine ah tk rfl ?_
  refine aB tk fun b5=>?_
  refine al tk ?_
  refine ab (bX 5 ?_)
  refine bs tk mok ⟨true,false,[31]⟩ [0,1,2,3,4,5,6,7] rfl (by decide +kernel) rfl (bi rfl (aU ?_))
  refine bi rfl ?_
  obtain ⟨x32,h32,H⟩ := av H
  have s32 := fZ x1 _ h32
  refine be Tryz.call74 (eJ.r) s32 ?_
  refine bi rfl ?_
  obtain ⟨x34,h34,H⟩ := av H
  have k34 := bL h34
  refine dY (rows2' := List.map am ([x32] : List LExpr)) (rows' := List.map am x34) tk rfl rfl rfl rfl rfl rfl rfl rfl rfl rfl rfl rfl rfl rfl (dz.trans (b := List.map bl [x32]) (dz.refl _) (dz.of_eq (bO aQ [x32]))) (cn k34.1) (cm k34.2.1) (ck k34.2.2) fun g34=>?_
  refine bi rfl (bj ?_)
  refine bn (bc (bC 2 tk rfl ?_))
  exact bu g34 H hl1 hg1
 refine ae (ae (aa (af 2 tk rfl (aC tk (zl _) ?_))))
 refine ah tk rfl (ab (fS tk 3 4 55 (e := 88) rfl rfl rfl rfl ?_))
 refine du (γ := OwnRef) tk 40 39 38 (fun s2 g2=>upd (upd (upd (fun _=>.any) 3 (.box 3 b3 0)) 2 (.box 2 b2 0)) 1 (.ptr (ao q))) (fun s2 g2=>upd (upd (fun _=>none) 3 (some ⟨b3,[(ac q.kind),(.str q.table),(.own 13 g13 (q.names.map aE).length),(.own 34 g1 (s1.map am).length),(.own 55 g2 (s2.map aO).length),(.own 16 g16 (q.descending.map aV).length),(ac q.count),(ac q.offset),(.val (.slice none 0 0))]⟩)) 2 (some ⟨b2,[(ac 0),(.str []),(.val (.slice none 0 0)),(.val (.slice none 0 0)),(.val (.slice none 0 0)),(.val (.slice none 0 0)),(ac 0),(ac 0),(.val (.slice none 0 0))]⟩)) (fun s2 g2=>upd (upd (upd (upd (fun _=>none) 55 (some ⟨g2,88,(s2.map aO),true⟩)) 34 (some ⟨g1,91,(s1.map am),true⟩)) 16 (some ⟨g16,4,(q.descending.map aV),true⟩)) 13 (some ⟨g13,9,(q.names.map aE),true⟩)) (⟨none,0⟩) H (fun fl2 Hp2 j2 s2 g2 hz2 hl2 x2 fb2 hx2 H hg2=>?_) (fun s2 g2 H=>?_)
 ·refine ae (aG (ae (aa ?_)))
  refine aY tk (zn j2) (bm (fun _=>rfl) hx2) ?_
  refine ah tk rfl ?_
  refine aB tk fun b7=>?_
  refine al tk ?_
  refine ab (bX 7 ?_)
  refine bs tk mok ⟨true,false,[47,49,51]⟩ [0,1,2,3,4,5,6,7,8,9,10,11,12,13] rfl (by decide +kernel) rfl (bi rfl (aU ?_))
  refine bf 6 rfl ?_
  obtain ⟨x52,h52,H⟩ := av H
  have s52 := jZ x2.args _ h52
  refine be Tryz.call75 (eJ.r) s52 ?_
  refine bf 2 rfl ?_
  obtain ⟨x55,h55,H⟩ := av H
  have k55 := bL h55
  refine dY (rows2' := List.map aO ([(LAggregateCall.mk x2.name x2.function x52)] : List LAggregateCall)) (rows' := List.map aO x55) tk rfl rfl rfl rfl rfl rfl rfl rfl rfl rfl rfl rfl rfl rfl (dz.refl _) (cn k55.1) (cm k55.2.1) (ck k55.2.2) fun g55=>?_
  refine bi rfl (bj ?_)
  refine bn (bc (bC 2 tk rfl ?_))
  exact bu g55 H hl2 hg2
 refine ae (ae (aa (af 2 tk rfl (aC tk (zl _) ?_))))
 refine ah tk rfl (ab (fS tk 3 8 70 (e := 33) rfl rfl rfl rfl ?_))
 refine du (γ := OwnRef) tk 61 60 59 (fun s3 g3=>upd (upd (fun _=>.any) 3 (.box 3 b3 0)) 2 (.box 2 b2 0)) (fun s3 g3=>upd (upd (fun _=>none) 3 (some ⟨b3,[(ac q.kind),(.str q.table),(.own 13 g13 (q.names.map aE).length),(.own 34 g1 (s1.map am).length),(.own 55 g2 (s2.map aO).length),(.own 16 g16 (q.descending.map aV).length),(ac q.count),(ac q.offset),(.own 70 g3 (s3.map ap).length)]⟩)) 2 (some ⟨b2,[(ac 0),(.str []),(.val (.slice none 0 0)),(.val (.slice none 0 0)),(.val (.slice none 0 0)),(.val (.slice none 0 0)),(ac 0),(ac 0),(.val (.slice none 0 0))]⟩)) (fun s3 g3=>upd (upd (upd (upd (upd (fun _=>none) 70 (some ⟨g3,33,(s3.map ap),true⟩)) 55 (some ⟨g2,88,(s2.map aO),true⟩)) 34 (some ⟨g1,91,(s1.map am),true⟩)) 16 (some ⟨g16,4,(q.descending.map aV),true⟩)) 13 (some ⟨g13,9,(q.names.map aE),true⟩)) (⟨none,0⟩) H (fun fl3 Hp3 j3 s3 g3 hz3 hl3 x3 fb3 hx3 H hg3=>?_) (fun s3 g3 H=>?_)
 ·refine ae (aG (ae (aa (aY tk (zn j3) (bm aK hx3) ?_))))
  refine ah tk rfl ?_
  refine aB tk fun b9=>?_
  refine al tk ?_
  refine ab (bX 9 ?_)
  refine bs tk mok ⟨true,false,[67]⟩ [0,1,2,3,4,5,6,7] rfl (by decide +kernel) rfl (bi rfl (aU ?_))
  refine bi rfl ?_
  obtain ⟨x68,h68,H⟩ := av H
  have s68 := ka x3 _ h68
  refine be Tryz.call27 (eJ.r) s68 ?_
  refine bi rfl ?_
  obtain ⟨x70,h70,H⟩ := av H
  have k70 := bL h70
  refine dY (rows2' := List.map ap ([x68] : List LQuery)) (rows' := List.map ap x70) tk rfl rfl rfl rfl rfl rfl rfl rfl rfl rfl rfl rfl rfl rfl (dz.trans (b := List.map ao [x68]) (dz.refl _) (dz.of_eq (bO aK [x68]))) (cn k70.1) (cm k70.2.1) (ck k70.2.2) fun g70=>?_
  refine bi rfl (bj ?_)
  refine bn (bc (bC 2 tk rfl ?_))
  exact bu g70 H hl3 hg3
 refine ae (aa (ak tk ?_))
 refine al tk ?_
 refine ab ?_
 obtain rfl := az H
 refine bD 2 2 rfl rfl rfl rfl rfl (bD 2 4 rfl rfl rfl rfl rfl (bD 2 5 rfl rfl rfl rfl rfl (bD 2 8 rfl rfl rfl rfl rfl ?_)))
 refine rp tk rfl (ps := [(.agg [(ac q.kind),(.str q.table),(.list 9 (q.names.map aE)),(.own 34 g1 (s1.map am).length),(.list 88 (s2.map aO)),(.list 4 (q.descending.map aV)),(ac q.count),(ac q.offset),(.list 33 (s3.map ap))])]) (by exact ⟨_,_,rfl,⟨_,_,_,_,_,rfl,rfl,rfl,rfl⟩,rfl⟩) (tag := 34) rfl rfl (PLe.of2 (lZ.agg (gp.cons (lZ.of_eq rfl) (gp.cons (lZ.of_eq rfl) (gp.cons (lZ.of_eq rfl) (gp.cons (lZ.own rfl) (gp.cons (lZ.of_eq rfl) (gp.cons (lZ.of_eq rfl) (gp.cons (lZ.of_eq rfl) (gp.cons (lZ.of_eq rfl) (gp.cons (lZ.of_eq rfl) gp.nil)))))))))))
def ir (q : LQuery) (qi : LQuery) : Option (LQuery × LQuery) :=
 ag (aH (σ := List LExpr) (ρ := Empty) (fun (_ : Nat) (x1 : LExpr) (s1 : List LExpr) =>
  ag (eg x1) fun x32 =>
  ag (cq 88 s1 ([x32] : List LExpr)) fun (x34 : List LExpr) =>
  some (.next x34)) 0 q.exprs []) fun fl1=>fl1.thenP fun (s1 : List LExpr) =>
 ag (aH (σ := List LAggregateCall) (ρ := Empty) (fun (_ : Nat) (x2 : LAggregateCall) (s2 : List LAggregateCall) =>
  ag (eQ x2.args) fun x52 =>
  ag (cq 56 s2 ([(LAggregateCall.mk x2.name x2.function x52)] : List LAggregateCall)) fun (x55 : List LAggregateCall) =>
  some (.next x55)) 0 q.aggregates []) fun fl2=>fl2.thenP fun (s2 : List LAggregateCall) =>
 ag (aT ([qi] : List LQuery) 0) fun (x63 : LQuery) =>
 ag (fw x63) fun x68 =>
 some ((LQuery.mk q.kind q.table q.names s1 s2 q.descending q.count q.offset [x68]),x68)
theorem rg {m : Nat} (q : LQuery) (qi : LQuery) (r : LQuery × LQuery) (H : ir q qi = some r) :
  dR Tryz.prog 27 [(.agg [(ac q.kind),(.str q.table),(.list 9 (q.names.map aE)),(.list 91 (q.exprs.map am)),(.list 88 (q.aggregates.map aO)),(.list 4 (q.descending.map aV)),(ac q.count),(ac q.offset),(.list 33 (([qi] : List LQuery).map ap))])] (OwnG m 33 (List.map ap r.2.inputs) (fun gz=>(.agg [(ac r.1.kind),(.str r.1.table),(.list 9 (r.1.names.map aE)),(.list 91 (r.1.exprs.map am)),(.list 88 (r.1.aggregates.map aO)),(.list 4 (r.1.descending.map aV)),(ac r.1.count),(ac r.1.offset),(.list 33 [[(ac r.2.kind),(.str r.2.table),(.list 9 (r.2.names.map aE)),(.list 91 (r.2.exprs.map am)),(.list 88 (r.2.aggregates.map aO)),(.list 4 (r.2.descending.map aV)),(ac r.2.count),(ac r.2.offset),(.val (OwnRef.val gz (r.2.inputs.map ap).length))]])]))) := by
 unfold ir at H
 refine PH.ay Tryz.func27 Tryz.ntmps27 ?_
 refine ae (aa (aI ?_))
 refine aB tk fun b2=>?_
 refine ab (ae (aa (ah tk rfl ?_)))
 refine aB tk fun b3=>?_
 refine al tk ?_
 refine ab (ae (bs tk mok ⟨false,false,[]⟩ [0,1,3,4,2,6,5,7,8,9] rfl (by decide +kernel) rfl (bf 4 rfl ?_)))
 have s13 := oV (m := 13) q.names
 refine iO (g := 72) rfl rfl rfl rfl Tryz.call72 (eJ.r) rfl rfl s13 (fun g13=>?_)
 refine bi rfl ?_
 have s16 := pj (m := 16) q.descending
 refine iO (g := 73) rfl rfl rfl rfl Tryz.call73 (eJ.r) rfl rfl s16 (fun g16=>?_)
 refine bj ?_
 refine bi rfl (bj ?_)
 refine bn (ae (aa (ah tk rfl (al tk ?_))))
 refine ah tk rfl (al tk ?_)
 refine ah tk rfl (al tk ?_)
 refine ab (ae (ae (aa (af 2 tk rfl (aC tk (zl _) ?_)))))
 refine ah tk rfl (ab (fS tk 3 3 34 (e := 91) rfl rfl rfl rfl ?_))
 refine du (γ := OwnRef) tk 25 24 23 (fun s1 g1=>upd (upd (upd (fun _=>.any) 3 (.box 3 b3 0)) 2 (.box 2 b2 0)) 1 (.ptr [(ac q.kind),(.str q.table),(.list 9 (q.names.map aE)),(.list 91 (q.exprs.map am)),(.list 88 (q.aggregates.map aO)),(.list 4 (q.descending.map aV)),(ac q.count),(ac q.offset),(.list 33 (([qi] : List LQuery).map ap))])) (fun s1 g1=>upd (upd (fun _=>none) 3 (some ⟨b3,[(ac q.kind),(.str q.table),(.own 13 g13 (q.names.map aE).length),(.own 34 g1 (s1.map am).length),(.val (.slice none 0 0)),(.own 16 g16 (q.descending.map aV).length),(ac q.count),(ac q.offset),(.val (.slice none 0 0))]⟩)) 2 (some ⟨b2,[(ac 0),(.str []),(.val (.slice none 0 0)),(.val (.slice none 0 0)),(.val (.slice none 0 0)),(.val (.slice none 0 0)),(ac 0),(ac 0),(.val (.slice none 0 0))]⟩)) (fun s1 g1=>upd (upd (upd (fun _=>none) 34 (some ⟨g1,91,(s1.map am),true⟩)) 16 (some ⟨g16,4,(q.descending.map aV),true⟩)) 13 (some ⟨g13,9,(q.names.map aE),true⟩)) (⟨none,0⟩) H (fun fl1 Hp1 j1 s1 g1 hz1 hl1 x1 fb1 hx1 H hg1=>?_) (fun s1 g1 H=>?_)
 ·refine ae (aG (ae (aa (aY tk (zn j1) (bm aQ hx1) ?_))))
  refine ah tk rfl ?_
  refine aB tk fun b5=>?_
  refine al tk ?_
  refine ab (bX 5 ?_)
  refine bs tk mok ⟨true,false,[31]⟩ [0,1,2,3,4,5,6,7] rfl (by decide +kernel) rfl (bi rfl (aU ?_))
  refine bi rfl ?_
  obtain ⟨x32,h32,H⟩ := av H
  have s32 := fZ x1 _ h32
  refine be Tryz.call74 (eJ.r) s32 ?_
  refine bi rfl ?_
  obtain ⟨x34,h34,H⟩ := av H
  have k34 := bL h34
  refine dY (rows2' := List.map am ([x32] : List LExpr)) (rows' := List.map am x34) tk rfl rfl rfl rfl rfl rfl rfl rfl rfl rfl rfl rfl rfl rfl (dz.trans (b := List.map bl [x32]) (dz.refl _) (dz.of_eq (bO aQ [x32]))) (cn k34.1) (cm k34.2.1) (ck k34.2.2) fun g34=>?_
  refine bi rfl (bj ?_)
  refine bn (bc (bC 2 tk rfl ?_))
  exact bu g34 H hl1 hg1
 refine ae (ae (aa (af 2 tk rfl (aC tk (zl _) ?_))))
 refine ah tk rfl (ab (fS tk 3 4 55 (e := 88) rfl rfl rfl rfl ?_))
 refine du (γ := OwnRef) tk 40 39 38 (fun s2 g2=>upd (upd (upd (fun _=>.any) 3 (.box 3 b3 0)) 2 (.box 2 b2 0)) 1 (.ptr [(ac q.kind),(.str q.table),(.list 9 (q.names.map aE)),(.list 91 (q.exprs.map am)),(.list 88 (q.aggregates.map aO)),(.list 4 (q.descending.map aV)),(ac q.count),(ac q.offset),(.list 33 (([qi] : List LQuery).map ap))])) (fun s2 g2=>upd (upd (fun _=>none) 3 (some ⟨b3,[(ac q.kind),(.str q.table),(.own 13 g13 (q.names.map aE).length),(.own 34 g1 (s1.map am).length),(.own 55 g2 (s2.map aO).length),(.own 16 g16 (q.descending.map aV).length),(ac q.count),(ac q.offset),(.val (.slice none 0 0))]⟩)) 2 (some ⟨b2,[(ac 0),(.str []),(.val (.slice none 0 0)),(.val (.slice none 0 0)),(.val (.slice none 0 0)),(.val (.slice none 0 0)),(ac 0),(ac 0),(.val (.slice none 0 0))]⟩)) (fun s2 g2=>upd (upd (upd (upd (fun _=>none) 55 (some ⟨g2,88,(s2.map aO),true⟩)) 34 (some ⟨g1,91,(s1.map am),true⟩)) 16 (some ⟨g16,4,(q.descending.map aV),true⟩)) 13 (some ⟨g13,9,(q.names.map aE),true⟩)) (⟨none,0⟩) H (fun fl2 Hp2 j2 s2 g2 hz2 hl2 x2 fb2 hx2 H hg2=>?_) (fun s2 g2 H=>?_)
 ·refine ae (aG (ae (aa ?_)))
  refine aY tk (zn j2) (bm (fun _=>rfl) hx2) ?_
  refine ah tk rfl ?_
  refine aB tk fun b7=>?_
  refine al tk ?_
  refine ab (bX 7 ?_)
  refine bs tk mok ⟨true,false,[47,49,51]⟩ [0,1,2,3,4,5,6,7,8,9,10,11,12,13] rfl (by decide +kernel) rfl (bi rfl (aU ?_))
  refine bf 6 rfl ?_
  obtain ⟨x52,h52,H⟩ := av H
  have s52 := jZ x2.args _ h52
  refine be Tryz.call75 (eJ.r) s52 ?_
  refine bf 2 rfl ?_
  obtain ⟨x55,h55,H⟩ := av H
  have k55 := bL h55
  refine dY (rows2' := List.map aO ([(LAggregateCall.mk x2.name x2.function x52)] : List LAggregateCall)) (rows' := List.map aO x55) tk rfl rfl rfl rfl rfl rfl rfl rfl rfl rfl rfl rfl rfl rfl (dz.refl _) (cn k55.1) (cm k55.2.1) (ck k55.2.2) fun g55=>?_
  refine bi rfl (bj ?_)
  refine bn (bc (bC 2 tk rfl ?_))
  exact bu g55 H hl2 hg2
 refine ae (ae (aa (af 2 tk rfl (aC tk (zl _) ?_))))
 refine ah tk rfl (ab (aG (V.twice (aw 1 tk rfl (ae (cM rfl (ax (ae (aG (ae (aa ?_)))))))))))
 obtain ⟨x63,k63,H⟩ := bB H
 refine aY tk k63.1 (aR aK k63.2) ?_
 refine ah tk rfl ?_
 refine aB tk fun b9=>?_
 refine al tk ?_
 refine ab (bX 9 ?_)
 refine bs tk mok ⟨true,false,[67]⟩ [0,1,2,3,4,5,6,7] rfl (by decide +kernel) rfl (bi rfl (aU ?_))
 refine bi rfl ?_
 obtain ⟨x68,h68,H⟩ := av H
 have s68 := kP (m := 68) x63 _ h68
 refine rV (g := 27) rfl rfl rfl rfl Tryz.call27 (eJ.r) rfl rfl (OwnG.le (f' := fun gz=>(.agg [(ac x68.kind),(.str x68.table),(.list 9 (x68.names.map aE)),(.list 91 (x68.exprs.map am)),(.list 88 (x68.aggregates.map aO)),(.list 4 (x68.descending.map aV)),(ac x68.count),(ac x68.offset),(.val (OwnRef.val gz (x68.inputs.map ap).length))])) s68 (fun _=>PLe.agg (eJ.cons (PLe.refl _ _) <| eJ.cons (PLe.refl _ _) <| eJ.cons (PLe.refl _ _) <| eJ.cons (PLe.refl _ _) <| eJ.cons (PLe.refl _ _) <| eJ.cons (PLe.refl _ _) <| eJ.cons (PLe.refl _ _) <| eJ.cons (PLe.refl _ _) <| eJ.cons (PLe.ownVal _ _ _ _) <| eJ.nil _))) (fun g68=>?_)
 refine bi rfl ?_
 refine rH (rows2' := [[(ac x68.kind),(.str x68.table),(.list 9 (x68.names.map aE)),(.list 91 (x68.exprs.map am)),(.list 88 (x68.aggregates.map aO)),(.list 4 (x68.descending.map aV)),(ac x68.count),(ac x68.offset),(.val (OwnRef.val g68 (x68.inputs.map ap).length))]]) tk rfl rfl rfl rfl rfl rfl rfl rfl rfl rfl rfl rfl (dz.refl _) fun g70=>?_
 refine bi rfl (bj ?_)
 refine bn (bc (bC 2 tk rfl (qZ (aw 1 tk rfl (ae ?_)))))
 refine bQ (by show au (decide ((IntKind.i64.wrap ((0 : Int) + (1 : Int))) < (([qi] : List LQuery).length : Int))) = _; rw [gN (by omega) (by omega)]; rfl) ?_
 refine db rfl (ae (aa (ak tk ?_)))
 refine al tk ?_
 refine ab ?_
 obtain rfl := az H
 refine bD 2 2 rfl rfl rfl rfl rfl (bD 2 3 rfl rfl rfl rfl rfl (bD 2 4 rfl rfl rfl rfl rfl (bD 2 5 rfl rfl rfl rfl rfl (bD 2 8 rfl rfl rfl rfl rfl ?_))))
 refine rp tk rfl (ps := [(.agg [(ac q.kind),(.str q.table),(.list 9 (q.names.map aE)),(.list 91 (s1.map am)),(.list 88 (s2.map aO)),(.list 4 (q.descending.map aV)),(ac q.count),(ac q.offset),(.list 33 [[(ac x68.kind),(.str x68.table),(.list 9 (x68.names.map aE)),(.list 91 (x68.exprs.map am)),(.list 88 (x68.aggregates.map aO)),(.list 4 (x68.descending.map aV)),(ac x68.count),(ac x68.offset),(.val (OwnRef.val g68 (x68.inputs.map ap).length))]])])]) (by exact ⟨_,_,rfl,⟨_,_,_,_,_,rfl,rfl,rfl,rfl⟩,rfl⟩) (tag := 68) rfl rfl (PLe.of2 (lZ.agg (gp.cons (lZ.of_eq rfl) (gp.cons (lZ.of_eq rfl) (gp.cons (lZ.of_eq rfl) (gp.cons (lZ.of_eq rfl) (gp.cons (lZ.of_eq rfl) (gp.cons (lZ.of_eq rfl) (gp.cons (lZ.of_eq rfl) (gp.cons (lZ.of_eq rfl) (gp.cons (lZ.of_eq rfl) gp.nil)))))))))))
def iK (e : LExpr) : Option ((List (List UInt8))) :=
 ag (eN e 2 ([] : List (List UInt8))) fun x4 =>
 some x4
theorem W_expr_Columns (e : LExpr) (r : (List (List UInt8))) (H : iK e = some r) :
  aS Tryz.prog 84 [(.agg (bl e))] (.list 9 (r.map aE)) := by
 unfold iK at H
 refine PH.ay Tryz.func84 Tryz.ntmps84 ?_
 refine ae (aa (aI ?_))
 refine ah tk rfl (ab (ae (aa (ah tk rfl (gv (Gh.nilB tk 2904 (e := 9) rfl) ?_)))))
 obtain ⟨x4,h4,H⟩ := av H
 have s4 := W_expr_names (⟨none,0⟩) e 2 ([] : List (List UInt8)) _ h4
 refine gQ (g := 120) rfl rfl rfl Tryz.call120 [] [(2904,2)] rfl rfl rfl rfl (eJ.cons (PLe.refl _ _) <| eJ.cons (PLe.refl _ _) <| eJ.cons (PLe.nilOwn _ _) <| eJ.r) (by rw [gg,fy,gd]; rfl) s4 ?_
 rintro u4 H4h ⟨gw4,rfl,rfl⟩
 refine ⟨_,rfl,?_⟩
 refine gv (st' := ⟨_,_,fun _=>none,upd (fun _=>none) 2904 (some ⟨gw4,9,(x4.map aE),true⟩)⟩) (Gh.le (fq _ _) bA (cX bw)) ?_
 refine ou 4 (q := (.own 2904 gw4 (x4.map aE).length)) rfl (PLe.of2 (lZ.own rfl)) (ah tk rfl (ab (eD 2 rfl rfl rfl ?_)))
 exact bh tk H rfl
def fu (q : LQuery) : Option (LQuery × Bool) :=
 ag (jV (q.inputs.length : Int)) fun (n1 : Nat) =>
 ag (aH (σ := List LExpr × List LQuery) (ρ := Empty) (fun (j1 : Nat) (_ : Nat) (s1 : List LExpr × List LQuery) =>
  ag (aT s1.2 (j1 : Int)) fun (x14 : LQuery) =>
  cond (x14.kind == (2 : Int))
   (ag (aT x14.exprs 0) fun (x22 : LExpr) =>
   ag (cq 88 s1.1 ([x22] : List LExpr)) fun (x25 : List LExpr) =>
   ag (aT x14.inputs 0) fun (x31 : LQuery) =>
   ag (aT s1.2 (j1 : Int)) fun (_ : LQuery) =>
   bq (s1.2.set ((j1 : Int).toNat) x31) fun (y4 : List LQuery) =>
   some (.next (x25,y4)))
   (some (.next (s1.1,s1.2)))) 0 (List.range n1) ([],q.inputs)) fun fl1=>fl1.thenP fun (s1 : List LExpr × List LQuery) =>
 ag (aT q.exprs 0) fun (x38 : LExpr) =>
 ag (cq 88 s1.1 ([x38] : List LExpr)) fun (x41 : List LExpr) =>
 ag (cz x41) fun x42 =>
 some ((LQuery.mk q.kind q.table q.names [x42] q.aggregates q.descending q.count q.offset s1.2),(decide ((s1.1.length : Int) > (0 : Int))))
theorem kS (g_q : OwnRef) (q : LQuery) (r : LQuery × Bool) (H : fu q = some r) :
  PH Tryz.prog 114 [(.agg [(ac q.kind),(.str q.table),(.list 9 (q.names.map aE)),(.list 91 (q.exprs.map am)),(.list 88 (q.aggregates.map aO)),(.list 4 (q.descending.map aV)),(ac q.count),(ac q.offset),(.own 3000 g_q (q.inputs.map ap).length)])] ⟨fun _=>none,upd (fun _=>none) 3000 (some ⟨g_q,33,(List.map ap q.inputs),true⟩)⟩ (fun u H=>u = (.tup [(.agg (ao r.1)),(au r.2)]) ∧ H = Heap.empty) := by
 unfold fu at H
 refine PH.ay Tryz.func114 Tryz.ntmps114 ?_
 refine ae (aa ?_)
 refine ii (d := 1) fun b1=>?_
 refine aB tk fun b2=>?_
 refine ah tk rfl (ab (ae (aa ?_)))
 refine lz (rows' := List.map am ([] : List LExpr)) tk rfl rfl rfl rfl rfl rfl rfl (congrArg (List.map List.length) (bO aQ ([] : List LExpr))).symm rfl (gp.trans (b := (List.map bl ([] : List LExpr)).flatten) (gp.refl _) (gp.of_eq (congrArg List.flatten (bO aQ ([] : List LExpr))))) fun g7=>?_
 refine ah tk rfl (ab (ae (ae (aa (ah tk rfl (ak tk ?_))))))
 refine gR tk (zl _) ?_
 refine ah tk rfl (ab ?_)
 obtain ⟨n1,hs1,H⟩ := av H
 have hz1 := jW hs1
 obtain ⟨fl1,H1,Hp1⟩ := av H
 refine kf (τ := List LExpr × List LQuery) (γ := OwnRef × OwnRef) (fun s1 g1=>⟨49,upd (upd (upd (fun _=>.any) 4 (.own 7 g1.1 (s1.1.map am).length)) 2 (.box 2 b2 0)) 1 (.box 1 b1 0),upd (upd (fun _=>none) 2 (some ⟨b2,[(ac 0),(.str []),(.val (.slice none 0 0)),(.val (.slice none 0 0)),(.val (.slice none 0 0)),(.val (.slice none 0 0)),(ac 0),(ac 0),(.val (.slice none 0 0))]⟩)) 1 (some ⟨b1,[(ac q.kind),(.str q.table),(.list 9 (q.names.map aE)),(.list 91 (q.exprs.map am)),(.list 88 (q.aggregates.map aO)),(.list 4 (q.descending.map aV)),(ac q.count),(ac q.offset),(.own 3000 g1.2 (s1.2.map ap).length)]⟩),upd (upd (fun _=>none) 3000 (some ⟨g1.2,33,(s1.2.map ap),true⟩)) 7 (some ⟨g1.1,91,(s1.1.map am),true⟩)⟩) (fun t=>fl1 = .next t) ?_ (fun s1 g1 hn1=>?_)
 ·refine aG ?_
  refine jC (fun j1 s1 g1=>⟨49,upd (upd (upd (upd (upd (upd (fun _=>.any) 11 (ac (j1 : Int))) 10 (ac (q.inputs.length : Int))) 9 (.own 3000 g1.2 (s1.2.map ap).length)) 4 (.own 7 g1.1 (s1.1.map am).length)) 2 (.box 2 b2 0)) 1 (.box 1 b1 0),upd (upd (fun _=>none) 2 (some ⟨b2,[(ac 0),(.str []),(.val (.slice none 0 0)),(.val (.slice none 0 0)),(.val (.slice none 0 0)),(.val (.slice none 0 0)),(ac 0),(ac 0),(.val (.slice none 0 0))]⟩)) 1 (some ⟨b1,[(ac q.kind),(.str q.table),(.list 9 (q.names.map aE)),(.list 91 (q.exprs.map am)),(.list 88 (q.aggregates.map aO)),(.list 4 (q.descending.map aV)),(ac q.count),(ac q.offset),(.own 3000 g1.2 (s1.2.map ap).length)]⟩),upd (upd (fun _=>none) 3000 (some ⟨g1.2,33,(s1.2.map ap),true⟩)) 7 (some ⟨g1.1,91,(s1.1.map am),true⟩)⟩) (g7,g_q) H1 Gh.d (fun j1 s1 g1 hj1 hr1=>?_)
  refine aw 1 tk rfl (ae ?_)
  refine cC rfl (fun h=>?_) (fun h=>?_)
  ·have hl1 := natLt hz1 h
   obtain ⟨x1,fb1,hx1,H,hg1⟩ := rMc hl1 hr1
   obtain rfl := natX hx1
   refine ax (ae (aG (ae (aa (ah tk rfl ?_)))))
   obtain ⟨x14,k14,H⟩ := bB H
   refine kw (tag := 3000) rfl (fun ho3000=>?_)
   refine jp tk ⟨k14.1,(dG k14.2)⟩ (dH ho3000 k14.2) ?_
   refine nc tk rfl rfl rfl rfl rfl rfl rfl (aR aK k14.2) rfl rfl ?_
   refine aB tk fun b6=>?_
   refine ah tk rfl (al tk ?_)
   refine ab (ae (aa (ah tk rfl (ak tk ?_))))
   refine ah tk rfl (ab ?_)
   refine aP rfl H (fun H=>?_) (fun H=>?_)
   ·refine ae (aa (af 2 tk rfl (ak tk ?_)))
    obtain ⟨x22,k22,H⟩ := bB H
    refine aY tk k22.1 (aR aQ k22.2) ?_
    refine ah tk rfl (ct tk (rows' := List.map am ([x22] : List LExpr)) (dz.trans (b := List.map bl [x22]) (dz.refl _) (dz.of_eq (bO aQ [x22]))) ?_)
    obtain ⟨x25,h25,H⟩ := av H
    have k25 := bL h25
    refine bZ (rows2' := List.map am ([x22] : List LExpr)) (rows' := List.map am x25) tk rfl rfl rfl rfl rfl rfl rfl rfl rfl rfl rfl rfl rfl (dz.refl _) (cn k25.1) (cm k25.2.1) (ck k25.2.2) fun g25=>?_
    refine ah tk rfl (ab ?_)
    refine fX (tag := 3000) rfl (fun ho3000=>?_)
    refine fX (tag := 7) rfl (fun ho7=>?_)
    refine bX 6 ?_
    refine bs tk mok ⟨true,true,[30]⟩ [0,1,2,3,4,5,6,7,8] rfl (by decide +kernel) rfl (bi rfl (aU ?_))
    refine bf 3 rfl ?_
    obtain ⟨x31,k31,H⟩ := bB H
    refine bF k31.1 (aR aK k31.2) ?_
    refine bi rfl ?_
    obtain ⟨x33,k33,H⟩ := bB H
    refine dX tk ⟨k33.1,(dG k33.2)⟩ (dH ho3000 k33.2) ?_
    obtain ⟨y4,hy4,H⟩ := cY H
    refine gM tk rfl rfl rfl rfl rfl rfl rfl rfl rfl (by rw [zl]; exact (zg.1 k33.2).1) (PLe.refl _ _) rfl rfl rfl rfl (by decide) (eR aK k33.2 rfl hy4) ?_
    refine bn (bc (bC 2 tk rfl ?_))
    exact bu (g25,g1.2) H hl1 hg1 (Gh.le (aL (aL (aL (bU (PLe.of2 (lZ.of_eq (congrArg (PV.own 3000 g1.2) (fU (f := ap) hy4)))) (aL (bU (PLe.q (jH hz1 hl1)) bM)))))) (aM rfl (eJ.of2 (gp.cons (lZ.of_eq rfl) (gp.cons (lZ.of_eq rfl) (gp.cons (lZ.of_eq rfl) (gp.cons (lZ.of_eq rfl) (gp.cons (lZ.of_eq rfl) (gp.cons (lZ.of_eq rfl) (gp.cons (lZ.of_eq rfl) (gp.cons (lZ.of_eq rfl) (gp.cons (lZ.of_eq (congrArg (PV.own 3000 g1.2) (fU (f := ap) hy4))) gp.nil)))))))))) (aM rfl (eJ.r) bA)) (cX (cX bw)))
   refine ax (bc (bC 2 tk rfl ?_))
   exact bu (g1.1,g1.2) H hl1 hg1 (Gh.le (aL (aL (aL (aL (aL (bU (PLe.q (jH hz1 hl1)) bM)))))) (aM rfl (eJ.r) (aM rfl (eJ.r) bA)) (cX (cX bw)))
  have hn1 := rMd (natGe hz1 h) hr1
  refine db rfl ?_
  refine aJ s1 g1 hn1 Gh.d
 have H := kU hn1 Hp1
 refine ae (aa (af 2 tk rfl (ak tk ?_)))
 obtain ⟨x38,k38,H⟩ := bB H
 refine aY tk k38.1 (aR aQ k38.2) ?_
 refine ah tk rfl (ct tk (rows' := List.map am ([x38] : List LExpr)) (dz.trans (b := List.map bl [x38]) (dz.refl _) (dz.of_eq (bO aQ [x38]))) ?_)
 obtain ⟨x41,h41,H⟩ := av H
 have k41 := bL h41
 refine bZ (rows2' := List.map am ([x38] : List LExpr)) (rows' := List.map am x41) tk rfl rfl rfl rfl rfl rfl rfl rfl rfl rfl rfl rfl rfl (dz.refl _) (cn k41.1) (cm k41.2.1) (ck k41.2.2) fun g41=>?_
 refine gv (Gh.freezeO 41 rfl rfl rfl) ?_
 obtain ⟨x42,h42,H⟩ := av H
 have s42 := fe x41 _ h42
 refine aq Tryz.call173 (eJ.r) s42 ?_
 refine lz (rows' := List.map am ([x42] : List LExpr)) tk rfl rfl rfl rfl rfl rfl rfl (congrArg (List.map List.length) (bO aQ ([x42] : List LExpr))).symm rfl (gp.trans (b := (List.map bl ([x42] : List LExpr)).flatten) (gp.refl _) (gp.of_eq (congrArg List.flatten (bO aQ ([x42] : List LExpr))))) fun g43=>?_
 refine ah tk rfl (al tk ?_)
 refine ab (ae (aa (ak tk ?_)))
 refine ah tk rfl (gR tk (zl _) ?_)
 refine ah tk rfl (al tk ?_)
 refine ah tk rfl (ab ?_)
 obtain rfl := az H
 refine bD 2 3 rfl rfl rfl rfl rfl (bD 2 8 rfl rfl rfl rfl rfl ?_)
 refine bd tk rfl (ps := [(.agg [(ac q.kind),(.str q.table),(.list 9 (q.names.map aE)),(.list 91 (([x42] : List LExpr).map am)),(.list 88 (q.aggregates.map aO)),(.list 4 (q.descending.map aV)),(ac q.count),(ac q.offset),(.list 33 (s1.2.map ap))]),(au (decide ((s1.1.length : Int) > (0 : Int))))]) ⟨_,_,rfl,⟨_,_,_,_,_,rfl,rfl,rfl,rfl⟩,_,_,rfl,rfl,rfl⟩ (PLe.q rfl)
def kd (rec9 : LQuery → LQuery → Option (Bool)) (a : LQuery) (b : LQuery) : Option (Bool) :=
 cond (a.kind == b.kind)
  (cond (a.table == b.table)
   (cond (a.count == b.count)
    (cond (a.offset == b.offset)
     (ag (dq a.names b.names) fun x37 =>
     cond x37
      (ag (ec a.descending b.descending) fun x44 =>
      cond x44
       (ag (ba a.exprs b.exprs (fun a0 a1=>gV a0 a1)) fun x51 =>
       cond x51
        (ag (aZ a.aggregates b.aggregates (fun a0 a1=>fA a0 a1)) fun x59 =>
        cond x59
         (ag (bt a.inputs b.inputs (fun a0 a1=>rec9 a0 a1)) fun x66 =>
         some x66)
         (some false))
        (some false))
       (some false))
      (some false))
     (some false))
    (some false))
   (some false))
  (some false)
theorem WO_query_Equal (rec9 : LQuery → LQuery → Option (Bool)) (hrec9 : ∀ a0 a1 r,rec9 a0 a1 = some r → aS Tryz.prog 9 [(.agg (ao a0)),(.agg (ao a1))] (au r)) (a : LQuery) (b : LQuery) (r : Bool) (H : kd rec9 a b = some r) :
  aS Tryz.prog 9 [(.agg (ao a)),(.agg (ao b))] (au r) := by
 unfold kd at H
 refine PH.ay Tryz.func9 Tryz.ntmps9 ?_
 refine ae (aa (aI ?_))
 refine aI ?_
 refine ah tk rfl (ab (aw 1 tk rfl (ae (aa (af 6 tk rfl ?_)))))
 refine aN rfl rfl rfl H (fun H=>?_) (fun H=>?_)
 ·refine af 7 tk rfl ?_
  refine aN rfl rfl rfl H (fun H=>?_) (fun H=>?_)
  ·refine af 7 tk rfl ?_
   refine aN rfl rfl rfl H (fun H=>?_) (fun H=>?_)
   ·refine af 7 tk rfl ?_
    refine aN rfl rfl rfl H (fun H=>?_) (fun H=>?_)
    ·refine af 4 tk rfl ?_
     obtain ⟨x37,h37,H⟩ := av H
     have s37 := ld a.names b.names _ h37
     refine aq Tryz.call31 (eJ.r) s37 ?_
     refine af 2 tk rfl ?_
     refine aN rfl rfl rfl H (fun H=>?_) (fun H=>?_)
     ·refine af 4 tk rfl ?_
      obtain ⟨x44,h44,H⟩ := av H
      have s44 := mt a.descending b.descending _ h44
      refine aq Tryz.call32 (eJ.r) s44 ?_
      refine af 2 tk rfl ?_
      refine aN rfl rfl rfl H (fun H=>?_) (fun H=>?_)
      ·refine af 4 tk rfl ?_
       obtain ⟨x51,h51,H⟩ := av H
       have s51 := ci a.exprs b.exprs (fun a0 a1=>gV a0 a1) Tryz.call30 (fun a0 a1 r h=>pF a0 a1 r h) _ h51
       refine aq Tryz.call29 (eJ.r) s51 ?_
       refine af 2 tk rfl ?_
       refine aN rfl rfl rfl H (fun H=>?_) (fun H=>?_)
       ·refine af 5 tk rfl ?_
        obtain ⟨x59,h59,H⟩ := av H
        have s59 := cN a.aggregates b.aggregates (fun a0 a1=>fA a0 a1) Tryz.call28 (fun a0 a1 r h=>ra a0 a1 r h) _ h59
        refine aq Tryz.call33 (eJ.r) s59 ?_
        refine af 2 tk rfl ?_
        refine aN rfl rfl rfl H (fun H=>?_) (fun H=>?_)
        ·refine af 4 tk rfl ?_
         obtain ⟨x66,h66,H⟩ := av H
         have s66 := eu a.inputs b.inputs (fun a0 a1=>rec9 a0 a1) Tryz.call9 (fun a0 a1 r h=>hrec9 a0 a1 r h) _ h66
         refine aq Tryz.call34 (eJ.r) s66 ?_
         refine af 2 tk rfl (ab ?_)
         exact bh tk H rfl
        refine af 7 tk rfl (ab ?_)
        exact bh tk H rfl
       refine af 15 tk rfl (ab ?_)
       exact bh tk H rfl
      refine af 22 tk rfl (ab ?_)
      exact bh tk H rfl
     refine af 29 tk rfl (ab ?_)
     exact bh tk H rfl
    refine af 36 tk rfl (ab ?_)
    exact bh tk H rfl
   refine af 43 tk rfl ?_
   refine ab ?_
   exact bh tk H rfl
  refine af 50 tk rfl ?_
  refine ab ?_
  exact bh tk H rfl
 refine af 57 tk rfl ?_
 refine ab ?_
 exact bh tk H rfl
def fI : Nat → LQuery → LQuery → Option (Bool)
 | 0,_,_=>none
 | n + 1,v0,v1=>kd (fun b0 b1=>fI n b0 b1) v0 v1
theorem WF_query_Equal  (n : Nat) : (∀ a0 a1 r,fI n a0 a1 = some r → aS Tryz.prog 9 [(.agg (ao a0)),(.agg (ao a1))] (au r)) := by
 induction n with
 | zero=>exact (by intros; rename_i h; exact absurd (show (none : Option _) = some _ from h) (by simp))
 | succ n ih =>
  exact (fun v0 v1 r h=>WO_query_Equal (fun b0 b1=>fI n b0 b1) ih v0 v1  r h)
def lU (a : LQuery) (b : LQuery) : Option (Bool) := eT fun n=>fI n a b
theorem W_query_Equal (a : LQuery) (b : LQuery) (r : Bool) (H : lU a b = some r) :
  aS Tryz.prog 9 [(.agg (ao a)),(.agg (ao b))] (au r) := by
 obtain ⟨n,h⟩ := eA H
 exact (WF_query_Equal  n) a b r h
def dI (sA : LSchema) (c : LConstraint) : Option (Int) :=
 ag (el sA c.table) fun x14 =>
 cond (!x14.2)
  (some 4)
  (ag (aT sA.tables x14.1) fun (x22 : LTable) =>
  bq (fF (LVal.mk 0 0 []) c.op (LVal.mk 0 0 [])) fun x30 =>
  bq (
   cond (decide (c.left < (0 : Int)))
    (true)
    (cond (decide (c.left ≥ (x22.columns.length : Int)))
     (true)
     (cond (x30.2 != (0 : Int))
      (true)
      (cond (decide (c.right < (-1)))
       (true)
       (cond (decide (c.right ≥ (x22.columns.length : Int)))
        (true)
        (cond (decide (c.right ≥ (0 : Int)))
         ((!(c.value.kind == (0 : Int) && (c.value.int == (0 : Int) && (c.value.text == ([] : List UInt8) && true)))))
         (false))))))) fun (t1 : Bool) =>
  cond t1
   (some 3)
   (cond (decide (c.right ≥ (0 : Int)))
    (ag (aT x22.columns c.left) fun (x76 : LCol) =>
    ag (aT x22.columns c.right) fun (x82 : LCol) =>
    cond (x76.kind != x82.kind)
     (some 7)
     (some 0))
    (ag (aT x22.columns c.left) fun (x92 : LCol) =>
    cond (c.value.kind != x92.kind)
     (some 7)
     (bq (iV c.value) fun x98 =>
     some x98))))
theorem lO (sA : LSchema) (c : LConstraint) (r : Int) (H : dI sA c = some r) :
  aS Tryz.prog 68 [(.agg (aD sA)),(.agg (it c))] (ac r) := by
 unfold dI at H
 refine PH.ay Tryz.func68 Tryz.ntmps68 ?_
 refine ae (aa (aI ?_))
 refine aI ?_
 refine ah tk rfl (ab (ae (aa (af 3 tk rfl ?_))))
 obtain ⟨x14,h14,H⟩ := av H
 have s14 := jw sA c.table _ h14
 refine aq Tryz.call104 (eJ.r) s14 ?_
 refine af 5 tk rfl (ab (ae (aw 2 tk rfl ?_)))
 refine aP rfl H (fun H=>?_) (fun H=>?_)
 ·refine aw 1 tk rfl ?_
  exact bh tk H rfl
 refine ax (ae (aa (af 3 tk rfl ?_)))
 obtain ⟨x22,k22,H⟩ := bB H
 refine aY tk k22.1 (aR (fun _=>rfl) k22.2) ?_
 refine af 3 tk rfl (ab (ae (aa (af 4 tk rfl ?_))))
 obtain ⟨x30,h30,H⟩ := cY H
 have s30 := qt (LVal.mk 0 0 []) c.op (LVal.mk 0 0 [])
 rw [h30] at s30
 refine aq Tryz.call107 (eJ.r) s30 ?_
 refine af 5 tk rfl (ab (ae (ae ?_)))
 refine cg (γ := Unit) (fun t1 g1=>⟨99,upd (upd (upd (fun _=>.any) 69 (au t1)) 7 (.list 68 (x22.columns.map bg))) 3 (.ptr (it c)),fun _=>none,fun _=>none⟩) H (fun _ H=>?_) (fun t1 g1 H=>?_)
 ·refine aa (af 4 tk rfl ?_)
  refine aN rfl rfl rfl H (fun H=>?_) (fun H=>?_)
  ·refine af 33 tk rfl (ab ?_)
   refine aJ _ () H Gh.d
  refine af 3 tk rfl (aC tk (zl _) ?_)
  refine af 3 tk rfl ?_
  refine aN rfl rfl rfl H (fun H=>?_) (fun H=>?_)
  ·refine af 26 tk rfl (ab ?_)
   refine aJ _ () H Gh.d
  refine af 4 tk rfl ?_
  refine aN rfl rfl rfl H (fun H=>?_) (fun H=>?_)
  ·refine af 22 tk rfl (ab ?_)
   refine aJ _ () H Gh.d
  refine af 5 tk rfl ?_
  refine aN rfl rfl rfl H (fun H=>?_) (fun H=>?_)
  ·refine af 17 tk rfl (ab ?_)
   refine aJ _ () H Gh.d
  refine af 3 tk rfl (aC tk (zl _) ?_)
  refine af 3 tk rfl ?_
  refine aN rfl rfl rfl H (fun H=>?_) (fun H=>?_)
  ·refine af 10 tk rfl (ab ?_)
   refine aJ _ () H Gh.d
  refine af 4 tk rfl ?_
  refine aN rfl rfl rfl H (fun H=>?_) (fun H=>?_)
  ·refine af 6 tk rfl (ab ?_)
   refine aJ _ () H Gh.d
  refine af 6 tk rfl (ab ?_)
  refine aJ _ () H Gh.d
 refine aP rfl H (fun H=>?_) (fun H=>?_)
 ·refine aw 1 tk rfl ?_
  exact bh tk H rfl
 refine ax (ae (aw 3 tk rfl ?_))
 refine aP rfl H (fun H=>?_) (fun H=>?_)
 ·refine ae (ae (bs tk mok ⟨false,false,[]⟩ [0,1,2,3,4,5,6,7,8,9,10,11,12] rfl (by decide +kernel) rfl (bf 3 rfl ?_)))
  obtain ⟨x76,k76,H⟩ := bB H
  refine bF k76.1 (aR (fun _=>rfl) k76.2) ?_
  refine bf 5 rfl ?_
  obtain ⟨x82,k82,H⟩ := bB H
  refine bF k82.1 (aR (fun _=>rfl) k82.2) ?_
  refine bf 3 rfl (bn ?_)
  refine aP rfl H (fun H=>?_) (fun H=>?_)
  ·refine aw 1 tk rfl ?_
   exact bh tk H rfl
  refine ax (aw 1 tk rfl ?_)
  exact bh tk H rfl
 refine ax (ae (ae (bs tk mok ⟨false,false,[]⟩ [0,1,2,3,4,5,6,7,8,9] rfl (by decide +kernel) rfl (bf 6 rfl ?_))))
 obtain ⟨x92,k92,H⟩ := bB H
 refine bF k92.1 (aR (fun _=>rfl) k92.2) ?_
 refine bf 3 rfl (bn ?_)
 refine aP rfl H (fun H=>?_) (fun H=>?_)
 ·refine aw 1 tk rfl ?_
  exact bh tk H rfl
 refine ax (ae (aa (af 2 tk rfl ?_)))
 obtain ⟨x98,h98,H⟩ := cY H
 have s98 := qX c.value
 rw [h98] at s98
 refine aq Tryz.call108 (eJ.r) s98 ?_
 refine ah tk rfl (ab ?_)
 exact bh tk H rfl
def dy (c : LChecker) (q : LQuery) (inA : List LCol) : Option ((List LCol) × Int) :=
 ag (aH (σ := List LCol) (ρ := ((List LCol) × Int)) (fun (j1 : Nat) (x1 : LExpr) (s1 : List LCol) =>
  bq (dA inA c.vars x1) fun x31 =>
  ag (aT q.names (j1 : Int)) fun (x39 : List UInt8) =>
  bq (cR x39) fun x41 =>
  cond (!x41)
   (some (.ret ([],3)))
   (cond (x31.2.2 != (0 : Int))
    (some (.ret ([],x31.2.2)))
    (cond (x31.1 == (0 : Int))
     (some (.ret ([],7)))
     (ag (aT q.names (j1 : Int)) fun (x54 : List UInt8) =>
     ag (cq 32 s1 ([(LCol.mk x54 x31.1 x31.2.1)] : List LCol)) fun (x60 : List LCol) =>
     some (.next x60))))) 0 q.exprs []) fun fl1=>fl1.thenR fun (s1 : List LCol) =>
 ag (aH (σ := List LCol) (ρ := ((List LCol) × Int)) (fun (_ : Nat) (x2 : LAggregateCall) (s2 : List LCol) =>
  ag (eH c inA x2) fun x73 =>
  cond (x73.2 != (0 : Int))
   (some (.ret ([],x73.2)))
   (ag (cq 32 s2 ([(LCol.mk x2.name x73.1 (!(x2.function == ([99,111,117,110,116] : List UInt8))))] : List LCol)) fun (x88 : List LCol) =>
   some (.next x88))) 0 q.aggregates s1) fun fl2=>fl2.thenR fun (s2 : List LCol) =>
 some (s2,0)
theorem lr (c : LChecker) (q : LQuery) (inA : List LCol) (r : (List LCol) × Int) (H : dy c q inA = some r) :
  aS Tryz.prog 233 [(.agg (de c)),(.agg (ao q)),(.list 68 (inA.map bg))] (.tup [(.list 68 (r.1.map bg)),(ac r.2)]) := by
 unfold dy at H
 refine PH.ay Tryz.func233 Tryz.ntmps233 ?_
 refine ae (aa (aI ?_))
 refine aI ?_
 refine af 2 tk rfl (ab (aw 1 tk rfl (ae (ae (aa (af 2 tk rfl (aC tk (zl _) ?_)))))))
 refine ah tk rfl (ab (iI tk 8 60 (e := 68) rfl rfl ?_))
 refine ew (γ := OwnRef) tk 21 20 19 (fun s1 g1=>upd (upd (upd (upd (fun _=>.any) 8 (.own 60 g1 (s1.map bg).length)) 4 (.ptr (ao q))) 3 (.ptr (de c))) 2 (.list 68 (inA.map bg))) nB (fun s1 g1=>upd (fun _=>none) 60 (some ⟨g1,68,(s1.map bg),true⟩)) (⟨none,0⟩) H (fun fl1 Hp1 j1 s1 g1 hz1 hl1 x1 fb1 hx1 H hg1=>?_) (fun s1 g1 H=>?_)
 ·refine ae (aG (ae (aa (ah tk rfl (aY tk (zn j1) (bm aQ hx1) ?_)))))
  refine ah tk rfl ?_
  refine aB tk fun b10=>?_
  refine ah tk rfl (al tk ?_)
  refine ab (ae (aa (af 3 tk rfl (ak tk ?_))))
  obtain ⟨x31,h31,H⟩ := cY H
  have s31 := lC inA c.vars x1
  rw [h31] at s31
  refine aq Tryz.call132 (eJ.r) s31 ?_
  refine af 7 tk rfl (ab (ae (aG (ae (aa (af 3 tk rfl ?_))))))
  obtain ⟨x39,k39,H⟩ := bB H
  refine aY tk k39.1 (aR (fun _=>rfl) k39.2) ?_
  refine ah tk rfl ?_
  obtain ⟨x41,h41,H⟩ := cY H
  have s41 := kO x39
  rw [h41] at s41
  refine aq Tryz.call127 (eJ.r) s41 ?_
  refine af 2 tk rfl (ab ?_)
  refine aP rfl H (fun H=>?_) (fun H=>?_)
  ·refine aw 2 tk rfl ?_
   obtain rfl := az H
   have e1 : fl1 = .ret _ := hg1
   subst e1
   obtain rfl := br Hp1
   refine bd tk rfl (ps := [(.val (.slice none 0 0)),(ac 3)]) ⟨_,_,rfl,rfl,_,_,rfl,rfl,rfl⟩ (PLe.of2 (lZ.tup (gp.cons (lZ.nil tk rfl) (gp.cons (lZ.of_eq rfl) gp.nil))))
  refine aw 3 tk rfl ?_
  refine aP rfl H (fun H=>?_) (fun H=>?_)
  ·refine aw 3 tk rfl ?_
   obtain rfl := az H
   have e1 : fl1 = .ret _ := hg1
   subst e1
   obtain rfl := br Hp1
   refine bd tk rfl (ps := [(.val (.slice none 0 0)),(ac x31.2.2)]) ⟨_,_,rfl,rfl,_,_,rfl,rfl,rfl⟩ (PLe.of2 (lZ.tup (gp.cons (lZ.nil tk rfl) (gp.cons (lZ.of_eq rfl) gp.nil))))
  refine aw 3 tk rfl ?_
  refine aP rfl H (fun H=>?_) (fun H=>?_)
  ·refine aw 2 tk rfl ?_
   obtain rfl := az H
   have e1 : fl1 = .ret _ := hg1
   subst e1
   obtain rfl := br Hp1
   refine bd tk rfl (ps := [(.val (.slice none 0 0)),(ac 7)]) ⟨_,_,rfl,rfl,_,_,rfl,rfl,rfl⟩ (PLe.of2 (lZ.tup (gp.cons (lZ.nil tk rfl) (gp.cons (lZ.of_eq rfl) gp.nil))))
  refine ax (bc (aa (af 4 tk rfl ?_)))
  obtain ⟨x54,k54,H⟩ := bB H
  refine aY tk k54.1 (aR (fun _=>rfl) k54.2) ?_
  refine af 4 tk rfl (ct tk (rows' := List.map bg ([(LCol.mk x54 x31.1 x31.2.1)] : List LCol)) (dz.refl _) ?_)
  obtain ⟨x60,h60,H⟩ := av H
  have k60 := bL h60
  refine bZ (rows2' := List.map bg ([(LCol.mk x54 x31.1 x31.2.1)] : List LCol)) (rows' := List.map bg x60) tk rfl rfl rfl rfl rfl rfl rfl rfl rfl rfl rfl rfl rfl (dz.refl _) (cn k60.1) (cm k60.2.1) (ck k60.2.2) fun g60=>?_
  refine ah tk rfl (ab (bc (bC 2 tk rfl ?_)))
  exact bu g60 H hl1 hg1
 refine ae (ae (aa (af 2 tk rfl (aC tk (zl _) ?_))))
 refine ah tk rfl (ab ?_)
 refine ew (γ := OwnRef) tk 65 64 63 (fun s2 g2=>upd (upd (upd (fun _=>.any) 8 (.own 60 g2 (s2.map bg).length)) 3 (.ptr (de c))) 2 (.list 68 (inA.map bg))) nB (fun s2 g2=>upd (fun _=>none) 60 (some ⟨g2,68,(s2.map bg),true⟩)) g1 H (fun fl2 Hp2 j2 s2 g2 hz2 hl2 x2 fb2 hx2 H hg2=>?_) (fun s2 g2 H=>?_)
 ·refine ae (aG (ae (aa ?_)))
  refine aY tk (zn j2) (bm (fun _=>rfl) hx2) ?_
  refine ah tk rfl ?_
  refine aB tk fun b15=>?_
  refine al tk ?_
  refine ab (ae (aa (af 2 tk rfl (ak tk ?_))))
  obtain ⟨x73,h73,H⟩ := av H
  have s73 := pC c inA x2 _ h73
  refine aq Tryz.call267 (eJ.r) s73 ?_
  refine af 5 tk rfl (ab (ae (aw 2 tk rfl ?_)))
  refine aP rfl H (fun H=>?_) (fun H=>?_)
  ·refine aw 3 tk rfl ?_
   obtain rfl := az H
   have e2 : fl2 = .ret _ := hg2
   subst e2
   obtain rfl := br Hp2
   refine bd tk rfl (ps := [(.val (.slice none 0 0)),(ac x73.2)]) ⟨_,_,rfl,rfl,_,_,rfl,rfl,rfl⟩ (PLe.of2 (lZ.tup (gp.cons (lZ.nil tk rfl) (gp.cons (lZ.of_eq rfl) gp.nil))))
  refine ax (aa (af 2 tk rfl (ak tk ?_)))
  refine af 2 tk rfl (ak tk ?_)
  refine af 2 tk rfl ?_
  refine ct tk (rows' := List.map bg ([(LCol.mk x2.name x73.1 (!(x2.function == ([99,111,117,110,116] : List UInt8))))] : List LCol)) (dz.refl _) ?_
  obtain ⟨x88,h88,H⟩ := av H
  have k88 := bL h88
  refine bZ (rows2' := List.map bg ([(LCol.mk x2.name x73.1 (!(x2.function == ([99,111,117,110,116] : List UInt8))))] : List LCol)) (rows' := List.map bg x88) tk rfl rfl rfl rfl rfl rfl rfl rfl rfl rfl rfl rfl rfl (dz.refl _) (cn k88.1) (cm k88.2.1) (ck k88.2.2) fun g88=>?_
  refine ah tk rfl (ab (bc (bC 2 tk rfl ?_)))
  exact bu g88 H hl2 hg2
 refine aw 3 tk rfl (eD 6 rfl rfl rfl ?_)
 exact bh tk H rfl
def dN (e : LExpr) (l : List (List UInt8)) : Option (Bool) :=
 ag (iK e) fun x6 =>
 ag (cI x6 (fun a0=>eZ a0 l)) fun x8 =>
 some (!x8)
theorem iM (e : LExpr) (l : List (List UInt8)) (r : Bool) (H : dN e l = some r) :
  aS Tryz.prog 176 [(.agg (bl e)),(.list 9 (l.map aE))] (au r) := by
 unfold dN at H
 refine PH.ay Tryz.func176 Tryz.ntmps176 ?_
 refine ae (aa (aI ?_))
 refine aI ?_
 refine ah tk rfl (ab (ae (aa (ah tk rfl ?_))))
 obtain ⟨x6,h6,H⟩ := av H
 have s6 := W_expr_Columns e _ h6
 refine aq Tryz.call84 (eJ.r) s6 ?_
 refine ah tk rfl ?_
 obtain ⟨x8,h8,H⟩ := av H
 have s8 := jx x6 (fun a0=>eZ a0 l) Tryz.call235 (fun a0 r h=>pE a0 l r h) _ h8
 refine aq Tryz.call36 (eJ.r) s8 ?_
 refine af 2 tk rfl (ab ?_)
 exact bh tk H rfl
def gH (sA : LSchema) : Option (Int) :=
 bq (
  cond (decide ((sA.tables.length : Int) > (6 : Int)))
   (true)
   (cond (decide ((sA.foreignKeys.length : Int) > (8 : Int)))
    (true)
    ((decide ((sA.constraints.length : Int) > (8 : Int)))))) fun (t1 : Bool) =>
 cond t1
  (some 2)
  (ag (aH (σ := Unit) (ρ := (Int)) (fun (j2 : Nat) (x2 : LTable) (_ : Unit) =>
   ag (dV x2) fun x37 =>
   cond (x37 != (0 : Int))
    (some (.ret x37))
    (cond (decide ((j2 : Int) > (0 : Int)))
     (ag (aT sA.tables (IntKind.i64.wrap ((j2 : Int) - (1 : Int)))) fun (x50 : LTable) =>
     cond (Op.bytesLess x2.name x50.name || x2.name == x50.name)
      (some (.ret 6))
      (some (.next ())))
     (some (.next ())))) 0 sA.tables ()) fun fl2=>fl2.thenR fun (_ : Unit) =>
  ag (aH (σ := Unit) (ρ := (Int)) (fun (j3 : Nat) (x3 : LForeignKey) (_ : Unit) =>
   ag (dF sA x3) fun x66 =>
   cond (x66 != (0 : Int))
    (some (.ret x66))
    (ag (kI sA.foreignKeys 0 (j3 : Int)) fun (x73 : List LForeignKey) =>
    ag (bI x73 (fun a0=>eG a0 x3)) fun x75 =>
    cond x75
     (some (.ret 5))
     (some (.next ())))) 0 sA.foreignKeys ()) fun fl3=>fl3.thenR fun (_ : Unit) =>
  ag (aH (σ := Unit) (ρ := (Int)) (fun (j4 : Nat) (x4 : LConstraint) (_ : Unit) =>
   ag (dI sA x4) fun x87 =>
   cond (x87 != (0 : Int))
    (some (.ret x87))
    (ag (kI sA.constraints 0 (j4 : Int)) fun (x94 : List LConstraint) =>
    ag (bN x94 x4) fun x96 =>
    cond x96
     (some (.ret 5))
     (some (.next ())))) 0 sA.constraints ()) fun fl4=>fl4.thenR fun (_ : Unit) =>
  some 0)
theorem qC (sA : LSchema) (r : Int) (H : gH sA = some r) :
  aS Tryz.prog 24 [(.agg (aD sA))] (ac r) := by
 unfold gH at H
 refine PH.ay Tryz.func24 Tryz.ntmps24 ?_
 refine ae (aa (aI ?_))
 refine ah tk rfl (ab (ae (ae ?_)))
 refine cg (γ := Unit) (fun t1 g1=>⟨98,upd (upd (fun _=>.any) 27 (au t1)) 1 (.ptr (aD sA)),fun _=>none,fun _=>none⟩) H (fun _ H=>?_) (fun t1 g1 H=>?_)
 ·refine aa (af 2 tk rfl (aC tk (zl _) ?_))
  refine af 2 tk rfl ?_
  refine aN rfl rfl rfl H (fun H=>?_) (fun H=>?_)
  ·refine af 11 tk rfl (ab ?_)
   refine aJ _ () H Gh.d
  refine af 2 tk rfl (aC tk (zl _) ?_)
  refine af 3 tk rfl ?_
  refine aN rfl rfl rfl H (fun H=>?_) (fun H=>?_)
  ·refine af 5 tk rfl (ab ?_)
   refine aJ _ () H Gh.d
  refine af 2 tk rfl (aC tk (zl _) ?_)
  refine af 2 tk rfl (ab ?_)
  refine aJ _ () H Gh.d
 refine aP rfl H (fun H=>?_) (fun H=>?_)
 ·refine aw 1 tk rfl ?_
  exact bh tk H rfl
 refine ax (ae (ae (aa (af 2 tk rfl (aC tk (zl _) ?_)))))
 refine ah tk rfl (ab ?_)
 refine ew tk 31 30 29 (fun s2 g2=>upd (fun _=>.any) 1 (.ptr (aD sA))) nB nO () H (fun fl2 Hp2 j2 s2 g2 hz2 hl2 x2 fb2 hx2 H hg2=>?_) (fun s2 g2 H=>?_)
 ·refine ae (aG (ae (aa (ah tk rfl ?_))))
  refine aY tk (zn j2) (bm (fun _=>rfl) hx2) ?_
  refine ah tk rfl ?_
  refine aB tk fun b4=>?_
  refine ah tk rfl (al tk ?_)
  refine ab (ae (ae (aa (ak tk ?_))))
  obtain ⟨x37,h37,H⟩ := av H
  have s37 := nR x2 _ h37
  refine aq Tryz.call63 (eJ.r) s37 ?_
  refine ah tk rfl (ab (aw 2 tk rfl ?_))
  refine aP rfl H (fun H=>?_) (fun H=>?_)
  ·refine aw 2 tk rfl ?_
   obtain rfl := az H
   have e2 : fl2 = .ret _ := hg2
   subst e2
   obtain rfl := br Hp2
   refine bd tk rfl (ps := [(ac x37)]) ⟨_,_,rfl,rfl,rfl⟩ (PLe.q rfl)
  refine ax (ae (bs tk mok ⟨true,false,[47,52]⟩ [0,1,2,3,4,5,6,7,8,9,10,11,12,13] rfl (by decide +kernel) rfl (bf 3 rfl ?_)))
  refine ri rfl rfl rfl rfl H (fun H=>?_) (fun H=>?_)
  ·refine bi rfl (aU ?_)
   refine bf 4 rfl ?_
   obtain ⟨x50,k50,H⟩ := bB H
   refine bF k50.1 (aR (fun _=>rfl) k50.2) ?_
   refine bf 4 rfl (bn ?_)
   refine aP rfl H (fun H=>?_) (fun H=>?_)
   ·refine aw 1 tk rfl ?_
    obtain rfl := az H
    have e2 : fl2 = .ret _ := hg2
    subst e2
    obtain rfl := br Hp2
    refine bd tk rfl (ps := [(ac 6)]) ⟨_,_,rfl,rfl,rfl⟩ (PLe.q rfl)
   refine ax (bc (bC 2 tk rfl ?_))
   exact bu () H hl2 hg2
  refine bf 11 rfl (bn (bQ rfl (ax (bc (bC 2 tk rfl ?_)))))
  exact bu () H hl2 hg2
 refine ae (ae (aa (af 2 tk rfl (aC tk (zl _) ?_))))
 refine ah tk rfl (ab ?_)
 refine ew tk 59 58 57 (fun s3 g3=>upd (fun _=>.any) 1 (.ptr (aD sA))) nB nO () H (fun fl3 Hp3 j3 s3 g3 hz3 hl3 x3 fb3 hx3 H hg3=>?_) (fun s3 g3 H=>?_)
 ·refine ae (aG (ae (aa (ah tk rfl ?_))))
  refine aY tk (zn j3) (bm (fun _=>rfl) hx3) ?_
  refine ah tk rfl ?_
  refine aB tk fun b7=>?_
  refine ah tk rfl (al tk ?_)
  refine ab (ae (ae (aa (ah tk rfl (ak tk ?_)))))
  obtain ⟨x66,h66,H⟩ := av H
  have s66 := lT sA x3 _ h66
  refine aq Tryz.call64 (eJ.r) s66 ?_
  refine ah tk rfl (ab (aw 2 tk rfl ?_))
  refine aP rfl H (fun H=>?_) (fun H=>?_)
  ·refine aw 2 tk rfl ?_
   obtain rfl := az H
   have e3 : fl3 = .ret _ := hg3
   subst e3
   obtain rfl := br Hp3
   refine bd tk rfl (ps := [(ac x66)]) ⟨_,_,rfl,rfl,rfl⟩ (PLe.q rfl)
  refine ax (ae (aa (af 3 tk rfl ?_)))
  obtain ⟨x73,h73,H⟩ := av H
  have k73 := lI h73
  refine rz tk rfl rfl rfl rfl rfl (zl _) rfl rfl k73.1 (mK k73.2) rfl (gv (Gh.freezeB 7 rfl rfl rfl rfl) (ah tk rfl ?_))
  obtain ⟨x75,h75,H⟩ := av H
  have s75 := gD x73 (fun a0=>eG a0 x3) Tryz.call66 (fun a0 r h=>pB a0 x3 r h) _ h75
  refine aq Tryz.call65 (eJ.r) s75 ?_
  refine ab ?_
  refine aP rfl H (fun H=>?_) (fun H=>?_)
  ·refine aw 1 tk rfl ?_
   obtain rfl := az H
   have e3 : fl3 = .ret _ := hg3
   subst e3
   obtain rfl := br Hp3
   refine bd tk rfl (ps := [(ac 5)]) ⟨_,_,rfl,rfl,rfl⟩ (PLe.q rfl)
  refine ax (bc (bC 2 tk rfl ?_))
  exact bu () H hl3 hg3
 refine ae (ae (aa (af 2 tk rfl (aC tk (zl _) ?_))))
 refine ah tk rfl (ab ?_)
 refine ew tk 80 79 78 (fun s4 g4=>upd (fun _=>.any) 1 (.ptr (aD sA))) nB nO () H (fun fl4 Hp4 j4 s4 g4 hz4 hl4 x4 fb4 hx4 H hg4=>?_) (fun s4 g4 H=>?_)
 ·refine ae (aG (ae (aa (ah tk rfl ?_))))
  refine aY tk (zn j4) (bm (fun _=>rfl) hx4) ?_
  refine ah tk rfl ?_
  refine aB tk fun b10=>?_
  refine ah tk rfl (al tk ?_)
  refine ab (ae (ae (aa (ah tk rfl (ak tk ?_)))))
  obtain ⟨x87,h87,H⟩ := av H
  have s87 := lO sA x4 _ h87
  refine aq Tryz.call68 (eJ.r) s87 ?_
  refine ah tk rfl (ab (aw 2 tk rfl ?_))
  refine aP rfl H (fun H=>?_) (fun H=>?_)
  ·refine aw 2 tk rfl ?_
   obtain rfl := az H
   have e4 : fl4 = .ret _ := hg4
   subst e4
   obtain rfl := br Hp4
   refine bd tk rfl (ps := [(ac x87)]) ⟨_,_,rfl,rfl,rfl⟩ (PLe.q rfl)
  refine ax (ae (bs tk mok ⟨true,false,[92]⟩ [0,1,2,3,4,5] rfl (by decide +kernel) rfl (bf 3 rfl ?_)))
  obtain ⟨x94,h94,H⟩ := av H
  have k94 := lI h94
  refine rM rfl rfl rfl rfl rfl rfl (zl _) rfl rfl k94.1 (mK k94.2) rfl (aU ?_)
  obtain ⟨x96,h96,H⟩ := av H
  have s96 := gX x94 x4 _ h96
  refine be Tryz.call69 (eJ.r) s96 ?_
  refine bn ?_
  refine aP rfl H (fun H=>?_) (fun H=>?_)
  ·refine aw 1 tk rfl ?_
   obtain rfl := az H
   have e4 : fl4 = .ret _ := hg4
   subst e4
   obtain rfl := br Hp4
   refine bd tk rfl (ps := [(ac 5)]) ⟨_,_,rfl,rfl,rfl⟩ (PLe.q rfl)
  refine ax (bc (bC 2 tk rfl ?_))
  exact bu () H hl4 hg4
 refine aw 1 tk rfl ?_
 exact bh tk H rfl
def fO (c : LChecker) (q : LQuery) (inA : List (List LCol)) : Option ((List LCol) × Int) :=
 cond (q.kind == (1 : Int))
  (ag (cr c.s.tables (fun a0=>some (dw a0 q))) fun x25 =>
  cond (decide (x25 < (0 : Int)))
   (some ([],4))
   (ag (aT c.s.tables x25) fun (x32 : LTable) =>
   some (x32.columns,0)))
  (cond (q.kind == (2 : Int))
   (ag (aT inA 0) fun (x39 : List LCol) =>
   ag (aT inA 0) fun (x43 : List LCol) =>
   ag (aT q.exprs 0) fun (x47 : LExpr) =>
   bq (ca c x43 x47) fun x49 =>
   some (x39,x49))
   (bq (
    cond (q.kind == (4 : Int))
     ((q.kind == (4 : Int)))
     ((q.kind == (5 : Int)))) fun (t1 : Bool) =>
   cond t1
    (ag (aT inA 0) fun (x54 : List LCol) =>
    ag (aT inA 1) fun (x58 : List LCol) =>
    ag (aH (σ := List LCol) (ρ := Empty) (fun (_ : Nat) (x2 : LCol) (s2 : List LCol) =>
     cond x2.nullable
      (ag (cq 32 s2 ([(LCol.mk x2.name x2.kind true)] : List LCol)) fun (x76 : List LCol) =>
      some (.next x76))
      (ag (cq 32 s2 ([(LCol.mk x2.name x2.kind (q.kind == (5 : Int)))] : List LCol)) fun (x76 : List LCol) =>
      some (.next x76))) 0 x58 x54) fun fl2=>fl2.thenP fun (s2 : List LCol) =>
    ag (aT q.exprs 0) fun (x83 : LExpr) =>
    bq (ca c s2 x83) fun x85 =>
    some (s2,x85))
    (bq (
     cond (q.kind == (6 : Int))
      ((q.kind == (6 : Int)))
      ((q.kind == (7 : Int)))) fun (t3 : Bool) =>
    cond t3
     (ag (aT inA 0) fun (x92 : List LCol) =>
     ag (aT inA 1) fun (x95 : List LCol) =>
     ag (gf q.kind x92 x95) fun x97 =>
     some (x97.1,x97.2))
     (bq (
      cond (q.kind == (3 : Int))
       ((q.kind == (3 : Int)))
       ((q.kind == (8 : Int)))) fun (t4 : Bool) =>
     cond t4
      (ag (aT inA 0) fun (x106 : List LCol) =>
      ag (dy c q x106) fun x108 =>
      some (x108.1,x108.2))
      (cond (q.kind == (9 : Int))
       (ag (aH (σ := Unit) (ρ := ((List LCol) × Int)) (fun (_ : Nat) (x5 : LExpr) (_ : Unit) =>
        ag (aT inA 0) fun (x122 : List LCol) =>
        bq (dA x122 c.vars x5) fun x127 =>
        cond (x127.2.2 != (0 : Int))
         (some (.ret ([],x127.2.2)))
         (some (.next ()))) 0 q.exprs ()) fun fl5=>fl5.thenR fun (_ : Unit) =>
       ag (aT inA 0) fun (x136 : List LCol) =>
       some (x136,0))
       (ag (aT inA 0) fun (x136 : List LCol) =>
       some (x136,0)))))))
theorem pz (c : LChecker) (q : LQuery) (inA : List (List LCol)) (r : (List LCol) × Int) (H : fO c q inA = some r) :
  aS Tryz.prog 169 [(.agg (de c)),(.agg (ao q)),(.list 60 (inA.map (jm 68 bg)))] (.tup [(.list 68 (r.1.map bg)),(ac r.2)]) := by
 unfold fO at H
 refine PH.ay Tryz.func169 Tryz.ntmps169 ?_
 refine ae (aa (aI ?_))
 refine aI ?_
 refine af 2 tk rfl (ab (ae (aw 2 tk rfl (aG (aw 2 tk rfl ?_)))))
 refine aP rfl H (fun H=>?_) (fun H=>?_)
 ·refine ae (aa (af 4 tk rfl ?_))
  obtain ⟨x25,h25,H⟩ := av H
  have s25 := fJ c.s.tables (fun a0=>some (dw a0 q)) Tryz.call230 (fun a0 r h=>(az h) ▸ ol a0 q) _ h25
  refine aq Tryz.call165 (eJ.r) s25 ?_
  refine ah tk rfl (ab (ae (aw 2 tk rfl ?_)))
  refine aP rfl H (fun H=>?_) (fun H=>?_)
  ·refine aw 2 tk rfl ?_
   obtain rfl := az H
   refine bd tk rfl (ps := [(.val (.slice none 0 0)),(ac 4)]) ⟨_,_,rfl,rfl,_,_,rfl,rfl,rfl⟩ (PLe.of2 (lZ.tup (gp.cons (lZ.nil tk rfl) (gp.cons (lZ.of_eq rfl) gp.nil))))
  refine ax (ae (aa (af 4 tk rfl ?_)))
  obtain ⟨x32,k32,H⟩ := bB H
  refine aY tk k32.1 (aR (fun _=>rfl) k32.2) ?_
  refine af 2 tk rfl ?_
  have s35 := qd (m := 35) x32.columns
  refine aq Tryz.call195 (eJ.r) (PFun.fh s35) ?_
  refine af 2 tk rfl (ab ?_)
  exact bh tk H rfl
 refine aw 2 tk rfl ?_
 refine aP rfl H (fun H=>?_) (fun H=>?_)
 ·refine ae (bs tk mok ⟨false,false,[]⟩ [0,1,2,3,4,5,6,7,8,9,10,11,12,13] rfl (by decide +kernel) rfl (bi rfl ?_))
  obtain ⟨x39,k39,H⟩ := bB H
  refine bF k39.1 (aR (fun _=>rfl) k39.2) ?_
  refine bf 3 rfl ?_
  obtain ⟨x43,k43,H⟩ := bB H
  refine bF k43.1 (aR (fun _=>rfl) k43.2) ?_
  refine bf 3 rfl ?_
  obtain ⟨x47,k47,H⟩ := bB H
  refine bF k47.1 (aR aQ k47.2) ?_
  refine bi rfl ?_
  obtain ⟨x49,h49,H⟩ := cY H
  have s49 := jl c x43 x47
  rw [h49] at s49
  refine be Tryz.call231 (eJ.r) s49 ?_
  refine bf 2 rfl (bn ?_)
  exact bh tk H rfl
 refine ae (aw 2 tk rfl ?_)
 refine cg (γ := Unit) (fun t1 g1=>⟨138,upd (upd (upd (upd (upd (fun _=>.any) 50 (au t1)) 18 (ac q.kind)) 4 (.ptr (ao q))) 3 (.ptr (de c))) 2 (.list 60 (inA.map (jm 68 bg))),fun _=>none,fun _=>none⟩) H (fun _ H=>?_) (fun t1 g1 H=>?_)
 ·refine aP rfl H (fun H=>?_) (fun H=>?_)
  ·refine ax ?_
   refine aJ _ () H Gh.d
  refine bC 2 tk rfl ?_
  refine aJ _ () H Gh.d
 refine aP rfl H (fun H=>?_) (fun H=>?_)
 ·refine ae (aa (ah tk rfl ?_))
  obtain ⟨x54,k54,H⟩ := bB H
  refine aY tk k54.1 (aR (fun _=>rfl) k54.2) ?_
  refine ah tk rfl ?_
  have s56 := qd (m := 56) x54
  refine qU (g := 195) rfl rfl rfl Tryz.call195 (eJ.r) rfl rfl s56 (fun g56=>?_)
  refine ah tk rfl (ab (ae (ae (aa (ah tk rfl ?_)))))
  obtain ⟨x58,k58,H⟩ := bB H
  refine aY tk k58.1 (aR (fun _=>rfl) k58.2) ?_
  refine ah tk rfl (aC tk (zl _) ?_)
  refine ah tk rfl (ab ?_)
  refine du (γ := OwnRef) tk 61 60 59 (fun s2 g2=>upd (upd (upd (fun _=>.any) 9 (.own 56 g2 (s2.map bg).length)) 4 (.ptr (ao q))) 3 (.ptr (de c))) nB (fun s2 g2=>upd (fun _=>none) 56 (some ⟨g2,68,(s2.map bg),true⟩)) g56 H (fun fl2 Hp2 j2 s2 g2 hz2 hl2 x2 fb2 hx2 H hg2=>?_) (fun s2 g2 H=>?_)
  ·refine ae (aG (ae (aa ?_)))
   refine aY tk (zn j2) (bm (fun _=>rfl) hx2) ?_
   refine ah tk rfl ?_
   refine aB tk fun b11=>?_
   refine al tk ?_
   refine ab (ae (aa (ah tk rfl (ak tk ?_))))
   refine ah tk rfl ?_
   refine aN rfl rfl rfl H (fun H=>?_) (fun H=>?_)
   ·refine af 5 tk rfl (al tk ?_)
    refine ab (aa (ah tk rfl (ak tk ?_)))
    refine ct tk (rows' := List.map bg ([(LCol.mk x2.name x2.kind true)] : List LCol)) (dz.refl _) ?_
    obtain ⟨x76,h76,H⟩ := av H
    have k76 := bL h76
    refine bZ (rows2' := List.map bg ([(LCol.mk x2.name x2.kind true)] : List LCol)) (rows' := List.map bg x76) tk rfl rfl rfl rfl rfl rfl rfl rfl rfl rfl rfl rfl rfl (dz.refl _) (cn k76.1) (cm k76.2.1) (ck k76.2.2) fun g76=>?_
    refine ah tk rfl (ab (bc (bC 2 tk rfl ?_)))
    exact bu g76 H hl2 hg2
   refine af 5 tk rfl (al tk ?_)
   refine ab (aa (ah tk rfl (ak tk ?_)))
   refine ct tk (rows' := List.map bg ([(LCol.mk x2.name x2.kind (q.kind == (5 : Int)))] : List LCol)) (dz.refl _) ?_
   obtain ⟨x76,h76,H⟩ := av H
   have k76 := bL h76
   refine bZ (rows2' := List.map bg ([(LCol.mk x2.name x2.kind (q.kind == (5 : Int)))] : List LCol)) (rows' := List.map bg x76) tk rfl rfl rfl rfl rfl rfl rfl rfl rfl rfl rfl rfl rfl (dz.refl _) (cn k76.1) (cm k76.2.1) (ck k76.2.2) fun g76=>?_
   refine ah tk rfl (ab (bc (bC 2 tk rfl ?_)))
   exact bu g76 H hl2 hg2
  refine ae (eD 9 rfl rfl rfl (bs tk mok ⟨false,false,[]⟩ [0,1,2,3,4,5,6,7,8,9] rfl (by decide +kernel) rfl (bf 5 rfl ?_)))
  obtain ⟨x83,k83,H⟩ := bB H
  refine bF k83.1 (aR aQ k83.2) ?_
  refine bi rfl ?_
  obtain ⟨x85,h85,H⟩ := cY H
  have s85 := jl c s2 x83
  rw [h85] at s85
  refine be Tryz.call231 (eJ.r) s85 ?_
  refine bf 2 rfl (bn ?_)
  exact bh tk H rfl
 refine ae (aw 2 tk rfl ?_)
 refine cg (γ := Unit) (fun t3 g3=>⟨138,upd (upd (upd (upd (upd (fun _=>.any) 86 (au t3)) 18 (ac q.kind)) 4 (.ptr (ao q))) 3 (.ptr (de c))) 2 (.list 60 (inA.map (jm 68 bg))),fun _=>none,fun _=>none⟩) H (fun _ H=>?_) (fun t3 g3 H=>?_)
 ·refine aP rfl H (fun H=>?_) (fun H=>?_)
  ·refine ax ?_
   refine aJ _ () H Gh.d
  refine bC 2 tk rfl ?_
  refine aJ _ () H Gh.d
 refine aP rfl H (fun H=>?_) (fun H=>?_)
 ·refine ae (bs tk mok ⟨false,false,[]⟩ [0,1,2,3,4,5,6,7,8,9,10,11,12] rfl (by decide +kernel) rfl (bf 3 rfl ?_))
  obtain ⟨x92,k92,H⟩ := bB H
  refine bF k92.1 (aR (fun _=>rfl) k92.2) ?_
  refine bf 2 rfl ?_
  obtain ⟨x95,k95,H⟩ := bB H
  refine bF k95.1 (aR (fun _=>rfl) k95.2) ?_
  refine bi rfl ?_
  obtain ⟨x97,h97,H⟩ := av H
  have s97 := pK q.kind x92 x95 _ h97
  refine be Tryz.call232 (eJ.r) s97 ?_
  refine bf 4 rfl (bn ?_)
  exact bh tk H rfl
 refine ae (aw 2 tk rfl ?_)
 refine cg (γ := Unit) (fun t4 g4=>⟨138,upd (upd (upd (upd (upd (fun _=>.any) 100 (au t4)) 18 (ac q.kind)) 4 (.ptr (ao q))) 3 (.ptr (de c))) 2 (.list 60 (inA.map (jm 68 bg))),fun _=>none,fun _=>none⟩) H (fun _ H=>?_) (fun t4 g4 H=>?_)
 ·refine aP rfl H (fun H=>?_) (fun H=>?_)
  ·refine ax ?_
   refine aJ _ () H Gh.d
  refine bC 2 tk rfl ?_
  refine aJ _ () H Gh.d
 refine aP rfl H (fun H=>?_) (fun H=>?_)
 ·refine ae (bs tk mok ⟨false,false,[]⟩ [0,1,2,3,4,5,6,7,8,9] rfl (by decide +kernel) rfl (bf 3 rfl ?_))
  obtain ⟨x106,k106,H⟩ := bB H
  refine bF k106.1 (aR (fun _=>rfl) k106.2) ?_
  refine bi rfl ?_
  obtain ⟨x108,h108,H⟩ := av H
  have s108 := lr c q x106 _ h108
  refine be Tryz.call233 (eJ.r) s108 ?_
  refine bf 4 rfl (bn ?_)
  exact bh tk H rfl
 refine aw 2 tk rfl ?_
 refine aP rfl H (fun H=>?_) (fun H=>?_)
 ·refine ae (aa (af 2 tk rfl (aC tk (zl _) ?_)))
  refine ah tk rfl (ab ?_)
  refine ew tk 116 115 114 (fun s5 g5=>upd (upd (fun _=>.any) 3 (.ptr (de c))) 2 (.list 60 (inA.map (jm 68 bg)))) nB nO () H (fun fl5 Hp5 j5 s5 g5 hz5 hl5 x5 fb5 hx5 H hg5=>?_) (fun s5 g5 H=>?_)
  ·refine ae (aG (ae (aa (aY tk (zn j5) (bm aQ hx5) ?_))))
   refine ah tk rfl ?_
   refine aB tk fun b13=>?_
   refine al tk ?_
   refine ab (ae (bs tk mok ⟨true,false,[123,125]⟩ [0,1,2,3,4,5,6,7,8,9,10,11,12,13] rfl (by decide +kernel) rfl (bi rfl ?_)))
   obtain ⟨x122,k122,H⟩ := bB H
   refine bF k122.1 (aR (fun _=>rfl) k122.2) ?_
   refine bf 3 rfl (aU ?_)
   obtain ⟨x127,h127,H⟩ := cY H
   have s127 := lC x122 c.vars x5
   rw [h127] at s127
   refine be Tryz.call132 (eJ.r) s127 ?_
   refine bf 7 rfl (bn (aw 2 tk rfl ?_))
   refine aP rfl H (fun H=>?_) (fun H=>?_)
   ·refine aw 3 tk rfl ?_
    obtain rfl := az H
    have e5 : fl5 = .ret _ := hg5
    subst e5
    obtain rfl := br Hp5
    refine bd tk rfl (ps := [(.val (.slice none 0 0)),(ac x127.2.2)]) ⟨_,_,rfl,rfl,_,_,rfl,rfl,rfl⟩ (PLe.of2 (lZ.tup (gp.cons (lZ.nil tk rfl) (gp.cons (lZ.of_eq rfl) gp.nil))))
   refine ax (bc (bC 2 tk rfl ?_))
   exact bu () H hl5 hg5
  refine bc (ae (aa (ah tk rfl ?_)))
  obtain ⟨x136,k136,H⟩ := bB H
  refine aY tk k136.1 (aR (fun _=>rfl) k136.2) ?_
  refine af 3 tk rfl (ab ?_)
  exact bh tk H rfl
 refine ax (bc (ae (aa (ah tk rfl ?_))))
 obtain ⟨x136,k136,H⟩ := bB H
 refine aY tk k136.1 (aR (fun _=>rfl) k136.2) ?_
 refine af 3 tk rfl (ab ?_)
 exact bh tk H rfl
def dJ (rec112 : LChecker → LQuery → Option ((List LCol) × Int)) (c : LChecker) (q : LQuery) : Option ((List LCol) × Int) :=
 ag (iX q) fun x16 =>
 cond (!x16)
  (some ([],3))
  (ag (aH (σ := List (List LCol)) (ρ := ((List LCol) × Int)) (fun (_ : Nat) (x1 : LQuery) (s1 : List (List LCol)) =>
   ag (rec112 c x1) fun x28 =>
   cond (x28.2 != (0 : Int))
    (some (.ret ([],x28.2)))
    (ag (cq 24 s1 ([x28.1] : List (List LCol))) fun (x37 : List (List LCol)) =>
    some (.next x37))) 0 q.inputs []) fun fl1=>fl1.thenR fun (s1 : List (List LCol)) =>
  ag (fO c q s1) fun x43 =>
  cond (x43.2 != (0 : Int))
   (some ([],x43.2))
   (cond (decide ((x43.1.length : Int) > (20 : Int)))
    (some ([],2))
    (ag (aH (σ := Unit) (ρ := ((List LCol) × Int)) (fun (j2 : Nat) (x2 : LCol) (_ : Unit) =>
     ag (kI x43.1 0 (j2 : Int)) fun (x61 : List LCol) =>
     ag (bK x61 (fun a0=>some (bS a0 x2))) fun x63 =>
     cond x63
      (some (.ret ([],23)))
      (some (.next ()))) 0 x43.1 ()) fun fl2=>fl2.thenR fun (_ : Unit) =>
    some (x43.1,0))))
theorem mT (rec112 : LChecker → LQuery → Option ((List LCol) × Int)) (hrec112 : ∀ a0 a1 r,rec112 a0 a1 = some r → aS Tryz.prog 112 [(.agg (de a0)),(.agg (ao a1))] (.tup [(.list 68 (r.1.map bg)),(ac r.2)])) (c : LChecker) (q : LQuery) (r : (List LCol) × Int) (H : dJ rec112 c q = some r) :
  aS Tryz.prog 112 [(.agg (de c)),(.agg (ao q))] (.tup [(.list 68 (r.1.map bg)),(ac r.2)]) := by
 unfold dJ at H
 refine PH.ay Tryz.func112 Tryz.ntmps112 ?_
 refine ae (aa (aI ?_))
 refine aI ?_
 refine af 2 tk rfl (ab (ae (ae (aa (ah tk rfl ?_)))))
 obtain ⟨x16,h16,H⟩ := av H
 have s16 := W_query_shape q _ h16
 refine aq Tryz.call168 (eJ.r) s16 ?_
 refine ah tk rfl (ab ?_)
 refine aP rfl H (fun H=>?_) (fun H=>?_)
 ·refine aw 2 tk rfl ?_
  obtain rfl := az H
  refine bd tk rfl (ps := [(.val (.slice none 0 0)),(ac 3)]) ⟨_,_,rfl,rfl,_,_,rfl,rfl,rfl⟩ (PLe.of2 (lZ.tup (gp.cons (lZ.nil tk rfl) (gp.cons (lZ.of_eq rfl) gp.nil))))
 refine ax (aw 1 tk rfl (ae (ae (aa (af 2 tk rfl (aC tk (zl _) ?_))))))
 refine ah tk rfl (ab (iI tk 6 37 (e := 60) rfl rfl ?_))
 refine ew (γ := OwnRef) tk 21 20 19 (fun s1 g1=>upd (upd (upd (fun _=>.any) 6 (.own 37 g1 (s1.map (jm 68 bg)).length)) 3 (.ptr (ao q))) 2 (.ptr (de c))) nB (fun s1 g1=>upd (fun _=>none) 37 (some ⟨g1,60,(s1.map (jm 68 bg)),true⟩)) (⟨none,0⟩) H (fun fl1 Hp1 j1 s1 g1 hz1 hl1 x1 fb1 hx1 H hg1=>?_) (fun s1 g1 H=>?_)
 ·refine ae (aG (ae (aa (aY tk (zn j1) (bm aK hx1) ?_))))
  refine ah tk rfl ?_
  refine aB tk fun b8=>?_
  refine al tk ?_
  refine ab (ae (aa (ah tk rfl (ak tk ?_))))
  obtain ⟨x28,h28,H⟩ := av H
  have s28 := hrec112 c x1 _ h28
  refine aq Tryz.call112 (eJ.r) s28 ?_
  refine af 5 tk rfl (ab (ae (aw 2 tk rfl ?_)))
  refine aP rfl H (fun H=>?_) (fun H=>?_)
  ·refine aw 3 tk rfl ?_
   obtain rfl := az H
   have e1 : fl1 = .ret _ := hg1
   subst e1
   obtain rfl := br Hp1
   refine bd tk rfl (ps := [(.val (.slice none 0 0)),(ac x28.2)]) ⟨_,_,rfl,rfl,_,_,rfl,rfl,rfl⟩ (PLe.of2 (lZ.tup (gp.cons (lZ.nil tk rfl) (gp.cons (lZ.of_eq rfl) gp.nil))))
  refine ax (aa (af 2 tk rfl (ct tk (rows' := List.map (jm 68 bg) ([x28.1] : List (List LCol))) (dz.refl _) ?_)))
  obtain ⟨x37,h37,H⟩ := av H
  have k37 := bL h37
  refine bZ (rows2' := List.map (jm 68 bg) ([x28.1] : List (List LCol))) (rows' := List.map (jm 68 bg) x37) tk rfl rfl rfl rfl rfl rfl rfl rfl rfl rfl rfl rfl rfl (dz.refl _) (cn k37.1) (cm k37.2.1) (ck k37.2.2) fun g37=>?_
  refine ah tk rfl (ab (bc (bC 2 tk rfl ?_)))
  exact bu g37 H hl1 hg1
 refine ae (eD 6 rfl rfl rfl (aa (af 3 tk rfl ?_)))
 obtain ⟨x43,h43,H⟩ := av H
 have s43 := pz c q s1 _ h43
 refine aq Tryz.call169 (eJ.r) s43 ?_
 refine af 5 tk rfl (ab (ae (aw 2 tk rfl ?_)))
 refine aP rfl H (fun H=>?_) (fun H=>?_)
 ·refine aw 3 tk rfl ?_
  obtain rfl := az H
  refine bd tk rfl (ps := [(.val (.slice none 0 0)),(ac x43.2)]) ⟨_,_,rfl,rfl,_,_,rfl,rfl,rfl⟩ (PLe.of2 (lZ.tup (gp.cons (lZ.nil tk rfl) (gp.cons (lZ.of_eq rfl) gp.nil))))
 refine ax (ae (ae (aa (ah tk rfl (aC tk (zl _) ?_)))))
 refine ah tk rfl (ab ?_)
 refine aP rfl H (fun H=>?_) (fun H=>?_)
 ·refine aw 2 tk rfl ?_
  obtain rfl := az H
  refine bd tk rfl (ps := [(.val (.slice none 0 0)),(ac 2)]) ⟨_,_,rfl,rfl,_,_,rfl,rfl,rfl⟩ (PLe.of2 (lZ.tup (gp.cons (lZ.nil tk rfl) (gp.cons (lZ.of_eq rfl) gp.nil))))
 refine ax (ae (ae (aa (ah tk rfl (aC tk (zl _) ?_)))))
 refine ah tk rfl (ab ?_)
 refine ew tk 54 53 52 (fun s2 g2=>upd (fun _=>.any) 11 (.list 68 (x43.1.map bg))) nB nO () H (fun fl2 Hp2 j2 s2 g2 hz2 hl2 x2 fb2 hx2 H hg2=>?_) (fun s2 g2 H=>?_)
 ·refine ae (aG (ae (aa (ah tk rfl ?_))))
  refine aY tk (zn j2) (bm (fun _=>rfl) hx2) ?_
  refine ah tk rfl ?_
  refine aB tk fun b14=>?_
  refine ah tk rfl (al tk ?_)
  refine ab (ae (aa (af 2 tk rfl ?_)))
  obtain ⟨x61,h61,H⟩ := av H
  have k61 := lI h61
  refine rz tk rfl rfl rfl rfl rfl (zl _) rfl rfl k61.1 (mK k61.2) rfl (gv (Gh.freezeB 14 rfl rfl rfl rfl) (ah tk rfl ?_))
  obtain ⟨x63,h63,H⟩ := av H
  have s63 := iz x61 (fun a0=>some (bS a0 x2)) Tryz.call171 (fun a0 r h=>(az h) ▸ mp a0 x2) _ h63
  refine aq Tryz.call170 (eJ.r) s63 ?_
  refine ab ?_
  refine aP rfl H (fun H=>?_) (fun H=>?_)
  ·refine aw 2 tk rfl ?_
   obtain rfl := az H
   have e2 : fl2 = .ret _ := hg2
   subst e2
   obtain rfl := br Hp2
   refine bd tk rfl (ps := [(.val (.slice none 0 0)),(ac 23)]) ⟨_,_,rfl,rfl,_,_,rfl,rfl,rfl⟩ (PLe.of2 (lZ.tup (gp.cons (lZ.nil tk rfl) (gp.cons (lZ.of_eq rfl) gp.nil))))
  refine ax (bc (bC 2 tk rfl ?_))
  exact bu () H hl2 hg2
 refine aw 3 tk rfl ?_
 exact bh tk H rfl
def dL : Nat → LChecker → LQuery → Option ((List LCol) × Int)
 | 0,_,_=>none
 | n + 1,v0,v1=>dJ (fun b0 b1=>dL n b0 b1) v0 v1
theorem mU  (n : Nat) : (∀ a0 a1 r,dL n a0 a1 = some r → aS Tryz.prog 112 [(.agg (de a0)),(.agg (ao a1))] (.tup [(.list 68 (r.1.map bg)),(ac r.2)])) := by
 induction n with
 | zero=>exact (by intros; rename_i h; exact absurd (show (none : Option _) = some _ from h) (by simp))
 | succ n ih =>
  exact (fun v0 v1 r h=>mT (fun b0 b1=>dL n b0 b1) ih v0 v1  r h)
def eo (c : LChecker) (q : LQuery) : Option ((List LCol) × Int) := eT fun n=>dL n c q
theorem ni (c : LChecker) (q : LQuery) (r : (List LCol) × Int) (H : eo c q = some r) :
  aS Tryz.prog 112 [(.agg (de c)),(.agg (ao q))] (.tup [(.list 68 (r.1.map bg)),(ac r.2)]) := by
 obtain ⟨n,h⟩ := eA H
 exact (mU  n) c q r h
def fN (sA : LSchema) (vars : List LCol) (q : LQuery) : Option ((List LCol) × Int) :=
 ag (
  ag (ic q) fun x12 =>
  cond (decide ((x12.length : Int) > (24 : Int)))
   (some true)
   (ag (iY q) fun x17 =>
   cond (decide (x17 > (12 : Int)))
    (some true)
    (ag (eC q) fun x22 =>
    some (decide (x22 > (20000 : Int)))))) fun (t1 : Bool) =>
 cond t1
  (some ([],2))
  (ag (eI q) fun x27 =>
  cond (x27.2 != (0 : Int))
   (some ([],x27.2))
   (ag (eo (LChecker.mk sA vars) q) fun x38 =>
   some (x38.1,x38.2)))
theorem pA (sA : LSchema) (vars : List LCol) (q : LQuery) (r : (List LCol) × Int) (H : fN sA vars q = some r) :
  aS Tryz.prog 70 [(.agg (aD sA)),(.list 68 (vars.map bg)),(.agg (ao q))] (.tup [(.list 68 (r.1.map bg)),(ac r.2)]) := by
 unfold fN at H
 refine PH.ay Tryz.func70 Tryz.ntmps70 ?_
 refine ae (aa (aI ?_))
 refine aI ?_
 refine af 2 tk rfl (ab (ae (ae ?_)))
 refine bY (γ := Unit) (fun t1 g1=>⟨41,upd (upd (upd (upd (fun _=>.any) 24 (au t1)) 5 (.ptr (ao q))) 3 (.ptr (aD sA))) 1 (.list 68 (vars.map bg)),fun _=>none,fun _=>none⟩) H (fun _ H=>?_) (fun t1 g1 H=>?_)
 ·refine aa (ah tk rfl ?_)
  obtain ⟨x12,h12,H⟩ := av H
  have s12 := pq (m := 12) q _ h12
  refine aq Tryz.call43 (eJ.r) (PFun.fh s12) ?_
  refine aC tk (zl _) ?_
  refine af 2 tk rfl ?_
  refine aN rfl rfl rfl H (fun H=>?_) (fun H=>?_)
  ·refine af 9 tk rfl (ab ?_)
   refine aJ _ () (az H) Gh.d
  refine ah tk rfl ?_
  obtain ⟨x17,h17,H⟩ := av H
  have s17 := W_query_depth q _ h17
  refine aq Tryz.call110 (eJ.r) s17 ?_
  refine af 3 tk rfl ?_
  refine aN rfl rfl rfl H (fun H=>?_) (fun H=>?_)
  ·refine af 4 tk rfl (ab ?_)
   refine aJ _ () (az H) Gh.d
  refine ah tk rfl ?_
  obtain ⟨x22,h22,H⟩ := av H
  have s22 := lH q _ h22
  refine aq Tryz.call111 (eJ.r) s22 ?_
  refine af 2 tk rfl (ab ?_)
  refine aJ _ () (az H) Gh.d
 refine aP rfl H (fun H=>?_) (fun H=>?_)
 ·refine aw 2 tk rfl ?_
  obtain rfl := az H
  refine bd tk rfl (ps := [(.val (.slice none 0 0)),(ac 2)]) ⟨_,_,rfl,rfl,_,_,rfl,rfl,rfl⟩ (PLe.of2 (lZ.tup (gp.cons (lZ.nil tk rfl) (gp.cons (lZ.of_eq rfl) gp.nil))))
 refine ax (ae (ae (aa (ah tk rfl ?_))))
 obtain ⟨x27,h27,H⟩ := av H
 have s27 := nL q _ h27
 refine aq Tryz.call12 (eJ.r) s27 ?_
 refine af 5 tk rfl (ab (aw 2 tk rfl ?_))
 refine aP rfl H (fun H=>?_) (fun H=>?_)
 ·refine aw 3 tk rfl ?_
  obtain rfl := az H
  refine bd tk rfl (ps := [(.val (.slice none 0 0)),(ac x27.2)]) ⟨_,_,rfl,rfl,_,_,rfl,rfl,rfl⟩ (PLe.of2 (lZ.tup (gp.cons (lZ.nil tk rfl) (gp.cons (lZ.of_eq rfl) gp.nil))))
 refine ax (ae (aa (af 3 tk rfl ?_)))
 refine aB tk fun b10=>?_
 refine al tk ?_
 refine ab (ae (aa (ak tk ?_)))
 refine ah tk rfl ?_
 obtain ⟨x38,h38,H⟩ := av H
 have s38 := ni (LChecker.mk sA vars) q _ h38
 refine aq Tryz.call112 (eJ.r) s38 ?_
 refine af 4 tk rfl (ab ?_)
 exact bh tk H rfl
def cb (sA : LSchema) (q : LQuery) : Option ((List LCol) × Int) :=
 ag (fN sA ([] : List LCol) q) fun x8 =>
 some (x8.1,x8.2)
theorem dP (sA : LSchema) (q : LQuery) (r : (List LCol) × Int) (H : cb sA q = some r) :
  aS Tryz.prog 25 [(.agg (aD sA)),(.agg (ao q))] (.tup [(.list 68 (r.1.map bg)),(ac r.2)]) := by
 unfold cb at H
 refine PH.ay Tryz.func25 Tryz.ntmps25 ?_
 refine ae (aa (aI ?_))
 refine aI ?_
 refine af 2 tk rfl (ab (ae (aa (af 2 tk rfl ?_))))
 obtain ⟨x8,h8,H⟩ := av H
 have s8 := pA sA ([] : List LCol) q _ h8
 refine aq Tryz.call70 (eJ.of2 (gp.cons (lZ.of_eq rfl) (gp.cons (lZ.nil tk rfl) (gp.cons (lZ.of_eq rfl) gp.nil)))) s8 ?_
 refine af 4 tk rfl (ab ?_)
 exact bh tk H rfl
def gF (sA : LSchema) (q : LQuery) : Option (Bool) :=
 ag (
  ag (km q 400) fun x8 =>
  cond (decide (x8 < (0 : Int)))
   (some true)
   (ag (gH sA) fun x12 =>
   some (x12 != (0 : Int)))) fun (t1 : Bool) =>
 cond t1
  (some false)
  (ag (cb sA q) fun x18 =>
  some (x18.2 == (0 : Int)))
theorem qv (sA : LSchema) (q : LQuery) (r : Bool) (H : gF sA q = some r) :
  aS Tryz.prog 7 [(.agg (aD sA)),(.agg (ao q))] (au r) := by
 unfold gF at H
 refine PH.ay Tryz.func7 Tryz.ntmps7 ?_
 refine ae (aa (aI ?_))
 refine aI ?_
 refine ah tk rfl (ab (ae (ae ?_)))
 refine bY (γ := Unit) (fun t1 g1=>⟨23,upd (upd (upd (fun _=>.any) 14 (au t1)) 3 (.ptr (ao q))) 2 (.ptr (aD sA)),fun _=>none,fun _=>none⟩) H (fun _ H=>?_) (fun t1 g1 H=>?_)
 ·refine aa (ah tk rfl ?_)
  obtain ⟨x8,h8,H⟩ := av H
  have s8 := qY q 400 _ h8
  refine aq Tryz.call23 (eJ.r) s8 ?_
  refine af 2 tk rfl ?_
  refine aN rfl rfl rfl H (fun H=>?_) (fun H=>?_)
  ·refine af 4 tk rfl (ab ?_)
   refine aJ _ () (az H) Gh.d
  refine ah tk rfl ?_
  obtain ⟨x12,h12,H⟩ := av H
  have s12 := qC sA _ h12
  refine aq Tryz.call24 (eJ.r) s12 ?_
  refine af 2 tk rfl (ab ?_)
  refine aJ _ () (az H) Gh.d
 refine aP rfl H (fun H=>?_) (fun H=>?_)
 ·refine aw 1 tk rfl ?_
  exact bh tk H rfl
 refine ax (ae (aa (af 2 tk rfl ?_)))
 obtain ⟨x18,h18,H⟩ := av H
 have s18 := dP sA q _ h18
 refine aq Tryz.call25 (eJ.r) s18 ?_
 refine af 5 tk rfl (ab (aw 3 tk rfl ?_))
 exact bh tk H rfl
def bR (m : LRewriteRewriter) (q : LQuery) : Option ((List (List UInt8))) :=
 ag (cb m.s q) fun x14 =>
 ag (aH (σ := List (List UInt8)) (ρ := Empty) (fun (_ : Nat) (x1 : LCol) (s1 : List (List UInt8)) =>
  ag (cq 16 s1 ([x1.name] : List (List UInt8))) fun (x27 : List (List UInt8)) =>
  some (.next x27)) 0 x14.1 []) fun fl1=>fl1.thenP fun (s1 : List (List UInt8)) =>
 some s1
theorem cZ (m : LRewriteRewriter) (q : LQuery) (r : (List (List UInt8))) (H : bR m q = some r) :
  aS Tryz.prog 178 [(.agg (eX m)),(.agg (ao q))] (.list 9 (r.map aE)) := by
 unfold bR at H
 refine PH.ay Tryz.func178 Tryz.ntmps178 ?_
 refine ae (aa (aI ?_))
 refine aI ?_
 refine ah tk rfl (ab (ae (aa (af 3 tk rfl ?_))))
 obtain ⟨x14,h14,H⟩ := av H
 have s14 := dP m.s q _ h14
 refine aq Tryz.call25 (eJ.r) s14 ?_
 refine af 5 tk rfl (ab (aw 1 tk rfl (ae (ae (aa (ah tk rfl (aC tk (zl _) ?_)))))))
 refine ah tk rfl (ab (iI tk 7 27 (e := 9) rfl rfl ?_))
 refine du (γ := OwnRef) tk 19 18 17 (fun s1 g1=>upd (fun _=>.any) 7 (.own 27 g1 (s1.map aE).length)) nB (fun s1 g1=>upd (fun _=>none) 27 (some ⟨g1,9,(s1.map aE),true⟩)) (⟨none,0⟩) H (fun fl1 Hp1 j1 s1 g1 hz1 hl1 x1 fb1 hx1 H hg1=>?_) (fun s1 g1 H=>?_)
 ·refine ae (aG (ae (aa ?_)))
  refine aY tk (zn j1) (bm (fun _=>rfl) hx1) ?_
  refine ah tk rfl ?_
  refine aB tk fun b9=>?_
  refine al tk ?_
  refine ab (aa (af 2 tk rfl (ak tk ?_)))
  refine ct tk (rows' := List.map aE ([x1.name] : List (List UInt8))) (dz.refl _) ?_
  obtain ⟨x27,h27,H⟩ := av H
  have k27 := bL h27
  refine bZ (rows2' := List.map aE ([x1.name] : List (List UInt8))) (rows' := List.map aE x27) tk rfl rfl rfl rfl rfl rfl rfl rfl rfl rfl rfl rfl rfl (dz.refl _) (cn k27.1) (cm k27.2.1) (ck k27.2.2) fun g27=>?_
  refine ah tk rfl (ab (bc (bC 2 tk rfl ?_)))
  exact bu g27 H hl1 hg1
 refine aw 2 tk rfl (eD 4 rfl rfl rfl ?_)
 exact bh tk H rfl
end
end Go.Proofs.YtppmcepdcpmpcaaGreatDoor
