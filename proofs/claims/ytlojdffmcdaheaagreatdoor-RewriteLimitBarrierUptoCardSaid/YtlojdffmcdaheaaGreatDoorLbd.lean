/- rewriteLimitBarrierUpto_holds, part 4: the layer, the plain functions and what they compute; conditions as in the statement. -/
import Derived.Test.YtlojdffmcdaheaaGreatDoorLbc
set_option maxHeartbeats 4000000
namespace Go.Proofs.YtlojdffmcdaheaaGreatDoor
noncomputable section
open Go Go.Ab
attribute [local irreducible] V Ao Do Gh Eff PH IntKind.wrap
set_option maxRecDepth 4000
def cw (sA : List LConstraint) (v : LConstraint) : Option (Int) :=
 ag (aJ (σ := Unit) (ρ := (Int)) (fun (j1 : Nat) (x1 : LConstraint) (_ : Unit) =>
  cond (v.table == x1.table && (v.left == x1.left && (v.op == x1.op && (v.right == x1.right && ((v.value.kind == x1.value.kind && (v.value.int == x1.value.int && (v.value.text == x1.value.text && true))) && true)))))
   (some (.ret (j1 : Int)))
   (some (.next ()))) 0 sA ()) fun fl1=>fl1.thenR fun (_ : Unit) =>
 some (-1)
theorem iz (sA : List LConstraint) (v : LConstraint) (r : Int) (H : cw sA v = some r) :
  aT Tryz.prog 93 [(.list 118 (sA.map jv)),(.agg (jv v))] (ac r) := by
 unfold cw at H
 refine PH.ax Tryz.func93 Tryz.ntmps93 ?_
 refine ae (aa (aG ?_))
 refine ah tk rfl (ab (ae (ae (aa (ah tk rfl (aD tk (zl _) ?_))))))
 refine ah tk rfl (ab ?_)
 refine fw tk 8 7 0 (fun s1 g1=>upd (fun _=>.any) 3 (.ptr (jv v))) nB nO () H (fun fl1 Hp1 j1 s1 g1 hz1 hl1 x1 fb1 hx1 H hg1=>?_) (fun s1 g1 H=>?_)
 ·refine ae (aE (aw 2 tk rfl (ae (br tk mok ⟨false,false,[]⟩ [0,1,2,3,4,5] rfl (by decide +kernel) rfl (bc 3 rfl ?_)))))
  refine bF (zn j1) (bg (fun _=>rfl) hx1) ?_
  refine bf rfl (rK (b := (v.table == x1.table && (v.left == x1.left && (v.op == x1.op && (v.right == x1.right && ((v.value.kind == x1.value.kind && (v.value.int == x1.value.int && (v.value.text == x1.value.text && true))) && true)))))) tk rfl rfl rfl rfl rfl Tryz.stoodInHeld118 Tryz.eqGuardType118 (eqf := [(9,0),(3,1),(9,2),(3,3),(58,4)]) (by simp [ct,Program.fieldsOf,Tryz.underlying118]) (by kernel_rfl) rfl rfl (bi ?_))
  refine aQ rfl H (fun H=>?_) (fun H=>?_)
  ·refine aw 2 tk rfl ?_
   obtain rfl := az H
   have e1 : fl1 = .ret _ := hg1
   subst e1
   obtain rfl := bs Hp1
   refine ba tk rfl (ps := [(ac (j1 : Int))]) ⟨_,_,rfl,rfl,rfl⟩ (PLe.q rfl)
  refine ay (aW (bp 2 tk rfl ?_))
  exact bm () H hl1 hg1
 refine aw 1 tk rfl ?_
 exact bq tk H rfl
def ik (rec8 : LQuery → Option ((List LQuery))) (q : LQuery) : Option ((List LQuery)) :=
 ag (aJ (σ := List LQuery) (ρ := Empty) (fun (_ : Nat) (x1 : LQuery) (s1 : List LQuery) =>
  ag (rec8 x1) fun x17 =>
  ag (bY 160 s1 x17) fun (x18 : List LQuery) =>
  some (.next x18)) 0 q.inputs [q]) fun fl1=>fl1.thenP fun (s1 : List LQuery) =>
 some s1
theorem WO_query_Nodes {m : Nat} (rec8 : LQuery → Option ((List LQuery))) (hrec8 : ∀ m a0 r,rec8 a0 = some r → dY Tryz.prog 8 [(.agg (am a0))] (jq m 33 (r.map ap))) (q : LQuery) (r : (List LQuery)) (H : ik rec8 q = some r) :
  dY Tryz.prog 8 [(.agg (am q))] (jq m 33 (r.map ap)) := by
 unfold ik at H
 refine PH.ax Tryz.func8 Tryz.ntmps8 ?_
 refine ae (aa (aG ?_))
 refine ah tk rfl (ab (ae (aa (ah tk rfl ?_))))
 refine jD (rows' := List.map ap ([q] : List LQuery)) tk (congrArg (List.map List.length) (bP aI ([q] : List LQuery))).symm (gc.trans (b := (List.map am ([q] : List LQuery)).flatten) (gc.refl _) (gc.of_eq (congrArg List.flatten (bP aI ([q] : List LQuery))))) fun g7=>?_
 refine ah tk rfl (ab (ae (ae (aa (af 2 tk rfl (aD tk (zl _) ?_))))))
 refine ah tk rfl (ab ?_)
 refine dh (γ := OwnRef) tk 11 10 9 (fun s1 g1=>upd (fun _=>.any) 3 (.own 7 g1 (s1.map ap).length)) nB (fun s1 g1=>upd (fun _=>none) 7 (some ⟨g1,33,(s1.map ap),true⟩)) g7 H (fun fl1 Hp1 j1 s1 g1 hz1 hl1 x1 fb1 hx1 H hg1=>?_) (fun s1 g1 H=>?_)
 ·refine ae (aE (ae (aa (aX tk (zn j1) (bg aI hx1) ?_))))
  refine ah tk rfl ?_
  refine aC tk fun b5=>?_
  refine ao tk ?_
  refine ab (aa (ah tk rfl (al tk ?_)))
  obtain ⟨x17,h17,H⟩ := av H
  have s17 := hrec8 17 x1 _ h17
  refine aq Tryz.call8 (eX.r) (PFun.dJ s17) ?_
  obtain ⟨x18,h18,H⟩ := av H
  have k18 := bD h18
  refine bS (rows2' := List.map ap x17) (rows' := List.map ap x18) tk rfl rfl rfl rfl rfl rfl rfl rfl rfl rfl rfl rfl rfl (dF.refl _) (cf k18.1) (cg k18.2.1) (ce k18.2.2) fun g18=>?_
  refine ah tk rfl (ab (aW (bp 2 tk rfl ?_)))
  exact bm g18 H hl1 hg1
 refine aw 2 tk rfl ?_
 obtain rfl := az H
 refine ij tk rfl
def io : Nat → LQuery → Option ((List LQuery))
 | 0,_=>none
 | n + 1,v0=>ik (fun b0=>io n b0) v0
theorem WF_query_Nodes  (n : Nat) : (∀ m a0 r,io n a0 = some r → dY Tryz.prog 8 [(.agg (am a0))] (jq m 33 (r.map ap))) := by
 induction n with
 | zero=>exact (by intros; rename_i h; exact absurd (show (none : Option _) = some _ from h) (by simp))
 | succ n ih =>
  exact (fun m v0 r h=>WO_query_Nodes (m := m) (fun b0=>io n b0) ih v0  r h)
def eC (q : LQuery) : Option ((List LQuery)) := fA fun n=>io n q
theorem im {m : Nat} (q : LQuery) (r : (List LQuery)) (H : eC q = some r) :
  dY Tryz.prog 8 [(.agg (am q))] (jq m 33 (r.map ap)) := by
 obtain ⟨n,h⟩ := fv H
 exact (WF_query_Nodes  n) m q r h
def ip (rec94 : LQuery → Option (Int)) (q : LQuery) : Option (Int) :=
 ag (aJ (σ := Int) (ρ := Empty) (fun (_ : Nat) (x1 : LQuery) (s1 : Int) =>
  ag (rec94 x1) fun x15 =>
  some (.next (if x15 > s1 then x15 else s1))) 0 q.inputs 0) fun fl1=>fl1.thenP fun (s1 : Int) =>
 some (IntKind.i64.wrap (s1 + (1 : Int)))
theorem WO_query_depth (rec94 : LQuery → Option (Int)) (hrec94 : ∀ a0 r,rec94 a0 = some r → aT Tryz.prog 94 [(.agg (am a0))] (ac r)) (q : LQuery) (r : Int) (H : ip rec94 q = some r) :
  aT Tryz.prog 94 [(.agg (am q))] (ac r) := by
 unfold ip at H
 refine PH.ax Tryz.func94 Tryz.ntmps94 ?_
 refine ae (aa (aG ?_))
 refine ah tk rfl (ab (aw 1 tk rfl (ae (ae (aa (af 2 tk rfl (aD tk (zl _) ?_)))))))
 refine ah tk rfl (ab ?_)
 refine dh tk 9 8 7 (fun s1 g1=>upd (fun _=>.any) 3 (ac s1)) nB nO () H (fun fl1 Hp1 j1 s1 g1 hz1 hl1 x1 fb1 hx1 H hg1=>?_) (fun s1 g1 H=>?_)
 ·refine ae (aE (ae (aa (aX tk (zn j1) (bg aI hx1) ?_))))
  refine ah tk rfl ?_
  refine aC tk fun b5=>?_
  refine ao tk ?_
  refine ab (aa (ah tk rfl (al tk ?_)))
  obtain ⟨x15,h15,H⟩ := av H
  have s15 := hrec94 x1 _ h15
  refine aq Tryz.call94 (eX.r) s15 ?_
  refine af 2 tk rfl (ab (aW (bp 2 tk rfl ?_)))
  exact bm () H hl1 hg1
 refine aw 3 tk rfl ?_
 exact bq tk H rfl
def il : Nat → LQuery → Option (Int)
 | 0,_=>none
 | n + 1,v0=>ip (fun b0=>il n b0) v0
theorem WF_query_depth  (n : Nat) : (∀ a0 r,il n a0 = some r → aT Tryz.prog 94 [(.agg (am a0))] (ac r)) := by
 induction n with
 | zero=>exact (by intros; rename_i h; exact absurd (show (none : Option _) = some _ from h) (by simp))
 | succ n ih =>
  exact (fun v0 r h=>WO_query_depth (fun b0=>il n b0) ih v0  r h)
def jk (q : LQuery) : Option (Int) := fA fun n=>il n q
theorem W_query_depth (q : LQuery) (r : Int) (H : jk q = some r) :
  aT Tryz.prog 94 [(.agg (am q))] (ac r) := by
 obtain ⟨n,h⟩ := fv H
 exact (WF_query_depth  n) q r h
def iQ (rec137 : LQuery → Option (Int × Int)) (q : LQuery) : Option (Int × Int) :=
 ag (aJ (σ := Int × Int) (ρ := Empty) (fun (j1 : Nat) (x1 : LQuery) (s1 : Int × Int) =>
  ag (rec137 x1) fun x20 =>
  cond ((j1 : Int) == (0 : Int))
   (some (.next ((if (20001 : Int) < x20.1 then (20001 : Int) else x20.1),(if x20.2 > s1.2 then x20.2 else s1.2))))
   (cond (q.kind == (6 : Int))
    (some (.next ((if (20001 : Int) < (IntKind.i64.wrap (s1.1 + x20.1)) then (20001 : Int) else (IntKind.i64.wrap (s1.1 + x20.1))),(if x20.2 > s1.2 then x20.2 else s1.2))))
    (bj (
     cond (q.kind == (4 : Int))
      (true)
      ((q.kind == (5 : Int)))) fun (t4 : Bool) =>
    cond t4
     (some (.next ((if (20001 : Int) < (IntKind.i64.wrap (s1.1 * (if x20.1 > (1 : Int) then x20.1 else (1 : Int)))) then (20001 : Int) else (IntKind.i64.wrap (s1.1 * (if x20.1 > (1 : Int) then x20.1 else (1 : Int))))),(if x20.2 > s1.2 then x20.2 else s1.2))))
     (some (.next ((if (20001 : Int) < s1.1 then (20001 : Int) else s1.1),(if x20.2 > s1.2 then x20.2 else s1.2))))))) 0 q.inputs (0,0)) fun fl1=>fl1.thenP fun (s1 : Int × Int) =>
 cond (q.kind == (1 : Int))
  (some (24,(if (24 : Int) > s1.2 then (24 : Int) else s1.2)))
  (some (s1.1,(if s1.1 > s1.2 then s1.1 else s1.2)))
theorem WO_query_most (rec137 : LQuery → Option (Int × Int)) (hrec137 : ∀ a0 r,rec137 a0 = some r → aT Tryz.prog 137 [(.agg (am a0))] (.tup [(ac r.1),(ac r.2)])) (q : LQuery) (r : Int × Int) (H : iQ rec137 q = some r) :
  aT Tryz.prog 137 [(.agg (am q))] (.tup [(ac r.1),(ac r.2)]) := by
 unfold iQ at H
 refine PH.ax Tryz.func137 Tryz.ntmps137 ?_
 refine ae (aa (aG ?_))
 refine af 2 tk rfl (ab (aw 2 tk rfl (ae (ae (aa (af 2 tk rfl (aD tk (zl _) ?_)))))))
 refine ah tk rfl (ab ?_)
 refine dh tk 13 12 11 (fun s1 g1=>upd (upd (upd (fun _=>.any) 5 (ac s1.2)) 4 (ac s1.1)) 1 (.ptr (am q))) nB nO () H (fun fl1 Hp1 j1 s1 g1 hz1 hl1 x1 fb1 hx1 H hg1=>?_) (fun s1 g1 H=>?_)
 ·refine ae (aE (ae (aa (ah tk rfl (aX tk (zn j1) (bg aI hx1) ?_)))))
  refine ah tk rfl ?_
  refine aC tk fun b7=>?_
  refine ah tk rfl (ao tk ?_)
  refine ab (ae (aa (al tk ?_)))
  obtain ⟨x20,h20,H⟩ := av H
  have s20 := hrec137 x1 _ h20
  refine aq Tryz.call137 (eX.r) s20 ?_
  refine af 5 tk rfl (ab (aw 4 tk rfl (ae (aE (aw 3 tk rfl ?_)))))
  refine aQ rfl H (fun H=>?_) (fun H=>?_)
  ·refine bp 2 tk rfl (aW (bp 3 tk rfl (aW (bp 2 tk rfl ?_))))
   exact bm () H hl1 hg1
  refine aw 4 tk rfl ?_
  refine aQ rfl H (fun H=>?_) (fun H=>?_)
  ·refine bp 4 tk rfl (aW (bp 3 tk rfl (aW (bp 2 tk rfl ?_))))
   exact bm () H hl1 hg1
  refine ae ?_
  refine ck (γ := Unit) (fun t4 g4=>⟨60,upd (upd (upd (upd (upd (upd (upd (upd (fun _=>.any) 37 (au t4)) 13 (ac (j1 : Int))) 12 (ac (q.inputs.length : Int))) 11 (.list 33 (q.inputs.map ap))) 8 (ac x20.1)) 5 (ac (if x20.2 > s1.2 then x20.2 else s1.2))) 4 (ac s1.1)) 1 (.ptr (am q)),fun _=>none,fun _=>none⟩) H (fun _ H=>?_) (fun t4 g4 H=>?_)
  ·refine aa (af 4 tk rfl ?_)
   refine aO rfl rfl rfl H (fun H=>?_) (fun H=>?_)
   ·refine af 5 tk rfl (ab ?_)
    refine aH _ () H Gh.d
   refine af 5 tk rfl (ab ?_)
   refine aH _ () H Gh.d
  refine aQ rfl H (fun H=>?_) (fun H=>?_)
  ·refine bp 5 tk rfl (aW (bp 3 tk rfl (aW (bp 2 tk rfl ?_))))
   exact bm () H hl1 hg1
  refine ay (aW (bp 3 tk rfl (aW (bp 2 tk rfl ?_))))
  exact bm () H hl1 hg1
 refine ae (aw 3 tk rfl ?_)
 refine aQ rfl H (fun H=>?_) (fun H=>?_)
 ·refine bp 1 tk rfl (aw 6 tk rfl ?_)
  exact bq tk H rfl
 refine ay (aw 6 tk rfl ?_)
 exact bq tk H rfl
def iO : Nat → LQuery → Option (Int × Int)
 | 0,_=>none
 | n + 1,v0=>iQ (fun b0=>iO n b0) v0
theorem WF_query_most  (n : Nat) : (∀ a0 r,iO n a0 = some r → aT Tryz.prog 137 [(.agg (am a0))] (.tup [(ac r.1),(ac r.2)])) := by
 induction n with
 | zero=>exact (by intros; rename_i h; exact absurd (show (none : Option _) = some _ from h) (by simp))
 | succ n ih =>
  exact (fun v0 r h=>WO_query_most (fun b0=>iO n b0) ih v0  r h)
def kI (q : LQuery) : Option (Int × Int) := fA fun n=>iO n q
theorem W_query_most (q : LQuery) (r : Int × Int) (H : kI q = some r) :
  aT Tryz.prog 137 [(.agg (am q))] (.tup [(ac r.1),(ac r.2)]) := by
 obtain ⟨n,h⟩ := fv H
 exact (WF_query_most  n) q r h
def fH (rec138 : LExpr → (List Int) → Bool → (List Bool) → Option ((List Int) × Bool × (List Bool))) (e : LExpr) (c0 : List Int) (c1 : Bool) (c2 : List Bool) : Option ((List Int) × Bool × (List Bool)) :=
 bj (
  cond (e.kind == (3 : Int))
   (cond (decide (e.index ≥ (0 : Int)))
    ((decide (e.index < (8 : Int))))
    (false))
   (false)) fun (t1 : Bool) =>
 ag (
  cond t1
   (ag (jh (σ := List Int) (ρ := Empty) (fun (s7 : List Int) =>
    cond (decide ((s7.length : Int) ≤ e.index))
     (ag (bY 8 s7 ([0] : List Int)) fun (x28 : List Int) =>
     some (.next x28))
     (some (.brk s7))) c0) fun fl7=>fl7.thenP fun (s7 : List Int) =>
   ag (
    cond c1
     (some true)
     (ag (arrI 8 c2 e.index) fun (x33 : Bool) =>
     cond x33
      (ag (aP s7 e.index) fun (x39 : Int) =>
      some (x39 != e.value.kind))
      (some false))) fun (t8 : Bool) =>
   ag (aP s7 e.index) fun (_ : Int) =>
   bj (s7.set e.index.toNat e.value.kind) fun (y9 : List Int) =>
   ag (arrI 8 c2 e.index) fun (_ : Bool) =>
   bj (c2.set e.index.toNat true) fun (y10 : List Bool) =>
   some (y9,t8,y10))
   (some (c0,c1,c2))) fun (t6 : List Int × Bool × List Bool) =>
 ag (aJ (σ := List Int × Bool × List Bool) (ρ := Empty) (fun (_ : Nat) (x11 : LExpr) (s11 : List Int × Bool × List Bool) =>
  ag (rec138 x11 s11.1 s11.2.1 s11.2.2) fun x66 =>
  some (.next (x66.1,x66.2.1,x66.2.2))) 0 e.args (t6.1,t6.2.1,t6.2.2)) fun fl11=>fl11.thenP fun (s11 : List Int × Bool × List Bool) =>
 some (s11.1,s11.2.1,s11.2.2)
theorem mq (b_c0 : Nat) (g_c0 : OwnRef) (b_c1 : Nat) (b_c2 : Nat) (b_c3 : Nat) (rec138 : LExpr → (List Int) → Bool → (List Bool) → Option ((List Int) × Bool × (List Bool))) (hrec138 : ∀ bq0 gq0 bq1 bq2 bq3 a0 a1 a2 a3 r,rec138 a0 a1 a2 a3 = some r → PH Tryz.prog 138 [(.agg (bl a0)),(.box 1000 bq0 0),(.box 1001 bq1 0),(.box 1002 bq2 0),(.box 1003 bq3 0)] ⟨upd (upd (upd (upd (fun _=>none) 1003 (some ⟨bq3,[(.fn 138 [(.box 1000 bq0 0),(.box 1001 bq1 0),(.box 1002 bq2 0),(.box 1003 bq3 0)])]⟩)) 1002 (some ⟨bq2,(List.map au a3)⟩)) 1001 (some ⟨bq1,[(au a2)]⟩)) 1000 (some ⟨bq0,[(.own 1100 gq0 (a1.map bE).length)]⟩),upd (fun _=>none) 1100 (some ⟨gq0,3,(a1.map bE),true⟩)⟩ (fun u H=>∃ gz0,u = (.tup []) ∧ H = ⟨upd (upd (upd (upd (fun _=>none) 1003 (some ⟨bq3,[(.fn 138 [(.box 1000 bq0 0),(.box 1001 bq1 0),(.box 1002 bq2 0),(.box 1003 bq3 0)])]⟩)) 1002 (some ⟨bq2,(List.map au r.2.2)⟩)) 1001 (some ⟨bq1,[(au r.2.1)]⟩)) 1000 (some ⟨bq0,[(.own 1100 gz0 (r.1.map bE).length)]⟩),upd (fun _=>none) 1100 (some ⟨gz0,3,(r.1.map bE),true⟩)⟩)) (e : LExpr) (c0 : List Int) (c1 : Bool) (c2 : List Bool) (r : (List Int) × Bool × (List Bool)) (H : fH rec138 e c0 c1 c2 = some r) :
  PH Tryz.prog 138 [(.agg (bl e)),(.box 1000 b_c0 0),(.box 1001 b_c1 0),(.box 1002 b_c2 0),(.box 1003 b_c3 0)] ⟨upd (upd (upd (upd (fun _=>none) 1003 (some ⟨b_c3,[(.fn 138 [(.box 1000 b_c0 0),(.box 1001 b_c1 0),(.box 1002 b_c2 0),(.box 1003 b_c3 0)])]⟩)) 1002 (some ⟨b_c2,(List.map au c2)⟩)) 1001 (some ⟨b_c1,[(au c1)]⟩)) 1000 (some ⟨b_c0,[(.own 1100 g_c0 (c0.map bE).length)]⟩),upd (fun _=>none) 1100 (some ⟨g_c0,3,(c0.map bE),true⟩)⟩ (fun u H=>∃ gz0,u = (.tup []) ∧ H = ⟨upd (upd (upd (upd (fun _=>none) 1003 (some ⟨b_c3,[(.fn 138 [(.box 1000 b_c0 0),(.box 1001 b_c1 0),(.box 1002 b_c2 0),(.box 1003 b_c3 0)])]⟩)) 1002 (some ⟨b_c2,(List.map au r.2.2)⟩)) 1001 (some ⟨b_c1,[(au r.2.1)]⟩)) 1000 (some ⟨b_c0,[(.own 1100 gz0 (r.1.map bE).length)]⟩),upd (fun _=>none) 1100 (some ⟨gz0,3,(r.1.map bE),true⟩)⟩) := by
 unfold fH at H
 refine PH.ax Tryz.func138 Tryz.ntmps138 ?_
 refine ae (aa (aG ?_))
 refine ab (ae (ae ?_))
 refine ck (γ := Unit) (fun t1 g1=>⟨68,upd (upd (upd (upd (upd (upd (fun _=>.any) 20 (au t1)) 5 (.ptr (bl e))) 4 (.box 1003 b_c3 0)) 3 (.box 1002 b_c2 0)) 2 (.box 1001 b_c1 0)) 1 (.box 1000 b_c0 0),upd (upd (upd (upd (fun _=>none) 1003 (some ⟨b_c3,[(.fn 138 [(.box 1000 b_c0 0),(.box 1001 b_c1 0),(.box 1002 b_c2 0),(.box 1003 b_c3 0)])]⟩)) 1002 (some ⟨b_c2,(List.map au c2)⟩)) 1001 (some ⟨b_c1,[(au c1)]⟩)) 1000 (some ⟨b_c0,[(.own 1100 g_c0 (c0.map bE).length)]⟩),upd (fun _=>none) 1100 (some ⟨g_c0,3,(c0.map bE),true⟩)⟩) H (fun _ H=>?_) (fun t1 g1 H=>?_)
 ·refine aa (af 4 tk rfl ?_)
  refine aO rfl rfl rfl H (fun H=>?_) (fun H=>?_)
  ·refine af 5 tk rfl ?_
   refine aO rfl rfl rfl H (fun H=>?_) (fun H=>?_)
   ·refine af 4 tk rfl (ab ?_)
    refine aH _ () H Gh.d
   refine af 4 tk rfl (ab ?_)
   refine aH _ () H Gh.d
  refine af 9 tk rfl (ab ?_)
  refine aH _ () H Gh.d
 refine bZ (γ := OwnRef) (fun t6 g6=>⟨68,upd (upd (upd (upd (upd (fun _=>.any) 5 (.ptr (bl e))) 4 (.box 1003 b_c3 0)) 3 (.box 1002 b_c2 0)) 2 (.box 1001 b_c1 0)) 1 (.box 1000 b_c0 0),upd (upd (upd (upd (fun _=>none) 1003 (some ⟨b_c3,[(.fn 138 [(.box 1000 b_c0 0),(.box 1001 b_c1 0),(.box 1002 b_c2 0),(.box 1003 b_c3 0)])]⟩)) 1002 (some ⟨b_c2,(List.map au t6.2.2)⟩)) 1001 (some ⟨b_c1,[(au t6.2.1)]⟩)) 1000 (some ⟨b_c0,[(.own 1100 g6 (t6.1.map bE).length)]⟩),upd (fun _=>none) 1100 (some ⟨g6,3,(t6.1.map bE),true⟩)⟩) H (fun _ H=>?_) (fun t6 g6 H=>?_)
 ·refine aQ rfl H (fun H=>?_) (fun H=>?_)
  ·refine ae ?_
   obtain ⟨fl7,H7,Hp7⟩ := av H
   refine kV (τ := List Int) (γ := OwnRef) (fun s7 g7=>⟨68,upd (upd (upd (upd (upd (fun _=>.any) 5 (.ptr (bl e))) 4 (.box 1003 b_c3 0)) 3 (.box 1002 b_c2 0)) 2 (.box 1001 b_c1 0)) 1 (.box 1000 b_c0 0),upd (upd (upd (upd (fun _=>none) 1003 (some ⟨b_c3,[(.fn 138 [(.box 1000 b_c0 0),(.box 1001 b_c1 0),(.box 1002 b_c2 0),(.box 1003 b_c3 0)])]⟩)) 1002 (some ⟨b_c2,(List.map au c2)⟩)) 1001 (some ⟨b_c1,[(au c1)]⟩)) 1000 (some ⟨b_c0,[(.own 1100 g7 (s7.map bE).length)]⟩),upd (fun _=>none) 1100 (some ⟨g7,3,(s7.map bE),true⟩)⟩) (fun t=>fl7 = .next t) ?_ (fun s7 g7 hn7=>?_)
   ·refine aE ?_
    refine rm (fun s7 g7=>⟨68,upd (upd (upd (upd (upd (fun _=>.any) 5 (.ptr (bl e))) 4 (.box 1003 b_c3 0)) 3 (.box 1002 b_c2 0)) 2 (.box 1001 b_c1 0)) 1 (.box 1000 b_c0 0),upd (upd (upd (upd (fun _=>none) 1003 (some ⟨b_c3,[(.fn 138 [(.box 1000 b_c0 0),(.box 1001 b_c1 0),(.box 1002 b_c2 0),(.box 1003 b_c3 0)])]⟩)) 1002 (some ⟨b_c2,(List.map au c2)⟩)) 1001 (some ⟨b_c1,[(au c1)]⟩)) 1000 (some ⟨b_c0,[(.own 1100 g7 (s7.map bE).length)]⟩),upd (fun _=>none) 1100 (some ⟨g7,3,(s7.map bE),true⟩)⟩) g_c0 H7 Gh.d (fun m7 s7 g7 hr7=>?_)
    obtain ⟨fb7,H,hg7⟩ := iterM_cons hr7
    refine ae (ae (aa (al tk ?_)))
    refine iE tk (zl _) ?_
    refine af 3 tk rfl (ab ?_)
    refine aQ rfl H (fun H=>?_) (fun H=>?_)
    ·refine ay (aE (aa (al tk ?_)))
     refine co tk (rows' := List.map bE ([0] : List Int)) (dF.refl _) ?_
     obtain ⟨x28,h28,H⟩ := av H
     have k28 := bD h28
     refine bS (rows2' := List.map bE ([0] : List Int)) (rows' := List.map bE x28) tk rfl rfl rfl rfl rfl rfl rfl rfl rfl rfl rfl rfl rfl (dF.refl _) (cf k28.1) (cg k28.2.1) (ce k28.2.2) fun g28=>?_
     refine ao tk ?_
     refine ab (aW ?_)
     obtain rfl := az H
     refine nc x28 g28 hg7 Gh.d
    refine dt rfl ?_
    obtain rfl := az H
    refine aH s7 g7 hg7 Gh.d
   have H := kH hn7 Hp7
   refine ae ?_
   refine bZ (γ := Unit) (fun t8 g8=>⟨68,upd (upd (upd (upd (upd (fun _=>.any) 5 (.ptr (bl e))) 4 (.box 1003 b_c3 0)) 3 (.box 1002 b_c2 0)) 2 (.box 1001 b_c1 0)) 1 (.box 1000 b_c0 0),upd (upd (upd (upd (fun _=>none) 1003 (some ⟨b_c3,[(.fn 138 [(.box 1000 b_c0 0),(.box 1001 b_c1 0),(.box 1002 b_c2 0),(.box 1003 b_c3 0)])]⟩)) 1002 (some ⟨b_c2,(List.map au c2)⟩)) 1001 (some ⟨b_c1,[(au t8)]⟩)) 1000 (some ⟨b_c0,[(.own 1100 g7 (s7.map bE).length)]⟩),upd (fun _=>none) 1100 (some ⟨g7,3,(s7.map bE),true⟩)⟩) H (fun _ H=>?_) (fun t8 g8 H=>?_)
   ·refine gu (tag := 1100) rfl (fun ho1100=>?_)
    refine br tk mok ⟨true,true,[32,38,43]⟩ [0,1,2,3,4,5,6,7,8,9,10,11,12,13,14,15,16,17,18] rfl (by decide +kernel) rfl (aU ?_)
    refine bf rfl ?_
    refine pl rfl rfl rfl rfl H (fun H=>?_) (fun H=>?_)
    ·refine bc 16 rfl (bh ?_)
     refine bi ?_
     refine aH _ () (az H) Gh.d
    refine bc 2 rfl ?_
    obtain ⟨x33,h33,H⟩ := av H
    have k33 := arrI_some h33
    refine rz rfl rfl rfl rfl rfl rfl rfl rfl rfl k33.1 rfl ?_
    refine rR rfl rfl rfl rfl rfl rfl rfl rfl (by rw [List.getElem?_map,k33.2]; rfl) rfl ?_
    refine bf rfl ?_
    refine pl rfl rfl rfl rfl H (fun H=>?_) (fun H=>?_)
    ·refine aU ?_
     refine bc 2 rfl ?_
     obtain ⟨x39,k39,H⟩ := bB H
     refine ej tk ⟨k39.1,(dW k39.2)⟩ (dX ho1100 k39.2) ?_
     refine iB tk (aV (fun _=>rfl) k39.2) ?_
     refine bc 6 rfl (bh ?_)
     refine bi ?_
     refine aH _ () (az H) Gh.d
    refine bc 11 rfl (bh ?_)
    refine bi ?_
    refine aH _ () (az H) Gh.d
   refine gu (tag := 1100) rfl (fun ho1100=>?_)
   refine br tk mok ⟨true,false,[49,51,54]⟩ [0,1,2,3,4,5,6,7,8,9,10,11] rfl (by decide +kernel) rfl (aU ?_)
   refine bc 7 rfl ?_
   obtain ⟨x55,k55,H⟩ := bB H
   refine ej tk ⟨k55.1,(dW k55.2)⟩ (dX ho1100 k55.2) ?_
   obtain ⟨y9,hy9,H⟩ := cZ H
   refine gT tk rfl rfl rfl rfl rfl rfl rfl rfl rfl (by rw [zl]; exact (zg.1 k55.2).1) (PLe.refl _ _) rfl rfl rfl rfl (by decide) (fe (fun _=>rfl) k55.2 rfl hy9) ?_
   obtain ⟨x56,h56,H⟩ := av H
   have k56 := arrI_some h56
   refine rz rfl rfl rfl rfl rfl rfl rfl rfl rfl k56.1 rfl ?_
   obtain ⟨y10,hy10,H⟩ := cZ H
   refine rH rfl rfl rfl rfl rfl rfl rfl rfl rfl rfl (by rw [zl]; exact (zg.1 k56.2).1) (splice_map au _ _ _ (zg.1 k56.2).1 hy10) ?_
   refine bi ?_
   refine aH _ g7 (az H) (Gh.le (aL (aL (aL (aL (aL bQ))))) (aN rfl (eX.of2 (gc.cons (lW.of_eq (congrArg (PV.own 1100 g7) (gG (f := bE) hy9))) gc.nil)) (aN rfl (eX.r) (aN rfl (eX.r) (aN rfl (eX.r) bu)))) (cW bt))
  refine ay ?_
  refine aH _ g_c0 (az H) Gh.d
 refine ae (aa (af 2 tk rfl (aD tk (zl _) ?_)))
 refine ah tk rfl (ab ?_)
 refine dh (γ := OwnRef) tk 60 59 58 (fun s11 g11=>upd (upd (upd (upd (fun _=>.any) 4 (.box 1003 b_c3 0)) 3 (.box 1002 b_c2 0)) 2 (.box 1001 b_c1 0)) 1 (.box 1000 b_c0 0)) (fun s11 g11=>upd (upd (upd (upd (fun _=>none) 1003 (some ⟨b_c3,[(.fn 138 [(.box 1000 b_c0 0),(.box 1001 b_c1 0),(.box 1002 b_c2 0),(.box 1003 b_c3 0)])]⟩)) 1002 (some ⟨b_c2,(List.map au s11.2.2)⟩)) 1001 (some ⟨b_c1,[(au s11.2.1)]⟩)) 1000 (some ⟨b_c0,[(.own 1100 g11 (s11.1.map bE).length)]⟩)) (fun s11 g11=>upd (fun _=>none) 1100 (some ⟨g11,3,(s11.1.map bE),true⟩)) g6 H (fun fl11 Hp11 j11 s11 g11 hz11 hl11 x11 fb11 hx11 H hg11=>?_) (fun s11 g11 H=>?_)
 ·refine ae (aE (ae (aa (aX tk (zn j11) (bg aR hx11) ?_))))
  refine ah tk rfl ?_
  refine aC tk fun b7=>?_
  refine ao tk ?_
  refine ab (aa (al tk ?_))
  refine al tk ?_
  obtain ⟨x66,h66,H⟩ := av H
  have s66 := hrec138 b_c0 g11 b_c1 b_c2 b_c3 x11 s11.1 s11.2.1 s11.2.2 _ h66
  refine gn (st' := ⟨_,_,upd (upd (upd (upd (upd (fun _=>none) 1003 (some ⟨b_c3,[(.fn 138 [(.box 1000 b_c0 0),(.box 1001 b_c1 0),(.box 1002 b_c2 0),(.box 1003 b_c3 0)])]⟩)) 1002 (some ⟨b_c2,(List.map au s11.2.2)⟩)) 1001 (some ⟨b_c1,[(au s11.2.1)]⟩)) 1000 (some ⟨b_c0,[(.own 1100 g11 (s11.1.map bE).length)]⟩)) 7 (some ⟨b7,(bl x11)⟩),upd (fun _=>none) 1100 (some ⟨g11,3,(s11.1.map bE),true⟩)⟩) (Gh.le (fD _ _) (aN rfl (eX.r) (aN rfl (eX.of2 (gc.cons (lW.own rfl) gc.nil)) (aN rfl (eX.r) (aN rfl (eX.r) (aN rfl (eX.of2 (gc.cons (lW.fn (gc.cons lW.boxT (gc.cons lW.boxT (gc.cons lW.boxT (gc.cons lW.boxT gc.nil))))) gc.nil)) bu))))) (cW bt)) ?_
  refine hJ (g := 138) rfl rfl rfl Tryz.call138 [(1000,1000),(1001,1001),(1002,1002),(1003,1003)] [(1100,1100)] rfl rfl rfl rfl (eX.of2 (gc.cons (lW.of_eq rfl) (gc.cons lW.boxT (gc.cons lW.boxT (gc.cons lW.boxT (gc.cons lW.boxT gc.nil)))))) (by rw [fg,fg,fg,fg,gA,fG,gC]; rfl) s66 ?_
  rintro u66 H66h ⟨gz66_0,rfl,rfl⟩
  refine ⟨_,rfl,?_⟩
  refine gn (st' := ⟨_,_,upd (upd (upd (upd (upd (fun _=>none) 1003 (some ⟨b_c3,[(.fn 138 [(.box 1000 b_c0 0),(.box 1001 b_c1 0),(.box 1002 b_c2 0),(.box 1003 b_c3 0)])]⟩)) 1002 (some ⟨b_c2,(List.map au x66.2.2)⟩)) 1001 (some ⟨b_c1,[(au x66.2.1)]⟩)) 1000 (some ⟨b_c0,[(.own 1100 gz66_0 (x66.1.map bE).length)]⟩)) 7 (some ⟨b7,(bl x11)⟩),upd (fun _=>none) 1100 (some ⟨gz66_0,3,(x66.1.map bE),true⟩)⟩) (Gh.le (fD _ _) (aN rfl (eX.r) (aN rfl (eX.of2 (gc.cons (lW.own rfl) gc.nil)) (aN rfl (eX.r) (aN rfl (eX.r) (aN rfl (eX.of2 (gc.cons (lW.fn (gc.cons lW.boxT (gc.cons lW.boxT (gc.cons lW.boxT (gc.cons lW.boxT gc.nil))))) gc.nil)) bu))))) (cW bt)) ?_
  refine ab (aW (bp 2 tk rfl ?_))
  exact bm gz66_0 H hl11 hg11
 obtain rfl := az H
 refine lA (st' := ⟨68,fun _=>.any,upd (upd (upd (upd (fun _=>none) 1003 (some ⟨b_c3,[(.fn 138 [(.box 1000 b_c0 0),(.box 1001 b_c1 0),(.box 1002 b_c2 0),(.box 1003 b_c3 0)])]⟩)) 1002 (some ⟨b_c2,(List.map au s11.2.2)⟩)) 1001 (some ⟨b_c1,[(au s11.2.1)]⟩)) 1000 (some ⟨b_c0,[(.own 1100 g11 (s11.1.map bE).length)]⟩),upd (fun _=>none) 1100 (some ⟨g11,3,(s11.1.map bE),true⟩)⟩) (Gh.le bQ (aN rfl (eX.of2 (gc.cons (lW.own rfl) gc.nil)) (aN rfl (eX.r) (aN rfl (eX.r) (aN rfl (eX.r) bu)))) (cW bt)) ?_
 refine V.endH rfl (PLe.q rfl) ⟨_,rfl,rfl⟩
def cD : Nat → LExpr → (List Int) → Bool → (List Bool) → Option ((List Int) × Bool × (List Bool))
 | 0,_,_,_,_=>none
 | n + 1,v0,v1,v2,v3=>fH (fun b0 b1 b2 b3=>cD n b0 b1 b2 b3) v0 v1 v2 v3
theorem mm  (n : Nat) : (∀ bq0 gq0 bq1 bq2 bq3 a0 a1 a2 a3 r,cD n a0 a1 a2 a3 = some r → PH Tryz.prog 138 [(.agg (bl a0)),(.box 1000 bq0 0),(.box 1001 bq1 0),(.box 1002 bq2 0),(.box 1003 bq3 0)] ⟨upd (upd (upd (upd (fun _=>none) 1003 (some ⟨bq3,[(.fn 138 [(.box 1000 bq0 0),(.box 1001 bq1 0),(.box 1002 bq2 0),(.box 1003 bq3 0)])]⟩)) 1002 (some ⟨bq2,(List.map au a3)⟩)) 1001 (some ⟨bq1,[(au a2)]⟩)) 1000 (some ⟨bq0,[(.own 1100 gq0 (a1.map bE).length)]⟩),upd (fun _=>none) 1100 (some ⟨gq0,3,(a1.map bE),true⟩)⟩ (fun u H=>∃ gz0,u = (.tup []) ∧ H = ⟨upd (upd (upd (upd (fun _=>none) 1003 (some ⟨bq3,[(.fn 138 [(.box 1000 bq0 0),(.box 1001 bq1 0),(.box 1002 bq2 0),(.box 1003 bq3 0)])]⟩)) 1002 (some ⟨bq2,(List.map au r.2.2)⟩)) 1001 (some ⟨bq1,[(au r.2.1)]⟩)) 1000 (some ⟨bq0,[(.own 1100 gz0 (r.1.map bE).length)]⟩),upd (fun _=>none) 1100 (some ⟨gz0,3,(r.1.map bE),true⟩)⟩)) := by
 induction n with
 | zero=>exact (by intros; rename_i h; exact absurd (show (none : Option _) = some _ from h) (by simp))
 | succ n ih =>
  exact (fun bq0 gq0 bq1 bq2 bq3 v0 v1 v2 v3 r h=>mq bq0 gq0 bq1 bq2 bq3 (fun b0 b1 b2 b3=>cD n b0 b1 b2 b3) ih v0 v1 v2 v3  r h)
def et (e : LExpr) (c0 : List Int) (c1 : Bool) (c2 : List Bool) : Option ((List Int) × Bool × (List Bool)) := fA fun n=>cD n e c0 c1 c2
theorem jG (b_c0 : Nat) (g_c0 : OwnRef) (b_c1 : Nat) (b_c2 : Nat) (b_c3 : Nat) (e : LExpr) (c0 : List Int) (c1 : Bool) (c2 : List Bool) (r : (List Int) × Bool × (List Bool)) (H : et e c0 c1 c2 = some r) :
  PH Tryz.prog 138 [(.agg (bl e)),(.box 1000 b_c0 0),(.box 1001 b_c1 0),(.box 1002 b_c2 0),(.box 1003 b_c3 0)] ⟨upd (upd (upd (upd (fun _=>none) 1003 (some ⟨b_c3,[(.fn 138 [(.box 1000 b_c0 0),(.box 1001 b_c1 0),(.box 1002 b_c2 0),(.box 1003 b_c3 0)])]⟩)) 1002 (some ⟨b_c2,(List.map au c2)⟩)) 1001 (some ⟨b_c1,[(au c1)]⟩)) 1000 (some ⟨b_c0,[(.own 1100 g_c0 (c0.map bE).length)]⟩),upd (fun _=>none) 1100 (some ⟨g_c0,3,(c0.map bE),true⟩)⟩ (fun u H=>∃ gz0,u = (.tup []) ∧ H = ⟨upd (upd (upd (upd (fun _=>none) 1003 (some ⟨b_c3,[(.fn 138 [(.box 1000 b_c0 0),(.box 1001 b_c1 0),(.box 1002 b_c2 0),(.box 1003 b_c3 0)])]⟩)) 1002 (some ⟨b_c2,(List.map au r.2.2)⟩)) 1001 (some ⟨b_c1,[(au r.2.1)]⟩)) 1000 (some ⟨b_c0,[(.own 1100 gz0 (r.1.map bE).length)]⟩),upd (fun _=>none) 1100 (some ⟨gz0,3,(r.1.map bE),true⟩)⟩) := by
 obtain ⟨n,h⟩ := fv H
 exact (mm  n) b_c0 g_c0 b_c1 b_c2 b_c3 e c0 c1 c2 r h
def fW (sA : List Int) (v : Int) : Option (Int) :=
 ag (aJ (σ := Unit) (ρ := (Int)) (fun (j1 : Nat) (x1 : Int) (_ : Unit) =>
  cond (v == x1)
   (some (.ret (j1 : Int)))
   (some (.next ()))) 0 sA ()) fun fl1=>fl1.thenR fun (_ : Unit) =>
 some (-1)
theorem nC (sA : List Int) (v : Int) (r : Int) (H : fW sA v = some r) :
  aT Tryz.prog 195 [(.list 3 (sA.map bE)),(ac v)] (ac r) := by
 unfold fW at H
 refine PH.ax Tryz.func195 Tryz.ntmps195 ?_
 refine aw 1 tk rfl (ae (ae (aa (ah tk rfl (aD tk (zl _) ?_)))))
 refine ah tk rfl (ab ?_)
 refine fw tk 8 7 0 (fun s1 g1=>upd (fun _=>.any) 1 (ac v)) nB nO () H (fun fl1 Hp1 j1 s1 g1 hz1 hl1 x1 fb1 hx1 H hg1=>?_) (fun s1 g1 H=>?_)
 ·refine ae (aE (aw 2 tk rfl (ae (aa (af 3 tk rfl ?_)))))
  refine aX tk (zn j1) (bg (fun _=>rfl) hx1) ?_
  refine af 2 tk rfl (ab ?_)
  refine aQ rfl H (fun H=>?_) (fun H=>?_)
  ·refine aw 2 tk rfl ?_
   obtain rfl := az H
   have e1 : fl1 = .ret _ := hg1
   subst e1
   obtain rfl := bs Hp1
   refine ba tk rfl (ps := [(ac (j1 : Int))]) ⟨_,_,rfl,rfl,rfl⟩ (PLe.q rfl)
  refine ay (aW (bp 2 tk rfl ?_))
  exact bm () H hl1 hg1
 refine aw 1 tk rfl ?_
 exact bq tk H rfl
def dE (t : LTable) (c0 : LQuery) : Bool :=
 (t.name == c0.table)
theorem od (t : LTable) (c0 : LQuery) :
  aT Tryz.prog 173 [(.agg (cR t)),(.ptr (am c0))] (au (dE t c0)) := by
 obtain ⟨r,H⟩ : ∃ r,dE t c0 = r := ⟨_,rfl⟩
 rw [H]
 unfold dE at H
 refine PH.ax Tryz.func173 Tryz.ntmps173 ?_
 refine ae (aa (aG ?_))
 refine ah tk rfl (ab (aw 6 tk rfl ?_))
 exact dy tk H rfl
theorem pT {m : Nat} (xs : List LCol) : dY Tryz.prog 158 [.list 52 (xs.map bd)] (jq m 52 (xs.map bd)) := by
 refine PH.ax Tryz.func158 Tryz.ntmps158 ?_
 refine jm tk 0 rfl rfl (fun hz hb=>?_)
 refine aw 1 tk rfl (ae (ae (aa (ah tk rfl ?_))))
 refine qS tk rfl rfl rfl rfl rfl rfl rfl (fun b hn=>?_)
 refine ab ?_
 refine cF rfl (fun h=>?_) (fun h=>?_)
 ·refine aw 1 tk rfl (iu tk 2 902 (e := 52) rfl rfl ?_)
  refine ij tk (hn h).symm
 ·refine ay (ae (aa ?_))
  refine jD (rows' := []) tk rfl (gc.refl _) fun g=>?_
  refine ah tk rfl ?_
  refine bS (rows2' := xs.map bd) (rows' := xs.map bd) tk rfl rfl rfl rfl rfl rfl rfl rfl rfl rfl rfl rfl rfl (dF.refl _) (by simpa using hb) (by simpa using hz) rfl fun g'=>?_
  refine ah tk rfl (ab ?_)
  refine ij tk rfl
def bN (sA : List (List UInt8)) (v : List UInt8) : Option (Int) :=
 ag (aJ (σ := Unit) (ρ := (Int)) (fun (j1 : Nat) (x1 : List UInt8) (_ : Unit) =>
  cond (v == x1)
   (some (.ret (j1 : Int)))
   (some (.next ()))) 0 sA ()) fun fl1=>fl1.thenR fun (_ : Unit) =>
 some (-1)
theorem iF (sA : List (List UInt8)) (v : List UInt8) (r : Int) (H : bN sA v = some r) :
  aT Tryz.prog 99 [(.list 9 (sA.map aF)),(.str v)] (ac r) := by
 unfold bN at H
 refine PH.ax Tryz.func99 Tryz.ntmps99 ?_
 refine aw 1 tk rfl (ae (ae (aa (ah tk rfl (aD tk (zl _) ?_)))))
 refine ah tk rfl (ab ?_)
 refine fw tk 8 7 0 (fun s1 g1=>upd (fun _=>.any) 1 (.str v)) nB nO () H (fun fl1 Hp1 j1 s1 g1 hz1 hl1 x1 fb1 hx1 H hg1=>?_) (fun s1 g1 H=>?_)
 ·refine ae (aE (aw 2 tk rfl (ae (aa (af 3 tk rfl ?_)))))
  refine aX tk (zn j1) (bg (fun _=>rfl) hx1) ?_
  refine af 2 tk rfl (ab ?_)
  refine aQ rfl H (fun H=>?_) (fun H=>?_)
  ·refine aw 2 tk rfl ?_
   obtain rfl := az H
   have e1 : fl1 = .ret _ := hg1
   subst e1
   obtain rfl := bs Hp1
   refine ba tk rfl (ps := [(ac (j1 : Int))]) ⟨_,_,rfl,rfl,rfl⟩ (PLe.q rfl)
  refine ay (aW (bp 2 tk rfl ?_))
  exact bm () H hl1 hg1
 refine aw 1 tk rfl ?_
 exact bq tk H rfl
def cV (sA : List (List UInt8)) (v : List UInt8) : Option (Int × (List (List UInt8))) :=
 ag (mW (sA.length : Int)) fun (n1 : Nat) =>
 ag (aJ (σ := List (List UInt8)) (ρ := (Int × (List (List UInt8)))) (fun (j1 : Nat) (_ : Nat) (s1 : List (List UInt8)) =>
  ag (aP s1 (j1 : Int)) fun (x14 : List UInt8) =>
  cond (v == x14)
   (some (.ret ((j1 : Int),s1)))
   (some (.next s1))) 0 (List.range n1) sA) fun fl1=>fl1.thenR fun (s1 : List (List UInt8)) =>
 some ((-1),s1)
theorem kC (g_sA : OwnRef) (sA : List (List UInt8)) (v : List UInt8) (r : Int × (List (List UInt8))) (H : cV sA v = some r) :
  PH Tryz.prog 99 [(.own 0 g_sA (sA.map aF).length),(.str v)] ⟨fun _=>none,upd (fun _=>none) 0 (some ⟨g_sA,9,(sA.map aF),true⟩)⟩ (fun u H=>u = (ac r.1) ∧ H = ⟨fun _=>none,upd (fun _=>none) 0 (some ⟨g_sA,9,(r.2.map aF),true⟩)⟩) := by
 unfold cV at H
 refine PH.ax Tryz.func99 Tryz.ntmps99 ?_
 refine aw 1 tk rfl (ae (ae (aa (ah tk rfl (iE tk (zl _) ?_)))))
 refine ah tk rfl (ab ?_)
 obtain ⟨n1,hs1,H⟩ := av H
 have hz1 := nX hs1
 obtain ⟨fl1,H1,Hp1⟩ := av H
 refine kV (τ := List (List UInt8)) (γ := Unit) (fun s1 g1=>⟨19,upd (fun _=>.any) 0 (.own 0 g_sA (s1.map aF).length),fun _=>none,upd (fun _=>none) 0 (some ⟨g_sA,9,(s1.map aF),true⟩)⟩) (fun t=>fl1 = .next t) ?_ (fun s1 g1 hn1=>?_)
 ·refine aE ?_
  refine lD (fun j1 s1 g1=>⟨19,upd (upd (upd (upd (fun _=>.any) 8 (ac (j1 : Int))) 7 (ac (sA.length : Int))) 1 (.str v)) 0 (.own 0 g_sA (s1.map aF).length),fun _=>none,upd (fun _=>none) 0 (some ⟨g_sA,9,(s1.map aF),true⟩)⟩) () H1 Gh.d (fun j1 s1 g1 hj1 hr1=>?_)
  refine aw 1 tk rfl (ae ?_)
  refine cF rfl (fun h=>?_) (fun h=>?_)
  ·have hl1 := natLt hz1 h
   obtain ⟨x1,fb1,hx1,H,hg1⟩ := rMc hl1 hr1
   obtain rfl := natX hx1
   refine ay (ae (aE (aw 2 tk rfl (ae (aa (af 3 tk rfl ?_))))))
   obtain ⟨x14,k14,H⟩ := bB H
   refine li (tag := 0) rfl (fun ho0=>?_)
   refine lj tk rfl rfl rfl rfl rfl rfl rfl ⟨k14.1,(dW k14.2)⟩ (dX ho0 k14.2) rfl ?_
   refine oT tk rfl rfl rfl rfl rfl rfl rfl (aV (fun _=>rfl) k14.2) rfl rfl ?_
   refine ah tk rfl (ab ?_)
   refine aQ rfl H (fun H=>?_) (fun H=>?_)
   ·refine aw 2 tk rfl ?_
    obtain rfl := az H
    have e1 : fl1 = .ret _ := hg1
    subst e1
    obtain rfl := bs Hp1
    refine lA (st' := ⟨19,upd (fun _=>.any) 4 (ac (j1 : Int)),fun _=>none,upd (fun _=>none) 0 (some ⟨g_sA,9,(s1.map aF),true⟩)⟩) (Gh.le (aL bQ) bu (cW bt)) ?_
    refine rc tk rfl (ps := [(ac (j1 : Int))]) ⟨_,_,rfl,rfl,rfl⟩ (PLe.q rfl) ⟨rfl,rfl⟩
   refine ay (aW (bp 2 tk rfl ?_))
   exact bm () H hl1 hg1 (Gh.le (aL (aL (aL (cj (PLe.q (ma hz1 hl1)) bQ)))) bu (cW bt))
  have hn1 := rMd (natGe hz1 h) hr1
  refine dt rfl ?_
  refine aH s1 g1 hn1 Gh.d
 have H := thenR_next hn1 Hp1
 refine aw 1 tk rfl ?_
 obtain rfl := az H
 refine lA (st' := ⟨19,upd (fun _=>.any) 4 (ac (-1)),fun _=>none,upd (fun _=>none) 0 (some ⟨g_sA,9,(s1.map aF),true⟩)⟩) (Gh.le (aL bQ) bu (cW bt)) ?_
 refine rc tk rfl (ps := [(ac (-1))]) ⟨_,_,rfl,rfl,rfl⟩ (PLe.q rfl) ⟨rfl,rfl⟩
def bX (y : LCol) (c0 : LCol) : Bool :=
 (y.name == c0.name)
theorem my (y : LCol) (c0 : LCol) :
  aT Tryz.prog 142 [(.agg (bd y)),(.ptr (bd c0))] (au (bX y c0)) := by
 obtain ⟨r,H⟩ : ∃ r,bX y c0 = r := ⟨_,rfl⟩
 rw [H]
 unfold bX at H
 refine PH.ax Tryz.func142 Tryz.ntmps142 ?_
 refine ae (aa (aG ?_))
 refine ah tk rfl (ab (aw 6 tk rfl ?_))
 exact dy tk H rfl
def gQ (rec7 : LQuery → Bool → Option ((List Bool))) (q : LQuery) (below : Bool) : Option ((List Bool)) :=
 ag (aJ (σ := List Bool) (ρ := Empty) (fun (_ : Nat) (x1 : LQuery) (s1 : List Bool) =>
  cond below
   (ag (rec7 x1 true) fun x25 =>
   ag (bY 1 s1 x25) fun (x26 : List Bool) =>
   some (.next x26))
   (ag (rec7 x1 (q.kind == (10 : Int))) fun x25 =>
   ag (bY 1 s1 x25) fun (x26 : List Bool) =>
   some (.next x26))) 0 q.inputs [below]) fun fl1=>fl1.thenP fun (s1 : List Bool) =>
 some s1
theorem oj (rec7 : LQuery → Bool → Option ((List Bool))) (hrec7 : ∀ a0 a1 r,rec7 a0 a1 = some r → aT Tryz.prog 7 [(.agg (am a0)),(au a1)] (.list 4 (r.map aM))) (q : LQuery) (below : Bool) (r : (List Bool)) (H : gQ rec7 q below = some r) :
  aT Tryz.prog 7 [(.agg (am q)),(au below)] (.list 4 (r.map aM)) := by
 unfold gQ at H
 refine PH.ax Tryz.func7 Tryz.ntmps7 ?_
 refine ae (aa (aG ?_))
 refine ah tk rfl (ab (ae (aa (ah tk rfl ?_))))
 refine jD (rows' := List.map aM ([below] : List Bool)) tk rfl (gc.refl _) fun g9=>?_
 refine ah tk rfl (ab (ae (ae (aa (af 2 tk rfl (aD tk (zl _) ?_))))))
 refine ah tk rfl (ab ?_)
 refine dh (γ := OwnRef) tk 13 12 11 (fun s1 g1=>upd (upd (upd (fun _=>.any) 5 (.own 9 g1 (s1.map aM).length)) 2 (.ptr (am q))) 1 (au below)) nB (fun s1 g1=>upd (fun _=>none) 9 (some ⟨g1,4,(s1.map aM),true⟩)) g9 H (fun fl1 Hp1 j1 s1 g1 hz1 hl1 x1 fb1 hx1 H hg1=>?_) (fun s1 g1 H=>?_)
 ·refine ae (aE (ae (aa (aX tk (zn j1) (bg aI hx1) ?_))))
  refine ah tk rfl ?_
  refine aC tk fun b7=>?_
  refine ao tk ?_
  refine ab (aa (ah tk rfl (al tk ?_)))
  refine af 2 tk rfl ?_
  refine aO rfl rfl rfl H (fun H=>?_) (fun H=>?_)
  ·refine af 4 tk rfl ?_
   obtain ⟨x25,h25,H⟩ := av H
   have s25 := hrec7 x1 true _ h25
   refine aq Tryz.call7 (eX.r) s25 ?_
   obtain ⟨x26,h26,H⟩ := av H
   have k26 := bD h26
   refine bS (rows2' := List.map aM x25) (rows' := List.map aM x26) tk rfl rfl rfl rfl rfl rfl rfl rfl rfl rfl rfl rfl rfl (dF.refl _) (cf k26.1) (cg k26.2.1) (ce k26.2.2) fun g26=>?_
   refine ah tk rfl (ab (aW (bp 2 tk rfl ?_)))
   exact bm g26 H hl1 hg1
  refine af 4 tk rfl ?_
  obtain ⟨x25,h25,H⟩ := av H
  have s25 := hrec7 x1 (q.kind == (10 : Int)) _ h25
  refine aq Tryz.call7 (eX.r) s25 ?_
  obtain ⟨x26,h26,H⟩ := av H
  have k26 := bD h26
  refine bS (rows2' := List.map aM x25) (rows' := List.map aM x26) tk rfl rfl rfl rfl rfl rfl rfl rfl rfl rfl rfl rfl rfl (dF.refl _) (cf k26.1) (cg k26.2.1) (ce k26.2.2) fun g26=>?_
  refine ah tk rfl (ab (aW (bp 2 tk rfl ?_)))
  exact bm g26 H hl1 hg1
 refine aw 2 tk rfl (eh 4 rfl rfl rfl ?_)
 exact bq tk H rfl
def cL : Nat → LQuery → Bool → Option ((List Bool))
 | 0,_,_=>none
 | n + 1,v0,v1=>gQ (fun b0 b1=>cL n b0 b1) v0 v1
theorem oH  (n : Nat) : (∀ a0 a1 r,cL n a0 a1 = some r → aT Tryz.prog 7 [(.agg (am a0)),(au a1)] (.list 4 (r.map aM))) := by
 induction n with
 | zero=>exact (by intros; rename_i h; exact absurd (show (none : Option _) = some _ from h) (by simp))
 | succ n ih =>
  exact (fun v0 v1 r h=>oj (fun b0 b1=>cL n b0 b1) ih v0 v1  r h)
def fP (q : LQuery) (below : Bool) : Option ((List Bool)) := fA fun n=>cL n q below
theorem jb (q : LQuery) (below : Bool) (r : (List Bool)) (H : fP q below = some r) :
  aT Tryz.prog 7 [(.agg (am q)),(au below)] (.list 4 (r.map aM)) := by
 obtain ⟨n,h⟩ := fv H
 exact (oH  n) q below r h
def ep (sA : List Bool) (v : Bool) : Option (Int) :=
 ag (aJ (σ := Unit) (ρ := (Int)) (fun (j1 : Nat) (x1 : Bool) (_ : Unit) =>
  cond (v == x1)
   (some (.ret (j1 : Int)))
   (some (.next ()))) 0 sA ()) fun fl1=>fl1.thenR fun (_ : Unit) =>
 some (-1)
theorem mi (sA : List Bool) (v : Bool) (r : Int) (H : ep sA v = some r) :
  aT Tryz.prog 25 [(.list 4 (sA.map aM)),(au v)] (ac r) := by
 unfold ep at H
 refine PH.ax Tryz.func25 Tryz.ntmps25 ?_
 refine aw 1 tk rfl (ae (ae (aa (ah tk rfl (aD tk (zl _) ?_)))))
 refine ah tk rfl (ab ?_)
 refine fw tk 8 7 0 (fun s1 g1=>upd (fun _=>.any) 1 (au v)) nB nO () H (fun fl1 Hp1 j1 s1 g1 hz1 hl1 x1 fb1 hx1 H hg1=>?_) (fun s1 g1 H=>?_)
 ·refine ae (aE (aw 2 tk rfl (ae (aa (af 3 tk rfl ?_)))))
  refine aX tk (zn j1) (bg (fun _=>rfl) hx1) ?_
  refine af 2 tk rfl (ab ?_)
  refine aQ rfl H (fun H=>?_) (fun H=>?_)
  ·refine aw 2 tk rfl ?_
   obtain rfl := az H
   have e1 : fl1 = .ret _ := hg1
   subst e1
   obtain rfl := bs Hp1
   refine ba tk rfl (ps := [(ac (j1 : Int))]) ⟨_,_,rfl,rfl,rfl⟩ (PLe.q rfl)
  refine ay (aW (bp 2 tk rfl ?_))
  exact bm () H hl1 hg1
 refine aw 1 tk rfl ?_
 exact bq tk H rfl
def ci (sA : List LQuery) (f : LQuery → Option (Bool)) : Option (Int) :=
 ag (aJ (σ := Unit) (ρ := (Int)) (fun (j1 : Nat) (x1 : LQuery) (_ : Unit) =>
  ag (f x1) fun x16 =>
  cond x16
   (some (.ret (j1 : Int)))
   (some (.next ()))) 0 sA ()) fun fl1=>fl1.thenR fun (_ : Unit) =>
 some (-1)
theorem iG {g_f : FuncId} {caps_f : List PV} (sA : List LQuery) (f : LQuery → Option (Bool)) (hg_f : ∀ (vs : Array Value) (w : World),(callFunc g_f vs).run Tryz.prog w = .ok (.enter g_f vs) w) (hp_f : ∀ a0 r,f a0 = some r → aT Tryz.prog g_f ((.agg (am a0)) :: caps_f) (au r)) (r : Int) (H : ci sA f = some r) :
  aT Tryz.prog 26 [(.list 33 (sA.map ap)),(.fn g_f caps_f)] (ac r) := by
 unfold ci at H
 refine PH.ax Tryz.func26 Tryz.ntmps26 ?_
 refine aw 1 tk rfl (ae (ae (aa (ah tk rfl (aD tk (zl _) ?_)))))
 refine ah tk rfl (ab ?_)
 refine fw tk 8 7 0 (fun s1 g1=>upd (fun _=>.any) 1 (.fn g_f caps_f)) nB nO () H (fun fl1 Hp1 j1 s1 g1 hz1 hl1 x1 fb1 hx1 H hg1=>?_) (fun s1 g1 H=>?_)
 ·refine ae (aE (aw 2 tk rfl (ae (aa (af 3 tk rfl (aX tk (zn j1) (bg aI hx1) ?_))))))
  refine ah tk rfl ?_
  obtain ⟨x16,h16,H⟩ := av H
  refine aq hg_f (eX.r) (hp_f _ _ h16) ?_
  refine ab ?_
  refine aQ rfl H (fun H=>?_) (fun H=>?_)
  ·refine aw 2 tk rfl ?_
   obtain rfl := az H
   have e1 : fl1 = .ret _ := hg1
   subst e1
   obtain rfl := bs Hp1
   refine ba tk rfl (ps := [(ac (j1 : Int))]) ⟨_,_,rfl,rfl,rfl⟩ (PLe.q rfl)
  refine ay (aW (bp 2 tk rfl ?_))
  exact bm () H hl1 hg1
 refine aw 1 tk rfl ?_
 exact bq tk H rfl
def ca (x : LQuery) : Bool :=
 (x.kind == (10 : Int))
theorem jX (x : LQuery) :
  aT Tryz.prog 11 [(.agg (am x))] (au (ca x)) := by
 obtain ⟨r,H⟩ : ∃ r,ca x = r := ⟨_,rfl⟩
 rw [H]
 unfold ca at H
 refine PH.ax Tryz.func11 Tryz.ntmps11 ?_
 refine ae (aa (aG ?_))
 refine ah tk rfl (ab (aw 4 tk rfl ?_))
 exact dy tk H rfl
theorem oX {m : Nat} (xs : List (List UInt8)) : dY Tryz.prog 61 [.list 9 (xs.map aF)] (jq m 9 (xs.map aF)) := by
 refine PH.ax Tryz.func61 Tryz.ntmps61 ?_
 refine jm tk 0 rfl rfl (fun hz hb=>?_)
 refine aw 1 tk rfl (ae (ae (aa (ah tk rfl ?_))))
 refine qS tk rfl rfl rfl rfl rfl rfl rfl (fun b hn=>?_)
 refine ab ?_
 refine cF rfl (fun h=>?_) (fun h=>?_)
 ·refine aw 1 tk rfl (iu tk 2 902 (e := 9) rfl rfl ?_)
  refine ij tk (hn h).symm
 ·refine ay (ae (aa ?_))
  refine jD (rows' := []) tk rfl (gc.refl _) fun g=>?_
  refine ah tk rfl ?_
  refine bS (rows2' := xs.map aF) (rows' := xs.map aF) tk rfl rfl rfl rfl rfl rfl rfl rfl rfl rfl rfl rfl rfl (dF.refl _) (by simpa using hb) (by simpa using hz) rfl fun g'=>?_
  refine ah tk rfl (ab ?_)
  refine ij tk rfl
theorem oK {m : Nat} (xs : List Bool) : dY Tryz.prog 62 [.list 4 (xs.map aM)] (jq m 4 (xs.map aM)) := by
 refine PH.ax Tryz.func62 Tryz.ntmps62 ?_
 refine jm tk 0 rfl rfl (fun hz hb=>?_)
 refine aw 1 tk rfl (ae (ae (aa (ah tk rfl ?_))))
 refine qS tk rfl rfl rfl rfl rfl rfl rfl (fun b hn=>?_)
 refine ab ?_
 refine cF rfl (fun h=>?_) (fun h=>?_)
 ·refine aw 1 tk rfl (iu tk 2 902 (e := 4) rfl rfl ?_)
  refine ij tk (hn h).symm
 ·refine ay (ae (aa ?_))
  refine jD (rows' := []) tk rfl (gc.refl _) fun g=>?_
  refine ah tk rfl ?_
  refine bS (rows2' := xs.map aM) (rows' := xs.map aM) tk rfl rfl rfl rfl rfl rfl rfl rfl rfl rfl rfl rfl rfl (dF.refl _) (by simpa using hb) (by simpa using hz) rfl fun g'=>?_
  refine ah tk rfl (ab ?_)
  refine ij tk rfl
def bn (e : LExpr) (q : LQuery) : LQuery :=
 (LQuery.mk 2 [] [] [e] [] [] 0 0 [q])
theorem dr (e : LExpr) (q : LQuery) :
  aT Tryz.prog 65 [(.agg (bl e)),(.agg (am q))] (.agg (am (bn e q))) := by
 obtain ⟨r,H⟩ : ∃ r,bn e q = r := ⟨_,rfl⟩
 rw [H]
 unfold bn at H
 refine PH.ax Tryz.func65 Tryz.ntmps65 ?_
 refine ae (aa (aG ?_))
 refine aG ?_
 refine aC tk fun b4=>?_
 refine ab (ae (aa (ah tk rfl (co tk (rows' := List.map ak ([e] : List LExpr)) (dF.trans (b := List.map bl [e]) (dF.refl _) (dF.of_eq (bP aR [e]))) ?_))))
 refine ah tk rfl (co tk (rows' := List.map ap ([q] : List LQuery)) (dF.trans (b := List.map am [q]) (dF.refl _) (dF.of_eq (bP aI [q]))) ?_)
 refine ah tk rfl (ao tk ?_)
 refine ab ?_
 subst H
 refine ba tk rfl (ps := [(.agg [(ac 2),(.str []),(.val (.slice none 0 0)),(.list 94 (([e] : List LExpr).map ak)),(.val (.slice none 0 0)),(.val (.slice none 0 0)),(ac 0),(ac 0),(.list 33 (([q] : List LQuery).map ap))])]) ⟨_,_,rfl,⟨_,_,_,_,_,rfl,rfl,rfl,rfl⟩,rfl⟩ (PLe.of2 (lW.agg (gc.cons (lW.of_eq rfl) (gc.cons (lW.of_eq rfl) (gc.cons (lW.nil tk rfl) (gc.cons (lW.of_eq rfl) (gc.cons (lW.nil tk rfl) (gc.cons (lW.nil tk rfl) (gc.cons (lW.of_eq rfl) (gc.cons (lW.of_eq rfl) (gc.cons (lW.of_eq rfl) gc.nil)))))))))))
def dI (sA : List (List UInt8)) (f : (List UInt8) → Option (Bool)) : Option (Int) :=
 ag (aJ (σ := Unit) (ρ := (Int)) (fun (j1 : Nat) (x1 : List UInt8) (_ : Unit) =>
  ag (f x1) fun x16 =>
  cond x16
   (some (.ret (j1 : Int)))
   (some (.next ()))) 0 sA ()) fun fl1=>fl1.thenR fun (_ : Unit) =>
 some (-1)
theorem jW {g_f : FuncId} {caps_f : List PV} (sA : List (List UInt8)) (f : (List UInt8) → Option (Bool)) (hg_f : ∀ (vs : Array Value) (w : World),(callFunc g_f vs).run Tryz.prog w = .ok (.enter g_f vs) w) (hp_f : ∀ a0 r,f a0 = some r → aT Tryz.prog g_f ((.str a0) :: caps_f) (au r)) (r : Int) (H : dI sA f = some r) :
  aT Tryz.prog 143 [(.list 9 (sA.map aF)),(.fn g_f caps_f)] (ac r) := by
 unfold dI at H
 refine PH.ax Tryz.func143 Tryz.ntmps143 ?_
 refine aw 1 tk rfl (ae (ae (aa (ah tk rfl (aD tk (zl _) ?_)))))
 refine ah tk rfl (ab ?_)
 refine fw tk 8 7 0 (fun s1 g1=>upd (fun _=>.any) 1 (.fn g_f caps_f)) nB nO () H (fun fl1 Hp1 j1 s1 g1 hz1 hl1 x1 fb1 hx1 H hg1=>?_) (fun s1 g1 H=>?_)
 ·refine ae (aE (aw 2 tk rfl (ae (aa (af 3 tk rfl ?_)))))
  refine aX tk (zn j1) (bg (fun _=>rfl) hx1) ?_
  refine ah tk rfl ?_
  obtain ⟨x16,h16,H⟩ := av H
  refine aq hg_f (eX.r) (hp_f _ _ h16) ?_
  refine ab ?_
  refine aQ rfl H (fun H=>?_) (fun H=>?_)
  ·refine aw 2 tk rfl ?_
   obtain rfl := az H
   have e1 : fl1 = .ret _ := hg1
   subst e1
   obtain rfl := bs Hp1
   refine ba tk rfl (ps := [(ac (j1 : Int))]) ⟨_,_,rfl,rfl,rfl⟩ (PLe.q rfl)
  refine ay (aW (bp 2 tk rfl ?_))
  exact bm () H hl1 hg1
 refine aw 1 tk rfl ?_
 exact bq tk H rfl
def fN (names : List (List UInt8)) (q : LQuery) : Option (LQuery) :=
 ag (aJ (σ := List LExpr) (ρ := Empty) (fun (_ : Nat) (x1 : List UInt8) (s1 : List LExpr) =>
  ag (bY 88 s1 ([(LExpr.mk 2 x1 0 (LVal.mk 0 0 []) [])] : List LExpr)) fun (x23 : List LExpr) =>
  some (.next x23)) 0 names []) fun fl1=>fl1.thenP fun (s1 : List LExpr) =>
 some (LQuery.mk 3 [] names s1 [] [] 0 0 [q])
theorem ng (names : List (List UInt8)) (q : LQuery) (r : LQuery) (H : fN names q = some r) :
  aT Tryz.prog 73 [(.list 9 (names.map aF)),(.agg (am q))] (.agg (am r)) := by
 unfold fN at H
 refine PH.ax Tryz.func73 Tryz.ntmps73 ?_
 refine ae (aa (aG ?_))
 refine aC tk fun b4=>?_
 refine ab (ae (aa (af 2 tk rfl (co tk (rows' := List.map ap ([q] : List LQuery)) (dF.trans (b := List.map am [q]) (dF.refl _) (dF.of_eq (bP aI [q]))) ?_))))
 refine ah tk rfl ?_
 refine aC tk fun b5=>?_
 refine ao tk ?_
 refine ab (ae (ae (aa (ah tk rfl (aD tk (zl _) ?_)))))
 refine ah tk rfl (ab (gk tk 5 3 23 (e := 94) rfl rfl rfl rfl ?_))
 refine dh (γ := OwnRef) tk 14 13 12 (fun s1 g1=>upd (upd (fun _=>.any) 5 (.box 5 b5 0)) 4 (.box 4 b4 0)) (fun s1 g1=>upd (upd (fun _=>none) 5 (some ⟨b5,[(ac 3),(.str []),(.list 9 (names.map aF)),(.own 23 g1 (s1.map ak).length),(.val (.slice none 0 0)),(.val (.slice none 0 0)),(ac 0),(ac 0),(.list 33 (([q] : List LQuery).map ap))]⟩)) 4 (some ⟨b4,[(ac 0),(.str []),(.val (.slice none 0 0)),(.val (.slice none 0 0)),(.val (.slice none 0 0)),(.val (.slice none 0 0)),(ac 0),(ac 0),(.val (.slice none 0 0))]⟩)) (fun s1 g1=>upd (fun _=>none) 23 (some ⟨g1,94,(s1.map ak),true⟩)) (⟨none,0⟩) H (fun fl1 Hp1 j1 s1 g1 hz1 hl1 x1 fb1 hx1 H hg1=>?_) (fun s1 g1 H=>?_)
 ·refine ae (aE (ae (aa ?_)))
  refine aX tk (zn j1) (bg (fun _=>rfl) hx1) ?_
  refine af 2 tk rfl (ab (aa (ah tk rfl (al tk ?_))))
  refine af 2 tk rfl (co tk (rows' := List.map ak ([(LExpr.mk 2 x1 0 (LVal.mk 0 0 []) [])] : List LExpr)) (dF.trans (b := List.map bl [(LExpr.mk 2 x1 0 (LVal.mk 0 0 []) [])]) (dF.cons (oq.cons (lW.of_eq rfl) (oq.cons (lW.of_eq rfl) (oq.cons (lW.of_eq rfl) (oq.cons (lW.of_eq rfl) (oq.cons (lW.of_eq rfl) (oq.cons (lW.of_eq rfl) (oq.cons (lW.nil tk rfl) oq.nil))))))) dF.nil) (dF.of_eq (bP aR [(LExpr.mk 2 x1 0 (LVal.mk 0 0 []) [])]))) ?_)
  obtain ⟨x23,h23,H⟩ := av H
  have k23 := bD h23
  refine bS (rows2' := List.map ak ([(LExpr.mk 2 x1 0 (LVal.mk 0 0 []) [])] : List LExpr)) (rows' := List.map ak x23) tk rfl rfl rfl rfl rfl rfl rfl rfl rfl rfl rfl rfl rfl (dF.refl _) (cf k23.1) (cg k23.2.1) (ce k23.2.2) fun g23=>?_
  refine ah tk rfl (ao tk ?_)
  refine ab (aW (bp 2 tk rfl ?_))
  exact bm g23 H hl1 hg1
 refine ae (aa (al tk ?_))
 refine ao tk ?_
 refine ab ?_
 obtain rfl := az H
 refine bC 4 3 rfl rfl rfl rfl rfl ?_
 refine ba tk rfl (ps := [(.agg [(ac 3),(.str []),(.list 9 (names.map aF)),(.list 94 (s1.map ak)),(.val (.slice none 0 0)),(.val (.slice none 0 0)),(ac 0),(ac 0),(.list 33 (([q] : List LQuery).map ap))])]) ⟨_,_,rfl,⟨_,_,_,_,_,rfl,rfl,rfl,rfl⟩,rfl⟩ (PLe.of2 (lW.agg (gc.cons (lW.of_eq rfl) (gc.cons (lW.of_eq rfl) (gc.cons (lW.of_eq rfl) (gc.cons (lW.of_eq rfl) (gc.cons (lW.nil tk rfl) (gc.cons (lW.nil tk rfl) (gc.cons (lW.of_eq rfl) (gc.cons (lW.of_eq rfl) (gc.cons (lW.of_eq rfl) gc.nil)))))))))))
theorem grow_104 {m : Nat} {u : Unit} (n : Int) (h : growI 16 n = some u) : dY Tryz.prog 104 [.val (.slice none 0 0),ac n] (jq m 9 []) := by
 have hn := growI_some h
 have hw : IntKind.i64.wrap (n - IntKind.i64.wrap ((0 : Int) - 0)) = n := by
  have e0 : IntKind.i64.wrap ((0 : Int) - 0) = 0 := gg (by omega) (by omega)
  rw [e0,Int.sub_zero,gg (by omega) (by unfold maxLen at hn; omega)]
 refine PH.ax Tryz.func104 Tryz.ntmps104 ?_
 refine aw 1 tk rfl (ae (aw 2 tk rfl ?_))
 refine cF rfl (fun h=>?_) (fun h=>?_)
 ·exfalso; have := of_decide_eq_true h; omega
 refine ay (ae (ae (aa (af 2 tk rfl (rx tk rfl rfl rfl rfl rfl rfl (af 4 tk rfl (oa 14 (q := ac n) rfl (PLe.q (congrArg ac hw)) (ah tk rfl (ab (aw 2 tk rfl ?_))))))))))
 refine cF rfl (fun h=>?_) (fun h=>?_)
 ·refine aa (af 2 tk rfl (rx tk rfl rfl rfl rfl rfl rfl (Ao.subN tk rfl rfl rfl rfl rfl rfl rfl rfl (ah tk rfl ?_))))
  refine rl tk rfl rfl rfl rfl rfl rfl rfl rfl rfl rfl rfl rfl rfl rfl rfl (of_decide_eq_true h) hn.2.1 hn.2.2 fun g=>?_
  refine af 2 tk rfl (Ao.cutO tk rfl rfl rfl rfl rfl rfl rfl rfl rfl ⟨Int.le_refl 0,Nat.zero_le _⟩ rfl rfl rfl (ah tk rfl (ab (aw 2 tk rfl ?_))))
  refine ij tk rfl
 ·refine ay (aw 2 tk rfl (iu tk 4 904 (e := 9) rfl rfl ?_))
  refine ij tk rfl
def cJ (q : LQuery) (inA : LQuery) : LQuery × Bool :=
 bj (
  cond (decide (q.offset > (1099511627776 : Int)))
   (true)
   ((decide (inA.offset > (1099511627776 : Int))))) fun (t1 : Bool) =>
 cond t1
  (((LQuery.mk 0 [] [] [] [] [] 0 0 []),false))
  (((LQuery.mk 10 [] [] [] [] [] (if (if (IntKind.i64.wrap (inA.count - q.offset)) < q.count then (IntKind.i64.wrap (inA.count - q.offset)) else q.count) > (0 : Int) then (if (IntKind.i64.wrap (inA.count - q.offset)) < q.count then (IntKind.i64.wrap (inA.count - q.offset)) else q.count) else (0 : Int)) (IntKind.i64.wrap (q.offset + inA.offset)) inA.inputs),true))
theorem oA (q : LQuery) (inA : LQuery) :
  aT Tryz.prog 36 [(.agg (am q)),(.agg (am inA))] (.tup [(.agg (am ((cJ q inA).1))),(au ((cJ q inA).2))]) := by
 obtain ⟨r,H⟩ : ∃ r,cJ q inA = r := ⟨_,rfl⟩
 rw [H]
 unfold cJ at H
 refine PH.ax Tryz.func36 Tryz.ntmps36 ?_
 refine ae (aa (aG ?_))
 refine aG ?_
 refine aC tk fun b4=>?_
 refine ah tk rfl (ab (ae (ae ?_)))
 refine ck (γ := Unit) (fun t1 g1=>⟨32,upd (upd (upd (upd (fun _=>.any) 13 (au t1)) 4 (.box 4 b4 0)) 3 (.ptr (am inA))) 2 (.ptr (am q)),upd (fun _=>none) 4 (some ⟨b4,[(ac 0),(.str []),(.val (.slice none 0 0)),(.val (.slice none 0 0)),(.val (.slice none 0 0)),(.val (.slice none 0 0)),(ac 0),(ac 0),(.val (.slice none 0 0))]⟩),fun _=>none⟩) H (fun _ H=>?_) (fun t1 g1 H=>?_)
 ·refine aa (af 4 tk rfl ?_)
  refine aO rfl rfl rfl H (fun H=>?_) (fun H=>?_)
  ·refine af 4 tk rfl (ab ?_)
   refine aH _ () H Gh.d
  refine af 4 tk rfl (ab ?_)
  refine aH _ () H Gh.d
 refine aQ rfl H (fun H=>?_) (fun H=>?_)
 ·refine ae (aa (ah tk rfl (ao tk ?_)))
  refine ah tk rfl (ab ?_)
  subst H
  refine ba tk rfl (ps := [(.agg [(ac 0),(.str []),(.val (.slice none 0 0)),(.val (.slice none 0 0)),(.val (.slice none 0 0)),(.val (.slice none 0 0)),(ac 0),(ac 0),(.val (.slice none 0 0))]),(au false)]) ⟨_,_,rfl,⟨_,_,_,_,_,rfl,rfl,rfl,rfl⟩,_,_,rfl,rfl,rfl⟩ (PLe.of2 (lW.tup (gc.cons (lW.agg (gc.cons (lW.of_eq rfl) (gc.cons (lW.of_eq rfl) (gc.cons (lW.nil tk rfl) (gc.cons (lW.nil tk rfl) (gc.cons (lW.nil tk rfl) (gc.cons (lW.nil tk rfl) (gc.cons (lW.of_eq rfl) (gc.cons (lW.of_eq rfl) (gc.cons (lW.nil tk rfl) gc.nil)))))))))) (gc.cons (lW.of_eq rfl) gc.nil))))
 refine ay (ae (aa (af 17 tk rfl (ao tk ?_))))
 refine ah tk rfl (ab ?_)
 subst H
 refine ba tk rfl (ps := [(.agg [(ac 10),(.str []),(.val (.slice none 0 0)),(.val (.slice none 0 0)),(.val (.slice none 0 0)),(.val (.slice none 0 0)),(ac (if (if (IntKind.i64.wrap (inA.count - q.offset)) < q.count then (IntKind.i64.wrap (inA.count - q.offset)) else q.count) > (0 : Int) then (if (IntKind.i64.wrap (inA.count - q.offset)) < q.count then (IntKind.i64.wrap (inA.count - q.offset)) else q.count) else (0 : Int))),(ac (IntKind.i64.wrap (q.offset + inA.offset))),(.list 33 (inA.inputs.map ap))]),(au true)]) ⟨_,_,rfl,⟨_,_,_,_,_,rfl,rfl,rfl,rfl⟩,_,_,rfl,rfl,rfl⟩ (PLe.of2 (lW.tup (gc.cons (lW.agg (gc.cons (lW.of_eq rfl) (gc.cons (lW.of_eq rfl) (gc.cons (lW.nil tk rfl) (gc.cons (lW.nil tk rfl) (gc.cons (lW.nil tk rfl) (gc.cons (lW.nil tk rfl) (gc.cons (lW.of_eq rfl) (gc.cons (lW.of_eq rfl) (gc.cons (lW.of_eq rfl) gc.nil)))))))))) (gc.cons (lW.of_eq rfl) gc.nil))))
def cN (x : LRewriteAlternative) (c0 : List Bool) : Option (Bool) :=
 cond (decide (x.node < (0 : Int)))
  (some true)
  (cond (decide (x.node ≥ (c0.length : Int)))
   (some true)
   (cond (x.rule == (11 : Int))
    (ag (aP c0 x.node) fun (x22 : Bool) =>
    some x22)
    (some false)))
theorem kd (x : LRewriteAlternative) (c0 : List Bool) (r : Bool) (H : cN x c0 = some r) :
  aT Tryz.prog 14 [(.agg (bv x)),(.ptr [(.list 4 (c0.map aM))])] (au r) := by
 unfold cN at H
 refine PH.ax Tryz.func14 Tryz.ntmps14 ?_
 refine ae (aa (aG ?_))
 refine ah tk rfl (ab (ae (aa (af 4 tk rfl ?_))))
 refine aO rfl rfl rfl H (fun H=>?_) (fun H=>?_)
 ·refine af 19 tk rfl (ab ?_)
  exact bq tk H rfl
 refine af 3 tk rfl (aD tk (zl _) ?_)
 refine af 3 tk rfl ?_
 refine aO rfl rfl rfl H (fun H=>?_) (fun H=>?_)
 ·refine af 12 tk rfl (ab ?_)
  exact bq tk H rfl
 refine af 4 tk rfl ?_
 refine aO rfl rfl rfl H (fun H=>?_) (fun H=>?_)
 ·refine af 3 tk rfl ?_
  obtain ⟨x22,k22,H⟩ := bB H
  refine aX tk k22.1 (aV (fun _=>rfl) k22.2) ?_
  refine af 4 tk rfl (ab ?_)
  exact bq tk H rfl
 refine af 8 tk rfl (ab ?_)
 exact bq tk H rfl
def bL (sA : List LRewriteAlternative) (f : LRewriteAlternative → Option (Bool)) : Option (Int) :=
 ag (aJ (σ := Unit) (ρ := (Int)) (fun (j1 : Nat) (x1 : LRewriteAlternative) (_ : Unit) =>
  ag (f x1) fun x16 =>
  cond x16
   (some (.ret (j1 : Int)))
   (some (.next ()))) 0 sA ()) fun fl1=>fl1.thenR fun (_ : Unit) =>
 some (-1)
theorem fS {g_f : FuncId} {caps_f : List PV} (sA : List LRewriteAlternative) (f : LRewriteAlternative → Option (Bool)) (hg_f : ∀ (vs : Array Value) (w : World),(callFunc g_f vs).run Tryz.prog w = .ok (.enter g_f vs) w) (hp_f : ∀ a0 r,f a0 = some r → aT Tryz.prog g_f ((.agg (bv a0)) :: caps_f) (au r)) (r : Int) (H : bL sA f = some r) :
  aT Tryz.prog 27 [(.list 44 (sA.map bv)),(.fn g_f caps_f)] (ac r) := by
 unfold bL at H
 refine PH.ax Tryz.func27 Tryz.ntmps27 ?_
 refine aw 1 tk rfl (ae (ae (aa (ah tk rfl (aD tk (zl _) ?_)))))
 refine ah tk rfl (ab ?_)
 refine fw tk 8 7 0 (fun s1 g1=>upd (fun _=>.any) 1 (.fn g_f caps_f)) nB nO () H (fun fl1 Hp1 j1 s1 g1 hz1 hl1 x1 fb1 hx1 H hg1=>?_) (fun s1 g1 H=>?_)
 ·refine ae (aE (aw 2 tk rfl (ae (aa (af 3 tk rfl ?_)))))
  refine aX tk (zn j1) (bg (fun _=>rfl) hx1) ?_
  refine ah tk rfl ?_
  obtain ⟨x16,h16,H⟩ := av H
  refine aq hg_f (eX.r) (hp_f _ _ h16) ?_
  refine ab ?_
  refine aQ rfl H (fun H=>?_) (fun H=>?_)
  ·refine aw 2 tk rfl ?_
   obtain rfl := az H
   have e1 : fl1 = .ret _ := hg1
   subst e1
   obtain rfl := bs Hp1
   refine ba tk rfl (ps := [(ac (j1 : Int))]) ⟨_,_,rfl,rfl,rfl⟩ (PLe.q rfl)
  refine ay (aW (bp 2 tk rfl ?_))
  exact bm () H hl1 hg1
 refine aw 1 tk rfl ?_
 exact bq tk H rfl
def eT (t : LTable) (name : List UInt8) : Option (Int × Bool) :=
 ag (cm t.columns (fun a0=>some (cT a0 name))) fun x10 =>
 some ((if (0 : Int) > x10 then (0 : Int) else x10),(decide (x10 ≥ (0 : Int))))
theorem pB (t : LTable) (name : List UInt8) (r : Int × Bool) (H : eT t name = some r) :
  aT Tryz.prog 87 [(.agg (cR t)),(.str name)] (.tup [(ac r.1),(au r.2)]) := by
 unfold eT at H
 refine PH.ax Tryz.func87 Tryz.ntmps87 ?_
 refine ae (aa (aG ?_))
 refine aG ?_
 refine af 2 tk rfl (ab (ae (aa (af 3 tk rfl ?_))))
 obtain ⟨x10,h10,H⟩ := av H
 have s10 := fC t.columns (fun a0=>some (cT a0 name)) Tryz.call133 (fun a0 r h=>(az h) ▸ oi a0 name) _ h10
 refine aq Tryz.call132 (eX.r) s10 ?_
 refine ah tk rfl (ab (aw 6 tk rfl ?_))
 exact bq tk H rfl
def eu (sA : LSchema) (name : List UInt8) : Option (Int × Bool) :=
 ag (cr sA.tables (fun a0=>some (cB a0 name))) fun x10 =>
 some ((if (0 : Int) > x10 then (0 : Int) else x10),(decide (x10 ≥ (0 : Int))))
theorem jC (sA : LSchema) (name : List UInt8) (r : Int × Bool) (H : eu sA name = some r) :
  aT Tryz.prog 88 [(.agg (aB sA)),(.str name)] (.tup [(ac r.1),(au r.2)]) := by
 unfold eu at H
 refine PH.ax Tryz.func88 Tryz.ntmps88 ?_
 refine ae (aa (aG ?_))
 refine aG ?_
 refine af 2 tk rfl (ab (ae (aa (af 3 tk rfl ?_))))
 obtain ⟨x10,h10,H⟩ := av H
 have s10 := fU sA.tables (fun a0=>some (cB a0 name)) Tryz.call135 (fun a0 r h=>(az h) ▸ pp a0 name) _ h10
 refine aq Tryz.call134 (eX.r) s10 ?_
 refine ah tk rfl (ab (aw 6 tk rfl ?_))
 exact bq tk H rfl
def fy (a : LForeignKey) (b : LForeignKey) : Option (Bool) :=
 cond (a.table == b.table)
  (ag (eD a.columns b.columns) fun x15 =>
  cond x15
   (some (a.refTable == b.refTable))
   (some false))
  (some false)
theorem mg (a : LForeignKey) (b : LForeignKey) (r : Bool) (H : fy a b = some r) :
  aT Tryz.prog 57 [(.agg (iw a)),(.agg (iw b))] (au r) := by
 unfold fy at H
 refine PH.ax Tryz.func57 Tryz.ntmps57 ?_
 refine ae (aa (aG ?_))
 refine aG ?_
 refine ah tk rfl (ab (ae (aa (af 6 tk rfl ?_))))
 refine aO rfl rfl rfl H (fun H=>?_) (fun H=>?_)
 ·refine af 4 tk rfl ?_
  obtain ⟨x15,h15,H⟩ := av H
  have s15 := np a.columns b.columns _ h15
  refine aq Tryz.call90 (eX.r) s15 ?_
  refine af 2 tk rfl ?_
  refine aO rfl rfl rfl H (fun H=>?_) (fun H=>?_)
  ·refine af 7 tk rfl (ab ?_)
   exact bq tk H rfl
  refine af 7 tk rfl (ab ?_)
  exact bq tk H rfl
 refine af 14 tk rfl (ab ?_)
 exact bq tk H rfl
def bI (sA : List LForeignKey) (f : LForeignKey → Option (Bool)) : Option (Bool) :=
 ag (cn sA f) fun x7 =>
 some (decide (x7 ≥ (0 : Int)))
theorem gK {g_f : FuncId} {caps_f : List PV} (sA : List LForeignKey) (f : LForeignKey → Option (Bool)) (hg_f : ∀ (vs : Array Value) (w : World),(callFunc g_f vs).run Tryz.prog w = .ok (.enter g_f vs) w) (hp_f : ∀ a0 r,f a0 = some r → aT Tryz.prog g_f ((.agg (iw a0)) :: caps_f) (au r)) (r : Bool) (H : bI sA f = some r) :
  aT Tryz.prog 55 [(.list 112 (sA.map iw)),(.fn g_f caps_f)] (au r) := by
 unfold bI at H
 refine PH.ax Tryz.func55 Tryz.ntmps55 ?_
 refine aw 1 tk rfl (ae (aa (af 2 tk rfl ?_)))
 obtain ⟨x7,h7,H⟩ := av H
 have s7 := gU sA f hg_f hp_f _ h7
 refine aq Tryz.call89 (eX.r) s7 ?_
 refine af 2 tk rfl (ab ?_)
 exact bq tk H rfl
def iH (a : List UInt8) (b : List UInt8) : Int :=
 bj (dU a b) fun x7 =>
 x7
theorem qA (a : List UInt8) (b : List UInt8) :
  aT Tryz.prog 170 [(.str a),(.str b)] (ac (iH a b)) := by
 obtain ⟨r,H⟩ : ∃ r,iH a b = r := ⟨_,rfl⟩
 rw [H]
 unfold iH at H
 refine PH.ax Tryz.func170 Tryz.ntmps170 ?_
 refine aw 1 tk rfl (ae (aa (af 2 tk rfl ?_)))
 obtain ⟨x7,h7,H⟩ := cZ H
 have s7 := kq a b
 rw [h7] at s7
 refine aq Tryz.call194 (eX.r) s7 ?_
 refine ah tk rfl (ab ?_)
 exact dy tk H rfl
def bO (sA : List LConstraint) (v : LConstraint) : Option (Bool) :=
 ag (cw sA v) fun x7 =>
 some (decide (x7 ≥ (0 : Int)))
theorem hP (sA : List LConstraint) (v : LConstraint) (r : Bool) (H : bO sA v = some r) :
  aT Tryz.prog 59 [(.list 118 (sA.map jv)),(.agg (jv v))] (au r) := by
 unfold bO at H
 refine PH.ax Tryz.func59 Tryz.ntmps59 ?_
 refine ae (aa (aG ?_))
 refine ah tk rfl (ab (ae (aa (af 2 tk rfl ?_))))
 obtain ⟨x7,h7,H⟩ := av H
 have s7 := iz sA v _ h7
 refine aq Tryz.call93 (eX.r) s7 ?_
 refine af 2 tk rfl (ab ?_)
 exact bq tk H rfl
def eO (q : LQuery) : Option (Int) :=
 ag (kI q) fun x7 =>
 some x7.2
theorem lJ (q : LQuery) (r : Int) (H : eO q = some r) :
  aT Tryz.prog 95 [(.agg (am q))] (ac r) := by
 unfold eO at H
 refine PH.ax Tryz.func95 Tryz.ntmps95 ?_
 refine ae (aa (aG ?_))
 refine ah tk rfl (ab (ae (aa (ah tk rfl ?_))))
 obtain ⟨x7,h7,H⟩ := av H
 have s7 := W_query_most q _ h7
 refine aq Tryz.call137 (eX.r) s7 ?_
 refine af 5 tk rfl (ab (aw 2 tk rfl ?_))
 exact bq tk H rfl
def eZ (q : LQuery) : Option ((List Int) × Int) :=
 ag (eC q) fun x18 =>
 ag (aJ (σ := List Int × Bool × List Bool) (ρ := Empty) (fun (_ : Nat) (x1 : LQuery) (s1 : List Int × Bool × List Bool) =>
  ag (aJ (σ := List Int × Bool × List Bool) (ρ := Empty) (fun (_ : Nat) (x12 : LExpr) (s12 : List Int × Bool × List Bool) =>
   ag (et x12 s12.1 s12.2.1 s12.2.2) fun x33 =>
   some (.next (x33.1,x33.2.1,x33.2.2))) 0 x1.exprs (s1.1,s1.2.1,s1.2.2)) fun fl12=>fl12.thenP fun (s12 : List Int × Bool × List Bool) =>
  ag (aJ (σ := List Int × Bool × List Bool) (ρ := Empty) (fun (_ : Nat) (x13 : LAggregateCall) (s13 : List Int × Bool × List Bool) =>
   ag (aJ (σ := List Int × Bool × List Bool) (ρ := Empty) (fun (_ : Nat) (x16 : LExpr) (s16 : List Int × Bool × List Bool) =>
    ag (et x16 s16.1 s16.2.1 s16.2.2) fun x51 =>
    some (.next (x51.1,x51.2.1,x51.2.2))) 0 x13.args (s13.1,s13.2.1,s13.2.2)) fun fl16=>fl16.thenP fun (s16 : List Int × Bool × List Bool) =>
   some (.next (s16.1,s16.2.1,s16.2.2))) 0 x1.aggregates (s12.1,s12.2.1,s12.2.2)) fun fl13=>fl13.thenP fun (s13 : List Int × Bool × List Bool) =>
  some (.next (s13.1,s13.2.1,s13.2.2))) 0 x18 ([],false,(List.replicate 8 false))) fun fl1=>fl1.thenP fun (s1 : List Int × Bool × List Bool) =>
 cond s1.2.1
  (some ([],13))
  (some (s1.1,0))
theorem nS (q : LQuery) (r : (List Int) × Int) (H : eZ q = some r) :
  aT Tryz.prog 96 [(.agg (am q))] (.tup [(.list 3 (r.1.map bE)),(ac r.2)]) := by
 unfold eZ at H
 refine PH.ax Tryz.func96 Tryz.ntmps96 ?_
 refine ae (aa (aG ?_))
 refine af 2 tk rfl (ab (ae (aa ?_)))
 refine aC tk fun b4=>?_
 refine ab (ae (aa ?_))
 refine aC tk fun b5=>?_
 refine ab (ae (aa ?_))
 refine aC tk fun b6=>?_
 refine ao tk ?_
 refine ab (ae (aa ?_))
 refine aC tk fun b7=>?_
 refine ab (ae (aa (ah tk rfl (ao tk ?_))))
 refine ab (ae (ae (aa (ah tk rfl ?_))))
 obtain ⟨x18,h18,H⟩ := av H
 have s18 := im (m := 18) q _ h18
 refine aq Tryz.call8 (eX.r) (PFun.dJ s18) ?_
 refine aD tk (zl _) ?_
 refine ah tk rfl (ab ?_)
 obtain ⟨fl1,H1,Hp1⟩ := av H
 refine jm tk 18 rfl rfl (fun hz1 _=>?_)
 rw [zl] at hz1
 refine kV (τ := List Int × Bool × List Bool) (γ := OwnRef) (fun s1 g1=>⟨57,upd (upd (fun _=>.any) 6 (.box 6 b6 0)) 4 (.box 4 b4 0),upd (upd (fun _=>none) 6 (some ⟨b6,[(au s1.2.1)]⟩)) 4 (some ⟨b4,[(.own 1204 g1 (s1.1.map bE).length)]⟩),upd (fun _=>none) 1204 (some ⟨g1,3,(s1.1.map bE),true⟩)⟩) (fun t=>fl1 = .next t) ?_ (fun s1 g1 hn1=>?_)
 ·refine aE (gk tk 4 0 1204 (e := 3) rfl rfl rfl rfl ?_)
  refine lD (fun j1 s1 g1=>⟨57,upd (upd (upd (upd (upd (upd (fun _=>.any) 20 (ac (j1 : Int))) 19 (ac (x18.length : Int))) 18 (.list 33 (x18.map ap))) 7 (.box 7 b7 0)) 6 (.box 6 b6 0)) 4 (.box 4 b4 0),upd (upd (upd (upd (fun _=>none) 7 (some ⟨b7,[(.fn 138 [(.box 4 b4 0),(.box 6 b6 0),(.box 5 b5 0),(.box 7 b7 0)])]⟩)) 6 (some ⟨b6,[(au s1.2.1)]⟩)) 5 (some ⟨b5,(List.map au s1.2.2)⟩)) 4 (some ⟨b4,[(.own 1204 g1 (s1.1.map bE).length)]⟩),upd (fun _=>none) 1204 (some ⟨g1,3,(s1.1.map bE),true⟩)⟩) (⟨none,0⟩) H1 Gh.d (fun j1 s1 g1 hj1 hr1=>?_)
  refine aw 1 tk rfl (ae ?_)
  refine cF rfl (fun h=>?_) (fun h=>?_)
  ·have hl1 := rowsLt h
   obtain ⟨x1,fb1,hx1,H,hg1⟩ := rMc hl1 hr1
   refine ay (ae (aE (ae (aa (aX tk (zn j1) (bg aI hx1) ?_)))))
   refine ah tk rfl ?_
   refine aC tk fun b9=>?_
   refine ao tk ?_
   refine ab (ae (ae (aa (ah tk rfl (al tk ?_)))))
   refine aD tk (zl _) ?_
   refine ah tk rfl (ab ?_)
   refine dh (γ := OwnRef) tk 27 26 25 (fun s12 g12=>upd (upd (upd (upd (upd (upd (upd (fun _=>.any) 20 (ac (j1 : Int))) 19 (ac (x18.length : Int))) 18 (.list 33 (x18.map ap))) 9 (.box 9 b9 0)) 7 (.box 7 b7 0)) 6 (.box 6 b6 0)) 4 (.box 4 b4 0)) (fun s12 g12=>upd (upd (upd (upd (upd (fun _=>none) 9 (some ⟨b9,(am x1)⟩)) 7 (some ⟨b7,[(.fn 138 [(.box 4 b4 0),(.box 6 b6 0),(.box 5 b5 0),(.box 7 b7 0)])]⟩)) 6 (some ⟨b6,[(au s12.2.1)]⟩)) 5 (some ⟨b5,(List.map au s12.2.2)⟩)) 4 (some ⟨b4,[(.own 1204 g12 (s12.1.map bE).length)]⟩)) (fun s12 g12=>upd (fun _=>none) 1204 (some ⟨g12,3,(s12.1.map bE),true⟩)) g1 H (fun fl12 Hp12 j12 s12 g12 hz12 hl12 x12 fb12 hx12 H hg12=>?_) (fun s12 g12 H=>?_)
   ·refine ae (aE (ae (aa (aX tk (zn j12) (bg aR hx12) ?_))))
    refine ah tk rfl ?_
    refine aC tk fun b11=>?_
    refine ao tk ?_
    refine ab (aa (al tk ?_))
    refine al tk ?_
    obtain ⟨x33,h33,H⟩ := av H
    have s33 := jG b4 g12 b6 b5 b7 x12 s12.1 s12.2.1 s12.2.2 _ h33
    refine gn (st' := ⟨_,_,upd (upd (upd (upd (upd (upd (fun _=>none) 11 (some ⟨b11,(bl x12)⟩)) 9 (some ⟨b9,(am x1)⟩)) 7 (some ⟨b7,[(.fn 138 [(.box 1000 b4 0),(.box 1001 b6 0),(.box 1002 b5 0),(.box 1003 b7 0)])]⟩)) 6 (some ⟨b6,[(au s12.2.1)]⟩)) 5 (some ⟨b5,(List.map au s12.2.2)⟩)) 4 (some ⟨b4,[(.own 1100 g12 (s12.1.map bE).length)]⟩),upd (fun _=>none) 1204 (some ⟨g12,3,(s12.1.map bE),true⟩)⟩) (Gh.le (fD _ _) (aN rfl (eX.of2 (gc.cons (lW.own rfl) gc.nil)) (aN rfl (eX.r) (aN rfl (eX.r) (aN rfl (eX.of2 (gc.cons (lW.fn (gc.cons lW.boxT (gc.cons lW.boxT (gc.cons lW.boxT (gc.cons lW.boxT gc.nil))))) gc.nil)) (aN rfl (eX.r) (aN rfl (eX.r) bu)))))) (cW bt)) ?_
    refine hJ (g := 138) rfl rfl rfl Tryz.call138 [(4,1000),(6,1001),(5,1002),(7,1003)] [(1204,1100)] rfl rfl rfl rfl (eX.of2 (gc.cons (lW.of_eq rfl) (gc.cons lW.boxT (gc.cons lW.boxT (gc.cons lW.boxT (gc.cons lW.boxT gc.nil)))))) (by rw [fg,fg,fg,fg,gA,fG,gC]; rfl) s33 ?_
    rintro u33 H33h ⟨gz33_0,rfl,rfl⟩
    refine ⟨_,rfl,?_⟩
    refine gn (st' := ⟨_,_,upd (upd (upd (upd (upd (upd (fun _=>none) 11 (some ⟨b11,(bl x12)⟩)) 9 (some ⟨b9,(am x1)⟩)) 7 (some ⟨b7,[(.fn 138 [(.box 4 b4 0),(.box 6 b6 0),(.box 5 b5 0),(.box 7 b7 0)])]⟩)) 6 (some ⟨b6,[(au x33.2.1)]⟩)) 5 (some ⟨b5,(List.map au x33.2.2)⟩)) 4 (some ⟨b4,[(.own 1204 gz33_0 (x33.1.map bE).length)]⟩),upd (fun _=>none) 1204 (some ⟨gz33_0,3,(x33.1.map bE),true⟩)⟩) (Gh.le (fD _ _) (aN rfl (eX.of2 (gc.cons (lW.own rfl) gc.nil)) (aN rfl (eX.r) (aN rfl (eX.r) (aN rfl (eX.of2 (gc.cons (lW.fn (gc.cons lW.boxT (gc.cons lW.boxT (gc.cons lW.boxT (gc.cons lW.boxT gc.nil))))) gc.nil)) (aN rfl (eX.r) (aN rfl (eX.r) bu)))))) (cW bt)) ?_
    refine ab (aW (bp 2 tk rfl ?_))
    exact bm gz33_0 H hl12 hg12
   refine ae (aa (ah tk rfl (al tk ?_)))
   refine aD tk (zl _) ?_
   refine ah tk rfl (ab ?_)
   refine dh (γ := OwnRef) tk 38 37 36 (fun s13 g13=>upd (upd (upd (upd (upd (upd (fun _=>.any) 20 (ac (j1 : Int))) 19 (ac (x18.length : Int))) 18 (.list 33 (x18.map ap))) 7 (.box 7 b7 0)) 6 (.box 6 b6 0)) 4 (.box 4 b4 0)) (fun s13 g13=>upd (upd (upd (upd (fun _=>none) 7 (some ⟨b7,[(.fn 138 [(.box 4 b4 0),(.box 6 b6 0),(.box 5 b5 0),(.box 7 b7 0)])]⟩)) 6 (some ⟨b6,[(au s13.2.1)]⟩)) 5 (some ⟨b5,(List.map au s13.2.2)⟩)) 4 (some ⟨b4,[(.own 1204 g13 (s13.1.map bE).length)]⟩)) (fun s13 g13=>upd (fun _=>none) 1204 (some ⟨g13,3,(s13.1.map bE),true⟩)) g12 H (fun fl13 Hp13 j13 s13 g13 hz13 hl13 x13 fb13 hx13 H hg13=>?_) (fun s13 g13 H=>?_)
   ·refine ae (aE (ae (aa ?_)))
    refine aX tk (zn j13) (bg (fun _=>rfl) hx13) ?_
    refine ah tk rfl ?_
    refine aC tk fun b13=>?_
    refine ao tk ?_
    refine ab (ae (aa (ah tk rfl (al tk ?_))))
    refine aD tk (zl _) ?_
    refine ah tk rfl (ab ?_)
    refine dh (γ := OwnRef) tk 45 44 43 (fun s16 g16=>upd (upd (upd (upd (upd (upd (upd (upd (upd (fun _=>.any) 38 (ac (j13 : Int))) 37 (ac (x1.aggregates.length : Int))) 36 (.list 91 (x1.aggregates.map aS))) 20 (ac (j1 : Int))) 19 (ac (x18.length : Int))) 18 (.list 33 (x18.map ap))) 7 (.box 7 b7 0)) 6 (.box 6 b6 0)) 4 (.box 4 b4 0)) (fun s16 g16=>upd (upd (upd (upd (fun _=>none) 7 (some ⟨b7,[(.fn 138 [(.box 4 b4 0),(.box 6 b6 0),(.box 5 b5 0),(.box 7 b7 0)])]⟩)) 6 (some ⟨b6,[(au s16.2.1)]⟩)) 5 (some ⟨b5,(List.map au s16.2.2)⟩)) 4 (some ⟨b4,[(.own 1204 g16 (s16.1.map bE).length)]⟩)) (fun s16 g16=>upd (fun _=>none) 1204 (some ⟨g16,3,(s16.1.map bE),true⟩)) g13 H (fun fl16 Hp16 j16 s16 g16 hz16 hl16 x16 fb16 hx16 H hg16=>?_) (fun s16 g16 H=>?_)
    ·refine ae (aE (ae (aa (aX tk (zn j16) (bg aR hx16) ?_))))
     refine ah tk rfl ?_
     refine aC tk fun b15=>?_
     refine ao tk ?_
     refine ab (aa (al tk ?_))
     refine al tk ?_
     obtain ⟨x51,h51,H⟩ := av H
     have s51 := jG b4 g16 b6 b5 b7 x16 s16.1 s16.2.1 s16.2.2 _ h51
     refine gn (st' := ⟨_,_,upd (upd (upd (upd (upd (fun _=>none) 15 (some ⟨b15,(bl x16)⟩)) 7 (some ⟨b7,[(.fn 138 [(.box 1000 b4 0),(.box 1001 b6 0),(.box 1002 b5 0),(.box 1003 b7 0)])]⟩)) 6 (some ⟨b6,[(au s16.2.1)]⟩)) 5 (some ⟨b5,(List.map au s16.2.2)⟩)) 4 (some ⟨b4,[(.own 1100 g16 (s16.1.map bE).length)]⟩),upd (fun _=>none) 1204 (some ⟨g16,3,(s16.1.map bE),true⟩)⟩) (Gh.le (fD _ _) (aN rfl (eX.of2 (gc.cons (lW.own rfl) gc.nil)) (aN rfl (eX.r) (aN rfl (eX.r) (aN rfl (eX.of2 (gc.cons (lW.fn (gc.cons lW.boxT (gc.cons lW.boxT (gc.cons lW.boxT (gc.cons lW.boxT gc.nil))))) gc.nil)) (aN rfl (eX.r) bu))))) (cW bt)) ?_
     refine hJ (g := 138) rfl rfl rfl Tryz.call138 [(4,1000),(6,1001),(5,1002),(7,1003)] [(1204,1100)] rfl rfl rfl rfl (eX.of2 (gc.cons (lW.of_eq rfl) (gc.cons lW.boxT (gc.cons lW.boxT (gc.cons lW.boxT (gc.cons lW.boxT gc.nil)))))) (by rw [fg,fg,fg,fg,gA,fG,gC]; rfl) s51 ?_
     rintro u51 H51h ⟨gz51_0,rfl,rfl⟩
     refine ⟨_,rfl,?_⟩
     refine gn (st' := ⟨_,_,upd (upd (upd (upd (upd (fun _=>none) 15 (some ⟨b15,(bl x16)⟩)) 7 (some ⟨b7,[(.fn 138 [(.box 4 b4 0),(.box 6 b6 0),(.box 5 b5 0),(.box 7 b7 0)])]⟩)) 6 (some ⟨b6,[(au x51.2.1)]⟩)) 5 (some ⟨b5,(List.map au x51.2.2)⟩)) 4 (some ⟨b4,[(.own 1204 gz51_0 (x51.1.map bE).length)]⟩),upd (fun _=>none) 1204 (some ⟨gz51_0,3,(x51.1.map bE),true⟩)⟩) (Gh.le (fD _ _) (aN rfl (eX.of2 (gc.cons (lW.own rfl) gc.nil)) (aN rfl (eX.r) (aN rfl (eX.r) (aN rfl (eX.of2 (gc.cons (lW.fn (gc.cons lW.boxT (gc.cons lW.boxT (gc.cons lW.boxT (gc.cons lW.boxT gc.nil))))) gc.nil)) (aN rfl (eX.r) bu))))) (cW bt)) ?_
     refine ab (aW (bp 2 tk rfl ?_))
     exact bm gz51_0 H hl16 hg16
    refine aW (bp 2 tk rfl ?_)
    exact bm g16 H hl13 hg13
   refine aW (bp 2 tk rfl ?_)
   exact bm g13 H hl1 hg1
  have hn1 := rMd (rowsGe h) hr1
  refine dt rfl ?_
  refine aH s1 g1 hn1 Gh.d
 have H := kH hn1 Hp1
 refine ae (ae (aa (al tk ?_)))
 refine ab ?_
 refine aQ rfl H (fun H=>?_) (fun H=>?_)
 ·refine aw 2 tk rfl ?_
  obtain rfl := az H
  refine ba tk rfl (ps := [(.val (.slice none 0 0)),(ac 13)]) ⟨_,_,rfl,rfl,_,_,rfl,rfl,rfl⟩ (PLe.of2 (lW.tup (gc.cons (lW.nil tk rfl) (gc.cons (lW.of_eq rfl) gc.nil))))
 refine ay (ae (aa (al tk ?_)))
 refine af 2 tk rfl (ab (eh 2 rfl rfl rfl ?_))
 exact bq tk H rfl
def dZ (sA : List Int) (v : Int) : Option (Bool) :=
 ag (fW sA v) fun x7 =>
 some (decide (x7 ≥ (0 : Int)))
theorem lX (sA : List Int) (v : Int) (r : Bool) (H : dZ sA v = some r) :
  aT Tryz.prog 172 [(.list 3 (sA.map bE)),(ac v)] (au r) := by
 unfold dZ at H
 refine PH.ax Tryz.func172 Tryz.ntmps172 ?_
 refine aw 1 tk rfl (ae (aa (af 2 tk rfl ?_)))
 obtain ⟨x7,h7,H⟩ := av H
 have s7 := nC sA v _ h7
 refine aq Tryz.call195 (eX.r) s7 ?_
 refine af 2 tk rfl (ab ?_)
 exact bq tk H rfl
def gE (kind : Int) (a : List LCol) (b : List LCol) : Option ((List LCol) × Int) :=
 cond ((a.length : Int) != (b.length : Int))
  (some ([],7))
  (ag (aJ (σ := List LCol) (ρ := ((List LCol) × Int)) (fun (j1 : Nat) (x1 : LCol) (s1 : List LCol) =>
   ag (aP b (j1 : Int)) fun (x29 : LCol) =>
   cond (x1.kind != x29.kind)
    (some (.ret ([],7)))
    (cond x1.nullable
     (ag (aP s1 (j1 : Int)) fun (x51 : LCol) =>
     bj (s1.set ((j1 : Int).toNat) (LCol.mk x51.name x51.kind true)) fun (y8 : List LCol) =>
     some (.next y8))
     (cond (kind == (6 : Int))
      (ag (aP b (j1 : Int)) fun (x46 : LCol) =>
      ag (aP s1 (j1 : Int)) fun (x51 : LCol) =>
      bj (s1.set ((j1 : Int).toNat) (LCol.mk x51.name x51.kind x46.nullable)) fun (y9 : List LCol) =>
      some (.next y9))
      (ag (aP s1 (j1 : Int)) fun (x51 : LCol) =>
      bj (s1.set ((j1 : Int).toNat) (LCol.mk x51.name x51.kind false)) fun (y10 : List LCol) =>
      some (.next y10))))) 0 a a) fun fl1=>fl1.thenR fun (s1 : List LCol) =>
  some (s1,0))
theorem pX (kind : Int) (a : List LCol) (b : List LCol) (r : (List LCol) × Int) (H : gE kind a b = some r) :
  aT Tryz.prog 175 [(ac kind),(.list 52 (a.map bd)),(.list 52 (b.map bd))] (.tup [(.list 52 (r.1.map bd)),(ac r.2)]) := by
 unfold gE at H
 refine PH.ax Tryz.func175 Tryz.ntmps175 ?_
 refine aw 2 tk rfl (ae (ae (aa (ah tk rfl (aD tk (zl _) ?_)))))
 refine ah tk rfl (aD tk (zl _) ?_)
 refine ah tk rfl (ab ?_)
 refine aQ rfl H (fun H=>?_) (fun H=>?_)
 ·refine aw 2 tk rfl ?_
  obtain rfl := az H
  refine ba tk rfl (ps := [(.val (.slice none 0 0)),(ac 7)]) ⟨_,_,rfl,rfl,_,_,rfl,rfl,rfl⟩ (PLe.of2 (lW.tup (gc.cons (lW.nil tk rfl) (gc.cons (lW.of_eq rfl) gc.nil))))
 refine ay (ae (aa (ah tk rfl ?_)))
 have s16 := pT (m := 16) a
 refine qU (g := 158) rfl rfl rfl Tryz.call158 (eX.r) rfl rfl s16 (fun g16=>?_)
 refine ah tk rfl (ab (ae (ae (aa (ah tk rfl (aD tk (zl _) ?_))))))
 refine ah tk rfl (ab ?_)
 refine fw (γ := OwnRef) tk 19 18 1 (fun s1 g1=>upd (upd (upd (fun _=>.any) 8 (.own 16 g1 (s1.map bd).length)) 2 (.list 52 (b.map bd))) 0 (ac kind)) nB (fun s1 g1=>upd (fun _=>none) 16 (some ⟨g1,52,(s1.map bd),true⟩)) g16 H (fun fl1 Hp1 j1 s1 g1 hz1 hl1 x1 fb1 hx1 H hg1=>?_) (fun s1 g1 H=>?_)
 ·refine ae (aE (aw 2 tk rfl (ae (ae ?_))))
  refine gu (tag := 16) rfl (fun ho16=>?_)
  refine br tk mok ⟨false,false,[]⟩ [0,1,2,3,4,5,6,7,8,9,10] rfl (by decide +kernel) rfl (bc 2 rfl ?_)
  refine bF (zn j1) (bg (fun _=>rfl) hx1) ?_
  refine bc 4 rfl ?_
  obtain ⟨x29,k29,H⟩ := bB H
  refine bF k29.1 (aV (fun _=>rfl) k29.2) ?_
  refine bc 3 rfl (bi ?_)
  refine aQ rfl H (fun H=>?_) (fun H=>?_)
  ·refine aw 2 tk rfl ?_
   obtain rfl := az H
   have e1 : fl1 = .ret _ := hg1
   subst e1
   obtain rfl := bs Hp1
   refine ba tk rfl (ps := [(.val (.slice none 0 0)),(ac 7)]) ⟨_,_,rfl,rfl,_,_,rfl,rfl,rfl⟩ (PLe.of2 (lW.tup (gc.cons (lW.nil tk rfl) (gc.cons (lW.of_eq rfl) gc.nil))))
  refine ay (aa (af 4 tk rfl ?_))
  refine aX tk (zn j1) (bg (fun _=>rfl) hx1) ?_
  refine af 3 tk rfl ?_
  refine aO rfl rfl rfl H (fun H=>?_) (fun H=>?_)
  ·refine af 10 tk rfl ?_
   obtain ⟨x51,k51,H⟩ := bB H
   refine li (tag := 16) rfl (fun ho16=>?_)
   refine lj tk rfl rfl rfl rfl rfl rfl rfl ⟨k51.1,(dW k51.2)⟩ (dX ho16 k51.2) rfl (ah tk rfl ?_)
   obtain ⟨y8,hy8,H⟩ := cZ H
   refine pP tk rfl rfl rfl rfl rfl rfl rfl rfl (by rw [zl]; exact (zg.1 k51.2).1) (PLe.refl _ _) rfl rfl rfl rfl (by decide) (fe (fun _=>rfl) k51.2 rfl hy8) ?_
   refine ab (aW (bp 2 tk rfl ?_))
   exact bm g1 H hl1 hg1 (Gh.le (aL (aL (cj (PLe.q (eP (by omega))) (aL (aL (cj (PLe.of2 (lW.of_eq (congrArg (PV.own 16 g1) (gG (f := bd) hy8)))) bQ)))))) bu (cW bt))
  refine af 3 tk rfl ?_
  refine aO rfl rfl rfl H (fun H=>?_) (fun H=>?_)
  ·refine af 2 tk rfl ?_
   obtain ⟨x46,k46,H⟩ := bB H
   refine aX tk k46.1 (aV (fun _=>rfl) k46.2) ?_
   refine af 4 tk rfl ?_
   obtain ⟨x51,k51,H⟩ := bB H
   refine li (tag := 16) rfl (fun ho16=>?_)
   refine lj tk rfl rfl rfl rfl rfl rfl rfl ⟨k51.1,(dW k51.2)⟩ (dX ho16 k51.2) rfl (ah tk rfl ?_)
   obtain ⟨y9,hy9,H⟩ := cZ H
   refine pP tk rfl rfl rfl rfl rfl rfl rfl rfl (by rw [zl]; exact (zg.1 k51.2).1) (PLe.refl _ _) rfl rfl rfl rfl (by decide) (fe (fun _=>rfl) k51.2 rfl hy9) ?_
   refine ab (aW (bp 2 tk rfl ?_))
   exact bm g1 H hl1 hg1 (Gh.le (aL (aL (cj (PLe.q (eP (by omega))) (aL (aL (cj (PLe.of2 (lW.of_eq (congrArg (PV.own 16 g1) (gG (f := bd) hy9)))) bQ)))))) bu (cW bt))
  refine af 7 tk rfl ?_
  obtain ⟨x51,k51,H⟩ := bB H
  refine li (tag := 16) rfl (fun ho16=>?_)
  refine lj tk rfl rfl rfl rfl rfl rfl rfl ⟨k51.1,(dW k51.2)⟩ (dX ho16 k51.2) rfl (ah tk rfl ?_)
  obtain ⟨y10,hy10,H⟩ := cZ H
  refine pP tk rfl rfl rfl rfl rfl rfl rfl rfl (by rw [zl]; exact (zg.1 k51.2).1) (PLe.refl _ _) rfl rfl rfl rfl (by decide) (fe (fun _=>rfl) k51.2 rfl hy10) ?_
  refine ab (aW (bp 2 tk rfl ?_))
  exact bm g1 H hl1 hg1 (Gh.le (aL (aL (cj (PLe.q (eP (by omega))) (aL (aL (cj (PLe.of2 (lW.of_eq (congrArg (PV.own 16 g1) (gG (f := bd) hy10)))) bQ)))))) bu (cW bt))
 refine aw 3 tk rfl (eh 6 rfl rfl rfl ?_)
 exact bq tk H rfl
def cz (sA : List (List UInt8)) (v : List UInt8) : Option (Bool) :=
 ag (bN sA v) fun x7 =>
 some (decide (x7 ≥ (0 : Int)))
theorem hX (sA : List (List UInt8)) (v : List UInt8) (r : Bool) (H : cz sA v = some r) :
  aT Tryz.prog 103 [(.list 9 (sA.map aF)),(.str v)] (au r) := by
 unfold cz at H
 refine PH.ax Tryz.func103 Tryz.ntmps103 ?_
 refine aw 1 tk rfl (ae (aa (af 2 tk rfl ?_)))
 obtain ⟨x7,h7,H⟩ := av H
 have s7 := iF sA v _ h7
 refine aq Tryz.call99 (eX.r) s7 ?_
 refine af 2 tk rfl (ab ?_)
 exact bq tk H rfl
def cp (sA : List (List UInt8)) (v : List UInt8) : Option (Bool × (List (List UInt8))) :=
 ag (cV sA v) fun x7 =>
 ag (lO (x7.2.length = sA.length) ()) fun (_ : Unit) =>
 some ((decide (x7.1 ≥ (0 : Int))),x7.2)
theorem jR (g_sA : OwnRef) (sA : List (List UInt8)) (v : List UInt8) (r : Bool × (List (List UInt8))) (H : cp sA v = some r) :
  PH Tryz.prog 103 [(.own 0 g_sA (sA.map aF).length),(.str v)] ⟨fun _=>none,upd (fun _=>none) 0 (some ⟨g_sA,9,(sA.map aF),true⟩)⟩ (fun u H=>u = (au r.1) ∧ H = ⟨fun _=>none,upd (fun _=>none) 0 (some ⟨g_sA,9,(r.2.map aF),true⟩)⟩) := by
 unfold cp at H
 refine PH.ax Tryz.func103 Tryz.ntmps103 ?_
 refine aw 1 tk rfl (ae (aa (af 2 tk rfl ?_)))
 obtain ⟨x7,h7,H⟩ := av H
 have s7 := kC g_sA sA v _ h7
 obtain ⟨_,q7_0,H⟩ := av H
 have l7_0 := (nZ q7_0).1
 have z7_0 : (List.map aF sA).length = (List.map aF x7.2).length := by simpa using (l7_0).symm
 refine hJ (g := 99) rfl rfl rfl Tryz.call99 [] [(0,0)] rfl rfl rfl rfl (eX.of2 (gc.cons (lW.own rfl) (gc.cons (lW.of_eq rfl) gc.nil))) (by rw [gA,fG,gC]; rfl) s7 ?_
 rintro u7 H7h ⟨rfl,rfl⟩
 refine ⟨_,rfl,?_⟩
 refine gn (st' := ⟨_,_,fun _=>none,upd (fun _=>none) 0 (some ⟨g_sA,9,(x7.2.map aF),true⟩)⟩) (Gh.le (fD _ _) bu (cW bt)) ?_
 refine af 2 tk rfl (ab ?_)
 obtain rfl := az H
 refine lA (st' := ⟨9,upd (fun _=>.any) 4 (au (decide (x7.1 ≥ (0 : Int)))),fun _=>none,upd (fun _=>none) 0 (some ⟨g_sA,9,(x7.2.map aF),true⟩)⟩) (Gh.le (aL bQ) bu (cW bt)) ?_
 refine rc tk rfl (ps := [(au (decide (x7.1 ≥ (0 : Int))))]) ⟨_,_,rfl,rfl,rfl⟩ (PLe.q rfl) ⟨rfl,rfl⟩
def bJ (sA : List LCol) (f : LCol → Option (Bool)) : Option (Bool) :=
 ag (cm sA f) fun x7 =>
 some (decide (x7 ≥ (0 : Int)))
theorem iD {g_f : FuncId} {caps_f : List PV} (sA : List LCol) (f : LCol → Option (Bool)) (hg_f : ∀ (vs : Array Value) (w : World),(callFunc g_f vs).run Tryz.prog w = .ok (.enter g_f vs) w) (hp_f : ∀ a0 r,f a0 = some r → aT Tryz.prog g_f ((.agg (bd a0)) :: caps_f) (au r)) (r : Bool) (H : bJ sA f = some r) :
  aT Tryz.prog 141 [(.list 52 (sA.map bd)),(.fn g_f caps_f)] (au r) := by
 unfold bJ at H
 refine PH.ax Tryz.func141 Tryz.ntmps141 ?_
 refine aw 1 tk rfl (ae (aa (af 2 tk rfl ?_)))
 obtain ⟨x7,h7,H⟩ := av H
 have s7 := fC sA f hg_f hp_f _ h7
 refine aq Tryz.call132 (eX.r) s7 ?_
 refine af 2 tk rfl (ab ?_)
 exact bq tk H rfl
def cQ (sA : List Bool) (v : Bool) : Option (Bool) :=
 ag (ep sA v) fun x7 =>
 some (decide (x7 ≥ (0 : Int)))
theorem iN (sA : List Bool) (v : Bool) (r : Bool) (H : cQ sA v = some r) :
  aT Tryz.prog 9 [(.list 4 (sA.map aM)),(au v)] (au r) := by
 unfold cQ at H
 refine PH.ax Tryz.func9 Tryz.ntmps9 ?_
 refine aw 1 tk rfl (ae (aa (af 2 tk rfl ?_)))
 obtain ⟨x7,h7,H⟩ := av H
 have s7 := mi sA v _ h7
 refine aq Tryz.call25 (eX.r) s7 ?_
 refine af 2 tk rfl (ab ?_)
 exact bq tk H rfl
def bW (sA : List LQuery) (f : LQuery → Option (Bool)) : Option (Bool) :=
 ag (ci sA f) fun x7 =>
 some (decide (x7 ≥ (0 : Int)))
theorem ii {g_f : FuncId} {caps_f : List PV} (sA : List LQuery) (f : LQuery → Option (Bool)) (hg_f : ∀ (vs : Array Value) (w : World),(callFunc g_f vs).run Tryz.prog w = .ok (.enter g_f vs) w) (hp_f : ∀ a0 r,f a0 = some r → aT Tryz.prog g_f ((.agg (am a0)) :: caps_f) (au r)) (r : Bool) (H : bW sA f = some r) :
  aT Tryz.prog 10 [(.list 33 (sA.map ap)),(.fn g_f caps_f)] (au r) := by
 unfold bW at H
 refine PH.ax Tryz.func10 Tryz.ntmps10 ?_
 refine aw 1 tk rfl (ae (aa (af 2 tk rfl ?_)))
 obtain ⟨x7,h7,H⟩ := av H
 have s7 := iG sA f hg_f hp_f _ h7
 refine aq Tryz.call26 (eX.r) s7 ?_
 refine af 2 tk rfl (ab ?_)
 exact bq tk H rfl
def jz (_rec63 : LExpr → Option (LExpr)) (rec68 : LExpr → (List (List UInt8)) → (List LExpr) → Option (LExpr)) (e : LExpr) : Option (LExpr) :=
 ag (rec68 e ([] : List (List UInt8)) ([] : List LExpr)) fun x4 =>
 some x4
theorem WO_expr_Clone (rec63 : LExpr → Option (LExpr)) (rec68 : LExpr → (List (List UInt8)) → (List LExpr) → Option (LExpr)) (_hrec63 : ∀ a0 r,rec63 a0 = some r → aT Tryz.prog 63 [(.agg (bl a0))] (.agg (bl r))) (hrec68 : ∀ a0 a1 a2 r,rec68 a0 a1 a2 = some r → aT Tryz.prog 68 [(.agg (bl a0)),(.list 9 (a1.map aF)),(.list 94 (a2.map ak))] (.agg (bl r))) (e : LExpr) (r : LExpr) (H : jz rec63 rec68 e = some r) :
  aT Tryz.prog 63 [(.agg (bl e))] (.agg (bl r)) := by
 unfold jz at H
 refine PH.ax Tryz.func63 Tryz.ntmps63 ?_
 refine ae (aa (aG ?_))
 refine aC tk fun b2=>?_
 refine ab (ae (aa (ah tk rfl ?_)))
 obtain ⟨x4,h4,H⟩ := av H
 have s4 := hrec68 e ([] : List (List UInt8)) ([] : List LExpr) _ h4
 refine aq Tryz.call68 (eX.of2 (gc.cons (lW.of_eq rfl) (gc.cons (lW.nil tk rfl) (gc.cons (lW.nil tk rfl) gc.nil)))) s4 ?_
 refine ao tk ?_
 refine ab ?_
 exact pS tk H rfl rfl rfl rfl rfl
def eH (rec63 : LExpr → Option (LExpr)) (rec68 : LExpr → (List (List UInt8)) → (List LExpr) → Option (LExpr)) (e : LExpr) (names : List (List UInt8)) (l : List LExpr) : Option (LExpr) :=
 ag (
  cond (e.kind == (2 : Int))
   (ag (bN names e.name) fun x17 =>
   cond (decide (x17 ≥ (0 : Int)))
    (cond (decide (x17 < (l.length : Int)))
     (ag (aP l x17) fun (x28 : LExpr) =>
     ag (rec63 x28) fun x30 =>
     some (.ret x30))
     (some (.next ())))
    (some (.next ())))
   (some (.next ()))) fun (fl1 : Flow (Unit) (LExpr))=>fl1.thenR fun _ =>
 ag (aJ (σ := List LExpr) (ρ := Empty) (fun (_ : Nat) (x2 : LExpr) (s2 : List LExpr) =>
  ag (rec68 x2 names l) fun x45 =>
  ag (bY 88 s2 ([x45] : List LExpr)) fun (x47 : List LExpr) =>
  some (.next x47)) 0 e.args []) fun fl2=>fl2.thenP fun (s2 : List LExpr) =>
 some (LExpr.mk e.kind e.name e.index e.value s2)
theorem pK (rec63 : LExpr → Option (LExpr)) (rec68 : LExpr → (List (List UInt8)) → (List LExpr) → Option (LExpr)) (hrec63 : ∀ a0 r,rec63 a0 = some r → aT Tryz.prog 63 [(.agg (bl a0))] (.agg (bl r))) (hrec68 : ∀ a0 a1 a2 r,rec68 a0 a1 a2 = some r → aT Tryz.prog 68 [(.agg (bl a0)),(.list 9 (a1.map aF)),(.list 94 (a2.map ak))] (.agg (bl r))) (e : LExpr) (names : List (List UInt8)) (l : List LExpr) (r : LExpr) (H : eH rec63 rec68 e names l = some r) :
  aT Tryz.prog 68 [(.agg (bl e)),(.list 9 (names.map aF)),(.list 94 (l.map ak))] (.agg (bl r)) := by
 unfold eH at H
 refine PH.ax Tryz.func68 Tryz.ntmps68 ?_
 refine ae (aa (aG ?_))
 refine aC tk fun b6=>?_
 refine ab (ae (aw 3 tk rfl ?_))
 refine V.cutR (γ := Unit) (fun t1 g1=>⟨51,upd (upd (upd (upd (fun _=>.any) 6 (.box 6 b6 0)) 3 (.ptr (bl e))) 2 (.list 94 (l.map ak))) 1 (.list 9 (names.map aF)),upd (fun _=>none) 6 (some ⟨b6,[(ac 0),(.str []),(ac 0),(ac 0),(ac 0),(.str []),(.val (.slice none 0 0))]⟩),fun _=>none⟩) H (fun _ H Hp1=>?_) (fun t1 g1 H=>?_)
 ·refine aQ rfl H (fun H=>?_) (fun H=>?_)
  ·refine ae (aa (af 3 tk rfl ?_))
   obtain ⟨x17,h17,H⟩ := av H
   have s17 := iF names e.name _ h17
   refine aq Tryz.call99 (eX.r) s17 ?_
   refine ah tk rfl (ab (ae (aa (af 3 tk rfl ?_))))
   refine aO rfl rfl rfl H (fun H=>?_) (fun H=>?_)
   ·refine af 2 tk rfl (aD tk (zl _) ?_)
    refine af 2 tk rfl (ab ?_)
    refine aQ rfl H (fun H=>?_) (fun H=>?_)
    ·refine ae (aa (af 2 tk rfl ?_))
     obtain ⟨x28,k28,H⟩ := bB H
     refine aX tk k28.1 (aV aR k28.2) ?_
     refine ah tk rfl ?_
     obtain ⟨x30,h30,H⟩ := av H
     have s30 := hrec63 x28 _ h30
     refine aq Tryz.call63 (eX.r) s30 ?_
     refine ao tk ?_
     refine ab ?_
     obtain rfl := az H
     obtain rfl := bs Hp1
     refine ba tk rfl (ps := [(.agg (bl x30))]) ⟨_,_,rfl,⟨_,_,_,_,_,rfl,rfl,rfl,rfl⟩,rfl⟩ (PLe.q rfl)
    refine ay ?_
    refine aH _ () (az H).symm Gh.d
   refine af 5 tk rfl (ab (bT rfl (ay ?_)))
   refine aH _ () (az H).symm Gh.d
  refine ay ?_
  refine aH _ () (az H).symm Gh.d
 refine ae (aa (ah tk rfl ?_))
 refine aC tk fun b8=>?_
 refine ao tk ?_
 refine ab (ae (aa (ah tk rfl (ao tk ?_))))
 refine ab (ae (ae (aa (af 2 tk rfl (aD tk (zl _) ?_)))))
 refine ah tk rfl (ab (gk tk 8 6 47 (e := 94) rfl rfl rfl rfl ?_))
 refine dh (γ := OwnRef) tk 36 35 34 (fun s2 g2=>upd (upd (upd (upd (fun _=>.any) 8 (.box 8 b8 0)) 6 (.box 6 b6 0)) 2 (.list 94 (l.map ak))) 1 (.list 9 (names.map aF))) (fun s2 g2=>upd (upd (fun _=>none) 8 (some ⟨b8,[(ac e.kind),(.str e.name),(ac e.index),(ac e.value.kind),(ac e.value.int),(.str e.value.text),(.own 47 g2 (s2.map ak).length)]⟩)) 6 (some ⟨b6,[(ac 0),(.str []),(ac 0),(ac 0),(ac 0),(.str []),(.val (.slice none 0 0))]⟩)) (fun s2 g2=>upd (fun _=>none) 47 (some ⟨g2,94,(s2.map ak),true⟩)) (⟨none,0⟩) H (fun fl2 Hp2 j2 s2 g2 hz2 hl2 x2 fb2 hx2 H hg2=>?_) (fun s2 g2 H=>?_)
 ·refine ae (aE (ae (aa (aX tk (zn j2) (bg aR hx2) ?_))))
  refine ah tk rfl ?_
  refine aC tk fun b10=>?_
  refine ao tk ?_
  refine ab (cd 10 ?_)
  refine br tk mok ⟨true,false,[42]⟩ [0,1,2,3,4,5,6,7,8,9] rfl (by decide +kernel) rfl (bf rfl (aU ?_))
  refine bc 3 rfl ?_
  obtain ⟨x45,h45,H⟩ := av H
  have s45 := hrec68 x2 names l _ h45
  refine aZ Tryz.call68 (eX.r) s45 ?_
  refine bf rfl ?_
  obtain ⟨x47,h47,H⟩ := av H
  have k47 := bD h47
  refine eo (rows2' := List.map ak ([x45] : List LExpr)) (rows' := List.map ak x47) tk rfl rfl rfl rfl rfl rfl rfl rfl rfl rfl rfl rfl rfl rfl (dF.trans (b := List.map bl [x45]) (dF.refl _) (dF.of_eq (bP aR [x45]))) (cf k47.1) (cg k47.2.1) (ce k47.2.2) fun g47=>?_
  refine bf rfl (bh ?_)
  refine bi (aW (bp 2 tk rfl ?_))
  exact bm g47 H hl2 hg2
 refine ae (aa (al tk ?_))
 refine ao tk ?_
 refine ab (bC 6 6 rfl rfl rfl rfl rfl ?_)
 exact pS tk H rfl rfl rfl rfl rfl
mutual
def fL : Nat → LExpr → Option (LExpr)
 | 0,_=>none
 | n + 1,v0=>jz (fun b0=>fL n b0) (fun b0 b1 b2=>bw n b0 b1 b2) v0
def bw : Nat → LExpr → (List (List UInt8)) → (List LExpr) → Option (LExpr)
 | 0,_,_,_=>none
 | n + 1,v0,v1,v2=>eH (fun b0=>fL n b0) (fun b0 b1 b2=>bw n b0 b1 b2) v0 v1 v2
end
theorem px  (n : Nat) : (∀ a0 r,fL n a0 = some r → aT Tryz.prog 63 [(.agg (bl a0))] (.agg (bl r))) ∧ (∀ a0 a1 a2 r,bw n a0 a1 a2 = some r → aT Tryz.prog 68 [(.agg (bl a0)),(.list 9 (a1.map aF)),(.list 94 (a2.map ak))] (.agg (bl r))) := by
 induction n with
 | zero=>exact ⟨(by intros; rename_i h; exact absurd (show (none : Option _) = some _ from h) (by simp)),(by intros; rename_i h; exact absurd (show (none : Option _) = some _ from h) (by simp))⟩
 | succ n ih =>
  exact ⟨(fun v0 r h=>WO_expr_Clone (fun b0=>fL n b0) (fun b0 b1 b2=>bw n b0 b1 b2) ih.1 ih.2 v0  r h),(fun v0 v1 v2 r h=>pK (fun b0=>fL n b0) (fun b0 b1 b2=>bw n b0 b1 b2) ih.1 ih.2 v0 v1 v2  r h)⟩
def dH (e : LExpr) : Option (LExpr) := fA fun n=>fL n e
theorem gv (e : LExpr) (r : LExpr) (H : dH e = some r) :
  aT Tryz.prog 63 [(.agg (bl e))] (.agg (bl r)) := by
 obtain ⟨n,h⟩ := fv H
 exact (px  n).1 e r h
def dB (e : LExpr) (names : List (List UInt8)) (l : List LExpr) : Option (LExpr) := fA fun n=>bw n e names l
theorem iJ (e : LExpr) (names : List (List UInt8)) (l : List LExpr) (r : LExpr) (H : dB e names l = some r) :
  aT Tryz.prog 68 [(.agg (bl e)),(.list 9 (names.map aF)),(.list 94 (l.map ak))] (.agg (bl r)) := by
 obtain ⟨n,h⟩ := fv H
 exact (px  n).2 e names l r h
def cE (sA : List (List UInt8)) (f : (List UInt8) → Option (Bool)) : Option (Bool) :=
 ag (dI sA f) fun x7 =>
 some (decide (x7 ≥ (0 : Int)))
theorem jK {g_f : FuncId} {caps_f : List PV} (sA : List (List UInt8)) (f : (List UInt8) → Option (Bool)) (hg_f : ∀ (vs : Array Value) (w : World),(callFunc g_f vs).run Tryz.prog w = .ok (.enter g_f vs) w) (hp_f : ∀ a0 r,f a0 = some r → aT Tryz.prog g_f ((.str a0) :: caps_f) (au r)) (r : Bool) (H : cE sA f = some r) :
  aT Tryz.prog 100 [(.list 9 (sA.map aF)),(.fn g_f caps_f)] (au r) := by
 unfold cE at H
 refine PH.ax Tryz.func100 Tryz.ntmps100 ?_
 refine aw 1 tk rfl (ae (aa (af 2 tk rfl ?_)))
 obtain ⟨x7,h7,H⟩ := av H
 have s7 := jW sA f hg_f hp_f _ h7
 refine aq Tryz.call143 (eX.r) s7 ?_
 refine af 2 tk rfl (ab ?_)
 exact bq tk H rfl
def du (slices : List (List (List UInt8))) : Option ((List (List UInt8))) :=
 ag (aJ (σ := Int) (ρ := Empty) (fun (_ : Nat) (x1 : List (List UInt8)) (s1 : Int) =>
  cond (decide ((IntKind.i64.wrap (s1 + (x1.length : Int))) < (0 : Int)))
   (none)
   (some (.next (IntKind.i64.wrap (s1 + (x1.length : Int)))))) 0 slices 0) fun fl1=>fl1.thenP fun (s1 : Int) =>
 ag (growI 16 s1) fun (_ : Unit) =>
 ag (aJ (σ := List (List UInt8)) (ρ := Empty) (fun (_ : Nat) (x2 : List (List UInt8)) (s2 : List (List UInt8)) =>
  ag (bY 16 s2 x2) fun (x33 : List (List UInt8)) =>
  some (.next x33)) 0 slices []) fun fl2=>fl2.thenP fun (s2 : List (List UInt8)) =>
 some s2
theorem kO {m : Nat} (slices : List (List (List UInt8))) (r : (List (List UInt8))) (H : du slices = some r) :
  dY Tryz.prog 74 [(.list 27 (slices.map (ju 9 aF)))] (jq m 9 (r.map aF)) := by
 unfold du at H
 refine PH.ax Tryz.func74 Tryz.ntmps74 ?_
 refine aw 1 tk rfl (aw 1 tk rfl (ae (ae (aa (ah tk rfl (aD tk (zl _) ?_))))))
 refine ah tk rfl (ab ?_)
 refine dh tk 11 10 9 (fun s1 g1=>upd (upd (fun _=>.any) 3 (ac s1)) 0 (.list 27 (slices.map (ju 9 aF)))) nB nO () H (fun fl1 Hp1 j1 s1 g1 hz1 hl1 x1 fb1 hx1 H hg1=>?_) (fun s1 g1 H=>?_)
 ·refine ae (aE (ae (aa ?_)))
  refine aX tk (zn j1) (bg (fun _=>rfl) hx1) ?_
  refine af 2 tk rfl (ab (ae (aa (af 2 tk rfl (aD tk (zl _) ?_)))))
  refine af 2 tk rfl (ab (aw 2 tk rfl ?_))
  refine aQ rfl H (fun H=>?_) (fun H=>?_)
  ·cases H
  refine ay (aW (bp 2 tk rfl ?_))
  exact bm () H hl1 hg1
 refine ae (aa (ah tk rfl ?_))
 obtain ⟨_,h24,H⟩ := av H
 have s24 := grow_104 (m := 24) s1 h24
 refine qU (g := 104) rfl rfl rfl Tryz.call104 (eX.r) rfl rfl s24 (fun g24=>?_)
 refine ah tk rfl (ab (ae (ae (aa (ah tk rfl (aD tk (zl _) ?_))))))
 refine ah tk rfl (ab ?_)
 refine dh (γ := OwnRef) tk 27 26 25 (fun s2 g2=>upd (fun _=>.any) 6 (.own 24 g2 (s2.map aF).length)) nB (fun s2 g2=>upd (fun _=>none) 24 (some ⟨g2,9,(s2.map aF),true⟩)) g24 H (fun fl2 Hp2 j2 s2 g2 hz2 hl2 x2 fb2 hx2 H hg2=>?_) (fun s2 g2 H=>?_)
 ·refine ae (aE (ae (aa ?_)))
  refine aX tk (zn j2) (bg (fun _=>rfl) hx2) ?_
  refine af 2 tk rfl (ab (aa (af 2 tk rfl ?_)))
  obtain ⟨x33,h33,H⟩ := av H
  have k33 := bD h33
  refine bS (rows2' := List.map aF x2) (rows' := List.map aF x33) tk rfl rfl rfl rfl rfl rfl rfl rfl rfl rfl rfl rfl rfl (dF.refl _) (cf k33.1) (cg k33.2.1) (ce k33.2.2) fun g33=>?_
  refine ah tk rfl (ab (aW (bp 2 tk rfl ?_)))
  exact bm g33 H hl2 hg2
 refine aw 2 tk rfl ?_
 obtain rfl := az H
 refine ij tk rfl
def bA (sA : List LRewriteAlternative) (f : LRewriteAlternative → Option (Bool)) : Option (Bool) :=
 ag (bL sA f) fun x7 =>
 some (decide (x7 ≥ (0 : Int)))
theorem fB {g_f : FuncId} {caps_f : List PV} (sA : List LRewriteAlternative) (f : LRewriteAlternative → Option (Bool)) (hg_f : ∀ (vs : Array Value) (w : World),(callFunc g_f vs).run Tryz.prog w = .ok (.enter g_f vs) w) (hp_f : ∀ a0 r,f a0 = some r → aT Tryz.prog g_f ((.agg (bv a0)) :: caps_f) (au r)) (r : Bool) (H : bA sA f = some r) :
  aT Tryz.prog 12 [(.list 44 (sA.map bv)),(.fn g_f caps_f)] (au r) := by
 unfold bA at H
 refine PH.ax Tryz.func12 Tryz.ntmps12 ?_
 refine aw 1 tk rfl (ae (aa (af 2 tk rfl ?_)))
 obtain ⟨x7,h7,H⟩ := av H
 have s7 := fS sA f hg_f hp_f _ h7
 refine aq Tryz.call27 (eX.r) s7 ?_
 refine af 2 tk rfl (ab ?_)
 exact bq tk H rfl
def eg (t : LTable) : Option (Int) :=
 ag (ez t.name) fun x11 =>
 cond (!x11)
  (some 23)
  (cond ((t.columns.length : Int) == (0 : Int))
   (some 3)
   (cond (decide ((t.columns.length : Int) > (6 : Int)))
    (some 2)
    (ag (aJ (σ := Unit) (ρ := (Int)) (fun (j1 : Nat) (x1 : LCol) (_ : Unit) =>
     ag (ez x1.name) fun x31 =>
     cond (!x31)
      (some (.ret 23))
      (ag (eT t x1.name) fun x37 =>
      cond (decide (x37.1 < (j1 : Int)))
       (some (.ret 5))
       (cond (decide (x1.kind < (1 : Int)))
        (some (.ret 7))
        (cond (decide (x1.kind > (3 : Int)))
         (some (.ret 7))
         (some (.next ())))))) 0 t.columns ()) fun fl1=>fl1.thenR fun (_ : Unit) =>
    ag (aJ (σ := Unit) (ρ := (Int)) (fun (j2 : Nat) (x2 : Int) (_ : Unit) =>
     cond (decide (x2 < (0 : Int)))
      (some (.ret 9))
      (cond (decide (x2 ≥ (t.columns.length : Int)))
       (some (.ret 9))
       (ag (aP t.columns x2) fun (x73 : LCol) =>
       cond x73.nullable
        (some (.ret 9))
        (cond (decide ((j2 : Int) > (0 : Int)))
         (ag (aP t.primaryKey (IntKind.i64.wrap ((j2 : Int) - (1 : Int)))) fun (x86 : Int) =>
         cond (decide (x2 ≤ x86))
          (some (.ret 9))
          (some (.next ())))
         (some (.next ())))))) 0 t.primaryKey ()) fun fl2=>fl2.thenR fun (_ : Unit) =>
    cond ((t.primaryKey.length : Int) == (0 : Int))
     (some 9)
     (some 0))))
theorem nN (t : LTable) (r : Int) (H : eg t = some r) :
  aT Tryz.prog 53 [(.agg (cR t))] (ac r) := by
 unfold eg at H
 refine PH.ax Tryz.func53 Tryz.ntmps53 ?_
 refine ae (aa (aG ?_))
 refine ah tk rfl (ab (ae (ae (aa (af 2 tk rfl ?_)))))
 obtain ⟨x11,h11,H⟩ := av H
 have s11 := lL t.name _ h11
 refine aq Tryz.call86 (eX.r) s11 ?_
 refine ah tk rfl (ab ?_)
 refine aQ rfl H (fun H=>?_) (fun H=>?_)
 ·refine aw 1 tk rfl ?_
  exact bq tk H rfl
 refine ay (ae (ae (aa (af 2 tk rfl (aD tk (zl _) ?_)))))
 refine ah tk rfl (ab ?_)
 refine aQ rfl H (fun H=>?_) (fun H=>?_)
 ·refine aw 1 tk rfl ?_
  exact bq tk H rfl
 refine ay (ae (ae (aa (af 2 tk rfl (aD tk (zl _) ?_)))))
 refine ah tk rfl (ab ?_)
 refine aQ rfl H (fun H=>?_) (fun H=>?_)
 ·refine aw 1 tk rfl ?_
  exact bq tk H rfl
 refine ay (ae (ae (aa (af 2 tk rfl (aD tk (zl _) ?_)))))
 refine ah tk rfl (ab ?_)
 refine fw tk 24 23 22 (fun s1 g1=>upd (fun _=>.any) 1 (.ptr (cR t))) nB nO () H (fun fl1 Hp1 j1 s1 g1 hz1 hl1 x1 fb1 hx1 H hg1=>?_) (fun s1 g1 H=>?_)
 ·refine ae (aE (ae (aa (ah tk rfl ?_))))
  refine aX tk (zn j1) (bg (fun _=>rfl) hx1) ?_
  refine ah tk rfl ?_
  refine aC tk fun b4=>?_
  refine ah tk rfl (ao tk ?_)
  refine ab (ae (ae (aa (ah tk rfl (al tk ?_)))))
  obtain ⟨x31,h31,H⟩ := av H
  have s31 := lL x1.name _ h31
  refine aq Tryz.call86 (eX.r) s31 ?_
  refine ah tk rfl (ab ?_)
  refine aQ rfl H (fun H=>?_) (fun H=>?_)
  ·refine aw 1 tk rfl ?_
   obtain rfl := az H
   have e1 : fl1 = .ret _ := hg1
   subst e1
   obtain rfl := bs Hp1
   refine ba tk rfl (ps := [(ac 23)]) ⟨_,_,rfl,rfl,rfl⟩ (PLe.q rfl)
  refine ay (ae (ae (aa (af 2 tk rfl (al tk ?_)))))
  obtain ⟨x37,h37,H⟩ := av H
  have s37 := pB t x1.name _ h37
  refine aq Tryz.call87 (eX.r) s37 ?_
  refine af 5 tk rfl (ab (aw 3 tk rfl ?_))
  refine aQ rfl H (fun H=>?_) (fun H=>?_)
  ·refine aw 1 tk rfl ?_
   obtain rfl := az H
   have e1 : fl1 = .ret _ := hg1
   subst e1
   obtain rfl := bs Hp1
   refine ba tk rfl (ps := [(ac 5)]) ⟨_,_,rfl,rfl,rfl⟩ (PLe.q rfl)
  refine ay (ae (aa (ah tk rfl (al tk ?_))))
  refine af 2 tk rfl ?_
  refine aO rfl rfl rfl H (fun H=>?_) (fun H=>?_)
  ·refine af 4 tk rfl (ab (cK rfl (aw 1 tk rfl ?_)))
   obtain rfl := az H
   have e1 : fl1 = .ret _ := hg1
   subst e1
   obtain rfl := bs Hp1
   refine ba tk rfl (ps := [(ac 7)]) ⟨_,_,rfl,rfl,rfl⟩ (PLe.q rfl)
  refine ah tk rfl (al tk ?_)
  refine af 2 tk rfl (ab ?_)
  refine aQ rfl H (fun H=>?_) (fun H=>?_)
  ·refine aw 1 tk rfl ?_
   obtain rfl := az H
   have e1 : fl1 = .ret _ := hg1
   subst e1
   obtain rfl := bs Hp1
   refine ba tk rfl (ps := [(ac 7)]) ⟨_,_,rfl,rfl,rfl⟩ (PLe.q rfl)
  refine ay (aW (bp 2 tk rfl ?_))
  exact bm () H hl1 hg1
 refine ae (ae (aa (af 2 tk rfl (aD tk (zl _) ?_))))
 refine ah tk rfl (ab ?_)
 refine fw tk 55 54 53 (fun s2 g2=>upd (fun _=>.any) 1 (.ptr (cR t))) nB nO () H (fun fl2 Hp2 j2 s2 g2 hz2 hl2 x2 fb2 hx2 H hg2=>?_) (fun s2 g2 H=>?_)
 ·refine ae (aE (ae (aa (ah tk rfl ?_))))
  refine aX tk (zn j2) (bg (fun _=>rfl) hx2) ?_
  refine af 3 tk rfl (ab (ae (aa (af 3 tk rfl ?_))))
  refine aO rfl rfl rfl H (fun H=>?_) (fun H=>?_)
  ·refine af 28 tk rfl (ab (cK rfl (aw 1 tk rfl ?_)))
   obtain rfl := az H
   have e2 : fl2 = .ret _ := hg2
   subst e2
   obtain rfl := bs Hp2
   refine ba tk rfl (ps := [(ac 9)]) ⟨_,_,rfl,rfl,rfl⟩ (PLe.q rfl)
  refine af 3 tk rfl (aD tk (zl _) ?_)
  refine af 3 tk rfl ?_
  refine aO rfl rfl rfl H (fun H=>?_) (fun H=>?_)
  ·refine af 21 tk rfl (ab (cK rfl (aw 1 tk rfl ?_)))
   obtain rfl := az H
   have e2 : fl2 = .ret _ := hg2
   subst e2
   obtain rfl := bs Hp2
   refine ba tk rfl (ps := [(ac 9)]) ⟨_,_,rfl,rfl,rfl⟩ (PLe.q rfl)
  refine af 3 tk rfl ?_
  obtain ⟨x73,k73,H⟩ := bB H
  refine aX tk k73.1 (aV (fun _=>rfl) k73.2) ?_
  refine af 4 tk rfl ?_
  refine aO rfl rfl rfl H (fun H=>?_) (fun H=>?_)
  ·refine af 13 tk rfl (ab (cK rfl (aw 1 tk rfl ?_)))
   obtain rfl := az H
   have e2 : fl2 = .ret _ := hg2
   subst e2
   obtain rfl := bs Hp2
   refine ba tk rfl (ps := [(ac 9)]) ⟨_,_,rfl,rfl,rfl⟩ (PLe.q rfl)
  refine af 3 tk rfl ?_
  refine aO rfl rfl rfl H (fun H=>?_) (fun H=>?_)
  ·refine af 5 tk rfl ?_
   obtain ⟨x86,k86,H⟩ := bB H
   refine aX tk k86.1 (aV (fun _=>rfl) k86.2) ?_
   refine af 4 tk rfl (ab ?_)
   refine aQ rfl H (fun H=>?_) (fun H=>?_)
   ·refine aw 1 tk rfl ?_
    obtain rfl := az H
    have e2 : fl2 = .ret _ := hg2
    subst e2
    obtain rfl := bs Hp2
    refine ba tk rfl (ps := [(ac 9)]) ⟨_,_,rfl,rfl,rfl⟩ (PLe.q rfl)
   refine ay (aW (bp 2 tk rfl ?_))
   exact bm () H hl2 hg2
  refine af 10 tk rfl (ab (bT rfl (ay (aW (bp 2 tk rfl ?_)))))
  exact bm () H hl2 hg2
 refine ae (ae (aa (af 2 tk rfl (aD tk (zl _) ?_))))
 refine ah tk rfl (ab ?_)
 refine aQ rfl H (fun H=>?_) (fun H=>?_)
 ·refine aw 1 tk rfl ?_
  exact bq tk H rfl
 refine ay (aw 1 tk rfl ?_)
 exact bq tk H rfl
def dN (sA : LSchema) (fk : LForeignKey) : Option (Int) :=
 ag (eu sA fk.table) fun x17 =>
 ag (eu sA fk.refTable) fun x24 =>
 bj (
  cond (!x17.2)
   (true)
   ((!x24.2))) fun (t1 : Bool) =>
 cond t1
  (some 4)
  (ag (aP sA.tables x17.1) fun (x36 : LTable) =>
  ag (aP sA.tables x24.1) fun (x41 : LTable) =>
  cond ((fk.columns.length : Int) != (x41.primaryKey.length : Int))
   (some 3)
   (ag (aJ (σ := Unit) (ρ := (Int)) (fun (j2 : Nat) (x2 : Int) (_ : Unit) =>
    bj (
     cond (decide (x2 < (0 : Int)))
      (true)
      ((decide (x2 ≥ (x36.columns.length : Int))))) fun (t4 : Bool) =>
    cond t4
     (some (.ret 3))
     (ag (aP x36.columns x2) fun (x70 : LCol) =>
     ag (aP x41.primaryKey (j2 : Int)) fun (x78 : Int) =>
     ag (aP x41.columns x78) fun (x80 : LCol) =>
     cond (x70.kind != x80.kind)
      (some (.ret 7))
      (some (.next ())))) 0 fk.columns ()) fun fl2=>fl2.thenR fun (_ : Unit) =>
   some 0))
theorem lN (sA : LSchema) (fk : LForeignKey) (r : Int) (H : dN sA fk = some r) :
  aT Tryz.prog 54 [(.agg (aB sA)),(.agg (iw fk))] (ac r) := by
 unfold dN at H
 refine PH.ax Tryz.func54 Tryz.ntmps54 ?_
 refine ae (aa (aG ?_))
 refine aG ?_
 refine ah tk rfl (ab (ae (aa (af 3 tk rfl ?_))))
 obtain ⟨x17,h17,H⟩ := av H
 have s17 := jC sA fk.table _ h17
 refine aq Tryz.call88 (eX.r) s17 ?_
 refine af 5 tk rfl (ab (ae (aa (af 3 tk rfl ?_))))
 obtain ⟨x24,h24,H⟩ := av H
 have s24 := jC sA fk.refTable _ h24
 refine aq Tryz.call88 (eX.r) s24 ?_
 refine af 5 tk rfl (ab (ae (ae ?_)))
 refine ck (γ := Unit) (fun t1 g1=>⟨85,upd (upd (upd (upd (upd (fun _=>.any) 32 (au t1)) 7 (ac x24.1)) 5 (ac x17.1)) 3 (.ptr (iw fk))) 2 (.ptr (aB sA)),fun _=>none,fun _=>none⟩) H (fun _ H=>?_) (fun t1 g1 H=>?_)
 ·refine aa (af 3 tk rfl ?_)
  refine aO rfl rfl rfl H (fun H=>?_) (fun H=>?_)
  ·refine af 3 tk rfl (ab ?_)
   refine aH _ () H Gh.d
  refine af 3 tk rfl (ab ?_)
  refine aH _ () H Gh.d
 refine aQ rfl H (fun H=>?_) (fun H=>?_)
 ·refine aw 1 tk rfl ?_
  exact bq tk H rfl
 refine ay (ae (br tk mok ⟨false,false,[]⟩ [0,1,2,3,4,5,6,7,8,9,10,11,12,13] rfl (by decide +kernel) rfl (bc 3 rfl ?_)))
 obtain ⟨x36,k36,H⟩ := bB H
 refine bF k36.1 (aV (fun _=>rfl) k36.2) ?_
 refine bc 4 rfl ?_
 obtain ⟨x41,k41,H⟩ := bB H
 refine bF k41.1 (aV (fun _=>rfl) k41.2) ?_
 refine bf rfl ?_
 refine oO rfl rfl rfl rfl rfl rfl rfl rfl fun b9=>?_
 refine oO rfl rfl rfl rfl rfl rfl rfl rfl fun b10=>?_
 refine bh ?_
 refine bh ?_
 refine bi (ae (ae (aa (af 2 tk rfl (aD tk (zl _) ?_)))))
 refine ah tk rfl (al tk ?_)
 refine aD tk (zl _) ?_
 refine ah tk rfl (ab ?_)
 refine aQ rfl H (fun H=>?_) (fun H=>?_)
 ·refine aw 1 tk rfl ?_
  exact bq tk H rfl
 refine ay (ae (ae (aa (af 2 tk rfl (aD tk (zl _) ?_)))))
 refine ah tk rfl (ab ?_)
 obtain ⟨fl2,H2,Hp2⟩ := av H
 refine jm tk 51 rfl rfl (fun hz2 _=>?_)
 rw [zl] at hz2
 refine kV (τ := Unit) (γ := Unit) (fun s2 g2=>⟨85,fun _=>.any,fun _=>none,fun _=>none⟩) (fun t=>fl2 = .next t) ?_ (fun s2 g2 hn2=>?_)
 ·refine aE ?_
  refine lD (fun j2 s2 g2=>⟨85,upd (upd (upd (upd (upd (fun _=>.any) 53 (ac (j2 : Int))) 52 (ac (fk.columns.length : Int))) 51 (.list 3 (fk.columns.map bE))) 10 (.box 10 b10 0)) 9 (.box 9 b9 0),upd (upd (fun _=>none) 10 (some ⟨b10,(cR x41)⟩)) 9 (some ⟨b9,(cR x36)⟩),fun _=>none⟩) () H2 Gh.d (fun j2 s2 g2 hj2 hr2=>?_)
  refine aw 1 tk rfl (ae ?_)
  refine cF rfl (fun h=>?_) (fun h=>?_)
  ·have hl2 := rowsLt h
   obtain ⟨x2,fb2,hx2,H,hg2⟩ := rMc hl2 hr2
   refine ay (ae (aE (ae (aa (ah tk rfl ?_)))))
   refine aX tk (zn j2) (bg (fun _=>rfl) hx2) ?_
   refine af 3 tk rfl (ab (ae (ae ?_)))
   refine ck (γ := Unit) (fun t4 g4=>⟨85,upd (upd (upd (upd (upd (upd (upd (upd (fun _=>.any) 66 (au t4)) 53 (ac (j2 : Int))) 52 (ac (fk.columns.length : Int))) 51 (.list 3 (fk.columns.map bE))) 12 (ac x2)) 11 (ac (j2 : Int))) 10 (.box 10 b10 0)) 9 (.box 9 b9 0),upd (upd (fun _=>none) 10 (some ⟨b10,(cR x41)⟩)) 9 (some ⟨b9,(cR x36)⟩),fun _=>none⟩) H (fun _ H=>?_) (fun t4 g4 H=>?_)
   ·refine aa (af 3 tk rfl ?_)
    refine aO rfl rfl rfl H (fun H=>?_) (fun H=>?_)
    ·refine af 6 tk rfl (ab ?_)
     refine aH _ () H Gh.d
    refine af 2 tk rfl (al tk ?_)
    refine aD tk (zl _) ?_
    refine af 2 tk rfl (ab ?_)
    refine aH _ () H Gh.d
   refine aQ rfl H (fun H=>?_) (fun H=>?_)
   ·refine aw 1 tk rfl ?_
    obtain rfl := az H
    have e2 : fl2 = .ret _ := hg2
    subst e2
    obtain rfl := bs Hp2
    refine ba tk rfl (ps := [(ac 3)]) ⟨_,_,rfl,rfl,rfl⟩ (PLe.q rfl)
   refine ay (ae (br tk mok ⟨true,false,[72,79,82]⟩ [0,1,2,3,4,5,6,7,8,9,10,11,12,13,14,15,16] rfl (by decide +kernel) rfl (bf rfl (aU ?_))))
   refine bf rfl ?_
   obtain ⟨x70,k70,H⟩ := bB H
   refine bF k70.1 (aV (fun _=>rfl) k70.2) ?_
   refine bc 3 rfl (aU ?_)
   refine bf rfl (aU ?_)
   refine bf rfl ?_
   obtain ⟨x78,k78,H⟩ := bB H
   refine bF k78.1 (aV (fun _=>rfl) k78.2) ?_
   refine bf rfl ?_
   obtain ⟨x80,k80,H⟩ := bB H
   refine bF k80.1 (aV (fun _=>rfl) k80.2) ?_
   refine bc 3 rfl (bi ?_)
   refine aQ rfl H (fun H=>?_) (fun H=>?_)
   ·refine aw 1 tk rfl ?_
    obtain rfl := az H
    have e2 : fl2 = .ret _ := hg2
    subst e2
    obtain rfl := bs Hp2
    refine ba tk rfl (ps := [(ac 7)]) ⟨_,_,rfl,rfl,rfl⟩ (PLe.q rfl)
   refine ay (aW (bp 2 tk rfl ?_))
   exact bm () H hl2 hg2
  have hn2 := rMd (rowsGe h) hr2
  refine dt rfl ?_
  refine aH s2 g2 hn2 Gh.d
 have H := thenR_next hn2 Hp2
 refine aw 1 tk rfl ?_
 exact bq tk H rfl
def eQ (other : LForeignKey) (c0 : LForeignKey) : Option (Bool) :=
 ag (fy other c0) fun x6 =>
 some x6
theorem pz (other : LForeignKey) (c0 : LForeignKey) (r : Bool) (H : eQ other c0 = some r) :
  aT Tryz.prog 56 [(.agg (iw other)),(.ptr (iw c0))] (au r) := by
 unfold eQ at H
 refine PH.ax Tryz.func56 Tryz.ntmps56 ?_
 refine ae (aa (aG ?_))
 refine ah tk rfl (ab (ae (aa (af 2 tk rfl ?_))))
 obtain ⟨x6,h6,H⟩ := av H
 have s6 := mg other c0 _ h6
 refine aq Tryz.call57 (eX.r) s6 ?_
 refine ah tk rfl (ab ?_)
 exact bq tk H rfl
def js (a : LVal) (b : LVal) : Int :=
 bj (fX a.kind b.kind) fun x11 =>
 cond (x11 != (0 : Int))
  (x11)
  (bj (fX a.int b.int) fun x19 =>
  cond (x19 != (0 : Int))
   (x19)
   (bj (iH a.text b.text) fun x27 =>
   x27))
theorem rf (a : LVal) (b : LVal) :
  aT Tryz.prog 136 [(.agg (gp a)),(.agg (gp b))] (ac (js a b)) := by
 obtain ⟨r,H⟩ : ∃ r,js a b = r := ⟨_,rfl⟩
 rw [H]
 unfold js at H
 refine PH.ax Tryz.func136 Tryz.ntmps136 ?_
 refine ae (aa (aG ?_))
 refine aG ?_
 refine ah tk rfl (ab (ae (ae (aa (af 4 tk rfl ?_)))))
 obtain ⟨x11,h11,H⟩ := cZ H
 have s11 := kZ a.kind b.kind
 rw [h11] at s11
 refine aq Tryz.call157 (eX.r) s11 ?_
 refine ah tk rfl (ab (aw 2 tk rfl ?_))
 refine aQ rfl H (fun H=>?_) (fun H=>?_)
 ·refine aw 2 tk rfl ?_
  exact dy tk H rfl
 refine ay (ae (ae (aa (af 4 tk rfl ?_))))
 obtain ⟨x19,h19,H⟩ := cZ H
 have s19 := kZ a.int b.int
 rw [h19] at s19
 refine aq Tryz.call157 (eX.r) s19 ?_
 refine ah tk rfl (ab (aw 2 tk rfl ?_))
 refine aQ rfl H (fun H=>?_) (fun H=>?_)
 ·refine aw 2 tk rfl ?_
  exact dy tk H rfl
 refine ay (ae (aa (af 4 tk rfl ?_)))
 obtain ⟨x27,h27,H⟩ := cZ H
 have s27 := qA a.text b.text
 rw [h27] at s27
 refine aq Tryz.call170 (eX.r) s27 ?_
 refine ah tk rfl (ab ?_)
 exact dy tk H rfl
def cI (kinds : List Int) (c0 : LQuery) : Option (Bool) :=
 ag (dZ kinds c0.kind) fun x7 =>
 some x7
theorem en (kinds : List Int) (c0 : LQuery) (r : Bool) (H : cI kinds c0 = some r) :
  aT Tryz.prog 171 [(.list 3 (kinds.map bE)),(.ptr (am c0))] (au r) := by
 unfold cI at H
 refine PH.ax Tryz.func171 Tryz.ntmps171 ?_
 refine aw 1 tk rfl (ae (aa (af 3 tk rfl ?_)))
 obtain ⟨x7,h7,H⟩ := av H
 have s7 := lX kinds c0.kind _ h7
 refine aq Tryz.call172 (eX.r) s7 ?_
 refine ah tk rfl (ab ?_)
 exact bq tk H rfl
def ff (l : List LExpr) : Option ((List LExpr)) :=
 ag (aJ (σ := List LExpr) (ρ := Empty) (fun (_ : Nat) (x1 : LExpr) (s1 : List LExpr) =>
  ag (dH x1) fun x14 =>
  ag (bY 88 s1 ([x14] : List LExpr)) fun (x16 : List LExpr) =>
  some (.next x16)) 0 l []) fun fl1=>fl1.thenP fun (s1 : List LExpr) =>
 some s1
theorem kf (l : List LExpr) (r : (List LExpr)) (H : ff l = some r) :
  aT Tryz.prog 64 [(.list 94 (l.map ak))] (.list 94 (r.map ak)) := by
 unfold ff at H
 refine PH.ax Tryz.func64 Tryz.ntmps64 ?_
 refine aw 1 tk rfl (aw 1 tk rfl (ae (ae (aa (ah tk rfl (aD tk (zl _) ?_))))))
 refine ah tk rfl (ab (iu tk 3 16 (e := 94) rfl rfl ?_))
 refine dh (γ := OwnRef) tk 8 7 6 (fun s1 g1=>upd (fun _=>.any) 3 (.own 16 g1 (s1.map ak).length)) nB (fun s1 g1=>upd (fun _=>none) 16 (some ⟨g1,94,(s1.map ak),true⟩)) (⟨none,0⟩) H (fun fl1 Hp1 j1 s1 g1 hz1 hl1 x1 fb1 hx1 H hg1=>?_) (fun s1 g1 H=>?_)
 ·refine ae (aE (ae (aa (aX tk (zn j1) (bg aR hx1) ?_))))
  refine ah tk rfl ?_
  refine aC tk fun b5=>?_
  refine ao tk ?_
  refine ab (aa (ah tk rfl (al tk ?_)))
  obtain ⟨x14,h14,H⟩ := av H
  have s14 := gv x1 _ h14
  refine aq Tryz.call63 (eX.r) s14 ?_
  refine co tk (rows' := List.map ak ([x14] : List LExpr)) (dF.trans (b := List.map bl [x14]) (dF.refl _) (dF.of_eq (bP aR [x14]))) ?_
  obtain ⟨x16,h16,H⟩ := av H
  have k16 := bD h16
  refine bS (rows2' := List.map ak ([x14] : List LExpr)) (rows' := List.map ak x16) tk rfl rfl rfl rfl rfl rfl rfl rfl rfl rfl rfl rfl rfl (dF.refl _) (cf k16.1) (cg k16.2.1) (ce k16.2.2) fun g16=>?_
  refine ah tk rfl (ab (aW (bp 2 tk rfl ?_)))
  exact bm g16 H hl1 hg1
 refine aw 2 tk rfl (eh 2 rfl rfl rfl ?_)
 exact bq tk H rfl
def cG (l : List LExpr) : Option (LExpr) :=
 cond ((l.length : Int) == (0 : Int))
  (bj (boolV true) fun x9 =>
  some (LExpr.mk 1 [] 0 x9 []))
  (ag (aP l 0) fun (x12 : LExpr) =>
  ag (dH x12) fun x14 =>
  ag (kE l 1 (l.length : Int)) fun (x16 : List LExpr) =>
  ag (aJ (σ := LExpr) (ρ := Empty) (fun (_ : Nat) (x1 : LExpr) (s1 : LExpr) =>
   ag (dH x1) fun x24 =>
   some (.next (LExpr.mk 5 [97,110,100] 0 (LVal.mk 0 0 []) [s1,x24]))) 0 x16 x14) fun fl1=>fl1.thenP fun (s1 : LExpr) =>
  some s1)
theorem fp (l : List LExpr) (r : LExpr) (H : cG l = some r) :
  aT Tryz.prog 66 [(.list 94 (l.map ak))] (.agg (bl r)) := by
 unfold cG at H
 refine PH.ax Tryz.func66 Tryz.ntmps66 ?_
 refine ae (aa ?_)
 refine aC tk fun b2=>?_
 refine ab (ae (ae (aa (ah tk rfl (aD tk (zl _) ?_)))))
 refine ah tk rfl (ab ?_)
 refine aQ rfl H (fun H=>?_) (fun H=>?_)
 ·refine ae (aa ?_)
  obtain ⟨x9,h9,H⟩ := cZ H
  have s9 := boolV_spec true
  rw [h9] at s9
  refine aq Tryz.call98 (eX.r) s9 ?_
  refine ah tk rfl (ao tk ?_)
  refine ab ?_
  obtain rfl := az H
  refine ba tk rfl (ps := [(.agg [(ac 1),(.str []),(ac 0),(ac x9.kind),(ac x9.int),(.str x9.text),(.val (.slice none 0 0))])]) ⟨_,_,rfl,⟨_,_,_,_,_,rfl,rfl,rfl,rfl⟩,rfl⟩ (PLe.of2 (lW.agg (gc.cons (lW.of_eq rfl) (gc.cons (lW.of_eq rfl) (gc.cons (lW.of_eq rfl) (gc.cons (lW.of_eq rfl) (gc.cons (lW.of_eq rfl) (gc.cons (lW.of_eq rfl) (gc.cons (lW.nil tk rfl) gc.nil)))))))))
 refine ay (ae (aa (ah tk rfl ?_)))
 obtain ⟨x12,k12,H⟩ := bB H
 refine aX tk k12.1 (aV aR k12.2) ?_
 refine ah tk rfl ?_
 obtain ⟨x14,h14,H⟩ := av H
 have s14 := gv x12 _ h14
 refine aq Tryz.call63 (eX.r) s14 ?_
 refine aC tk fun b3=>?_
 refine ao tk ?_
 refine ab (ae (ae (aa (ah tk rfl ?_))))
 obtain ⟨x16,h16,H⟩ := av H
 have k16 := lR h16
 refine rk tk rfl rfl rfl rfl rfl (zl _) rfl rfl k16.1 (ni k16.2) rfl (aD tk (zl _) ?_)
 refine ah tk rfl (ab ?_)
 refine dh tk 18 17 16 (fun s1 g1=>upd (upd (fun _=>.any) 3 (.box 3 b3 0)) 2 (.box 2 b2 0)) (fun s1 g1=>upd (upd (fun _=>none) 3 (some ⟨b3,(bl s1)⟩)) 2 (some ⟨b2,[(ac 0),(.str []),(ac 0),(ac 0),(ac 0),(.str []),(.val (.slice none 0 0))]⟩)) nO () H (fun fl1 Hp1 j1 s1 g1 hz1 hl1 x1 fb1 hx1 H hg1=>?_) (fun s1 g1 H=>?_)
 ·refine ae (aE (ae (aa (aX tk (zn j1) (bg aR hx1) ?_))))
  refine ah tk rfl ?_
  refine aC tk fun b5=>?_
  refine ao tk ?_
  refine ab (cd 5 ?_)
  refine br tk mok ⟨true,false,[23]⟩ [0,1,2,3,4,5] rfl (by decide +kernel) rfl (aU ?_)
  refine bf rfl ?_
  obtain ⟨x24,h24,H⟩ := av H
  have s24 := gv x1 _ h24
  refine aZ Tryz.call63 (eX.r) s24 ?_
  refine bc 2 rfl (bh ?_)
  refine bi (aW (bp 2 tk rfl ?_))
  exact bm () H hl1 hg1 (Gh.le (aL (aL (cj (PLe.q (eP (by omega))) (aL (aL bQ))))) (aN rfl (eX.r) (aN rfl (eX.of2 (gc.cons (lW.of_eq rfl) (gc.cons (lW.of_eq rfl) (gc.cons (lW.of_eq rfl) (gc.cons (lW.of_eq rfl) (gc.cons (lW.of_eq rfl) (gc.cons (lW.of_eq rfl) (gc.cons (lW.list (dF.trans (b := List.map bl [s1,x24]) (dF.refl _) (dF.of_eq (bP aR [s1,x24])))) gc.nil)))))))) bu)) bt)
 refine ae (aa (al tk ?_))
 refine ao tk ?_
 refine ab ?_
 exact pS tk H rfl rfl rfl rfl rfl
def gV (rec67 : LExpr → Option ((List LExpr))) (e : LExpr) : Option ((List LExpr)) :=
 bj (
  cond (e.kind == (5 : Int))
   (cond (e.name == ([97,110,100] : List UInt8))
    (((e.args.length : Int) == (2 : Int)))
    (false))
   (false)) fun (t1 : Bool) =>
 cond t1
  (ag (aP e.args 0) fun (x19 : LExpr) =>
  ag (aP e.args 1) fun (x24 : LExpr) =>
  ag (rec67 x19) fun x21 =>
  ag (rec67 x24) fun x26 =>
  ag (bY 88 x21 x26) fun (x27 : List LExpr) =>
  some x27)
  (ag (dH e) fun x29 =>
  some [x29])
theorem qx {m : Nat} (rec67 : LExpr → Option ((List LExpr))) (hrec67 : ∀ m a0 r,rec67 a0 = some r → dY Tryz.prog 67 [(.agg (bl a0))] (jq m 94 (r.map ak))) (e : LExpr) (r : (List LExpr)) (H : gV rec67 e = some r) :
  dY Tryz.prog 67 [(.agg (bl e))] (jq m 94 (r.map ak)) := by
 unfold gV at H
 refine PH.ax Tryz.func67 Tryz.ntmps67 ?_
 refine ae (aa (aG ?_))
 refine ah tk rfl (ab (ae (ae ?_)))
 refine ck (γ := Unit) (fun t1 g1=>⟨31,upd (upd (fun _=>.any) 16 (au t1)) 1 (.ptr (bl e)),fun _=>none,fun _=>none⟩) H (fun _ H=>?_) (fun t1 g1 H=>?_)
 ·refine aa (af 4 tk rfl ?_)
  refine aO rfl rfl rfl H (fun H=>?_) (fun H=>?_)
  ·refine af 5 tk rfl ?_
   refine aO rfl rfl rfl H (fun H=>?_) (fun H=>?_)
   ·refine af 2 tk rfl (aD tk (zl _) ?_)
    refine af 2 tk rfl (ab ?_)
    refine aH _ () H Gh.d
   refine af 5 tk rfl (ab ?_)
   refine aH _ () H Gh.d
  refine af 10 tk rfl (ab ?_)
  refine aH _ () H Gh.d
 refine aQ rfl H (fun H=>?_) (fun H=>?_)
 ·refine ae (br tk mok ⟨false,false,[]⟩ [0,1,2,3,5,6,7,8,4,9,10,11] rfl (by decide +kernel) rfl (bc 2 rfl ?_))
  obtain ⟨x19,k19,H⟩ := bB H
  refine bF k19.1 (aV aR k19.2) ?_
  refine bc 3 rfl ?_
  obtain ⟨x24,k24,H⟩ := bB H
  refine bF k24.1 (aV aR k24.2) ?_
  refine bf rfl ?_
  obtain ⟨x21,h21,H⟩ := av H
  have s21 := hrec67 21 x19 _ h21
  refine iZ (g := 67) rfl rfl rfl rfl Tryz.call67 (eX.r) rfl rfl s21 (fun g21=>?_)
  obtain ⟨x26,h26,H⟩ := av H
  have s26 := hrec67 26 x24 _ h26
  refine aZ Tryz.call67 (eX.r) (PFun.dJ s26) ?_
  obtain ⟨x27,h27,H⟩ := av H
  have k27 := bD h27
  refine eo (rows2' := List.map ak x26) (rows' := List.map ak x27) tk rfl rfl rfl rfl rfl rfl rfl rfl rfl rfl rfl rfl rfl rfl (dF.refl _) (cf k27.1) (cg k27.2.1) (ce k27.2.2) fun g27=>?_
  refine bf rfl (bi ?_)
  obtain rfl := az H
  refine ij tk rfl
 refine ay (ae (aa (ah tk rfl ?_)))
 obtain ⟨x29,h29,H⟩ := av H
 have s29 := gv e _ h29
 refine aq Tryz.call63 (eX.r) s29 ?_
 refine jD (rows' := List.map ak ([x29] : List LExpr)) tk (congrArg (List.map List.length) (bP aR ([x29] : List LExpr))).symm (gc.trans (b := (List.map bl ([x29] : List LExpr)).flatten) (gc.refl _) (gc.of_eq (congrArg List.flatten (bP aR ([x29] : List LExpr))))) fun g30=>?_
 refine ah tk rfl (ab ?_)
 obtain rfl := az H
 refine ij tk rfl
def fj : Nat → LExpr → Option ((List LExpr))
 | 0,_=>none
 | n + 1,v0=>gV (fun b0=>fj n b0) v0
theorem qy  (n : Nat) : (∀ m a0 r,fj n a0 = some r → dY Tryz.prog 67 [(.agg (bl a0))] (jq m 94 (r.map ak))) := by
 induction n with
 | zero=>exact (by intros; rename_i h; exact absurd (show (none : Option _) = some _ from h) (by simp))
 | succ n ih =>
  exact (fun m v0 r h=>qx (m := m) (fun b0=>fj n b0) ih v0  r h)
def gf (e : LExpr) : Option ((List LExpr)) := fA fun n=>fj n e
theorem jg {m : Nat} (e : LExpr) (r : (List LExpr)) (H : gf e = some r) :
  dY Tryz.prog 67 [(.agg (bl e))] (jq m 94 (r.map ak)) := by
 obtain ⟨n,h⟩ := fv H
 exact (qy  n) m e r h
def fJ (rec144 : LExpr → Int → (List (List UInt8)) → Option (List (List UInt8))) (e : LExpr) (kind : Int) (l : List (List UInt8)) : Option (List (List UInt8)) :=
 ag (
  cond (e.kind == kind)
   (ag (cp l e.name) fun x17 =>
   ag (lO (x17.2.length = l.length) ()) fun (_ : Unit) =>
   some (x17.2,(!x17.1)))
   (some (l,false))) fun (t1 : List (List UInt8) × Bool) =>
 ag (
  cond t1.2
   (ag (bY 16 t1.1 ([e.name] : List (List UInt8))) fun (x24 : List (List UInt8)) =>
   some x24)
   (some t1.1)) fun (t2 : List (List UInt8)) =>
 ag (aJ (σ := List (List UInt8)) (ρ := Empty) (fun (_ : Nat) (x3 : LExpr) (s3 : List (List UInt8)) =>
  ag (rec144 x3 kind s3) fun x35 =>
  some (.next x35)) 0 e.args t2) fun fl3=>fl3.thenP fun (s3 : List (List UInt8)) =>
 some s3
theorem WO_expr_names (g_l : OwnRef) (rec144 : LExpr → Int → (List (List UInt8)) → Option (List (List UInt8))) (hrec144 : ∀ g2 a0 a1 a2 r,rec144 a0 a1 a2 = some r → PH Tryz.prog 144 [(.agg (bl a0)),(ac a1),(.own 2 g2 (a2.map aF).length)] ⟨fun _=>none,upd (fun _=>none) 2 (some ⟨g2,9,(a2.map aF),true⟩)⟩ (fun u H=>∃ gz : OwnRef,u = .own 2 gz (r.map aF).length ∧ H = ⟨fun _=>none,upd (fun _=>none) 2 (some ⟨gz,9,(r.map aF),true⟩)⟩)) (e : LExpr) (kind : Int) (l : List (List UInt8)) (r : List (List UInt8)) (H : fJ rec144 e kind l = some r) :
  PH Tryz.prog 144 [(.agg (bl e)),(ac kind),(.own 2 g_l (l.map aF).length)] ⟨fun _=>none,upd (fun _=>none) 2 (some ⟨g_l,9,(l.map aF),true⟩)⟩ (fun u H=>∃ gz : OwnRef,u = .own 2 gz (r.map aF).length ∧ H = ⟨fun _=>none,upd (fun _=>none) 2 (some ⟨gz,9,(r.map aF),true⟩)⟩) := by
 unfold fJ at H
 refine PH.ax Tryz.func144 Tryz.ntmps144 ?_
 refine ae (aa (aG ?_))
 refine ah tk rfl (ab (ae (ae ?_)))
 refine bZ (γ := OwnRef) (fun t1 g1=>⟨38,upd (upd (upd (upd (fun _=>.any) 19 (au t1.2)) 3 (.ptr (bl e))) 2 (.own 2 g1 (t1.1.map aF).length)) 1 (ac kind),fun _=>none,upd (fun _=>none) 2 (some ⟨g1,9,(t1.1.map aF),true⟩)⟩) H (fun _ H=>?_) (fun t1 g1 H=>?_)
 ·refine aa (af 5 tk rfl ?_)
  refine aO rfl rfl rfl H (fun H=>?_) (fun H=>?_)
  ·refine af 3 tk rfl ?_
   obtain ⟨x17,h17,H⟩ := av H
   have s17 := jR g_l l e.name _ h17
   obtain ⟨_,q17_0,H⟩ := av H
   have l17_0 := (nZ q17_0).1
   have z17_0 : (List.map aF l).length = (List.map aF x17.2).length := by simpa using (l17_0).symm
   refine hJ (g := 103) rfl rfl rfl Tryz.call103 [] [(2,0)] rfl rfl rfl rfl (eX.of2 (gc.cons (lW.own rfl) (gc.cons (lW.of_eq rfl) gc.nil))) (by rw [gA,fG,gC]; rfl) s17 ?_
   rintro u17 H17h ⟨rfl,rfl⟩
   refine ⟨_,rfl,?_⟩
   refine gn (st' := ⟨_,_,fun _=>none,upd (fun _=>none) 2 (some ⟨g_l,9,(x17.2.map aF),true⟩)⟩) (Gh.le (fD _ _) bu (cW bt)) ?_
   refine af 2 tk rfl (ab ?_)
   refine aH _ g_l (az H) (Gh.le (aL (cj (PLe.of2 (lW.of_eq (congrArg (PV.own 2 g_l) z17_0))) (aL (aL bQ)))) bu (cW bt))
  refine af 6 tk rfl (ab ?_)
  refine aH _ g_l (az H) Gh.d
 refine bZ (γ := OwnRef) (fun t2 g2=>⟨38,upd (upd (upd (fun _=>.any) 3 (.ptr (bl e))) 2 (.own 2 g2 (t2.map aF).length)) 1 (ac kind),fun _=>none,upd (fun _=>none) 2 (some ⟨g2,9,(t2.map aF),true⟩)⟩) H (fun _ H=>?_) (fun t2 g2 H=>?_)
 ·refine aQ rfl H (fun H=>?_) (fun H=>?_)
  ·refine aa (af 3 tk rfl (co tk (rows' := List.map aF ([e.name] : List (List UInt8))) (dF.refl _) ?_))
   obtain ⟨x24,h24,H⟩ := av H
   have k24 := bD h24
   refine bS (rows2' := List.map aF ([e.name] : List (List UInt8))) (rows' := List.map aF x24) tk rfl rfl rfl rfl rfl rfl rfl rfl rfl rfl rfl rfl rfl (dF.refl _) (cf k24.1) (cg k24.2.1) (ce k24.2.2) fun g24=>?_
   refine ah tk rfl (ab ?_)
   refine aH _ g24 (az H) Gh.d
  refine ay ?_
  refine aH _ g1 (az H) Gh.d
 refine ae (ae (aa (af 2 tk rfl (aD tk (zl _) ?_))))
 refine ah tk rfl (ab ?_)
 refine dh (γ := OwnRef) tk 28 27 26 (fun s3 g3=>upd (upd (fun _=>.any) 2 (.own 2 g3 (s3.map aF).length)) 1 (ac kind)) nB (fun s3 g3=>upd (fun _=>none) 2 (some ⟨g3,9,(s3.map aF),true⟩)) g2 H (fun fl3 Hp3 j3 s3 g3 hz3 hl3 x3 fb3 hx3 H hg3=>?_) (fun s3 g3 H=>?_)
 ·refine ae (aE (ae (aa (aX tk (zn j3) (bg aR hx3) ?_))))
  refine ah tk rfl ?_
  refine aC tk fun b8=>?_
  refine ao tk ?_
  refine ab (aa (al tk ?_))
  refine af 2 tk rfl ?_
  obtain ⟨x35,h35,H⟩ := av H
  have s35 := hrec144 g3 x3 kind s3 _ h35
  refine hJ (g := 144) rfl rfl rfl Tryz.call144 [] [(2,2)] rfl rfl rfl rfl (eX.of2 (gc.cons (lW.of_eq rfl) (gc.cons (lW.of_eq rfl) (gc.cons (lW.own rfl) gc.nil)))) (by rw [gA,fG,gC]; rfl) s35 ?_
  rintro u35 H35h ⟨gw35,rfl,rfl⟩
  refine ⟨_,rfl,?_⟩
  refine gn (st' := ⟨_,_,upd (fun _=>none) 8 (some ⟨b8,(bl x3)⟩),upd (fun _=>none) 2 (some ⟨gw35,9,(x35.map aF),true⟩)⟩) (Gh.le (fD _ _) (aN rfl (eX.r) bu) (cW bt)) ?_
  refine oa 35 (q := (.own 2 gw35 (x35.map aF).length)) rfl (PLe.of2 (lW.own rfl)) (ah tk rfl (ab (aW (bp 2 tk rfl ?_))))
  exact bm gw35 H hl3 hg3
 refine aw 2 tk rfl ?_
 obtain rfl := az H
 refine lA (st' := ⟨38,upd (fun _=>.any) 6 (.own 2 g3 (s3.map aF).length),fun _=>none,upd (fun _=>none) 2 (some ⟨g3,9,(s3.map aF),true⟩)⟩) (Gh.le (aL bQ) bu (cW bt)) ?_
 refine rc tk rfl (ps := [(.own 2 g3 (s3.map aF).length)]) ⟨_,_,rfl,rfl,rfl⟩ (PLe.of2 (lW.own rfl)) ⟨_,rfl,rfl⟩
def gr : Nat → LExpr → Int → (List (List UInt8)) → Option (List (List UInt8))
 | 0,_,_,_=>none
 | n + 1,v0,v1,v2=>fJ (fun b0 b1 b2=>gr n b0 b1 b2) v0 v1 v2
theorem WF_expr_names  (n : Nat) : (∀ g2 a0 a1 a2 r,gr n a0 a1 a2 = some r → PH Tryz.prog 144 [(.agg (bl a0)),(ac a1),(.own 2 g2 (a2.map aF).length)] ⟨fun _=>none,upd (fun _=>none) 2 (some ⟨g2,9,(a2.map aF),true⟩)⟩ (fun u H=>∃ gz : OwnRef,u = .own 2 gz (r.map aF).length ∧ H = ⟨fun _=>none,upd (fun _=>none) 2 (some ⟨gz,9,(r.map aF),true⟩)⟩)) := by
 induction n with
 | zero=>exact (by intros; rename_i h; exact absurd (show (none : Option _) = some _ from h) (by simp))
 | succ n ih =>
  exact (fun g2 v0 v1 v2 r h=>WO_expr_names g2 (fun b0 b1 b2=>gr n b0 b1 b2) ih v0 v1 v2  r h)
def fc (e : LExpr) (kind : Int) (l : List (List UInt8)) : Option (List (List UInt8)) := fA fun n=>gr n e kind l
theorem W_expr_names (g_l : OwnRef) (e : LExpr) (kind : Int) (l : List (List UInt8)) (r : List (List UInt8)) (H : fc e kind l = some r) :
  PH Tryz.prog 144 [(.agg (bl e)),(ac kind),(.own 2 g_l (l.map aF).length)] ⟨fun _=>none,upd (fun _=>none) 2 (some ⟨g_l,9,(l.map aF),true⟩)⟩ (fun u H=>∃ gz : OwnRef,u = .own 2 gz (r.map aF).length ∧ H = ⟨fun _=>none,upd (fun _=>none) 2 (some ⟨gz,9,(r.map aF),true⟩)⟩) := by
 obtain ⟨n,h⟩ := fv H
 exact (WF_expr_names  n) g_l e kind l r h
def fq (sA : List UInt8) (c0 : List (List UInt8)) : Option (Bool) :=
 ag (cz c0 sA) fun x6 =>
 some (!x6)
theorem pM (sA : List UInt8) (c0 : List (List UInt8)) (r : Bool) (H : fq sA c0 = some r) :
  aT Tryz.prog 102 [(.str sA),(.ptr [(.list 9 (c0.map aF))])] (au r) := by
 unfold fq at H
 refine PH.ax Tryz.func102 Tryz.ntmps102 ?_
 refine aw 1 tk rfl (ae (aa (af 2 tk rfl ?_)))
 obtain ⟨x6,h6,H⟩ := av H
 have s6 := hX c0 sA _ h6
 refine aq Tryz.call103 (eX.r) s6 ?_
 refine af 2 tk rfl (ab ?_)
 exact bq tk H rfl
def dS (q : LQuery) (inA : LQuery) : Option (LQuery) :=
 ag (mW (q.exprs.length : Int)) fun (n1 : Nat) =>
 ag (aJ (σ := List LExpr) (ρ := Empty) (fun (j1 : Nat) (_ : Nat) (s1 : List LExpr) =>
  ag (aP s1 (j1 : Int)) fun (x13 : LExpr) =>
  ag (dB x13 inA.names inA.exprs) fun x23 =>
  ag (aP s1 (j1 : Int)) fun (_ : LExpr) =>
  bj (s1.set ((j1 : Int).toNat) x23) fun (y4 : List LExpr) =>
  some (.next y4)) 0 (List.range n1) q.exprs) fun fl1=>fl1.thenP fun (s1 : List LExpr) =>
 some (LQuery.mk q.kind q.table q.names s1 q.aggregates q.descending q.count q.offset inA.inputs)
theorem nr (g_q : OwnRef) (q : LQuery) (inA : LQuery) (r : LQuery) (H : dS q inA = some r) :
  PH Tryz.prog 35 [(.agg [(ac q.kind),(.str q.table),(.list 9 (q.names.map aF)),(.own 3000 g_q (q.exprs.map ak).length),(.list 91 (q.aggregates.map aS)),(.list 4 (q.descending.map aM)),(ac q.count),(ac q.offset),(.list 33 (q.inputs.map ap))]),(.agg (am inA))] ⟨fun _=>none,upd (fun _=>none) 3000 (some ⟨g_q,94,(List.map ak q.exprs),true⟩)⟩ (fun u H=>u = (.agg (am r)) ∧ H = Heap.empty) := by
 unfold dS at H
 refine PH.ax Tryz.func35 Tryz.ntmps35 ?_
 refine ae (aa ?_)
 refine iR (d := 2) fun b2=>?_
 refine aG ?_
 refine aC tk fun b4=>?_
 refine ab (ae (ae (aa (ah tk rfl (al tk ?_)))))
 refine iE tk (zl _) ?_
 refine ah tk rfl (ab ?_)
 obtain ⟨n1,hs1,H⟩ := av H
 have hz1 := nX hs1
 obtain ⟨fl1,H1,Hp1⟩ := av H
 refine kV (τ := List LExpr) (γ := OwnRef) (fun s1 g1=>⟨30,upd (upd (upd (fun _=>.any) 4 (.box 4 b4 0)) 3 (.ptr (am inA))) 2 (.box 2 b2 0),upd (upd (fun _=>none) 4 (some ⟨b4,[(ac 0),(.str []),(.val (.slice none 0 0)),(.val (.slice none 0 0)),(.val (.slice none 0 0)),(.val (.slice none 0 0)),(ac 0),(ac 0),(.val (.slice none 0 0))]⟩)) 2 (some ⟨b2,[(ac q.kind),(.str q.table),(.list 9 (q.names.map aF)),(.own 3000 g1 (s1.map ak).length),(.list 91 (q.aggregates.map aS)),(.list 4 (q.descending.map aM)),(ac q.count),(ac q.offset),(.list 33 (q.inputs.map ap))]⟩),upd (fun _=>none) 3000 (some ⟨g1,94,(s1.map ak),true⟩)⟩) (fun t=>fl1 = .next t) ?_ (fun s1 g1 hn1=>?_)
 ·refine aE ?_
  refine lD (fun j1 s1 g1=>⟨30,upd (upd (upd (upd (upd (upd (fun _=>.any) 10 (ac (j1 : Int))) 9 (ac (q.exprs.length : Int))) 8 (.own 3000 g1 (s1.map ak).length)) 4 (.box 4 b4 0)) 3 (.ptr (am inA))) 2 (.box 2 b2 0),upd (upd (fun _=>none) 4 (some ⟨b4,[(ac 0),(.str []),(.val (.slice none 0 0)),(.val (.slice none 0 0)),(.val (.slice none 0 0)),(.val (.slice none 0 0)),(ac 0),(ac 0),(.val (.slice none 0 0))]⟩)) 2 (some ⟨b2,[(ac q.kind),(.str q.table),(.list 9 (q.names.map aF)),(.own 3000 g1 (s1.map ak).length),(.list 91 (q.aggregates.map aS)),(.list 4 (q.descending.map aM)),(ac q.count),(ac q.offset),(.list 33 (q.inputs.map ap))]⟩),upd (fun _=>none) 3000 (some ⟨g1,94,(s1.map ak),true⟩)⟩) g_q H1 Gh.d (fun j1 s1 g1 hj1 hr1=>?_)
  refine aw 1 tk rfl (ae ?_)
  refine cF rfl (fun h=>?_) (fun h=>?_)
  ·have hl1 := natLt hz1 h
   obtain ⟨x1,fb1,hx1,H,hg1⟩ := rMc hl1 hr1
   obtain rfl := natX hx1
   refine ay (ae (aE (ae (aa (ah tk rfl ?_)))))
   obtain ⟨x13,k13,H⟩ := bB H
   refine li (tag := 3000) rfl (fun ho3000=>?_)
   refine lj tk rfl rfl rfl rfl rfl rfl rfl ⟨k13.1,(dW k13.2)⟩ (dX ho3000 k13.2) rfl (oT tk rfl rfl rfl rfl rfl rfl rfl (aV aR k13.2) rfl rfl ?_)
   refine aC tk fun b6=>?_
   refine ah tk rfl (ao tk ?_)
   refine ab ?_
   refine gu (tag := 3000) rfl (fun ho3000=>?_)
   refine cd 6 ?_
   refine br tk mok ⟨true,false,[18,20,22]⟩ [0,1,2,3,4,5,6,7,8,9,10] rfl (by decide +kernel) rfl (bf rfl (aU ?_))
   refine bc 6 rfl ?_
   obtain ⟨x23,h23,H⟩ := av H
   have s23 := iJ x13 inA.names inA.exprs _ h23
   refine aZ Tryz.call68 (eX.r) s23 ?_
   obtain ⟨x24,k24,H⟩ := bB H
   refine ej tk ⟨k24.1,(dW k24.2)⟩ (dX ho3000 k24.2) ?_
   obtain ⟨y4,hy4,H⟩ := cZ H
   refine gT tk rfl rfl rfl rfl rfl rfl rfl rfl rfl (by rw [zl]; exact (zg.1 k24.2).1) (PLe.refl _ _) rfl rfl rfl rfl (by decide) (fe aR k24.2 rfl hy4) ?_
   refine bi (aW (bp 2 tk rfl ?_))
   exact bm g1 H hl1 hg1 (Gh.le (aL (aL (aL (cj (PLe.of2 (lW.of_eq (congrArg (PV.own 3000 g1) (gG (f := ak) hy4)))) (aL (cj (PLe.q (ma hz1 hl1)) bQ)))))) (aN rfl (eX.of2 (gc.cons (lW.of_eq rfl) (gc.cons (lW.of_eq rfl) (gc.cons (lW.of_eq rfl) (gc.cons (lW.of_eq (congrArg (PV.own 3000 g1) (gG (f := ak) hy4))) (gc.cons (lW.of_eq rfl) (gc.cons (lW.of_eq rfl) (gc.cons (lW.of_eq rfl) (gc.cons (lW.of_eq rfl) (gc.cons (lW.of_eq rfl) gc.nil)))))))))) (aN rfl (eX.r) bu)) (cW bt))
  have hn1 := rMd (natGe hz1 h) hr1
  refine dt rfl ?_
  refine aH s1 g1 hn1 Gh.d
 have H := kH hn1 Hp1
 refine ae (aa (af 3 tk rfl (ao tk ?_)))
 refine ab (ae (aa (al tk ?_)))
 refine ao tk ?_
 refine ab (bC 4 3 rfl rfl rfl rfl rfl ?_)
 exact pS tk H rfl rfl rfl rfl rfl
def fR (a : LVal) (op : List UInt8) (b : LVal) : Bool × Int :=
 bj (
  cond (!(op == ([61] : List UInt8)))
   (cond (!(op == ([60] : List UInt8)))
    ((!(op == ([60,61] : List UInt8))))
    (false))
   (false)) fun (t1 : Bool) =>
 cond t1
  ((false,3))
  (bj (
   cond (a.kind == (0 : Int))
    (true)
    ((b.kind == (0 : Int)))) fun (t2 : Bool) =>
  cond t2
   ((true,0))
   (bj (js a b) fun x29 =>
   cond (x29 == (0 : Int))
    (cond (!(op == ([60] : List UInt8)))
     ((true,0))
     (cond (decide (x29 < (0 : Int)))
      (((!(op == ([61] : List UInt8))),0))
      ((false,0))))
    (cond (decide (x29 < (0 : Int)))
     (((!(op == ([61] : List UInt8))),0))
     ((false,0)))))
theorem qD (a : LVal) (op : List UInt8) (b : LVal) :
  aT Tryz.prog 91 [(.agg (gp a)),(.str op),(.agg (gp b))] (.tup [(au ((fR a op b).1)),(ac ((fR a op b).2))]) := by
 obtain ⟨r,H⟩ : ∃ r,fR a op b = r := ⟨_,rfl⟩
 rw [H]
 unfold fR at H
 refine PH.ax Tryz.func91 Tryz.ntmps91 ?_
 refine ae (aa (aG ?_))
 refine aG ?_
 refine af 2 tk rfl (ab (ae (ae ?_)))
 refine ck (γ := Unit) (fun t1 g1=>⟨44,upd (upd (upd (upd (fun _=>.any) 18 (au t1)) 5 (.ptr (gp b))) 3 (.ptr (gp a))) 1 (.str op),fun _=>none,fun _=>none⟩) H (fun _ H=>?_) (fun t1 g1 H=>?_)
 ·refine aa (af 3 tk rfl ?_)
  refine aO rfl rfl rfl H (fun H=>?_) (fun H=>?_)
  ·refine af 4 tk rfl ?_
   refine aO rfl rfl rfl H (fun H=>?_) (fun H=>?_)
   ·refine af 3 tk rfl (ab ?_)
    refine aH _ () H Gh.d
   refine af 3 tk rfl (ab ?_)
   refine aH _ () H Gh.d
  refine af 7 tk rfl (ab ?_)
  refine aH _ () H Gh.d
 refine aQ rfl H (fun H=>?_) (fun H=>?_)
 ·refine aw 2 tk rfl ?_
  exact dy tk H rfl
 refine ay (ae (ae ?_))
 refine ck (γ := Unit) (fun t2 g2=>⟨44,upd (upd (upd (upd (fun _=>.any) 26 (au t2)) 5 (.ptr (gp b))) 3 (.ptr (gp a))) 1 (.str op),fun _=>none,fun _=>none⟩) H (fun _ H=>?_) (fun t2 g2 H=>?_)
 ·refine aa (af 4 tk rfl ?_)
  refine aO rfl rfl rfl H (fun H=>?_) (fun H=>?_)
  ·refine af 4 tk rfl (ab ?_)
   refine aH _ () H Gh.d
  refine af 4 tk rfl (ab ?_)
  refine aH _ () H Gh.d
 refine aQ rfl H (fun H=>?_) (fun H=>?_)
 ·refine aw 2 tk rfl ?_
  exact dy tk H rfl
 refine ay (ae (aa (af 2 tk rfl ?_)))
 obtain ⟨x29,h29,H⟩ := cZ H
 have s29 := rf a b
 rw [h29] at s29
 refine aq Tryz.call136 (eX.r) s29 ?_
 refine ah tk rfl (ab (ae (aa (af 3 tk rfl ?_))))
 refine aO rfl rfl rfl H (fun H=>?_) (fun H=>?_)
 ·refine af 4 tk rfl ?_
  refine aO rfl rfl rfl H (fun H=>?_) (fun H=>?_)
  ·refine af 9 tk rfl (ab ?_)
   exact dy tk H rfl
  refine af 3 tk rfl ?_
  refine aO rfl rfl rfl H (fun H=>?_) (fun H=>?_)
  ·refine af 6 tk rfl (ab ?_)
   exact dy tk H rfl
  refine af 6 tk rfl (ab ?_)
  exact dy tk H rfl
 refine af 7 tk rfl ?_
 refine aO rfl rfl rfl H (fun H=>?_) (fun H=>?_)
 ·refine af 6 tk rfl (ab ?_)
  exact dy tk H rfl
 refine af 6 tk rfl (ab ?_)
 exact dy tk H rfl
def jl (q : LQuery) : Option (Bool) :=
 ag (
  cond (decide (q.kind < (1 : Int)))
   (some true)
   (cond (decide (q.kind > (10 : Int)))
    (some true)
    (ag (aP ([(-1),0,1,1,2,2,2,2,1,1,1] : List Int) q.kind) fun (x21 : Int) =>
    some ((q.inputs.length : Int) != x21)))) fun (t1 : Bool) =>
 cond t1
  (some false)
  (ag (
   ag (cI ([1] : List Int) q) fun x29 =>
   cond (!x29)
    (some (!(q.table == ([] : List UInt8))))
    (some false)) fun (t2 : Bool) =>
  ag (
   cond t2
    (some t2)
    (ag (
     ag (cI ([3,8] : List Int) q) fun x38 =>
     cond (!x38)
      (some (decide ((q.names.length : Int) > (0 : Int))))
      (some false)) fun (t7 : Bool) =>
    cond t7
     (some t7)
     (ag (
      ag (cI ([8] : List Int) q) fun x48 =>
      cond (!x48)
       (some (decide ((q.aggregates.length : Int) > (0 : Int))))
       (some false)) fun (t8 : Bool) =>
     cond t8
      (some t8)
      (ag (
       ag (cI ([9] : List Int) q) fun x58 =>
       cond (!x58)
        (some (decide ((q.descending.length : Int) > (0 : Int))))
        (some false)) fun (t9 : Bool) =>
      cond t9
       (some t9)
       (ag (cI ([10] : List Int) q) fun x68 =>
       cond (!x68)
        (cond (q.count != (0 : Int))
         (some true)
         (some (q.offset != (0 : Int))))
        (some false)))))) fun (t6 : Bool) =>
  cond t6
   (some false)
   (ag (cI ([2,4,5] : List Int) q) fun x83 =>
   cond x83
    (some ((q.exprs.length : Int) == (1 : Int)))
    (ag (cI ([3,8] : List Int) q) fun x91 =>
    cond x91
     (cond ((q.exprs.length : Int) == (q.names.length : Int))
      (some (decide ((IntKind.i64.wrap ((q.exprs.length : Int) + (q.aggregates.length : Int))) > (0 : Int))))
      (some false))
     (ag (cI ([9] : List Int) q) fun x112 =>
     cond x112
      (cond ((q.exprs.length : Int) == (q.descending.length : Int))
       (some (decide ((q.exprs.length : Int) > (0 : Int))))
       (some false))
      (ag (cI ([10] : List Int) q) fun x129 =>
      cond x129
       (cond ((q.exprs.length : Int) == (0 : Int))
        (cond (decide (q.count ≥ (0 : Int)))
         (some (decide (q.offset ≥ (0 : Int))))
         (some false))
        (some false))
       (some ((q.exprs.length : Int) == (0 : Int))))))))
theorem W_query_shape (q : LQuery) (r : Bool) (H : jl q = some r) :
  aT Tryz.prog 139 [(.agg (am q))] (au r) := by
 unfold jl at H
 refine PH.ax Tryz.func139 Tryz.ntmps139 ?_
 refine ae (aa (aG ?_))
 refine ah tk rfl (ab (ae (aa (rG (e := 3) (rows := [[(ac (-1))],[(ac 0)],[(ac 1)],[(ac 1)],[(ac 2)],[(ac 2)],[(ac 2)],[(ac 2)],[(ac 1)],[(ac 1)],[(ac 1)]]) tk rfl rfl rfl rfl (rows' := List.map bE ([(-1),0,1,1,2,2,2,2,1,1,1] : List Int)) (by kernel_rfl) (dF.refl _) rfl rfl (ah tk rfl (ab (ae (ae ?_))))))))
 refine bZ (γ := Unit) (fun t1 g1=>⟨148,upd (upd (fun _=>.any) 24 (au t1)) 1 (.ptr (am q)),fun _=>none,fun _=>none⟩) H (fun _ H=>?_) (fun t1 g1 H=>?_)
 ·refine br tk mok ⟨false,false,[]⟩ [0,1,2,3,4,5,6,7,8,9,10,11,12,13,14,15,16,17,18] rfl (by decide +kernel) rfl (bc 4 rfl ?_)
  refine pl rfl rfl rfl rfl H (fun H=>?_) (fun H=>?_)
  ·refine bc 15 rfl (bi ?_)
   refine aH _ () (az H) Gh.d
  refine bc 5 rfl ?_
  refine pl rfl rfl rfl rfl H (fun H=>?_) (fun H=>?_)
  ·refine bc 10 rfl (bi ?_)
   refine aH _ () (az H) Gh.d
  refine bc 2 rfl (ot rfl rfl rfl rfl rfl rfl (zl _) rfl (bc 3 rfl ?_))
  obtain ⟨x21,k21,H⟩ := bB H
  refine bF k21.1 (aV (fun _=>rfl) k21.2) ?_
  refine bc 3 rfl (bi ?_)
  refine aH _ () (az H) Gh.d
 refine aQ rfl H (fun H=>?_) (fun H=>?_)
 ·refine aw 1 tk rfl ?_
  exact bq tk H rfl
 refine ay (aw 2 tk rfl (ae (aE (ae (ae ?_)))))
 refine bZ (γ := Unit) (fun t2 g2=>⟨148,upd (upd (upd (fun _=>.any) 26 (au t2)) 4 (.fn 171 [(.ptr (am q))])) 1 (.ptr (am q)),fun _=>none,fun _=>none⟩) H (fun _ H=>?_) (fun t2 g2 H=>?_)
 ·refine aa (ah tk rfl (co tk (rows' := List.map bE ([1] : List Int)) (dF.refl _) ?_))
  obtain ⟨x29,h29,H⟩ := av H
  have s29 := en ([1] : List Int) q _ h29
  refine aq Tryz.call171 (eX.r) s29 ?_
  refine af 2 tk rfl ?_
  refine aO rfl rfl rfl H (fun H=>?_) (fun H=>?_)
  ·refine af 5 tk rfl (ab ?_)
   refine aH _ () (az H) Gh.d
  refine af 5 tk rfl (ab ?_)
  refine aH _ () (az H) Gh.d
 refine bZ (γ := Unit) (fun t6 g6=>⟨148,upd (upd (upd (fun _=>.any) 26 (au t6)) 4 (.fn 171 [(.ptr (am q))])) 1 (.ptr (am q)),fun _=>none,fun _=>none⟩) H (fun _ H=>?_) (fun t6 g6 H=>?_)
 ·refine aQ rfl H (fun H=>?_) (fun H=>?_)
  ·refine ay ?_
   refine aH _ () (az H) Gh.d
  refine ae ?_
  refine bZ (γ := Unit) (fun t7 g7=>⟨148,upd (upd (upd (fun _=>.any) 26 (au t7)) 4 (.fn 171 [(.ptr (am q))])) 1 (.ptr (am q)),fun _=>none,fun _=>none⟩) H (fun _ H=>?_) (fun t7 g7 H=>?_)
  ·refine aa (ah tk rfl (co tk (rows' := List.map bE ([3,8] : List Int)) (dF.refl _) ?_))
   obtain ⟨x38,h38,H⟩ := av H
   have s38 := en ([3,8] : List Int) q _ h38
   refine aq Tryz.call171 (eX.r) s38 ?_
   refine af 2 tk rfl ?_
   refine aO rfl rfl rfl H (fun H=>?_) (fun H=>?_)
   ·refine af 2 tk rfl (aD tk (zl _) ?_)
    refine af 3 tk rfl (ab ?_)
    refine aH _ () (az H) Gh.d
   refine af 6 tk rfl (ab ?_)
   refine aH _ () (az H) Gh.d
  refine aQ rfl H (fun H=>?_) (fun H=>?_)
  ·refine ay ?_
   refine aH _ () (az H) Gh.d
  refine ae ?_
  refine bZ (γ := Unit) (fun t8 g8=>⟨148,upd (upd (upd (fun _=>.any) 26 (au t8)) 4 (.fn 171 [(.ptr (am q))])) 1 (.ptr (am q)),fun _=>none,fun _=>none⟩) H (fun _ H=>?_) (fun t8 g8 H=>?_)
  ·refine aa (ah tk rfl (co tk (rows' := List.map bE ([8] : List Int)) (dF.refl _) ?_))
   obtain ⟨x48,h48,H⟩ := av H
   have s48 := en ([8] : List Int) q _ h48
   refine aq Tryz.call171 (eX.r) s48 ?_
   refine af 2 tk rfl ?_
   refine aO rfl rfl rfl H (fun H=>?_) (fun H=>?_)
   ·refine af 2 tk rfl (aD tk (zl _) ?_)
    refine af 3 tk rfl (ab ?_)
    refine aH _ () (az H) Gh.d
   refine af 6 tk rfl (ab ?_)
   refine aH _ () (az H) Gh.d
  refine aQ rfl H (fun H=>?_) (fun H=>?_)
  ·refine ay ?_
   refine aH _ () (az H) Gh.d
  refine ae ?_
  refine bZ (γ := Unit) (fun t9 g9=>⟨148,upd (upd (upd (fun _=>.any) 26 (au t9)) 4 (.fn 171 [(.ptr (am q))])) 1 (.ptr (am q)),fun _=>none,fun _=>none⟩) H (fun _ H=>?_) (fun t9 g9 H=>?_)
  ·refine aa (ah tk rfl (co tk (rows' := List.map bE ([9] : List Int)) (dF.refl _) ?_))
   obtain ⟨x58,h58,H⟩ := av H
   have s58 := en ([9] : List Int) q _ h58
   refine aq Tryz.call171 (eX.r) s58 ?_
   refine af 2 tk rfl ?_
   refine aO rfl rfl rfl H (fun H=>?_) (fun H=>?_)
   ·refine af 2 tk rfl (aD tk (zl _) ?_)
    refine af 3 tk rfl (ab ?_)
    refine aH _ () (az H) Gh.d
   refine af 6 tk rfl (ab ?_)
   refine aH _ () (az H) Gh.d
  refine aQ rfl H (fun H=>?_) (fun H=>?_)
  ·refine ay ?_
   refine aH _ () (az H) Gh.d
  refine aa (ah tk rfl (co tk (rows' := List.map bE ([10] : List Int)) (dF.refl _) ?_))
  obtain ⟨x68,h68,H⟩ := av H
  have s68 := en ([10] : List Int) q _ h68
  refine aq Tryz.call171 (eX.r) s68 ?_
  refine af 2 tk rfl ?_
  refine aO rfl rfl rfl H (fun H=>?_) (fun H=>?_)
  ·refine af 4 tk rfl ?_
   refine aO rfl rfl rfl H (fun H=>?_) (fun H=>?_)
   ·refine af 6 tk rfl (ab ?_)
    refine aH _ () (az H) Gh.d
   refine af 6 tk rfl (ab ?_)
   refine aH _ () (az H) Gh.d
  refine af 10 tk rfl (ab ?_)
  refine aH _ () (az H) Gh.d
 refine aQ rfl H (fun H=>?_) (fun H=>?_)
 ·refine aw 1 tk rfl ?_
  exact bq tk H rfl
 refine ae (aa (ah tk rfl (co tk (rows' := List.map bE ([2,4,5] : List Int)) (dF.refl _) ?_)))
 obtain ⟨x83,h83,H⟩ := av H
 have s83 := en ([2,4,5] : List Int) q _ h83
 refine aq Tryz.call171 (eX.r) s83 ?_
 refine ah tk rfl (ab ?_)
 refine aQ rfl H (fun H=>?_) (fun H=>?_)
 ·refine ae (aa (af 2 tk rfl (aD tk (zl _) ?_)))
  refine af 2 tk rfl (ab ?_)
  exact bq tk H rfl
 refine ae (aa (ah tk rfl (co tk (rows' := List.map bE ([3,8] : List Int)) (dF.refl _) ?_)))
 obtain ⟨x91,h91,H⟩ := av H
 have s91 := en ([3,8] : List Int) q _ h91
 refine aq Tryz.call171 (eX.r) s91 ?_
 refine ah tk rfl (ab ?_)
 refine aQ rfl H (fun H=>?_) (fun H=>?_)
 ·refine ae (aa (af 2 tk rfl (aD tk (zl _) ?_)))
  refine af 2 tk rfl (aD tk (zl _) ?_)
  refine af 2 tk rfl ?_
  refine aO rfl rfl rfl H (fun H=>?_) (fun H=>?_)
  ·refine af 2 tk rfl (aD tk (zl _) ?_)
   refine af 2 tk rfl (aD tk (zl _) ?_)
   refine af 4 tk rfl (ab ?_)
   exact bq tk H rfl
  refine af 10 tk rfl (ab ?_)
  exact bq tk H rfl
 refine ae (aa (ah tk rfl (co tk (rows' := List.map bE ([9] : List Int)) (dF.refl _) ?_)))
 obtain ⟨x112,h112,H⟩ := av H
 have s112 := en ([9] : List Int) q _ h112
 refine aq Tryz.call171 (eX.r) s112 ?_
 refine ah tk rfl (ab ?_)
 refine aQ rfl H (fun H=>?_) (fun H=>?_)
 ·refine ae (aa (af 2 tk rfl (aD tk (zl _) ?_)))
  refine af 2 tk rfl (aD tk (zl _) ?_)
  refine af 2 tk rfl ?_
  refine aO rfl rfl rfl H (fun H=>?_) (fun H=>?_)
  ·refine af 2 tk rfl (aD tk (zl _) ?_)
   refine af 3 tk rfl (ab ?_)
   exact bq tk H rfl
  refine af 6 tk rfl (ab ?_)
  exact bq tk H rfl
 refine ae (aa (ah tk rfl (co tk (rows' := List.map bE ([10] : List Int)) (dF.refl _) ?_)))
 obtain ⟨x129,h129,H⟩ := av H
 have s129 := en ([10] : List Int) q _ h129
 refine aq Tryz.call171 (eX.r) s129 ?_
 refine ah tk rfl (ab ?_)
 refine aQ rfl H (fun H=>?_) (fun H=>?_)
 ·refine ae (aa (af 2 tk rfl (aD tk (zl _) ?_)))
  refine af 2 tk rfl ?_
  refine aO rfl rfl rfl H (fun H=>?_) (fun H=>?_)
  ·refine af 5 tk rfl ?_
   refine aO rfl rfl rfl H (fun H=>?_) (fun H=>?_)
   ·refine af 5 tk rfl (ab ?_)
    exact bq tk H rfl
   refine af 5 tk rfl (ab ?_)
   exact bq tk H rfl
  refine af 10 tk rfl (ab ?_)
  exact bq tk H rfl
 refine ay (aW (ae (aa (af 2 tk rfl (aD tk (zl _) ?_)))))
 refine af 2 tk rfl (ab ?_)
 exact bq tk H rfl
def cM (c : LChecker) (l : List LCol) (e : LExpr) : Int :=
 bj (eK l c.vars e) fun x15 =>
 cond (x15.2.2 == (0 : Int))
  (cond (x15.1 != (2 : Int))
   (cond (x15.1 != (0 : Int))
    (7)
    (x15.2.2))
   (x15.2.2))
  (x15.2.2)
theorem jr (c : LChecker) (l : List LCol) (e : LExpr) :
  aT Tryz.prog 174 [(.agg (dv c)),(.list 52 (l.map bd)),(.agg (bl e))] (ac (cM c l e)) := by
 obtain ⟨r,H⟩ : ∃ r,cM c l e = r := ⟨_,rfl⟩
 rw [H]
 unfold cM at H
 refine PH.ax Tryz.func174 Tryz.ntmps174 ?_
 refine ae (aa (aG ?_))
 refine aG ?_
 refine ah tk rfl (ab (ae (aa (af 4 tk rfl ?_))))
 obtain ⟨x15,h15,H⟩ := cZ H
 have s15 := lG l c.vars e
 rw [h15] at s15
 refine aq Tryz.call177 (eX.r) s15 ?_
 refine af 7 tk rfl (ab (ae (ae (aa (af 3 tk rfl ?_)))))
 refine aO rfl rfl rfl H (fun H=>?_) (fun H=>?_)
 ·refine af 4 tk rfl ?_
  refine aO rfl rfl rfl H (fun H=>?_) (fun H=>?_)
  ·refine af 3 tk rfl (ab ?_)
   refine aQ rfl H (fun H=>?_) (fun H=>?_)
   ·refine aw 1 tk rfl ?_
    exact dy tk H rfl
   refine ay (aw 2 tk rfl ?_)
   exact dy tk H rfl
  refine af 3 tk rfl (ab (bT rfl (ay (aw 2 tk rfl ?_))))
  exact dy tk H rfl
 refine af 7 tk rfl (ab (bT rfl (ay (aw 2 tk rfl ?_))))
 exact dy tk H rfl
def eS (c : LChecker) (inA : List LCol) (a : LAggregateCall) : Option (Int × Int) :=
 ag (
  bj (de a.name) fun x13 =>
  cond (!x13)
   (some true)
   (ag (cz ([[99,111,117,110,116],[115,117,109],[109,105,110],[109,97,120]] : List (List UInt8)) a.function) fun x19 =>
   cond (!x19)
    (some true)
    (cond (decide ((a.args.length : Int) > (1 : Int)))
     (some true)
     (cond (decide ((a.args.length : Int) < (1 : Int)))
      (some (!(a.function == ([99,111,117,110,116] : List UInt8))))
      (some false))))) fun (t1 : Bool) =>
 cond t1
  (some (0,3))
  (cond ((a.args.length : Int) == (0 : Int))
   (some (1,0))
   (ag (aP a.args 0) fun (x49 : LExpr) =>
   bj (eK inA c.vars x49) fun x51 =>
   cond (x51.2.2 != (0 : Int))
    (some (0,x51.2.2))
    (bj (
     cond (x51.1 == (0 : Int))
      (true)
      (cond (a.function == ([115,117,109] : List UInt8))
       ((x51.1 != (1 : Int)))
       (false))) fun (t2 : Bool) =>
    cond t2
     (some (0,7))
     (cond (a.function == ([99,111,117,110,116] : List UInt8))
      (some (1,0))
      (some (x51.1,0))))))
theorem pC (c : LChecker) (inA : List LCol) (a : LAggregateCall) (r : Int × Int) (H : eS c inA a = some r) :
  aT Tryz.prog 197 [(.agg (dv c)),(.list 52 (inA.map bd)),(.agg (aS a))] (.tup [(ac r.1),(ac r.2)]) := by
 unfold eS at H
 refine PH.ax Tryz.func197 Tryz.ntmps197 ?_
 refine ae (aa (aG ?_))
 refine aG ?_
 refine af 2 tk rfl (ab (ae (ae ?_)))
 refine bZ (γ := Unit) (fun t1 g1=>⟨76,upd (upd (upd (upd (fun _=>.any) 38 (au t1)) 5 (.ptr (aS a))) 3 (.ptr (dv c))) 1 (.list 52 (inA.map bd)),fun _=>none,fun _=>none⟩) H (fun _ H=>?_) (fun t1 g1 H=>?_)
 ·refine aa (af 2 tk rfl ?_)
  obtain ⟨x13,h13,H⟩ := cZ H
  have s13 := kY a.name
  rw [h13] at s13
  refine aq Tryz.call196 (eX.r) s13 ?_
  refine af 2 tk rfl ?_
  refine aO rfl rfl rfl H (fun H=>?_) (fun H=>?_)
  ·refine af 23 tk rfl (ab ?_)
   refine aH _ () (az H) Gh.d
  refine co tk (rows' := List.map aF ([[99,111,117,110,116],[115,117,109],[109,105,110],[109,97,120]] : List (List UInt8))) (dF.refl _) ?_
  refine af 2 tk rfl ?_
  obtain ⟨x19,h19,H⟩ := av H
  have s19 := hX ([[99,111,117,110,116],[115,117,109],[109,105,110],[109,97,120]] : List (List UInt8)) a.function _ h19
  refine aq Tryz.call103 (eX.r) s19 ?_
  refine af 3 tk rfl ?_
  refine aO rfl rfl rfl H (fun H=>?_) (fun H=>?_)
  ·refine af 16 tk rfl (ab ?_)
   refine aH _ () (az H) Gh.d
  refine af 2 tk rfl (aD tk (zl _) ?_)
  refine af 3 tk rfl ?_
  refine aO rfl rfl rfl H (fun H=>?_) (fun H=>?_)
  ·refine af 10 tk rfl (ab ?_)
   refine aH _ () (az H) Gh.d
  refine af 2 tk rfl (aD tk (zl _) ?_)
  refine af 2 tk rfl ?_
  refine aO rfl rfl rfl H (fun H=>?_) (fun H=>?_)
  ·refine af 5 tk rfl (ab ?_)
   refine aH _ () (az H) Gh.d
  refine af 5 tk rfl (ab ?_)
  refine aH _ () (az H) Gh.d
 refine aQ rfl H (fun H=>?_) (fun H=>?_)
 ·refine aw 2 tk rfl ?_
  exact bq tk H rfl
 refine ay (ae (ae (aa (af 2 tk rfl (aD tk (zl _) ?_)))))
 refine ah tk rfl (ab ?_)
 refine aQ rfl H (fun H=>?_) (fun H=>?_)
 ·refine aw 2 tk rfl ?_
  exact bq tk H rfl
 refine ay (ae (br tk mok ⟨false,false,[]⟩ [0,1,2,3,4,5,6,7,8,9,10,11,12,13,14] rfl (by decide +kernel) rfl (bc 5 rfl ?_)))
 obtain ⟨x49,k49,H⟩ := bB H
 refine bF k49.1 (aV aR k49.2) ?_
 refine bf rfl ?_
 obtain ⟨x51,h51,H⟩ := cZ H
 have s51 := lG inA c.vars x49
 rw [h51] at s51
 refine aZ Tryz.call177 (eX.r) s51 ?_
 refine bc 7 rfl (bi (ae (aE (aw 3 tk rfl ?_))))
 refine aQ rfl H (fun H=>?_) (fun H=>?_)
 ·refine aw 3 tk rfl ?_
  exact bq tk H rfl
 refine ae ?_
 refine ck (γ := Unit) (fun t2 g2=>⟨76,upd (upd (upd (fun _=>.any) 59 (au t2)) 8 (ac x51.1)) 5 (.ptr (aS a)),fun _=>none,fun _=>none⟩) H (fun _ H=>?_) (fun t2 g2 H=>?_)
 ·refine aa (af 3 tk rfl ?_)
  refine aO rfl rfl rfl H (fun H=>?_) (fun H=>?_)
  ·refine af 9 tk rfl (ab ?_)
   refine aH _ () H Gh.d
  refine af 4 tk rfl ?_
  refine aO rfl rfl rfl H (fun H=>?_) (fun H=>?_)
  ·refine af 5 tk rfl (ab ?_)
   refine aH _ () H Gh.d
  refine af 5 tk rfl (ab ?_)
  refine aH _ () H Gh.d
 refine aQ rfl H (fun H=>?_) (fun H=>?_)
 ·refine aw 2 tk rfl ?_
  exact bq tk H rfl
 refine aw 4 tk rfl ?_
 refine aQ rfl H (fun H=>?_) (fun H=>?_)
 ·refine aw 2 tk rfl ?_
  exact bq tk H rfl
 refine ay (aW (aw 3 tk rfl ?_))
 exact bq tk H rfl
def kl (rec30 : LQuery → Option (LQuery)) (q : LQuery) : Option (LQuery) :=
 ag (aJ (σ := List LExpr) (ρ := Empty) (fun (_ : Nat) (x1 : LExpr) (s1 : List LExpr) =>
  ag (dH x1) fun x32 =>
  ag (bY 88 s1 ([x32] : List LExpr)) fun (x34 : List LExpr) =>
  some (.next x34)) 0 q.exprs []) fun fl1=>fl1.thenP fun (s1 : List LExpr) =>
 ag (aJ (σ := List LAggregateCall) (ρ := Empty) (fun (_ : Nat) (x2 : LAggregateCall) (s2 : List LAggregateCall) =>
  ag (ff x2.args) fun x52 =>
  ag (bY 56 s2 ([(LAggregateCall.mk x2.name x2.function x52)] : List LAggregateCall)) fun (x55 : List LAggregateCall) =>
  some (.next x55)) 0 q.aggregates []) fun fl2=>fl2.thenP fun (s2 : List LAggregateCall) =>
 ag (aJ (σ := List LQuery) (ρ := Empty) (fun (_ : Nat) (x3 : LQuery) (s3 : List LQuery) =>
  ag (rec30 x3) fun x68 =>
  ag (bY 160 s3 ([x68] : List LQuery)) fun (x70 : List LQuery) =>
  some (.next x70)) 0 q.inputs []) fun fl3=>fl3.thenP fun (s3 : List LQuery) =>
 some (LQuery.mk q.kind q.table q.names s1 s2 q.descending q.count q.offset s3)
theorem WO_query_Clone (rec30 : LQuery → Option (LQuery)) (hrec30 : ∀ a0 r,rec30 a0 = some r → aT Tryz.prog 30 [(.agg (am a0))] (.agg (am r))) (q : LQuery) (r : LQuery) (H : kl rec30 q = some r) :
  aT Tryz.prog 30 [(.agg (am q))] (.agg (am r)) := by
 unfold kl at H
 refine PH.ax Tryz.func30 Tryz.ntmps30 ?_
 refine ae (aa (aG ?_))
 refine aC tk fun b2=>?_
 refine ab (ae (aa (ah tk rfl ?_)))
 refine aC tk fun b3=>?_
 refine ao tk ?_
 refine ab (ae (br tk mok ⟨false,false,[]⟩ [0,1,3,4,2,6,5,7,8,9] rfl (by decide +kernel) rfl (bc 4 rfl ?_)))
 have s13 := oX (m := 13) q.names
 refine iZ (g := 61) rfl rfl rfl rfl Tryz.call61 (eX.r) rfl rfl s13 (fun g13=>?_)
 refine bf rfl ?_
 have s16 := oK (m := 16) q.descending
 refine iZ (g := 62) rfl rfl rfl rfl Tryz.call62 (eX.r) rfl rfl s16 (fun g16=>?_)
 refine bh ?_
 refine bf rfl (bh ?_)
 refine bi (ae (aa (ah tk rfl (ao tk ?_))))
 refine ah tk rfl (ao tk ?_)
 refine ah tk rfl (ao tk ?_)
 refine ab (ae (ae (aa (af 2 tk rfl (aD tk (zl _) ?_)))))
 refine ah tk rfl (ab (gk tk 3 3 34 (e := 94) rfl rfl rfl rfl ?_))
 refine dh (γ := OwnRef) tk 25 24 23 (fun s1 g1=>upd (upd (upd (fun _=>.any) 3 (.box 3 b3 0)) 2 (.box 2 b2 0)) 1 (.ptr (am q))) (fun s1 g1=>upd (upd (fun _=>none) 3 (some ⟨b3,[(ac q.kind),(.str q.table),(.own 13 g13 (q.names.map aF).length),(.own 34 g1 (s1.map ak).length),(.val (.slice none 0 0)),(.own 16 g16 (q.descending.map aM).length),(ac q.count),(ac q.offset),(.val (.slice none 0 0))]⟩)) 2 (some ⟨b2,[(ac 0),(.str []),(.val (.slice none 0 0)),(.val (.slice none 0 0)),(.val (.slice none 0 0)),(.val (.slice none 0 0)),(ac 0),(ac 0),(.val (.slice none 0 0))]⟩)) (fun s1 g1=>upd (upd (upd (fun _=>none) 34 (some ⟨g1,94,(s1.map ak),true⟩)) 16 (some ⟨g16,4,(q.descending.map aM),true⟩)) 13 (some ⟨g13,9,(q.names.map aF),true⟩)) (⟨none,0⟩) H (fun fl1 Hp1 j1 s1 g1 hz1 hl1 x1 fb1 hx1 H hg1=>?_) (fun s1 g1 H=>?_)
 ·refine ae (aE (ae (aa (aX tk (zn j1) (bg aR hx1) ?_))))
  refine ah tk rfl ?_
  refine aC tk fun b5=>?_
  refine ao tk ?_
  refine ab (cd 5 ?_)
  refine br tk mok ⟨true,false,[31]⟩ [0,1,2,3,4,5,6,7] rfl (by decide +kernel) rfl (bf rfl (aU ?_))
  refine bf rfl ?_
  obtain ⟨x32,h32,H⟩ := av H
  have s32 := gv x1 _ h32
  refine aZ Tryz.call63 (eX.r) s32 ?_
  refine bf rfl ?_
  obtain ⟨x34,h34,H⟩ := av H
  have k34 := bD h34
  refine eo (rows2' := List.map ak ([x32] : List LExpr)) (rows' := List.map ak x34) tk rfl rfl rfl rfl rfl rfl rfl rfl rfl rfl rfl rfl rfl rfl (dF.trans (b := List.map bl [x32]) (dF.refl _) (dF.of_eq (bP aR [x32]))) (cf k34.1) (cg k34.2.1) (ce k34.2.2) fun g34=>?_
  refine bf rfl (bh ?_)
  refine bi (aW (bp 2 tk rfl ?_))
  exact bm g34 H hl1 hg1
 refine ae (ae (aa (af 2 tk rfl (aD tk (zl _) ?_))))
 refine ah tk rfl (ab (gk tk 3 4 55 (e := 91) rfl rfl rfl rfl ?_))
 refine dh (γ := OwnRef) tk 40 39 38 (fun s2 g2=>upd (upd (upd (fun _=>.any) 3 (.box 3 b3 0)) 2 (.box 2 b2 0)) 1 (.ptr (am q))) (fun s2 g2=>upd (upd (fun _=>none) 3 (some ⟨b3,[(ac q.kind),(.str q.table),(.own 13 g13 (q.names.map aF).length),(.own 34 g1 (s1.map ak).length),(.own 55 g2 (s2.map aS).length),(.own 16 g16 (q.descending.map aM).length),(ac q.count),(ac q.offset),(.val (.slice none 0 0))]⟩)) 2 (some ⟨b2,[(ac 0),(.str []),(.val (.slice none 0 0)),(.val (.slice none 0 0)),(.val (.slice none 0 0)),(.val (.slice none 0 0)),(ac 0),(ac 0),(.val (.slice none 0 0))]⟩)) (fun s2 g2=>upd (upd (upd (upd (fun _=>none) 55 (some ⟨g2,91,(s2.map aS),true⟩)) 34 (some ⟨g1,94,(s1.map ak),true⟩)) 16 (some ⟨g16,4,(q.descending.map aM),true⟩)) 13 (some ⟨g13,9,(q.names.map aF),true⟩)) (⟨none,0⟩) H (fun fl2 Hp2 j2 s2 g2 hz2 hl2 x2 fb2 hx2 H hg2=>?_) (fun s2 g2 H=>?_)
 ·refine ae (aE (ae (aa ?_)))
  refine aX tk (zn j2) (bg (fun _=>rfl) hx2) ?_
  refine ah tk rfl ?_
  refine aC tk fun b7=>?_
  refine ao tk ?_
  refine ab (cd 7 ?_)
  refine br tk mok ⟨true,false,[47,49,51]⟩ [0,1,2,3,4,5,6,7,8,9,10,11,12,13] rfl (by decide +kernel) rfl (bf rfl (aU ?_))
  refine bc 6 rfl ?_
  obtain ⟨x52,h52,H⟩ := av H
  have s52 := kf x2.args _ h52
  refine aZ Tryz.call64 (eX.r) s52 ?_
  refine bc 2 rfl ?_
  obtain ⟨x55,h55,H⟩ := av H
  have k55 := bD h55
  refine eo (rows2' := List.map aS ([(LAggregateCall.mk x2.name x2.function x52)] : List LAggregateCall)) (rows' := List.map aS x55) tk rfl rfl rfl rfl rfl rfl rfl rfl rfl rfl rfl rfl rfl rfl (dF.refl _) (cf k55.1) (cg k55.2.1) (ce k55.2.2) fun g55=>?_
  refine bf rfl (bh ?_)
  refine bi (aW (bp 2 tk rfl ?_))
  exact bm g55 H hl2 hg2
 refine ae (ae (aa (af 2 tk rfl (aD tk (zl _) ?_))))
 refine ah tk rfl (ab (gk tk 3 8 70 (e := 33) rfl rfl rfl rfl ?_))
 refine dh (γ := OwnRef) tk 61 60 59 (fun s3 g3=>upd (upd (fun _=>.any) 3 (.box 3 b3 0)) 2 (.box 2 b2 0)) (fun s3 g3=>upd (upd (fun _=>none) 3 (some ⟨b3,[(ac q.kind),(.str q.table),(.own 13 g13 (q.names.map aF).length),(.own 34 g1 (s1.map ak).length),(.own 55 g2 (s2.map aS).length),(.own 16 g16 (q.descending.map aM).length),(ac q.count),(ac q.offset),(.own 70 g3 (s3.map ap).length)]⟩)) 2 (some ⟨b2,[(ac 0),(.str []),(.val (.slice none 0 0)),(.val (.slice none 0 0)),(.val (.slice none 0 0)),(.val (.slice none 0 0)),(ac 0),(ac 0),(.val (.slice none 0 0))]⟩)) (fun s3 g3=>upd (upd (upd (upd (upd (fun _=>none) 70 (some ⟨g3,33,(s3.map ap),true⟩)) 55 (some ⟨g2,91,(s2.map aS),true⟩)) 34 (some ⟨g1,94,(s1.map ak),true⟩)) 16 (some ⟨g16,4,(q.descending.map aM),true⟩)) 13 (some ⟨g13,9,(q.names.map aF),true⟩)) (⟨none,0⟩) H (fun fl3 Hp3 j3 s3 g3 hz3 hl3 x3 fb3 hx3 H hg3=>?_) (fun s3 g3 H=>?_)
 ·refine ae (aE (ae (aa (aX tk (zn j3) (bg aI hx3) ?_))))
  refine ah tk rfl ?_
  refine aC tk fun b9=>?_
  refine ao tk ?_
  refine ab (cd 9 ?_)
  refine br tk mok ⟨true,false,[67]⟩ [0,1,2,3,4,5,6,7] rfl (by decide +kernel) rfl (bf rfl (aU ?_))
  refine bf rfl ?_
  obtain ⟨x68,h68,H⟩ := av H
  have s68 := hrec30 x3 _ h68
  refine aZ Tryz.call30 (eX.r) s68 ?_
  refine bf rfl ?_
  obtain ⟨x70,h70,H⟩ := av H
  have k70 := bD h70
  refine eo (rows2' := List.map ap ([x68] : List LQuery)) (rows' := List.map ap x70) tk rfl rfl rfl rfl rfl rfl rfl rfl rfl rfl rfl rfl rfl rfl (dF.trans (b := List.map am [x68]) (dF.refl _) (dF.of_eq (bP aI [x68]))) (cf k70.1) (cg k70.2.1) (ce k70.2.2) fun g70=>?_
  refine bf rfl (bh ?_)
  refine bi (aW (bp 2 tk rfl ?_))
  exact bm g70 H hl3 hg3
 refine ae (aa (al tk ?_))
 refine ao tk ?_
 refine ab (bC 2 2 rfl rfl rfl rfl rfl (bC 2 3 rfl rfl rfl rfl rfl (bC 2 4 rfl rfl rfl rfl rfl (bC 2 5 rfl rfl rfl rfl rfl (bC 2 8 rfl rfl rfl rfl rfl ?_)))))
 exact pS tk H rfl rfl rfl rfl rfl
def gJ : Nat → LQuery → Option (LQuery)
 | 0,_=>none
 | n + 1,v0=>kl (fun b0=>gJ n b0) v0
theorem WF_query_Clone  (n : Nat) : (∀ a0 r,gJ n a0 = some r → aT Tryz.prog 30 [(.agg (am a0))] (.agg (am r))) := by
 induction n with
 | zero=>exact (by intros; rename_i h; exact absurd (show (none : Option _) = some _ from h) (by simp))
 | succ n ih =>
  exact (fun v0 r h=>WO_query_Clone (fun b0=>gJ n b0) ih v0  r h)
def iq (q : LQuery) : Option (LQuery) := fA fun n=>gJ n q
theorem lY (q : LQuery) (r : LQuery) (H : iq q = some r) :
  aT Tryz.prog 30 [(.agg (am q))] (.agg (am r)) := by
 obtain ⟨n,h⟩ := fv H
 exact (WF_query_Clone  n) q r h
def eM (q : LQuery) : Option (LQuery) :=
 ag (aJ (σ := List LExpr) (ρ := Empty) (fun (_ : Nat) (x1 : LExpr) (s1 : List LExpr) =>
  ag (dH x1) fun x32 =>
  ag (bY 88 s1 ([x32] : List LExpr)) fun (x34 : List LExpr) =>
  some (.next x34)) 0 q.exprs []) fun fl1=>fl1.thenP fun (s1 : List LExpr) =>
 ag (aJ (σ := List LAggregateCall) (ρ := Empty) (fun (_ : Nat) (x2 : LAggregateCall) (s2 : List LAggregateCall) =>
  ag (ff x2.args) fun x52 =>
  ag (bY 56 s2 ([(LAggregateCall.mk x2.name x2.function x52)] : List LAggregateCall)) fun (x55 : List LAggregateCall) =>
  some (.next x55)) 0 q.aggregates []) fun fl2=>fl2.thenP fun (s2 : List LAggregateCall) =>
 ag (aJ (σ := List LQuery) (ρ := Empty) (fun (_ : Nat) (x3 : LQuery) (s3 : List LQuery) =>
  ag (iq x3) fun x68 =>
  ag (bY 160 s3 ([x68] : List LQuery)) fun (x70 : List LQuery) =>
  some (.next x70)) 0 q.inputs []) fun fl3=>fl3.thenP fun (s3 : List LQuery) =>
 some (LQuery.mk q.kind q.table q.names s1 s2 q.descending q.count q.offset s3)
theorem jt {m : Nat} (q : LQuery) (r : LQuery) (H : eM q = some r) :
  dY Tryz.prog 30 [(.agg (am q))] (OwnG m 33 (List.map ap r.inputs) (fun gz=>(.agg [(ac r.kind),(.str r.table),(.list 9 (r.names.map aF)),(.list 94 (r.exprs.map ak)),(.list 91 (r.aggregates.map aS)),(.list 4 (r.descending.map aM)),(ac r.count),(ac r.offset),(.own m gz (r.inputs.map ap).length)]))) := by
 unfold eM at H
 refine PH.ax Tryz.func30 Tryz.ntmps30 ?_
 refine ae (aa (aG ?_))
 refine aC tk fun b2=>?_
 refine ab (ae (aa (ah tk rfl ?_)))
 refine aC tk fun b3=>?_
 refine ao tk ?_
 refine ab (ae (br tk mok ⟨false,false,[]⟩ [0,1,3,4,2,6,5,7,8,9] rfl (by decide +kernel) rfl (bc 4 rfl ?_)))
 have s13 := oX (m := 13) q.names
 refine iZ (g := 61) rfl rfl rfl rfl Tryz.call61 (eX.r) rfl rfl s13 (fun g13=>?_)
 refine bf rfl ?_
 have s16 := oK (m := 16) q.descending
 refine iZ (g := 62) rfl rfl rfl rfl Tryz.call62 (eX.r) rfl rfl s16 (fun g16=>?_)
 refine bh ?_
 refine bf rfl (bh ?_)
 refine bi (ae (aa (ah tk rfl (ao tk ?_))))
 refine ah tk rfl (ao tk ?_)
 refine ah tk rfl (ao tk ?_)
 refine ab (ae (ae (aa (af 2 tk rfl (aD tk (zl _) ?_)))))
 refine ah tk rfl (ab (gk tk 3 3 34 (e := 94) rfl rfl rfl rfl ?_))
 refine dh (γ := OwnRef) tk 25 24 23 (fun s1 g1=>upd (upd (upd (fun _=>.any) 3 (.box 3 b3 0)) 2 (.box 2 b2 0)) 1 (.ptr (am q))) (fun s1 g1=>upd (upd (fun _=>none) 3 (some ⟨b3,[(ac q.kind),(.str q.table),(.own 13 g13 (q.names.map aF).length),(.own 34 g1 (s1.map ak).length),(.val (.slice none 0 0)),(.own 16 g16 (q.descending.map aM).length),(ac q.count),(ac q.offset),(.val (.slice none 0 0))]⟩)) 2 (some ⟨b2,[(ac 0),(.str []),(.val (.slice none 0 0)),(.val (.slice none 0 0)),(.val (.slice none 0 0)),(.val (.slice none 0 0)),(ac 0),(ac 0),(.val (.slice none 0 0))]⟩)) (fun s1 g1=>upd (upd (upd (fun _=>none) 34 (some ⟨g1,94,(s1.map ak),true⟩)) 16 (some ⟨g16,4,(q.descending.map aM),true⟩)) 13 (some ⟨g13,9,(q.names.map aF),true⟩)) (⟨none,0⟩) H (fun fl1 Hp1 j1 s1 g1 hz1 hl1 x1 fb1 hx1 H hg1=>?_) (fun s1 g1 H=>?_)
 ·refine ae (aE (ae (aa (aX tk (zn j1) (bg aR hx1) ?_))))
  refine ah tk rfl ?_
  refine aC tk fun b5=>?_
  refine ao tk ?_
  refine ab (cd 5 ?_)
  refine br tk mok ⟨true,false,[31]⟩ [0,1,2,3,4,5,6,7] rfl (by decide +kernel) rfl (bf rfl (aU ?_))
  refine bf rfl ?_
  obtain ⟨x32,h32,H⟩ := av H
  have s32 := gv x1 _ h32
  refine aZ Tryz.call63 (eX.r) s32 ?_
  refine bf rfl ?_
  obtain ⟨x34,h34,H⟩ := av H
  have k34 := bD h34
  refine eo (rows2' := List.map ak ([x32] : List LExpr)) (rows' := List.map ak x34) tk rfl rfl rfl rfl rfl rfl rfl rfl rfl rfl rfl rfl rfl rfl (dF.trans (b := List.map bl [x32]) (dF.refl _) (dF.of_eq (bP aR [x32]))) (cf k34.1) (cg k34.2.1) (ce k34.2.2) fun g34=>?_
  refine bf rfl (bh ?_)
  refine bi (aW (bp 2 tk rfl ?_))
  exact bm g34 H hl1 hg1
 refine ae (ae (aa (af 2 tk rfl (aD tk (zl _) ?_))))
 refine ah tk rfl (ab (gk tk 3 4 55 (e := 91) rfl rfl rfl rfl ?_))
 refine dh (γ := OwnRef) tk 40 39 38 (fun s2 g2=>upd (upd (upd (fun _=>.any) 3 (.box 3 b3 0)) 2 (.box 2 b2 0)) 1 (.ptr (am q))) (fun s2 g2=>upd (upd (fun _=>none) 3 (some ⟨b3,[(ac q.kind),(.str q.table),(.own 13 g13 (q.names.map aF).length),(.own 34 g1 (s1.map ak).length),(.own 55 g2 (s2.map aS).length),(.own 16 g16 (q.descending.map aM).length),(ac q.count),(ac q.offset),(.val (.slice none 0 0))]⟩)) 2 (some ⟨b2,[(ac 0),(.str []),(.val (.slice none 0 0)),(.val (.slice none 0 0)),(.val (.slice none 0 0)),(.val (.slice none 0 0)),(ac 0),(ac 0),(.val (.slice none 0 0))]⟩)) (fun s2 g2=>upd (upd (upd (upd (fun _=>none) 55 (some ⟨g2,91,(s2.map aS),true⟩)) 34 (some ⟨g1,94,(s1.map ak),true⟩)) 16 (some ⟨g16,4,(q.descending.map aM),true⟩)) 13 (some ⟨g13,9,(q.names.map aF),true⟩)) (⟨none,0⟩) H (fun fl2 Hp2 j2 s2 g2 hz2 hl2 x2 fb2 hx2 H hg2=>?_) (fun s2 g2 H=>?_)
 ·refine ae (aE (ae (aa ?_)))
  refine aX tk (zn j2) (bg (fun _=>rfl) hx2) ?_
  refine ah tk rfl ?_
  refine aC tk fun b7=>?_
  refine ao tk ?_
  refine ab (cd 7 ?_)
  refine br tk mok ⟨true,false,[47,49,51]⟩ [0,1,2,3,4,5,6,7,8,9,10,11,12,13] rfl (by decide +kernel) rfl (bf rfl (aU ?_))
  refine bc 6 rfl ?_
  obtain ⟨x52,h52,H⟩ := av H
  have s52 := kf x2.args _ h52
  refine aZ Tryz.call64 (eX.r) s52 ?_
  refine bc 2 rfl ?_
  obtain ⟨x55,h55,H⟩ := av H
  have k55 := bD h55
  refine eo (rows2' := List.map aS ([(LAggregateCall.mk x2.name x2.function x52)] : List LAggregateCall)) (rows' := List.map aS x55) tk rfl rfl rfl rfl rfl rfl rfl rfl rfl rfl rfl rfl rfl rfl (dF.refl _) (cf k55.1) (cg k55.2.1) (ce k55.2.2) fun g55=>?_
  refine bf rfl (bh ?_)
  refine bi (aW (bp 2 tk rfl ?_))
  exact bm g55 H hl2 hg2
 refine ae (ae (aa (af 2 tk rfl (aD tk (zl _) ?_))))
 refine ah tk rfl (ab (gk tk 3 8 70 (e := 33) rfl rfl rfl rfl ?_))
 refine dh (γ := OwnRef) tk 61 60 59 (fun s3 g3=>upd (upd (fun _=>.any) 3 (.box 3 b3 0)) 2 (.box 2 b2 0)) (fun s3 g3=>upd (upd (fun _=>none) 3 (some ⟨b3,[(ac q.kind),(.str q.table),(.own 13 g13 (q.names.map aF).length),(.own 34 g1 (s1.map ak).length),(.own 55 g2 (s2.map aS).length),(.own 16 g16 (q.descending.map aM).length),(ac q.count),(ac q.offset),(.own 70 g3 (s3.map ap).length)]⟩)) 2 (some ⟨b2,[(ac 0),(.str []),(.val (.slice none 0 0)),(.val (.slice none 0 0)),(.val (.slice none 0 0)),(.val (.slice none 0 0)),(ac 0),(ac 0),(.val (.slice none 0 0))]⟩)) (fun s3 g3=>upd (upd (upd (upd (upd (fun _=>none) 70 (some ⟨g3,33,(s3.map ap),true⟩)) 55 (some ⟨g2,91,(s2.map aS),true⟩)) 34 (some ⟨g1,94,(s1.map ak),true⟩)) 16 (some ⟨g16,4,(q.descending.map aM),true⟩)) 13 (some ⟨g13,9,(q.names.map aF),true⟩)) (⟨none,0⟩) H (fun fl3 Hp3 j3 s3 g3 hz3 hl3 x3 fb3 hx3 H hg3=>?_) (fun s3 g3 H=>?_)
 ·refine ae (aE (ae (aa (aX tk (zn j3) (bg aI hx3) ?_))))
  refine ah tk rfl ?_
  refine aC tk fun b9=>?_
  refine ao tk ?_
  refine ab (cd 9 ?_)
  refine br tk mok ⟨true,false,[67]⟩ [0,1,2,3,4,5,6,7] rfl (by decide +kernel) rfl (bf rfl (aU ?_))
  refine bf rfl ?_
  obtain ⟨x68,h68,H⟩ := av H
  have s68 := lY x3 _ h68
  refine aZ Tryz.call30 (eX.r) s68 ?_
  refine bf rfl ?_
  obtain ⟨x70,h70,H⟩ := av H
  have k70 := bD h70
  refine eo (rows2' := List.map ap ([x68] : List LQuery)) (rows' := List.map ap x70) tk rfl rfl rfl rfl rfl rfl rfl rfl rfl rfl rfl rfl rfl rfl (dF.trans (b := List.map am [x68]) (dF.refl _) (dF.of_eq (bP aI [x68]))) (cf k70.1) (cg k70.2.1) (ce k70.2.2) fun g70=>?_
  refine bf rfl (bh ?_)
  refine bi (aW (bp 2 tk rfl ?_))
  exact bm g70 H hl3 hg3
 refine ae (aa (al tk ?_))
 refine ao tk ?_
 refine ab ?_
 obtain rfl := az H
 refine bC 2 2 rfl rfl rfl rfl rfl (bC 2 3 rfl rfl rfl rfl rfl (bC 2 4 rfl rfl rfl rfl rfl (bC 2 5 rfl rfl rfl rfl rfl ?_)))
 refine rh tk rfl (ps := [(.agg [(ac q.kind),(.str q.table),(.list 9 (q.names.map aF)),(.list 94 (s1.map ak)),(.list 91 (s2.map aS)),(.list 4 (q.descending.map aM)),(ac q.count),(ac q.offset),(.own 70 g3 (s3.map ap).length)])]) (by exact ⟨_,_,rfl,⟨_,_,_,_,_,rfl,rfl,rfl,rfl⟩,rfl⟩) (tag := 70) rfl rfl (PLe.of2 (lW.agg (gc.cons (lW.of_eq rfl) (gc.cons (lW.of_eq rfl) (gc.cons (lW.of_eq rfl) (gc.cons (lW.of_eq rfl) (gc.cons (lW.of_eq rfl) (gc.cons (lW.of_eq rfl) (gc.cons (lW.of_eq rfl) (gc.cons (lW.of_eq rfl) (gc.cons (lW.own rfl) gc.nil)))))))))))
def it (q : LQuery) : Option (LQuery) :=
 ag (aJ (σ := List LExpr) (ρ := Empty) (fun (_ : Nat) (x1 : LExpr) (s1 : List LExpr) =>
  ag (dH x1) fun x32 =>
  ag (bY 88 s1 ([x32] : List LExpr)) fun (x34 : List LExpr) =>
  some (.next x34)) 0 q.exprs []) fun fl1=>fl1.thenP fun (s1 : List LExpr) =>
 ag (aJ (σ := List LAggregateCall) (ρ := Empty) (fun (_ : Nat) (x2 : LAggregateCall) (s2 : List LAggregateCall) =>
  ag (ff x2.args) fun x52 =>
  ag (bY 56 s2 ([(LAggregateCall.mk x2.name x2.function x52)] : List LAggregateCall)) fun (x55 : List LAggregateCall) =>
  some (.next x55)) 0 q.aggregates []) fun fl2=>fl2.thenP fun (s2 : List LAggregateCall) =>
 ag (aJ (σ := List LQuery) (ρ := Empty) (fun (_ : Nat) (x3 : LQuery) (s3 : List LQuery) =>
  ag (iq x3) fun x68 =>
  ag (bY 160 s3 ([x68] : List LQuery)) fun (x70 : List LQuery) =>
  some (.next x70)) 0 q.inputs []) fun fl3=>fl3.thenP fun (s3 : List LQuery) =>
 some (LQuery.mk q.kind q.table q.names s1 s2 q.descending q.count q.offset s3)
theorem qW {m : Nat} (q : LQuery) (r : LQuery) (H : it q = some r) :
  dY Tryz.prog 30 [(.agg (am q))] (OwnG m 94 (List.map ak r.exprs) (fun gz=>(.agg [(ac r.kind),(.str r.table),(.list 9 (r.names.map aF)),(.own m gz (r.exprs.map ak).length),(.list 91 (r.aggregates.map aS)),(.list 4 (r.descending.map aM)),(ac r.count),(ac r.offset),(.list 33 (r.inputs.map ap))]))) := by
 unfold it at H
 refine PH.ax Tryz.func30 Tryz.ntmps30 ?_
 refine ae (aa (aG ?_))
 refine aC tk fun b2=>?_
 refine ab (ae (aa (ah tk rfl ?_)))
 refine aC tk fun b3=>?_
 refine ao tk ?_
 refine ab (ae (br tk mok ⟨false,false,[]⟩ [0,1,3,4,2,6,5,7,8,9] rfl (by decide +kernel) rfl (bc 4 rfl ?_)))
 have s13 := oX (m := 13) q.names
 refine iZ (g := 61) rfl rfl rfl rfl Tryz.call61 (eX.r) rfl rfl s13 (fun g13=>?_)
 refine bf rfl ?_
 have s16 := oK (m := 16) q.descending
 refine iZ (g := 62) rfl rfl rfl rfl Tryz.call62 (eX.r) rfl rfl s16 (fun g16=>?_)
 refine bh ?_
 refine bf rfl (bh ?_)
 refine bi (ae (aa (ah tk rfl (ao tk ?_))))
 refine ah tk rfl (ao tk ?_)
 refine ah tk rfl (ao tk ?_)
 refine ab (ae (ae (aa (af 2 tk rfl (aD tk (zl _) ?_)))))
 refine ah tk rfl (ab (gk tk 3 3 34 (e := 94) rfl rfl rfl rfl ?_))
 refine dh (γ := OwnRef) tk 25 24 23 (fun s1 g1=>upd (upd (upd (fun _=>.any) 3 (.box 3 b3 0)) 2 (.box 2 b2 0)) 1 (.ptr (am q))) (fun s1 g1=>upd (upd (fun _=>none) 3 (some ⟨b3,[(ac q.kind),(.str q.table),(.own 13 g13 (q.names.map aF).length),(.own 34 g1 (s1.map ak).length),(.val (.slice none 0 0)),(.own 16 g16 (q.descending.map aM).length),(ac q.count),(ac q.offset),(.val (.slice none 0 0))]⟩)) 2 (some ⟨b2,[(ac 0),(.str []),(.val (.slice none 0 0)),(.val (.slice none 0 0)),(.val (.slice none 0 0)),(.val (.slice none 0 0)),(ac 0),(ac 0),(.val (.slice none 0 0))]⟩)) (fun s1 g1=>upd (upd (upd (fun _=>none) 34 (some ⟨g1,94,(s1.map ak),true⟩)) 16 (some ⟨g16,4,(q.descending.map aM),true⟩)) 13 (some ⟨g13,9,(q.names.map aF),true⟩)) (⟨none,0⟩) H (fun fl1 Hp1 j1 s1 g1 hz1 hl1 x1 fb1 hx1 H hg1=>?_) (fun s1 g1 H=>?_)
 ·refine ae (aE (ae (aa (aX tk (zn j1) (bg aR hx1) ?_))))
  refine ah tk rfl ?_
  refine aC tk fun b5=>?_
  refine ao tk ?_
  refine ab (cd 5 ?_)
  refine br tk mok ⟨true,false,[31]⟩ [0,1,2,3,4,5,6,7] rfl (by decide +kernel) rfl (bf rfl (aU ?_))
  refine bf rfl ?_
  obtain ⟨x32,h32,H⟩ := av H
  have s32 := gv x1 _ h32
  refine aZ Tryz.call63 (eX.r) s32 ?_
  refine bf rfl ?_
  obtain ⟨x34,h34,H⟩ := av H
  have k34 := bD h34
  refine eo (rows2' := List.map ak ([x32] : List LExpr)) (rows' := List.map ak x34) tk rfl rfl rfl rfl rfl rfl rfl rfl rfl rfl rfl rfl rfl rfl (dF.trans (b := List.map bl [x32]) (dF.refl _) (dF.of_eq (bP aR [x32]))) (cf k34.1) (cg k34.2.1) (ce k34.2.2) fun g34=>?_
  refine bf rfl (bh ?_)
  refine bi (aW (bp 2 tk rfl ?_))
  exact bm g34 H hl1 hg1
 refine ae (ae (aa (af 2 tk rfl (aD tk (zl _) ?_))))
 refine ah tk rfl (ab (gk tk 3 4 55 (e := 91) rfl rfl rfl rfl ?_))
 refine dh (γ := OwnRef) tk 40 39 38 (fun s2 g2=>upd (upd (upd (fun _=>.any) 3 (.box 3 b3 0)) 2 (.box 2 b2 0)) 1 (.ptr (am q))) (fun s2 g2=>upd (upd (fun _=>none) 3 (some ⟨b3,[(ac q.kind),(.str q.table),(.own 13 g13 (q.names.map aF).length),(.own 34 g1 (s1.map ak).length),(.own 55 g2 (s2.map aS).length),(.own 16 g16 (q.descending.map aM).length),(ac q.count),(ac q.offset),(.val (.slice none 0 0))]⟩)) 2 (some ⟨b2,[(ac 0),(.str []),(.val (.slice none 0 0)),(.val (.slice none 0 0)),(.val (.slice none 0 0)),(.val (.slice none 0 0)),(ac 0),(ac 0),(.val (.slice none 0 0))]⟩)) (fun s2 g2=>upd (upd (upd (upd (fun _=>none) 55 (some ⟨g2,91,(s2.map aS),true⟩)) 34 (some ⟨g1,94,(s1.map ak),true⟩)) 16 (some ⟨g16,4,(q.descending.map aM),true⟩)) 13 (some ⟨g13,9,(q.names.map aF),true⟩)) (⟨none,0⟩) H (fun fl2 Hp2 j2 s2 g2 hz2 hl2 x2 fb2 hx2 H hg2=>?_) (fun s2 g2 H=>?_)
 ·refine ae (aE (ae (aa ?_)))
  refine aX tk (zn j2) (bg (fun _=>rfl) hx2) ?_
  refine ah tk rfl ?_
  refine aC tk fun b7=>?_
  refine ao tk ?_
  refine ab (cd 7 ?_)
  refine br tk mok ⟨true,false,[47,49,51]⟩ [0,1,2,3,4,5,6,7,8,9,10,11,12,13] rfl (by decide +kernel) rfl (bf rfl (aU ?_))
  refine bc 6 rfl ?_
  obtain ⟨x52,h52,H⟩ := av H
  have s52 := kf x2.args _ h52
  refine aZ Tryz.call64 (eX.r) s52 ?_
  refine bc 2 rfl ?_
  obtain ⟨x55,h55,H⟩ := av H
  have k55 := bD h55
  refine eo (rows2' := List.map aS ([(LAggregateCall.mk x2.name x2.function x52)] : List LAggregateCall)) (rows' := List.map aS x55) tk rfl rfl rfl rfl rfl rfl rfl rfl rfl rfl rfl rfl rfl rfl (dF.refl _) (cf k55.1) (cg k55.2.1) (ce k55.2.2) fun g55=>?_
  refine bf rfl (bh ?_)
  refine bi (aW (bp 2 tk rfl ?_))
  exact bm g55 H hl2 hg2
 refine ae (ae (aa (af 2 tk rfl (aD tk (zl _) ?_))))
 refine ah tk rfl (ab (gk tk 3 8 70 (e := 33) rfl rfl rfl rfl ?_))
 refine dh (γ := OwnRef) tk 61 60 59 (fun s3 g3=>upd (upd (fun _=>.any) 3 (.box 3 b3 0)) 2 (.box 2 b2 0)) (fun s3 g3=>upd (upd (fun _=>none) 3 (some ⟨b3,[(ac q.kind),(.str q.table),(.own 13 g13 (q.names.map aF).length),(.own 34 g1 (s1.map ak).length),(.own 55 g2 (s2.map aS).length),(.own 16 g16 (q.descending.map aM).length),(ac q.count),(ac q.offset),(.own 70 g3 (s3.map ap).length)]⟩)) 2 (some ⟨b2,[(ac 0),(.str []),(.val (.slice none 0 0)),(.val (.slice none 0 0)),(.val (.slice none 0 0)),(.val (.slice none 0 0)),(ac 0),(ac 0),(.val (.slice none 0 0))]⟩)) (fun s3 g3=>upd (upd (upd (upd (upd (fun _=>none) 70 (some ⟨g3,33,(s3.map ap),true⟩)) 55 (some ⟨g2,91,(s2.map aS),true⟩)) 34 (some ⟨g1,94,(s1.map ak),true⟩)) 16 (some ⟨g16,4,(q.descending.map aM),true⟩)) 13 (some ⟨g13,9,(q.names.map aF),true⟩)) (⟨none,0⟩) H (fun fl3 Hp3 j3 s3 g3 hz3 hl3 x3 fb3 hx3 H hg3=>?_) (fun s3 g3 H=>?_)
 ·refine ae (aE (ae (aa (aX tk (zn j3) (bg aI hx3) ?_))))
  refine ah tk rfl ?_
  refine aC tk fun b9=>?_
  refine ao tk ?_
  refine ab (cd 9 ?_)
  refine br tk mok ⟨true,false,[67]⟩ [0,1,2,3,4,5,6,7] rfl (by decide +kernel) rfl (bf rfl (aU ?_))
  refine bf rfl ?_
  obtain ⟨x68,h68,H⟩ := av H
  have s68 := lY x3 _ h68
  refine aZ Tryz.call30 (eX.r) s68 ?_
  refine bf rfl ?_
  obtain ⟨x70,h70,H⟩ := av H
  have k70 := bD h70
  refine eo (rows2' := List.map ap ([x68] : List LQuery)) (rows' := List.map ap x70) tk rfl rfl rfl rfl rfl rfl rfl rfl rfl rfl rfl rfl rfl rfl (dF.trans (b := List.map am [x68]) (dF.refl _) (dF.of_eq (bP aI [x68]))) (cf k70.1) (cg k70.2.1) (ce k70.2.2) fun g70=>?_
  refine bf rfl (bh ?_)
  refine bi (aW (bp 2 tk rfl ?_))
  exact bm g70 H hl3 hg3
 refine ae (aa (al tk ?_))
 refine ao tk ?_
 refine ab ?_
 obtain rfl := az H
 refine bC 2 2 rfl rfl rfl rfl rfl (bC 2 4 rfl rfl rfl rfl rfl (bC 2 5 rfl rfl rfl rfl rfl (bC 2 8 rfl rfl rfl rfl rfl ?_)))
 refine rh tk rfl (ps := [(.agg [(ac q.kind),(.str q.table),(.list 9 (q.names.map aF)),(.own 34 g1 (s1.map ak).length),(.list 91 (s2.map aS)),(.list 4 (q.descending.map aM)),(ac q.count),(ac q.offset),(.list 33 (s3.map ap))])]) (by exact ⟨_,_,rfl,⟨_,_,_,_,_,rfl,rfl,rfl,rfl⟩,rfl⟩) (tag := 34) rfl rfl (PLe.of2 (lW.agg (gc.cons (lW.of_eq rfl) (gc.cons (lW.of_eq rfl) (gc.cons (lW.of_eq rfl) (gc.cons (lW.own rfl) (gc.cons (lW.of_eq rfl) (gc.cons (lW.of_eq rfl) (gc.cons (lW.of_eq rfl) (gc.cons (lW.of_eq rfl) (gc.cons (lW.of_eq rfl) gc.nil)))))))))))
def iy (q : LQuery) (qi : LQuery) : Option (LQuery × LQuery) :=
 ag (aJ (σ := List LExpr) (ρ := Empty) (fun (_ : Nat) (x1 : LExpr) (s1 : List LExpr) =>
  ag (dH x1) fun x32 =>
  ag (bY 88 s1 ([x32] : List LExpr)) fun (x34 : List LExpr) =>
  some (.next x34)) 0 q.exprs []) fun fl1=>fl1.thenP fun (s1 : List LExpr) =>
 ag (aJ (σ := List LAggregateCall) (ρ := Empty) (fun (_ : Nat) (x2 : LAggregateCall) (s2 : List LAggregateCall) =>
  ag (ff x2.args) fun x52 =>
  ag (bY 56 s2 ([(LAggregateCall.mk x2.name x2.function x52)] : List LAggregateCall)) fun (x55 : List LAggregateCall) =>
  some (.next x55)) 0 q.aggregates []) fun fl2=>fl2.thenP fun (s2 : List LAggregateCall) =>
 ag (aP ([qi] : List LQuery) 0) fun (x63 : LQuery) =>
 ag (eM x63) fun x68 =>
 some ((LQuery.mk q.kind q.table q.names s1 s2 q.descending q.count q.offset [x68]),x68)
theorem ra {m : Nat} (q : LQuery) (qi : LQuery) (r : LQuery × LQuery) (H : iy q qi = some r) :
  dY Tryz.prog 30 [(.agg [(ac q.kind),(.str q.table),(.list 9 (q.names.map aF)),(.list 94 (q.exprs.map ak)),(.list 91 (q.aggregates.map aS)),(.list 4 (q.descending.map aM)),(ac q.count),(ac q.offset),(.list 33 (([qi] : List LQuery).map ap))])] (OwnG m 33 (List.map ap r.2.inputs) (fun gz=>(.agg [(ac r.1.kind),(.str r.1.table),(.list 9 (r.1.names.map aF)),(.list 94 (r.1.exprs.map ak)),(.list 91 (r.1.aggregates.map aS)),(.list 4 (r.1.descending.map aM)),(ac r.1.count),(ac r.1.offset),(.list 33 [[(ac r.2.kind),(.str r.2.table),(.list 9 (r.2.names.map aF)),(.list 94 (r.2.exprs.map ak)),(.list 91 (r.2.aggregates.map aS)),(.list 4 (r.2.descending.map aM)),(ac r.2.count),(ac r.2.offset),(.val (OwnRef.val gz (r.2.inputs.map ap).length))]])]))) := by
 unfold iy at H
 refine PH.ax Tryz.func30 Tryz.ntmps30 ?_
 refine ae (aa (aG ?_))
 refine aC tk fun b2=>?_
 refine ab (ae (aa (ah tk rfl ?_)))
 refine aC tk fun b3=>?_
 refine ao tk ?_
 refine ab (ae (br tk mok ⟨false,false,[]⟩ [0,1,3,4,2,6,5,7,8,9] rfl (by decide +kernel) rfl (bc 4 rfl ?_)))
 have s13 := oX (m := 13) q.names
 refine iZ (g := 61) rfl rfl rfl rfl Tryz.call61 (eX.r) rfl rfl s13 (fun g13=>?_)
 refine bf rfl ?_
 have s16 := oK (m := 16) q.descending
 refine iZ (g := 62) rfl rfl rfl rfl Tryz.call62 (eX.r) rfl rfl s16 (fun g16=>?_)
 refine bh ?_
 refine bf rfl (bh ?_)
 refine bi (ae (aa (ah tk rfl (ao tk ?_))))
 refine ah tk rfl (ao tk ?_)
 refine ah tk rfl (ao tk ?_)
 refine ab (ae (ae (aa (af 2 tk rfl (aD tk (zl _) ?_)))))
 refine ah tk rfl (ab (gk tk 3 3 34 (e := 94) rfl rfl rfl rfl ?_))
 refine dh (γ := OwnRef) tk 25 24 23 (fun s1 g1=>upd (upd (upd (fun _=>.any) 3 (.box 3 b3 0)) 2 (.box 2 b2 0)) 1 (.ptr [(ac q.kind),(.str q.table),(.list 9 (q.names.map aF)),(.list 94 (q.exprs.map ak)),(.list 91 (q.aggregates.map aS)),(.list 4 (q.descending.map aM)),(ac q.count),(ac q.offset),(.list 33 (([qi] : List LQuery).map ap))])) (fun s1 g1=>upd (upd (fun _=>none) 3 (some ⟨b3,[(ac q.kind),(.str q.table),(.own 13 g13 (q.names.map aF).length),(.own 34 g1 (s1.map ak).length),(.val (.slice none 0 0)),(.own 16 g16 (q.descending.map aM).length),(ac q.count),(ac q.offset),(.val (.slice none 0 0))]⟩)) 2 (some ⟨b2,[(ac 0),(.str []),(.val (.slice none 0 0)),(.val (.slice none 0 0)),(.val (.slice none 0 0)),(.val (.slice none 0 0)),(ac 0),(ac 0),(.val (.slice none 0 0))]⟩)) (fun s1 g1=>upd (upd (upd (fun _=>none) 34 (some ⟨g1,94,(s1.map ak),true⟩)) 16 (some ⟨g16,4,(q.descending.map aM),true⟩)) 13 (some ⟨g13,9,(q.names.map aF),true⟩)) (⟨none,0⟩) H (fun fl1 Hp1 j1 s1 g1 hz1 hl1 x1 fb1 hx1 H hg1=>?_) (fun s1 g1 H=>?_)
 ·refine ae (aE (ae (aa (aX tk (zn j1) (bg aR hx1) ?_))))
  refine ah tk rfl ?_
  refine aC tk fun b5=>?_
  refine ao tk ?_
  refine ab (cd 5 ?_)
  refine br tk mok ⟨true,false,[31]⟩ [0,1,2,3,4,5,6,7] rfl (by decide +kernel) rfl (bf rfl (aU ?_))
  refine bf rfl ?_
  obtain ⟨x32,h32,H⟩ := av H
  have s32 := gv x1 _ h32
  refine aZ Tryz.call63 (eX.r) s32 ?_
  refine bf rfl ?_
  obtain ⟨x34,h34,H⟩ := av H
  have k34 := bD h34
  refine eo (rows2' := List.map ak ([x32] : List LExpr)) (rows' := List.map ak x34) tk rfl rfl rfl rfl rfl rfl rfl rfl rfl rfl rfl rfl rfl rfl (dF.trans (b := List.map bl [x32]) (dF.refl _) (dF.of_eq (bP aR [x32]))) (cf k34.1) (cg k34.2.1) (ce k34.2.2) fun g34=>?_
  refine bf rfl (bh ?_)
  refine bi (aW (bp 2 tk rfl ?_))
  exact bm g34 H hl1 hg1
 refine ae (ae (aa (af 2 tk rfl (aD tk (zl _) ?_))))
 refine ah tk rfl (ab (gk tk 3 4 55 (e := 91) rfl rfl rfl rfl ?_))
 refine dh (γ := OwnRef) tk 40 39 38 (fun s2 g2=>upd (upd (upd (fun _=>.any) 3 (.box 3 b3 0)) 2 (.box 2 b2 0)) 1 (.ptr [(ac q.kind),(.str q.table),(.list 9 (q.names.map aF)),(.list 94 (q.exprs.map ak)),(.list 91 (q.aggregates.map aS)),(.list 4 (q.descending.map aM)),(ac q.count),(ac q.offset),(.list 33 (([qi] : List LQuery).map ap))])) (fun s2 g2=>upd (upd (fun _=>none) 3 (some ⟨b3,[(ac q.kind),(.str q.table),(.own 13 g13 (q.names.map aF).length),(.own 34 g1 (s1.map ak).length),(.own 55 g2 (s2.map aS).length),(.own 16 g16 (q.descending.map aM).length),(ac q.count),(ac q.offset),(.val (.slice none 0 0))]⟩)) 2 (some ⟨b2,[(ac 0),(.str []),(.val (.slice none 0 0)),(.val (.slice none 0 0)),(.val (.slice none 0 0)),(.val (.slice none 0 0)),(ac 0),(ac 0),(.val (.slice none 0 0))]⟩)) (fun s2 g2=>upd (upd (upd (upd (fun _=>none) 55 (some ⟨g2,91,(s2.map aS),true⟩)) 34 (some ⟨g1,94,(s1.map ak),true⟩)) 16 (some ⟨g16,4,(q.descending.map aM),true⟩)) 13 (some ⟨g13,9,(q.names.map aF),true⟩)) (⟨none,0⟩) H (fun fl2 Hp2 j2 s2 g2 hz2 hl2 x2 fb2 hx2 H hg2=>?_) (fun s2 g2 H=>?_)
 ·refine ae (aE (ae (aa ?_)))
  refine aX tk (zn j2) (bg (fun _=>rfl) hx2) ?_
  refine ah tk rfl ?_
  refine aC tk fun b7=>?_
  refine ao tk ?_
  refine ab (cd 7 ?_)
  refine br tk mok ⟨true,false,[47,49,51]⟩ [0,1,2,3,4,5,6,7,8,9,10,11,12,13] rfl (by decide +kernel) rfl (bf rfl (aU ?_))
  refine bc 6 rfl ?_
  obtain ⟨x52,h52,H⟩ := av H
  have s52 := kf x2.args _ h52
  refine aZ Tryz.call64 (eX.r) s52 ?_
  refine bc 2 rfl ?_
  obtain ⟨x55,h55,H⟩ := av H
  have k55 := bD h55
  refine eo (rows2' := List.map aS ([(LAggregateCall.mk x2.name x2.function x52)] : List LAggregateCall)) (rows' := List.map aS x55) tk rfl rfl rfl rfl rfl rfl rfl rfl rfl rfl rfl rfl rfl rfl (dF.refl _) (cf k55.1) (cg k55.2.1) (ce k55.2.2) fun g55=>?_
  refine bf rfl (bh ?_)
  refine bi (aW (bp 2 tk rfl ?_))
  exact bm g55 H hl2 hg2
 refine ae (ae (aa (af 2 tk rfl (aD tk (zl _) ?_))))
 refine ah tk rfl (ab (aE (V.twice (aw 1 tk rfl (ae (cK rfl (ay (ae (aE (ae (aa ?_)))))))))))
 obtain ⟨x63,k63,H⟩ := bB H
 refine aX tk k63.1 (aV aI k63.2) ?_
 refine ah tk rfl ?_
 refine aC tk fun b9=>?_
 refine ao tk ?_
 refine ab (cd 9 ?_)
 refine br tk mok ⟨true,false,[67]⟩ [0,1,2,3,4,5,6,7] rfl (by decide +kernel) rfl (bf rfl (aU ?_))
 refine bf rfl ?_
 obtain ⟨x68,h68,H⟩ := av H
 have s68 := jt (m := 68) x63 _ h68
 refine rI (g := 30) rfl rfl rfl rfl Tryz.call30 (eX.r) rfl rfl (OwnG.le (f' := fun gz=>(.agg [(ac x68.kind),(.str x68.table),(.list 9 (x68.names.map aF)),(.list 94 (x68.exprs.map ak)),(.list 91 (x68.aggregates.map aS)),(.list 4 (x68.descending.map aM)),(ac x68.count),(ac x68.offset),(.val (OwnRef.val gz (x68.inputs.map ap).length))])) s68 (fun _=>PLe.agg (eX.cons (PLe.refl _ _) <| eX.cons (PLe.refl _ _) <| eX.cons (PLe.refl _ _) <| eX.cons (PLe.refl _ _) <| eX.cons (PLe.refl _ _) <| eX.cons (PLe.refl _ _) <| eX.cons (PLe.refl _ _) <| eX.cons (PLe.refl _ _) <| eX.cons (PLe.ownVal _ _ _ _) <| eX.nil _))) (fun g68=>?_)
 refine bf rfl ?_
 refine ru (rows2' := [[(ac x68.kind),(.str x68.table),(.list 9 (x68.names.map aF)),(.list 94 (x68.exprs.map ak)),(.list 91 (x68.aggregates.map aS)),(.list 4 (x68.descending.map aM)),(ac x68.count),(ac x68.offset),(.val (OwnRef.val g68 (x68.inputs.map ap).length))]]) tk rfl rfl rfl rfl rfl rfl rfl rfl rfl rfl rfl rfl (dF.refl _) fun g70=>?_
 refine bf rfl (bh ?_)
 refine bi (aW (bp 2 tk rfl (qZ (aw 1 tk rfl (ae ?_)))))
 refine bT (by show au (decide ((IntKind.i64.wrap ((0 : Int) + (1 : Int))) < (([qi] : List LQuery).length : Int))) = _; rw [gg (by omega) (by omega)]; rfl) ?_
 refine dt rfl (ae (aa (al tk ?_)))
 refine ao tk ?_
 refine ab ?_
 obtain rfl := az H
 refine bC 2 2 rfl rfl rfl rfl rfl (bC 2 3 rfl rfl rfl rfl rfl (bC 2 4 rfl rfl rfl rfl rfl (bC 2 5 rfl rfl rfl rfl rfl (bC 2 8 rfl rfl rfl rfl rfl ?_))))
 refine rh tk rfl (ps := [(.agg [(ac q.kind),(.str q.table),(.list 9 (q.names.map aF)),(.list 94 (s1.map ak)),(.list 91 (s2.map aS)),(.list 4 (q.descending.map aM)),(ac q.count),(ac q.offset),(.list 33 [[(ac x68.kind),(.str x68.table),(.list 9 (x68.names.map aF)),(.list 94 (x68.exprs.map ak)),(.list 91 (x68.aggregates.map aS)),(.list 4 (x68.descending.map aM)),(ac x68.count),(ac x68.offset),(.val (OwnRef.val g68 (x68.inputs.map ap).length))]])])]) (by exact ⟨_,_,rfl,⟨_,_,_,_,_,rfl,rfl,rfl,rfl⟩,rfl⟩) (tag := 68) rfl rfl (PLe.of2 (lW.agg (gc.cons (lW.of_eq rfl) (gc.cons (lW.of_eq rfl) (gc.cons (lW.of_eq rfl) (gc.cons (lW.of_eq rfl) (gc.cons (lW.of_eq rfl) (gc.cons (lW.of_eq rfl) (gc.cons (lW.of_eq rfl) (gc.cons (lW.of_eq rfl) (gc.cons (lW.of_eq rfl) gc.nil)))))))))))
def iL (e : LExpr) : Option ((List (List UInt8))) :=
 ag (fc e 2 ([] : List (List UInt8))) fun x4 =>
 some x4
theorem W_expr_Columns (e : LExpr) (r : (List (List UInt8))) (H : iL e = some r) :
  aT Tryz.prog 101 [(.agg (bl e))] (.list 9 (r.map aF)) := by
 unfold iL at H
 refine PH.ax Tryz.func101 Tryz.ntmps101 ?_
 refine ae (aa (aG ?_))
 refine ah tk rfl (ab (ae (aa (ah tk rfl (gn (Gh.nilB tk 2904 (e := 9) rfl) ?_)))))
 obtain ⟨x4,h4,H⟩ := av H
 have s4 := W_expr_names (⟨none,0⟩) e 2 ([] : List (List UInt8)) _ h4
 refine hJ (g := 144) rfl rfl rfl Tryz.call144 [] [(2904,2)] rfl rfl rfl rfl (eX.cons (PLe.refl _ _) <| eX.cons (PLe.refl _ _) <| eX.cons (PLe.nilOwn _ _) <| eX.r) (by rw [gA,fG,gC]; rfl) s4 ?_
 rintro u4 H4h ⟨gw4,rfl,rfl⟩
 refine ⟨_,rfl,?_⟩
 refine gn (st' := ⟨_,_,fun _=>none,upd (fun _=>none) 2904 (some ⟨gw4,9,(x4.map aF),true⟩)⟩) (Gh.le (fD _ _) bu (cW bt)) ?_
 refine oa 4 (q := (.own 2904 gw4 (x4.map aF).length)) rfl (PLe.of2 (lW.own rfl)) (ah tk rfl (ab (eh 2 rfl rfl rfl ?_)))
 exact bq tk H rfl
def dp (q : LQuery) : Option (LQuery × Bool) :=
 ag (mW (q.inputs.length : Int)) fun (n1 : Nat) =>
 ag (aJ (σ := List LExpr × List LQuery) (ρ := Empty) (fun (j1 : Nat) (_ : Nat) (s1 : List LExpr × List LQuery) =>
  ag (aP s1.2 (j1 : Int)) fun (x14 : LQuery) =>
  cond (x14.kind == (2 : Int))
   (ag (aP x14.exprs 0) fun (x22 : LExpr) =>
   ag (bY 88 s1.1 ([x22] : List LExpr)) fun (x25 : List LExpr) =>
   ag (aP x14.inputs 0) fun (x31 : LQuery) =>
   ag (aP s1.2 (j1 : Int)) fun (_ : LQuery) =>
   bj (s1.2.set ((j1 : Int).toNat) x31) fun (y4 : List LQuery) =>
   some (.next (x25,y4)))
   (some (.next (s1.1,s1.2)))) 0 (List.range n1) ([],q.inputs)) fun fl1=>fl1.thenP fun (s1 : List LExpr × List LQuery) =>
 ag (aP q.exprs 0) fun (x38 : LExpr) =>
 ag (bY 88 s1.1 ([x38] : List LExpr)) fun (x41 : List LExpr) =>
 ag (cG x41) fun x42 =>
 some ((LQuery.mk q.kind q.table q.names [x42] q.aggregates q.descending q.count q.offset s1.2),(decide ((s1.1.length : Int) > (0 : Int))))
theorem kK (g_q : OwnRef) (q : LQuery) (r : LQuery × Bool) (H : dp q = some r) :
  PH Tryz.prog 32 [(.agg [(ac q.kind),(.str q.table),(.list 9 (q.names.map aF)),(.list 94 (q.exprs.map ak)),(.list 91 (q.aggregates.map aS)),(.list 4 (q.descending.map aM)),(ac q.count),(ac q.offset),(.own 3000 g_q (q.inputs.map ap).length)])] ⟨fun _=>none,upd (fun _=>none) 3000 (some ⟨g_q,33,(List.map ap q.inputs),true⟩)⟩ (fun u H=>u = (.tup [(.agg (am r.1)),(au r.2)]) ∧ H = Heap.empty) := by
 unfold dp at H
 refine PH.ax Tryz.func32 Tryz.ntmps32 ?_
 refine ae (aa ?_)
 refine iR (d := 1) fun b1=>?_
 refine aC tk fun b2=>?_
 refine ah tk rfl (ab (ae (aa ?_)))
 refine jD (rows' := List.map ak ([] : List LExpr)) tk (congrArg (List.map List.length) (bP aR ([] : List LExpr))).symm (gc.trans (b := (List.map bl ([] : List LExpr)).flatten) (gc.refl _) (gc.of_eq (congrArg List.flatten (bP aR ([] : List LExpr))))) fun g7=>?_
 refine ah tk rfl (ab (ae (ae (aa (ah tk rfl (al tk ?_))))))
 refine iE tk (zl _) ?_
 refine ah tk rfl (ab ?_)
 obtain ⟨n1,hs1,H⟩ := av H
 have hz1 := nX hs1
 obtain ⟨fl1,H1,Hp1⟩ := av H
 refine kV (τ := List LExpr × List LQuery) (γ := OwnRef × OwnRef) (fun s1 g1=>⟨49,upd (upd (upd (fun _=>.any) 4 (.own 7 g1.1 (s1.1.map ak).length)) 2 (.box 2 b2 0)) 1 (.box 1 b1 0),upd (upd (fun _=>none) 2 (some ⟨b2,[(ac 0),(.str []),(.val (.slice none 0 0)),(.val (.slice none 0 0)),(.val (.slice none 0 0)),(.val (.slice none 0 0)),(ac 0),(ac 0),(.val (.slice none 0 0))]⟩)) 1 (some ⟨b1,[(ac q.kind),(.str q.table),(.list 9 (q.names.map aF)),(.list 94 (q.exprs.map ak)),(.list 91 (q.aggregates.map aS)),(.list 4 (q.descending.map aM)),(ac q.count),(ac q.offset),(.own 3000 g1.2 (s1.2.map ap).length)]⟩),upd (upd (fun _=>none) 3000 (some ⟨g1.2,33,(s1.2.map ap),true⟩)) 7 (some ⟨g1.1,94,(s1.1.map ak),true⟩)⟩) (fun t=>fl1 = .next t) ?_ (fun s1 g1 hn1=>?_)
 ·refine aE ?_
  refine lD (fun j1 s1 g1=>⟨49,upd (upd (upd (upd (upd (upd (fun _=>.any) 11 (ac (j1 : Int))) 10 (ac (q.inputs.length : Int))) 9 (.own 3000 g1.2 (s1.2.map ap).length)) 4 (.own 7 g1.1 (s1.1.map ak).length)) 2 (.box 2 b2 0)) 1 (.box 1 b1 0),upd (upd (fun _=>none) 2 (some ⟨b2,[(ac 0),(.str []),(.val (.slice none 0 0)),(.val (.slice none 0 0)),(.val (.slice none 0 0)),(.val (.slice none 0 0)),(ac 0),(ac 0),(.val (.slice none 0 0))]⟩)) 1 (some ⟨b1,[(ac q.kind),(.str q.table),(.list 9 (q.names.map aF)),(.list 94 (q.exprs.map ak)),(.list 91 (q.aggregates.map aS)),(.list 4 (q.descending.map aM)),(ac q.count),(ac q.offset),(.own 3000 g1.2 (s1.2.map ap).length)]⟩),upd (upd (fun _=>none) 3000 (some ⟨g1.2,33,(s1.2.map ap),true⟩)) 7 (some ⟨g1.1,94,(s1.1.map ak),true⟩)⟩) (g7,g_q) H1 Gh.d (fun j1 s1 g1 hj1 hr1=>?_)
  refine aw 1 tk rfl (ae ?_)
  refine cF rfl (fun h=>?_) (fun h=>?_)
  ·have hl1 := natLt hz1 h
   obtain ⟨x1,fb1,hx1,H,hg1⟩ := rMc hl1 hr1
   obtain rfl := natX hx1
   refine ay (ae (aE (ae (aa (ah tk rfl ?_)))))
   obtain ⟨x14,k14,H⟩ := bB H
   refine li (tag := 3000) rfl (fun ho3000=>?_)
   refine lj tk rfl rfl rfl rfl rfl rfl rfl ⟨k14.1,(dW k14.2)⟩ (dX ho3000 k14.2) rfl (oT tk rfl rfl rfl rfl rfl rfl rfl (aV aI k14.2) rfl rfl ?_)
   refine aC tk fun b6=>?_
   refine ah tk rfl (ao tk ?_)
   refine ab (ae (aa (ah tk rfl (al tk ?_))))
   refine ah tk rfl (ab ?_)
   refine aQ rfl H (fun H=>?_) (fun H=>?_)
   ·refine ae (aa (af 2 tk rfl (al tk ?_)))
    obtain ⟨x22,k22,H⟩ := bB H
    refine aX tk k22.1 (aV aR k22.2) ?_
    refine ah tk rfl (co tk (rows' := List.map ak ([x22] : List LExpr)) (dF.trans (b := List.map bl [x22]) (dF.refl _) (dF.of_eq (bP aR [x22]))) ?_)
    obtain ⟨x25,h25,H⟩ := av H
    have k25 := bD h25
    refine bS (rows2' := List.map ak ([x22] : List LExpr)) (rows' := List.map ak x25) tk rfl rfl rfl rfl rfl rfl rfl rfl rfl rfl rfl rfl rfl (dF.refl _) (cf k25.1) (cg k25.2.1) (ce k25.2.2) fun g25=>?_
    refine ah tk rfl (ab ?_)
    refine gu (tag := 3000) rfl (fun ho3000=>?_)
    refine gu (tag := 7) rfl (fun ho7=>?_)
    refine cd 6 ?_
    refine br tk mok ⟨true,true,[30]⟩ [0,1,2,3,4,5,6,7,8] rfl (by decide +kernel) rfl (bf rfl (aU ?_))
    refine bc 3 rfl ?_
    obtain ⟨x31,k31,H⟩ := bB H
    refine bF k31.1 (aV aI k31.2) ?_
    refine bf rfl ?_
    obtain ⟨x33,k33,H⟩ := bB H
    refine ej tk ⟨k33.1,(dW k33.2)⟩ (dX ho3000 k33.2) ?_
    obtain ⟨y4,hy4,H⟩ := cZ H
    refine gT tk rfl rfl rfl rfl rfl rfl rfl rfl rfl (by rw [zl]; exact (zg.1 k33.2).1) (PLe.refl _ _) rfl rfl rfl rfl (by decide) (fe aI k33.2 rfl hy4) ?_
    refine bi (aW (bp 2 tk rfl ?_))
    exact bm (g25,g1.2) H hl1 hg1 (Gh.le (aL (aL (aL (cj (PLe.of2 (lW.of_eq (congrArg (PV.own 3000 g1.2) (gG (f := ap) hy4)))) (aL (cj (PLe.q (ma hz1 hl1)) bQ)))))) (aN rfl (eX.of2 (gc.cons (lW.of_eq rfl) (gc.cons (lW.of_eq rfl) (gc.cons (lW.of_eq rfl) (gc.cons (lW.of_eq rfl) (gc.cons (lW.of_eq rfl) (gc.cons (lW.of_eq rfl) (gc.cons (lW.of_eq rfl) (gc.cons (lW.of_eq rfl) (gc.cons (lW.of_eq (congrArg (PV.own 3000 g1.2) (gG (f := ap) hy4))) gc.nil)))))))))) (aN rfl (eX.r) bu)) (cW (cW bt)))
   refine ay (aW (bp 2 tk rfl ?_))
   exact bm (g1.1,g1.2) H hl1 hg1 (Gh.le (aL (aL (aL (aL (aL (cj (PLe.q (ma hz1 hl1)) bQ)))))) (aN rfl (eX.r) (aN rfl (eX.r) bu)) (cW (cW bt)))
  have hn1 := rMd (natGe hz1 h) hr1
  refine dt rfl ?_
  refine aH s1 g1 hn1 Gh.d
 have H := kH hn1 Hp1
 refine ae (aa (af 2 tk rfl (al tk ?_)))
 obtain ⟨x38,k38,H⟩ := bB H
 refine aX tk k38.1 (aV aR k38.2) ?_
 refine ah tk rfl (co tk (rows' := List.map ak ([x38] : List LExpr)) (dF.trans (b := List.map bl [x38]) (dF.refl _) (dF.of_eq (bP aR [x38]))) ?_)
 obtain ⟨x41,h41,H⟩ := av H
 have k41 := bD h41
 refine bS (rows2' := List.map ak ([x38] : List LExpr)) (rows' := List.map ak x41) tk rfl rfl rfl rfl rfl rfl rfl rfl rfl rfl rfl rfl rfl (dF.refl _) (cf k41.1) (cg k41.2.1) (ce k41.2.2) fun g41=>?_
 refine gn (Gh.freezeO 41 rfl rfl rfl) ?_
 obtain ⟨x42,h42,H⟩ := av H
 have s42 := fp x41 _ h42
 refine aq Tryz.call66 (eX.r) s42 ?_
 refine jD (rows' := List.map ak ([x42] : List LExpr)) tk (congrArg (List.map List.length) (bP aR ([x42] : List LExpr))).symm (gc.trans (b := (List.map bl ([x42] : List LExpr)).flatten) (gc.refl _) (gc.of_eq (congrArg List.flatten (bP aR ([x42] : List LExpr))))) fun g43=>?_
 refine ah tk rfl (ao tk ?_)
 refine ab (ae (aa (al tk ?_)))
 refine ah tk rfl (iE tk (zl _) ?_)
 refine ah tk rfl (ao tk ?_)
 refine ah tk rfl (ab ?_)
 obtain rfl := az H
 refine bC 2 3 rfl rfl rfl rfl rfl (bC 2 8 rfl rfl rfl rfl rfl ?_)
 refine ba tk rfl (ps := [(.agg [(ac q.kind),(.str q.table),(.list 9 (q.names.map aF)),(.list 94 (([x42] : List LExpr).map ak)),(.list 91 (q.aggregates.map aS)),(.list 4 (q.descending.map aM)),(ac q.count),(ac q.offset),(.list 33 (s1.2.map ap))]),(au (decide ((s1.1.length : Int) > (0 : Int))))]) ⟨_,_,rfl,⟨_,_,_,_,_,rfl,rfl,rfl,rfl⟩,_,_,rfl,rfl,rfl⟩ (PLe.q rfl)
def dO (sA : LSchema) (c : LConstraint) : Option (Int) :=
 ag (eu sA c.table) fun x14 =>
 cond (!x14.2)
  (some 4)
  (ag (aP sA.tables x14.1) fun (x22 : LTable) =>
  bj (fR (LVal.mk 0 0 []) c.op (LVal.mk 0 0 [])) fun x30 =>
  bj (
   cond (decide (c.left < (0 : Int)))
    (true)
    (cond (decide (c.left ≥ (x22.columns.length : Int)))
     (true)
     (cond (x30.2 != (0 : Int))
      (true)
      (cond (decide (c.right < (-1)))
       (true)
       (cond (decide (c.right ≥ (x22.columns.length : Int)))
        (true)
        (cond (decide (c.right ≥ (0 : Int)))
         ((!(c.value.kind == (0 : Int) && (c.value.int == (0 : Int) && (c.value.text == ([] : List UInt8) && true)))))
         (false))))))) fun (t1 : Bool) =>
  cond t1
   (some 3)
   (cond (decide (c.right ≥ (0 : Int)))
    (ag (aP x22.columns c.left) fun (x76 : LCol) =>
    ag (aP x22.columns c.right) fun (x82 : LCol) =>
    cond (x76.kind != x82.kind)
     (some 7)
     (some 0))
    (ag (aP x22.columns c.left) fun (x92 : LCol) =>
    cond (c.value.kind != x92.kind)
     (some 7)
     (bj (iV c.value) fun x98 =>
     some x98))))
theorem lS (sA : LSchema) (c : LConstraint) (r : Int) (H : dO sA c = some r) :
  aT Tryz.prog 58 [(.agg (aB sA)),(.agg (jv c))] (ac r) := by
 unfold dO at H
 refine PH.ax Tryz.func58 Tryz.ntmps58 ?_
 refine ae (aa (aG ?_))
 refine aG ?_
 refine ah tk rfl (ab (ae (aa (af 3 tk rfl ?_))))
 obtain ⟨x14,h14,H⟩ := av H
 have s14 := jC sA c.table _ h14
 refine aq Tryz.call88 (eX.r) s14 ?_
 refine af 5 tk rfl (ab (ae (aw 2 tk rfl ?_)))
 refine aQ rfl H (fun H=>?_) (fun H=>?_)
 ·refine aw 1 tk rfl ?_
  exact bq tk H rfl
 refine ay (ae (aa (af 3 tk rfl ?_)))
 obtain ⟨x22,k22,H⟩ := bB H
 refine aX tk k22.1 (aV (fun _=>rfl) k22.2) ?_
 refine af 3 tk rfl (ab (ae (aa (af 4 tk rfl ?_))))
 obtain ⟨x30,h30,H⟩ := cZ H
 have s30 := qD (LVal.mk 0 0 []) c.op (LVal.mk 0 0 [])
 rw [h30] at s30
 refine aq Tryz.call91 (eX.r) s30 ?_
 refine af 5 tk rfl (ab (ae (ae ?_)))
 refine ck (γ := Unit) (fun t1 g1=>⟨99,upd (upd (upd (fun _=>.any) 69 (au t1)) 7 (.list 52 (x22.columns.map bd))) 3 (.ptr (jv c)),fun _=>none,fun _=>none⟩) H (fun _ H=>?_) (fun t1 g1 H=>?_)
 ·refine aa (af 4 tk rfl ?_)
  refine aO rfl rfl rfl H (fun H=>?_) (fun H=>?_)
  ·refine af 33 tk rfl (ab ?_)
   refine aH _ () H Gh.d
  refine af 3 tk rfl (aD tk (zl _) ?_)
  refine af 3 tk rfl ?_
  refine aO rfl rfl rfl H (fun H=>?_) (fun H=>?_)
  ·refine af 26 tk rfl (ab ?_)
   refine aH _ () H Gh.d
  refine af 4 tk rfl ?_
  refine aO rfl rfl rfl H (fun H=>?_) (fun H=>?_)
  ·refine af 22 tk rfl (ab ?_)
   refine aH _ () H Gh.d
  refine af 5 tk rfl ?_
  refine aO rfl rfl rfl H (fun H=>?_) (fun H=>?_)
  ·refine af 17 tk rfl (ab ?_)
   refine aH _ () H Gh.d
  refine af 3 tk rfl (aD tk (zl _) ?_)
  refine af 3 tk rfl ?_
  refine aO rfl rfl rfl H (fun H=>?_) (fun H=>?_)
  ·refine af 10 tk rfl (ab ?_)
   refine aH _ () H Gh.d
  refine af 4 tk rfl ?_
  refine aO rfl rfl rfl H (fun H=>?_) (fun H=>?_)
  ·refine af 6 tk rfl (ab ?_)
   refine aH _ () H Gh.d
  refine af 6 tk rfl (ab ?_)
  refine aH _ () H Gh.d
 refine aQ rfl H (fun H=>?_) (fun H=>?_)
 ·refine aw 1 tk rfl ?_
  exact bq tk H rfl
 refine ay (ae (aw 3 tk rfl ?_))
 refine aQ rfl H (fun H=>?_) (fun H=>?_)
 ·refine ae (ae (br tk mok ⟨false,false,[]⟩ [0,1,2,3,4,5,6,7,8,9,10,11,12] rfl (by decide +kernel) rfl (bc 3 rfl ?_)))
  obtain ⟨x76,k76,H⟩ := bB H
  refine bF k76.1 (aV (fun _=>rfl) k76.2) ?_
  refine bc 5 rfl ?_
  obtain ⟨x82,k82,H⟩ := bB H
  refine bF k82.1 (aV (fun _=>rfl) k82.2) ?_
  refine bc 3 rfl (bi ?_)
  refine aQ rfl H (fun H=>?_) (fun H=>?_)
  ·refine aw 1 tk rfl ?_
   exact bq tk H rfl
  refine ay (aw 1 tk rfl ?_)
  exact bq tk H rfl
 refine ay (ae (ae (br tk mok ⟨false,false,[]⟩ [0,1,2,3,4,5,6,7,8,9] rfl (by decide +kernel) rfl (bc 6 rfl ?_))))
 obtain ⟨x92,k92,H⟩ := bB H
 refine bF k92.1 (aV (fun _=>rfl) k92.2) ?_
 refine bc 3 rfl (bi ?_)
 refine aQ rfl H (fun H=>?_) (fun H=>?_)
 ·refine aw 1 tk rfl ?_
  exact bq tk H rfl
 refine ay (ae (aa (af 2 tk rfl ?_)))
 obtain ⟨x98,h98,H⟩ := cZ H
 have s98 := qR c.value
 rw [h98] at s98
 refine aq Tryz.call92 (eX.r) s98 ?_
 refine ah tk rfl (ab ?_)
 exact bq tk H rfl
def dG (c : LChecker) (q : LQuery) (inA : List LCol) : Option ((List LCol) × Int) :=
 ag (aJ (σ := List LCol) (ρ := ((List LCol) × Int)) (fun (j1 : Nat) (x1 : LExpr) (s1 : List LCol) =>
  bj (eK inA c.vars x1) fun x31 =>
  ag (aP q.names (j1 : Int)) fun (x39 : List UInt8) =>
  bj (de x39) fun x41 =>
  cond (!x41)
   (some (.ret ([],3)))
   (cond (x31.2.2 != (0 : Int))
    (some (.ret ([],x31.2.2)))
    (cond (x31.1 == (0 : Int))
     (some (.ret ([],7)))
     (ag (aP q.names (j1 : Int)) fun (x54 : List UInt8) =>
     ag (bY 32 s1 ([(LCol.mk x54 x31.1 x31.2.1)] : List LCol)) fun (x60 : List LCol) =>
     some (.next x60))))) 0 q.exprs []) fun fl1=>fl1.thenR fun (s1 : List LCol) =>
 ag (aJ (σ := List LCol) (ρ := ((List LCol) × Int)) (fun (_ : Nat) (x2 : LAggregateCall) (s2 : List LCol) =>
  ag (eS c inA x2) fun x73 =>
  cond (x73.2 != (0 : Int))
   (some (.ret ([],x73.2)))
   (ag (bY 32 s2 ([(LCol.mk x2.name x73.1 (!(x2.function == ([99,111,117,110,116] : List UInt8))))] : List LCol)) fun (x88 : List LCol) =>
   some (.next x88))) 0 q.aggregates s1) fun fl2=>fl2.thenR fun (s2 : List LCol) =>
 some (s2,0)
theorem lp (c : LChecker) (q : LQuery) (inA : List LCol) (r : (List LCol) × Int) (H : dG c q inA = some r) :
  aT Tryz.prog 176 [(.agg (dv c)),(.agg (am q)),(.list 52 (inA.map bd))] (.tup [(.list 52 (r.1.map bd)),(ac r.2)]) := by
 unfold dG at H
 refine PH.ax Tryz.func176 Tryz.ntmps176 ?_
 refine ae (aa (aG ?_))
 refine aG ?_
 refine af 2 tk rfl (ab (aw 1 tk rfl (ae (ae (aa (af 2 tk rfl (aD tk (zl _) ?_)))))))
 refine ah tk rfl (ab (iu tk 8 60 (e := 52) rfl rfl ?_))
 refine fw (γ := OwnRef) tk 21 20 19 (fun s1 g1=>upd (upd (upd (upd (fun _=>.any) 8 (.own 60 g1 (s1.map bd).length)) 4 (.ptr (am q))) 3 (.ptr (dv c))) 2 (.list 52 (inA.map bd))) nB (fun s1 g1=>upd (fun _=>none) 60 (some ⟨g1,52,(s1.map bd),true⟩)) (⟨none,0⟩) H (fun fl1 Hp1 j1 s1 g1 hz1 hl1 x1 fb1 hx1 H hg1=>?_) (fun s1 g1 H=>?_)
 ·refine ae (aE (ae (aa (ah tk rfl (aX tk (zn j1) (bg aR hx1) ?_)))))
  refine ah tk rfl ?_
  refine aC tk fun b10=>?_
  refine ah tk rfl (ao tk ?_)
  refine ab (ae (aa (af 3 tk rfl (al tk ?_))))
  obtain ⟨x31,h31,H⟩ := cZ H
  have s31 := lG inA c.vars x1
  rw [h31] at s31
  refine aq Tryz.call177 (eX.r) s31 ?_
  refine af 7 tk rfl (ab (ae (aE (ae (aa (af 3 tk rfl ?_))))))
  obtain ⟨x39,k39,H⟩ := bB H
  refine aX tk k39.1 (aV (fun _=>rfl) k39.2) ?_
  refine ah tk rfl ?_
  obtain ⟨x41,h41,H⟩ := cZ H
  have s41 := kY x39
  rw [h41] at s41
  refine aq Tryz.call196 (eX.r) s41 ?_
  refine af 2 tk rfl (ab ?_)
  refine aQ rfl H (fun H=>?_) (fun H=>?_)
  ·refine aw 2 tk rfl ?_
   obtain rfl := az H
   have e1 : fl1 = .ret _ := hg1
   subst e1
   obtain rfl := bs Hp1
   refine ba tk rfl (ps := [(.val (.slice none 0 0)),(ac 3)]) ⟨_,_,rfl,rfl,_,_,rfl,rfl,rfl⟩ (PLe.of2 (lW.tup (gc.cons (lW.nil tk rfl) (gc.cons (lW.of_eq rfl) gc.nil))))
  refine aw 3 tk rfl ?_
  refine aQ rfl H (fun H=>?_) (fun H=>?_)
  ·refine aw 3 tk rfl ?_
   obtain rfl := az H
   have e1 : fl1 = .ret _ := hg1
   subst e1
   obtain rfl := bs Hp1
   refine ba tk rfl (ps := [(.val (.slice none 0 0)),(ac x31.2.2)]) ⟨_,_,rfl,rfl,_,_,rfl,rfl,rfl⟩ (PLe.of2 (lW.tup (gc.cons (lW.nil tk rfl) (gc.cons (lW.of_eq rfl) gc.nil))))
  refine aw 3 tk rfl ?_
  refine aQ rfl H (fun H=>?_) (fun H=>?_)
  ·refine aw 2 tk rfl ?_
   obtain rfl := az H
   have e1 : fl1 = .ret _ := hg1
   subst e1
   obtain rfl := bs Hp1
   refine ba tk rfl (ps := [(.val (.slice none 0 0)),(ac 7)]) ⟨_,_,rfl,rfl,_,_,rfl,rfl,rfl⟩ (PLe.of2 (lW.tup (gc.cons (lW.nil tk rfl) (gc.cons (lW.of_eq rfl) gc.nil))))
  refine ay (aW (aa (af 4 tk rfl ?_)))
  obtain ⟨x54,k54,H⟩ := bB H
  refine aX tk k54.1 (aV (fun _=>rfl) k54.2) ?_
  refine af 4 tk rfl (co tk (rows' := List.map bd ([(LCol.mk x54 x31.1 x31.2.1)] : List LCol)) (dF.refl _) ?_)
  obtain ⟨x60,h60,H⟩ := av H
  have k60 := bD h60
  refine bS (rows2' := List.map bd ([(LCol.mk x54 x31.1 x31.2.1)] : List LCol)) (rows' := List.map bd x60) tk rfl rfl rfl rfl rfl rfl rfl rfl rfl rfl rfl rfl rfl (dF.refl _) (cf k60.1) (cg k60.2.1) (ce k60.2.2) fun g60=>?_
  refine ah tk rfl (ab (aW (bp 2 tk rfl ?_)))
  exact bm g60 H hl1 hg1
 refine ae (ae (aa (af 2 tk rfl (aD tk (zl _) ?_))))
 refine ah tk rfl (ab ?_)
 refine fw (γ := OwnRef) tk 65 64 63 (fun s2 g2=>upd (upd (upd (fun _=>.any) 8 (.own 60 g2 (s2.map bd).length)) 3 (.ptr (dv c))) 2 (.list 52 (inA.map bd))) nB (fun s2 g2=>upd (fun _=>none) 60 (some ⟨g2,52,(s2.map bd),true⟩)) g1 H (fun fl2 Hp2 j2 s2 g2 hz2 hl2 x2 fb2 hx2 H hg2=>?_) (fun s2 g2 H=>?_)
 ·refine ae (aE (ae (aa ?_)))
  refine aX tk (zn j2) (bg (fun _=>rfl) hx2) ?_
  refine ah tk rfl ?_
  refine aC tk fun b15=>?_
  refine ao tk ?_
  refine ab (ae (aa (af 2 tk rfl (al tk ?_))))
  obtain ⟨x73,h73,H⟩ := av H
  have s73 := pC c inA x2 _ h73
  refine aq Tryz.call197 (eX.r) s73 ?_
  refine af 5 tk rfl (ab (ae (aw 2 tk rfl ?_)))
  refine aQ rfl H (fun H=>?_) (fun H=>?_)
  ·refine aw 3 tk rfl ?_
   obtain rfl := az H
   have e2 : fl2 = .ret _ := hg2
   subst e2
   obtain rfl := bs Hp2
   refine ba tk rfl (ps := [(.val (.slice none 0 0)),(ac x73.2)]) ⟨_,_,rfl,rfl,_,_,rfl,rfl,rfl⟩ (PLe.of2 (lW.tup (gc.cons (lW.nil tk rfl) (gc.cons (lW.of_eq rfl) gc.nil))))
  refine ay (aa (af 2 tk rfl (al tk ?_)))
  refine af 2 tk rfl (al tk ?_)
  refine af 2 tk rfl ?_
  refine co tk (rows' := List.map bd ([(LCol.mk x2.name x73.1 (!(x2.function == ([99,111,117,110,116] : List UInt8))))] : List LCol)) (dF.refl _) ?_
  obtain ⟨x88,h88,H⟩ := av H
  have k88 := bD h88
  refine bS (rows2' := List.map bd ([(LCol.mk x2.name x73.1 (!(x2.function == ([99,111,117,110,116] : List UInt8))))] : List LCol)) (rows' := List.map bd x88) tk rfl rfl rfl rfl rfl rfl rfl rfl rfl rfl rfl rfl rfl (dF.refl _) (cf k88.1) (cg k88.2.1) (ce k88.2.2) fun g88=>?_
  refine ah tk rfl (ab (aW (bp 2 tk rfl ?_)))
  exact bm g88 H hl2 hg2
 refine aw 3 tk rfl (eh 6 rfl rfl rfl ?_)
 exact bq tk H rfl
def dT (e : LExpr) (l : List (List UInt8)) : Option (Bool) :=
 ag (iL e) fun x6 =>
 ag (cE x6 (fun a0=>fq a0 l)) fun x8 =>
 some (!x8)
theorem iX (e : LExpr) (l : List (List UInt8)) (r : Bool) (H : dT e l = some r) :
  aT Tryz.prog 70 [(.agg (bl e)),(.list 9 (l.map aF))] (au r) := by
 unfold dT at H
 refine PH.ax Tryz.func70 Tryz.ntmps70 ?_
 refine ae (aa (aG ?_))
 refine aG ?_
 refine ah tk rfl (ab (ae (aa (ah tk rfl ?_))))
 obtain ⟨x6,h6,H⟩ := av H
 have s6 := W_expr_Columns e _ h6
 refine aq Tryz.call101 (eX.r) s6 ?_
 refine ah tk rfl ?_
 obtain ⟨x8,h8,H⟩ := av H
 have s8 := jK x6 (fun a0=>fq a0 l) Tryz.call102 (fun a0 r h=>pM a0 l r h) _ h8
 refine aq Tryz.call100 (eX.r) s8 ?_
 refine af 2 tk rfl (ab ?_)
 exact bq tk H rfl
def cO (rec28 : LQuery → Int → LQuery → Option (LQuery)) (q : LQuery) (atA : Int) (byA : LQuery) : Option (LQuery) :=
 cond (atA == (0 : Int))
  (ag (eM byA) fun x14 =>
  some x14)
  (ag (eM q) fun x16 =>
  ag (aJ (σ := Int × List LQuery) (ρ := Empty) (fun (j1 : Nat) (x1 : LQuery) (s1 : Int × List LQuery) =>
   ag (eC x1) fun x28 =>
   bj (
    cond (decide (s1.1 ≥ (0 : Int)))
     ((decide (s1.1 < (x28.length : Int))))
     (false)) fun (t6 : Bool) =>
   cond t6
    (ag (rec28 x1 s1.1 byA) fun x43 =>
    ag (aP s1.2 (j1 : Int)) fun (_ : LQuery) =>
    bj (s1.2.set ((j1 : Int).toNat) x43) fun (y7 : List LQuery) =>
    some (.next ((IntKind.i64.wrap (s1.1 - (x28.length : Int))),y7)))
    (some (.next ((IntKind.i64.wrap (s1.1 - (x28.length : Int))),s1.2)))) 0 q.inputs ((IntKind.i64.wrap (atA - (1 : Int))),x16.inputs)) fun fl1=>fl1.thenP fun (s1 : Int × List LQuery) =>
  some (LQuery.mk x16.kind x16.table x16.names x16.exprs x16.aggregates x16.descending x16.count x16.offset s1.2))
theorem pD (rec28 : LQuery → Int → LQuery → Option (LQuery)) (hrec28 : ∀ a0 a1 a2 r,rec28 a0 a1 a2 = some r → aT Tryz.prog 28 [(.agg (am a0)),(ac a1),(.agg (am a2))] (.agg (am r))) (q : LQuery) (atA : Int) (byA : LQuery) (r : LQuery) (H : cO rec28 q atA byA = some r) :
  aT Tryz.prog 28 [(.agg (am q)),(ac atA),(.agg (am byA))] (.agg (am r)) := by
 unfold cO at H
 refine PH.ax Tryz.func28 Tryz.ntmps28 ?_
 refine ae (aa (aG ?_))
 refine aG ?_
 refine aC tk fun b6=>?_
 refine ab (ae (aw 2 tk rfl ?_))
 refine aQ rfl H (fun H=>?_) (fun H=>?_)
 ·refine ae (aa (ah tk rfl ?_))
  obtain ⟨x14,h14,H⟩ := av H
  have s14 := jt (m := 14) byA _ h14
  refine lP (g := 30) rfl rfl rfl Tryz.call30 (eX.r) rfl rfl s14 (fun g14=>?_)
  refine ao tk ?_
  refine ab (bC 6 8 rfl rfl rfl rfl rfl ?_)
  exact pS tk H rfl rfl rfl rfl rfl
 refine ay (ae (aa (ah tk rfl ?_)))
 obtain ⟨x16,h16,H⟩ := av H
 have s16 := jt (m := 16) q _ h16
 refine lP (g := 30) rfl rfl rfl Tryz.call30 (eX.r) rfl rfl s16 (fun g16=>?_)
 refine aC tk fun b7=>?_
 refine ao tk ?_
 refine ab (aw 3 tk rfl (ae (ae (aa (af 2 tk rfl (aD tk (zl _) ?_))))))
 refine ah tk rfl (ab ?_)
 refine rp (γ := OwnRef) tk 20 rfl rfl (fun s1 g1=>upd (upd (upd (fun _=>.any) 7 (.box 7 b7 0)) 6 (.box 6 b6 0)) 5 (.ptr (am byA))) (fun s1 g1=>upd (upd (fun _=>none) 7 (some ⟨b7,[(ac x16.kind),(.str x16.table),(.list 9 (x16.names.map aF)),(.list 94 (x16.exprs.map ak)),(.list 91 (x16.aggregates.map aS)),(.list 4 (x16.descending.map aM)),(ac x16.count),(ac x16.offset),(.own 16 g1 (s1.2.map ap).length)]⟩)) 6 (some ⟨b6,[(ac 0),(.str []),(.val (.slice none 0 0)),(.val (.slice none 0 0)),(.val (.slice none 0 0)),(.val (.slice none 0 0)),(ac 0),(ac 0),(.val (.slice none 0 0))]⟩)) (fun s1 g1=>upd (fun _=>none) 16 (some ⟨g1,33,(s1.2.map ap),true⟩)) (fun e j1 s1 g1=>upd (upd (upd (upd e 22 (ac (j1 : Int))) 21 (ac (q.inputs.length : Int))) 20 (.list 33 (q.inputs.map ap))) 1 (ac s1.1)) g16 H rfl Gh.d (fun _ _ _=>rfl) (fun _ _ _=>rfl) (fun _ _ _=>Gh.d) (fun fl1 Hp1 j1 s1 g1 hz1 hl1 x1 fb1 hx1 H hg1=>?_) (fun s1 g1 H=>?_)
 ·refine ae (aE (ae (aa (ah tk rfl (aX tk (zn j1) (bg aI hx1) ?_)))))
  refine ah tk rfl ?_
  refine aC tk fun b9=>?_
  refine ah tk rfl (ao tk ?_)
  refine ab (ae (aa (al tk ?_)))
  obtain ⟨x28,h28,H⟩ := av H
  have s28 := im (m := 28) x1 _ h28
  refine aq Tryz.call8 (eX.r) (PFun.dJ s28) ?_
  refine aD tk (zl _) ?_
  refine ah tk rfl (ab (ae (ae ?_)))
  refine ck (γ := Unit) (fun t6 g6=>⟨50,upd (upd (upd (upd (upd (upd (upd (upd (upd (upd (upd (fun _=>.any) 36 (au t6)) 22 (ac (j1 : Int))) 21 (ac (q.inputs.length : Int))) 20 (.list 33 (q.inputs.map ap))) 10 (ac (x28.length : Int))) 9 (.box 9 b9 0)) 8 (ac (j1 : Int))) 7 (.box 7 b7 0)) 6 (.box 6 b6 0)) 5 (.ptr (am byA))) 1 (ac s1.1),upd (upd (upd (fun _=>none) 9 (some ⟨b9,(am x1)⟩)) 7 (some ⟨b7,[(ac x16.kind),(.str x16.table),(.list 9 (x16.names.map aF)),(.list 94 (x16.exprs.map ak)),(.list 91 (x16.aggregates.map aS)),(.list 4 (x16.descending.map aM)),(ac x16.count),(ac x16.offset),(.own 16 g1 (s1.2.map ap).length)]⟩)) 6 (some ⟨b6,[(ac 0),(.str []),(.val (.slice none 0 0)),(.val (.slice none 0 0)),(.val (.slice none 0 0)),(.val (.slice none 0 0)),(ac 0),(ac 0),(.val (.slice none 0 0))]⟩),upd (fun _=>none) 16 (some ⟨g1,33,(s1.2.map ap),true⟩)⟩) H (fun _ H=>?_) (fun t6 g6 H=>?_)
  ·refine aa (af 3 tk rfl ?_)
   refine aO rfl rfl rfl H (fun H=>?_) (fun H=>?_)
   ·refine af 4 tk rfl (ab ?_)
    refine aH _ () H Gh.d
   refine af 4 tk rfl (ab ?_)
   refine aH _ () H Gh.d
  refine aQ rfl H (fun H=>?_) (fun H=>?_)
  ·refine gu (tag := 16) rfl (fun ho16=>?_)
   refine cd 9 ?_
   refine br tk mok ⟨true,false,[40,42]⟩ [0,1,2,3,4,5,6,7,8] rfl (by decide +kernel) rfl (bf rfl (aU ?_))
   refine bc 4 rfl ?_
   obtain ⟨x43,h43,H⟩ := av H
   have s43 := hrec28 x1 s1.1 byA _ h43
   refine aZ Tryz.call28 (eX.r) s43 ?_
   obtain ⟨x44,k44,H⟩ := bB H
   refine ej tk ⟨k44.1,(dW k44.2)⟩ (dX ho16 k44.2) ?_
   obtain ⟨y7,hy7,H⟩ := cZ H
   refine gT tk rfl rfl rfl rfl rfl rfl rfl rfl rfl (by rw [zl]; exact (zg.1 k44.2).1) (PLe.refl _ _) rfl rfl rfl rfl (by decide) (fe aI k44.2 rfl hy7) ?_
   refine bi (bp 4 tk rfl (aW (bp 2 tk rfl ?_)))
   exact bm g1 H hl1 hg1 (Gh.le (aL (aL (aL (cj (PLe.q (eP (by omega))) (aL (aL (aL bQ))))))) (aN rfl (eX.r) (aN rfl (eX.of2 (gc.cons (lW.of_eq rfl) (gc.cons (lW.of_eq rfl) (gc.cons (lW.of_eq rfl) (gc.cons (lW.of_eq rfl) (gc.cons (lW.of_eq rfl) (gc.cons (lW.of_eq rfl) (gc.cons (lW.of_eq rfl) (gc.cons (lW.of_eq rfl) (gc.cons (lW.of_eq (congrArg (PV.own 16 g1) (gG (f := ap) hy7))) gc.nil)))))))))) bu)) (cW bt))
  refine ay (bp 4 tk rfl (aW (bp 2 tk rfl ?_)))
  exact bm g1 H hl1 hg1
 refine ae (aa (al tk ?_))
 refine ao tk ?_
 refine ab (bC 6 8 rfl rfl rfl rfl rfl ?_)
 exact pS tk H rfl rfl rfl rfl rfl
def dM : Nat → LQuery → Int → LQuery → Option (LQuery)
 | 0,_,_,_=>none
 | n + 1,v0,v1,v2=>cO (fun b0 b1 b2=>dM n b0 b1 b2) v0 v1 v2
theorem pE  (n : Nat) : (∀ a0 a1 a2 r,dM n a0 a1 a2 = some r → aT Tryz.prog 28 [(.agg (am a0)),(ac a1),(.agg (am a2))] (.agg (am r))) := by
 induction n with
 | zero=>exact (by intros; rename_i h; exact absurd (show (none : Option _) = some _ from h) (by simp))
 | succ n ih =>
  exact (fun v0 v1 v2 r h=>pD (fun b0 b1 b2=>dM n b0 b1 b2) ih v0 v1 v2  r h)
def cq (q : LQuery) (atA : Int) (byA : LQuery) : Option (LQuery) := fA fun n=>dM n q atA byA
theorem qg (q : LQuery) (atA : Int) (byA : LQuery) (r : LQuery) (H : cq q atA byA = some r) :
  aT Tryz.prog 28 [(.agg (am q)),(ac atA),(.agg (am byA))] (.agg (am r)) := by
 obtain ⟨n,h⟩ := fv H
 exact (pE  n) q atA byA r h
def gN (sA : LSchema) : Option (Int) :=
 bj (
  cond (decide ((sA.tables.length : Int) > (6 : Int)))
   (true)
   (cond (decide ((sA.foreignKeys.length : Int) > (8 : Int)))
    (true)
    ((decide ((sA.constraints.length : Int) > (8 : Int)))))) fun (t1 : Bool) =>
 cond t1
  (some 2)
  (ag (aJ (σ := Unit) (ρ := (Int)) (fun (j2 : Nat) (x2 : LTable) (_ : Unit) =>
   ag (eg x2) fun x37 =>
   cond (x37 != (0 : Int))
    (some (.ret x37))
    (cond (decide ((j2 : Int) > (0 : Int)))
     (ag (aP sA.tables (IntKind.i64.wrap ((j2 : Int) - (1 : Int)))) fun (x50 : LTable) =>
     cond (Op.bytesLess x2.name x50.name || x2.name == x50.name)
      (some (.ret 6))
      (some (.next ())))
     (some (.next ())))) 0 sA.tables ()) fun fl2=>fl2.thenR fun (_ : Unit) =>
  ag (aJ (σ := Unit) (ρ := (Int)) (fun (j3 : Nat) (x3 : LForeignKey) (_ : Unit) =>
   ag (dN sA x3) fun x66 =>
   cond (x66 != (0 : Int))
    (some (.ret x66))
    (ag (kE sA.foreignKeys 0 (j3 : Int)) fun (x73 : List LForeignKey) =>
    ag (bI x73 (fun a0=>eQ a0 x3)) fun x75 =>
    cond x75
     (some (.ret 5))
     (some (.next ())))) 0 sA.foreignKeys ()) fun fl3=>fl3.thenR fun (_ : Unit) =>
  ag (aJ (σ := Unit) (ρ := (Int)) (fun (j4 : Nat) (x4 : LConstraint) (_ : Unit) =>
   ag (dO sA x4) fun x87 =>
   cond (x87 != (0 : Int))
    (some (.ret x87))
    (ag (kE sA.constraints 0 (j4 : Int)) fun (x94 : List LConstraint) =>
    ag (bO x94 x4) fun x96 =>
    cond x96
     (some (.ret 5))
     (some (.next ())))) 0 sA.constraints ()) fun fl4=>fl4.thenR fun (_ : Unit) =>
  some 0)
theorem qw (sA : LSchema) (r : Int) (H : gN sA = some r) :
  aT Tryz.prog 23 [(.agg (aB sA))] (ac r) := by
 unfold gN at H
 refine PH.ax Tryz.func23 Tryz.ntmps23 ?_
 refine ae (aa (aG ?_))
 refine ah tk rfl (ab (ae (ae ?_)))
 refine ck (γ := Unit) (fun t1 g1=>⟨98,upd (upd (fun _=>.any) 27 (au t1)) 1 (.ptr (aB sA)),fun _=>none,fun _=>none⟩) H (fun _ H=>?_) (fun t1 g1 H=>?_)
 ·refine aa (af 2 tk rfl (aD tk (zl _) ?_))
  refine af 2 tk rfl ?_
  refine aO rfl rfl rfl H (fun H=>?_) (fun H=>?_)
  ·refine af 11 tk rfl (ab ?_)
   refine aH _ () H Gh.d
  refine af 2 tk rfl (aD tk (zl _) ?_)
  refine af 3 tk rfl ?_
  refine aO rfl rfl rfl H (fun H=>?_) (fun H=>?_)
  ·refine af 5 tk rfl (ab ?_)
   refine aH _ () H Gh.d
  refine af 2 tk rfl (aD tk (zl _) ?_)
  refine af 2 tk rfl (ab ?_)
  refine aH _ () H Gh.d
 refine aQ rfl H (fun H=>?_) (fun H=>?_)
 ·refine aw 1 tk rfl ?_
  exact bq tk H rfl
 refine ay (ae (ae (aa (af 2 tk rfl (aD tk (zl _) ?_)))))
 refine ah tk rfl (ab ?_)
 refine fw tk 31 30 29 (fun s2 g2=>upd (fun _=>.any) 1 (.ptr (aB sA))) nB nO () H (fun fl2 Hp2 j2 s2 g2 hz2 hl2 x2 fb2 hx2 H hg2=>?_) (fun s2 g2 H=>?_)
 ·refine ae (aE (ae (aa (ah tk rfl ?_))))
  refine aX tk (zn j2) (bg (fun _=>rfl) hx2) ?_
  refine ah tk rfl ?_
  refine aC tk fun b4=>?_
  refine ah tk rfl (ao tk ?_)
  refine ab (ae (ae (aa (al tk ?_))))
  obtain ⟨x37,h37,H⟩ := av H
  have s37 := nN x2 _ h37
  refine aq Tryz.call53 (eX.r) s37 ?_
  refine ah tk rfl (ab (aw 2 tk rfl ?_))
  refine aQ rfl H (fun H=>?_) (fun H=>?_)
  ·refine aw 2 tk rfl ?_
   obtain rfl := az H
   have e2 : fl2 = .ret _ := hg2
   subst e2
   obtain rfl := bs Hp2
   refine ba tk rfl (ps := [(ac x37)]) ⟨_,_,rfl,rfl,rfl⟩ (PLe.q rfl)
  refine ay (ae (br tk mok ⟨true,false,[47,52]⟩ [0,1,2,3,4,5,6,7,8,9,10,11,12,13] rfl (by decide +kernel) rfl (bc 3 rfl ?_)))
  refine pl rfl rfl rfl rfl H (fun H=>?_) (fun H=>?_)
  ·refine bf rfl (aU ?_)
   refine bc 4 rfl ?_
   obtain ⟨x50,k50,H⟩ := bB H
   refine bF k50.1 (aV (fun _=>rfl) k50.2) ?_
   refine bc 4 rfl (bi ?_)
   refine aQ rfl H (fun H=>?_) (fun H=>?_)
   ·refine aw 1 tk rfl ?_
    obtain rfl := az H
    have e2 : fl2 = .ret _ := hg2
    subst e2
    obtain rfl := bs Hp2
    refine ba tk rfl (ps := [(ac 6)]) ⟨_,_,rfl,rfl,rfl⟩ (PLe.q rfl)
   refine ay (aW (bp 2 tk rfl ?_))
   exact bm () H hl2 hg2
  refine bc 11 rfl (bi (bT rfl (ay (aW (bp 2 tk rfl ?_)))))
  exact bm () H hl2 hg2
 refine ae (ae (aa (af 2 tk rfl (aD tk (zl _) ?_))))
 refine ah tk rfl (ab ?_)
 refine fw tk 59 58 57 (fun s3 g3=>upd (fun _=>.any) 1 (.ptr (aB sA))) nB nO () H (fun fl3 Hp3 j3 s3 g3 hz3 hl3 x3 fb3 hx3 H hg3=>?_) (fun s3 g3 H=>?_)
 ·refine ae (aE (ae (aa (ah tk rfl ?_))))
  refine aX tk (zn j3) (bg (fun _=>rfl) hx3) ?_
  refine ah tk rfl ?_
  refine aC tk fun b7=>?_
  refine ah tk rfl (ao tk ?_)
  refine ab (ae (ae (aa (ah tk rfl (al tk ?_)))))
  obtain ⟨x66,h66,H⟩ := av H
  have s66 := lN sA x3 _ h66
  refine aq Tryz.call54 (eX.r) s66 ?_
  refine ah tk rfl (ab (aw 2 tk rfl ?_))
  refine aQ rfl H (fun H=>?_) (fun H=>?_)
  ·refine aw 2 tk rfl ?_
   obtain rfl := az H
   have e3 : fl3 = .ret _ := hg3
   subst e3
   obtain rfl := bs Hp3
   refine ba tk rfl (ps := [(ac x66)]) ⟨_,_,rfl,rfl,rfl⟩ (PLe.q rfl)
  refine ay (ae (aa (af 3 tk rfl ?_)))
  obtain ⟨x73,h73,H⟩ := av H
  have k73 := lR h73
  refine rk tk rfl rfl rfl rfl rfl (zl _) rfl rfl k73.1 (ni k73.2) rfl (gn (Gh.freezeB 7 rfl rfl rfl rfl) (ah tk rfl ?_))
  obtain ⟨x75,h75,H⟩ := av H
  have s75 := gK x73 (fun a0=>eQ a0 x3) Tryz.call56 (fun a0 r h=>pz a0 x3 r h) _ h75
  refine aq Tryz.call55 (eX.r) s75 ?_
  refine ab ?_
  refine aQ rfl H (fun H=>?_) (fun H=>?_)
  ·refine aw 1 tk rfl ?_
   obtain rfl := az H
   have e3 : fl3 = .ret _ := hg3
   subst e3
   obtain rfl := bs Hp3
   refine ba tk rfl (ps := [(ac 5)]) ⟨_,_,rfl,rfl,rfl⟩ (PLe.q rfl)
  refine ay (aW (bp 2 tk rfl ?_))
  exact bm () H hl3 hg3
 refine ae (ae (aa (af 2 tk rfl (aD tk (zl _) ?_))))
 refine ah tk rfl (ab ?_)
 refine fw tk 80 79 78 (fun s4 g4=>upd (fun _=>.any) 1 (.ptr (aB sA))) nB nO () H (fun fl4 Hp4 j4 s4 g4 hz4 hl4 x4 fb4 hx4 H hg4=>?_) (fun s4 g4 H=>?_)
 ·refine ae (aE (ae (aa (ah tk rfl ?_))))
  refine aX tk (zn j4) (bg (fun _=>rfl) hx4) ?_
  refine ah tk rfl ?_
  refine aC tk fun b10=>?_
  refine ah tk rfl (ao tk ?_)
  refine ab (ae (ae (aa (ah tk rfl (al tk ?_)))))
  obtain ⟨x87,h87,H⟩ := av H
  have s87 := lS sA x4 _ h87
  refine aq Tryz.call58 (eX.r) s87 ?_
  refine ah tk rfl (ab (aw 2 tk rfl ?_))
  refine aQ rfl H (fun H=>?_) (fun H=>?_)
  ·refine aw 2 tk rfl ?_
   obtain rfl := az H
   have e4 : fl4 = .ret _ := hg4
   subst e4
   obtain rfl := bs Hp4
   refine ba tk rfl (ps := [(ac x87)]) ⟨_,_,rfl,rfl,rfl⟩ (PLe.q rfl)
  refine ay (ae (br tk mok ⟨true,false,[92]⟩ [0,1,2,3,4,5] rfl (by decide +kernel) rfl (bc 3 rfl ?_)))
  obtain ⟨x94,h94,H⟩ := av H
  have k94 := lR h94
  refine rB rfl rfl rfl rfl rfl rfl (zl _) rfl rfl k94.1 (ni k94.2) rfl (aU ?_)
  obtain ⟨x96,h96,H⟩ := av H
  have s96 := hP x94 x4 _ h96
  refine aZ Tryz.call59 (eX.r) s96 ?_
  refine bi ?_
  refine aQ rfl H (fun H=>?_) (fun H=>?_)
  ·refine aw 1 tk rfl ?_
   obtain rfl := az H
   have e4 : fl4 = .ret _ := hg4
   subst e4
   obtain rfl := bs Hp4
   refine ba tk rfl (ps := [(ac 5)]) ⟨_,_,rfl,rfl,rfl⟩ (PLe.q rfl)
  refine ay (aW (bp 2 tk rfl ?_))
  exact bm () H hl4 hg4
 refine aw 1 tk rfl ?_
 exact bq tk H rfl
def fY (c : LChecker) (q : LQuery) (inA : List (List LCol)) : Option ((List LCol) × Int) :=
 cond (q.kind == (1 : Int))
  (ag (cr c.s.tables (fun a0=>some (dE a0 q))) fun x25 =>
  cond (decide (x25 < (0 : Int)))
   (some ([],4))
   (ag (aP c.s.tables x25) fun (x32 : LTable) =>
   some (x32.columns,0)))
  (cond (q.kind == (2 : Int))
   (ag (aP inA 0) fun (x39 : List LCol) =>
   ag (aP inA 0) fun (x43 : List LCol) =>
   ag (aP q.exprs 0) fun (x47 : LExpr) =>
   bj (cM c x43 x47) fun x49 =>
   some (x39,x49))
   (bj (
    cond (q.kind == (4 : Int))
     ((q.kind == (4 : Int)))
     ((q.kind == (5 : Int)))) fun (t1 : Bool) =>
   cond t1
    (ag (aP inA 0) fun (x54 : List LCol) =>
    ag (aP inA 1) fun (x58 : List LCol) =>
    ag (aJ (σ := List LCol) (ρ := Empty) (fun (_ : Nat) (x2 : LCol) (s2 : List LCol) =>
     cond x2.nullable
      (ag (bY 32 s2 ([(LCol.mk x2.name x2.kind true)] : List LCol)) fun (x76 : List LCol) =>
      some (.next x76))
      (ag (bY 32 s2 ([(LCol.mk x2.name x2.kind (q.kind == (5 : Int)))] : List LCol)) fun (x76 : List LCol) =>
      some (.next x76))) 0 x58 x54) fun fl2=>fl2.thenP fun (s2 : List LCol) =>
    ag (aP q.exprs 0) fun (x83 : LExpr) =>
    bj (cM c s2 x83) fun x85 =>
    some (s2,x85))
    (bj (
     cond (q.kind == (6 : Int))
      ((q.kind == (6 : Int)))
      ((q.kind == (7 : Int)))) fun (t3 : Bool) =>
    cond t3
     (ag (aP inA 0) fun (x92 : List LCol) =>
     ag (aP inA 1) fun (x95 : List LCol) =>
     ag (gE q.kind x92 x95) fun x97 =>
     some (x97.1,x97.2))
     (bj (
      cond (q.kind == (3 : Int))
       ((q.kind == (3 : Int)))
       ((q.kind == (8 : Int)))) fun (t4 : Bool) =>
     cond t4
      (ag (aP inA 0) fun (x106 : List LCol) =>
      ag (dG c q x106) fun x108 =>
      some (x108.1,x108.2))
      (cond (q.kind == (9 : Int))
       (ag (aJ (σ := Unit) (ρ := ((List LCol) × Int)) (fun (_ : Nat) (x5 : LExpr) (_ : Unit) =>
        ag (aP inA 0) fun (x122 : List LCol) =>
        bj (eK x122 c.vars x5) fun x127 =>
        cond (x127.2.2 != (0 : Int))
         (some (.ret ([],x127.2.2)))
         (some (.next ()))) 0 q.exprs ()) fun fl5=>fl5.thenR fun (_ : Unit) =>
       ag (aP inA 0) fun (x136 : List LCol) =>
       some (x136,0))
       (ag (aP inA 0) fun (x136 : List LCol) =>
       some (x136,0)))))))
theorem pA (c : LChecker) (q : LQuery) (inA : List (List LCol)) (r : (List LCol) × Int) (H : fY c q inA = some r) :
  aT Tryz.prog 140 [(.agg (dv c)),(.agg (am q)),(.list 53 (inA.map (ju 52 bd)))] (.tup [(.list 52 (r.1.map bd)),(ac r.2)]) := by
 unfold fY at H
 refine PH.ax Tryz.func140 Tryz.ntmps140 ?_
 refine ae (aa (aG ?_))
 refine aG ?_
 refine af 2 tk rfl (ab (ae (aw 2 tk rfl (aE (aw 2 tk rfl ?_)))))
 refine aQ rfl H (fun H=>?_) (fun H=>?_)
 ·refine ae (aa (af 4 tk rfl ?_))
  obtain ⟨x25,h25,H⟩ := av H
  have s25 := fU c.s.tables (fun a0=>some (dE a0 q)) Tryz.call173 (fun a0 r h=>(az h) ▸ od a0 q) _ h25
  refine aq Tryz.call134 (eX.r) s25 ?_
  refine ah tk rfl (ab (ae (aw 2 tk rfl ?_)))
  refine aQ rfl H (fun H=>?_) (fun H=>?_)
  ·refine aw 2 tk rfl ?_
   obtain rfl := az H
   refine ba tk rfl (ps := [(.val (.slice none 0 0)),(ac 4)]) ⟨_,_,rfl,rfl,_,_,rfl,rfl,rfl⟩ (PLe.of2 (lW.tup (gc.cons (lW.nil tk rfl) (gc.cons (lW.of_eq rfl) gc.nil))))
  refine ay (ae (aa (af 4 tk rfl ?_)))
  obtain ⟨x32,k32,H⟩ := bB H
  refine aX tk k32.1 (aV (fun _=>rfl) k32.2) ?_
  refine af 2 tk rfl ?_
  have s35 := pT (m := 35) x32.columns
  refine aq Tryz.call158 (eX.r) (PFun.dJ s35) ?_
  refine af 2 tk rfl (ab ?_)
  exact bq tk H rfl
 refine aw 2 tk rfl ?_
 refine aQ rfl H (fun H=>?_) (fun H=>?_)
 ·refine ae (br tk mok ⟨false,false,[]⟩ [0,1,2,3,4,5,6,7,8,9,10,11,12,13] rfl (by decide +kernel) rfl (bf rfl ?_))
  obtain ⟨x39,k39,H⟩ := bB H
  refine bF k39.1 (aV (fun _=>rfl) k39.2) ?_
  refine bc 3 rfl ?_
  obtain ⟨x43,k43,H⟩ := bB H
  refine bF k43.1 (aV (fun _=>rfl) k43.2) ?_
  refine bc 3 rfl ?_
  obtain ⟨x47,k47,H⟩ := bB H
  refine bF k47.1 (aV aR k47.2) ?_
  refine bf rfl ?_
  obtain ⟨x49,h49,H⟩ := cZ H
  have s49 := jr c x43 x47
  rw [h49] at s49
  refine aZ Tryz.call174 (eX.r) s49 ?_
  refine bc 2 rfl (bi ?_)
  exact bq tk H rfl
 refine ae (aw 2 tk rfl ?_)
 refine ck (γ := Unit) (fun t1 g1=>⟨138,upd (upd (upd (upd (upd (fun _=>.any) 50 (au t1)) 18 (ac q.kind)) 4 (.ptr (am q))) 3 (.ptr (dv c))) 2 (.list 53 (inA.map (ju 52 bd))),fun _=>none,fun _=>none⟩) H (fun _ H=>?_) (fun t1 g1 H=>?_)
 ·refine aQ rfl H (fun H=>?_) (fun H=>?_)
  ·refine ay ?_
   refine aH _ () H Gh.d
  refine bp 2 tk rfl ?_
  refine aH _ () H Gh.d
 refine aQ rfl H (fun H=>?_) (fun H=>?_)
 ·refine ae (aa (ah tk rfl ?_))
  obtain ⟨x54,k54,H⟩ := bB H
  refine aX tk k54.1 (aV (fun _=>rfl) k54.2) ?_
  refine ah tk rfl ?_
  have s56 := pT (m := 56) x54
  refine qU (g := 158) rfl rfl rfl Tryz.call158 (eX.r) rfl rfl s56 (fun g56=>?_)
  refine ah tk rfl (ab (ae (ae (aa (ah tk rfl ?_)))))
  obtain ⟨x58,k58,H⟩ := bB H
  refine aX tk k58.1 (aV (fun _=>rfl) k58.2) ?_
  refine ah tk rfl (aD tk (zl _) ?_)
  refine ah tk rfl (ab ?_)
  refine dh (γ := OwnRef) tk 61 60 59 (fun s2 g2=>upd (upd (upd (fun _=>.any) 9 (.own 56 g2 (s2.map bd).length)) 4 (.ptr (am q))) 3 (.ptr (dv c))) nB (fun s2 g2=>upd (fun _=>none) 56 (some ⟨g2,52,(s2.map bd),true⟩)) g56 H (fun fl2 Hp2 j2 s2 g2 hz2 hl2 x2 fb2 hx2 H hg2=>?_) (fun s2 g2 H=>?_)
  ·refine ae (aE (ae (aa ?_)))
   refine aX tk (zn j2) (bg (fun _=>rfl) hx2) ?_
   refine ah tk rfl ?_
   refine aC tk fun b11=>?_
   refine ao tk ?_
   refine ab (ae (aa (ah tk rfl (al tk ?_))))
   refine ah tk rfl ?_
   refine aO rfl rfl rfl H (fun H=>?_) (fun H=>?_)
   ·refine af 5 tk rfl (ao tk ?_)
    refine ab (aa (ah tk rfl (al tk ?_)))
    refine co tk (rows' := List.map bd ([(LCol.mk x2.name x2.kind true)] : List LCol)) (dF.refl _) ?_
    obtain ⟨x76,h76,H⟩ := av H
    have k76 := bD h76
    refine bS (rows2' := List.map bd ([(LCol.mk x2.name x2.kind true)] : List LCol)) (rows' := List.map bd x76) tk rfl rfl rfl rfl rfl rfl rfl rfl rfl rfl rfl rfl rfl (dF.refl _) (cf k76.1) (cg k76.2.1) (ce k76.2.2) fun g76=>?_
    refine ah tk rfl (ab (aW (bp 2 tk rfl ?_)))
    exact bm g76 H hl2 hg2
   refine af 5 tk rfl (ao tk ?_)
   refine ab (aa (ah tk rfl (al tk ?_)))
   refine co tk (rows' := List.map bd ([(LCol.mk x2.name x2.kind (q.kind == (5 : Int)))] : List LCol)) (dF.refl _) ?_
   obtain ⟨x76,h76,H⟩ := av H
   have k76 := bD h76
   refine bS (rows2' := List.map bd ([(LCol.mk x2.name x2.kind (q.kind == (5 : Int)))] : List LCol)) (rows' := List.map bd x76) tk rfl rfl rfl rfl rfl rfl rfl rfl rfl rfl rfl rfl rfl (dF.refl _) (cf k76.1) (cg k76.2.1) (ce k76.2.2) fun g76=>?_
   refine ah tk rfl (ab (aW (bp 2 tk rfl ?_)))
   exact bm g76 H hl2 hg2
  refine ae (eh 9 rfl rfl rfl (br tk mok ⟨false,false,[]⟩ [0,1,2,3,4,5,6,7,8,9] rfl (by decide +kernel) rfl (bc 5 rfl ?_)))
  obtain ⟨x83,k83,H⟩ := bB H
  refine bF k83.1 (aV aR k83.2) ?_
  refine bf rfl ?_
  obtain ⟨x85,h85,H⟩ := cZ H
  have s85 := jr c s2 x83
  rw [h85] at s85
  refine aZ Tryz.call174 (eX.r) s85 ?_
  refine bc 2 rfl (bi ?_)
  exact bq tk H rfl
 refine ae (aw 2 tk rfl ?_)
 refine ck (γ := Unit) (fun t3 g3=>⟨138,upd (upd (upd (upd (upd (fun _=>.any) 86 (au t3)) 18 (ac q.kind)) 4 (.ptr (am q))) 3 (.ptr (dv c))) 2 (.list 53 (inA.map (ju 52 bd))),fun _=>none,fun _=>none⟩) H (fun _ H=>?_) (fun t3 g3 H=>?_)
 ·refine aQ rfl H (fun H=>?_) (fun H=>?_)
  ·refine ay ?_
   refine aH _ () H Gh.d
  refine bp 2 tk rfl ?_
  refine aH _ () H Gh.d
 refine aQ rfl H (fun H=>?_) (fun H=>?_)
 ·refine ae (br tk mok ⟨false,false,[]⟩ [0,1,2,3,4,5,6,7,8,9,10,11,12] rfl (by decide +kernel) rfl (bc 3 rfl ?_))
  obtain ⟨x92,k92,H⟩ := bB H
  refine bF k92.1 (aV (fun _=>rfl) k92.2) ?_
  refine bc 2 rfl ?_
  obtain ⟨x95,k95,H⟩ := bB H
  refine bF k95.1 (aV (fun _=>rfl) k95.2) ?_
  refine bf rfl ?_
  obtain ⟨x97,h97,H⟩ := av H
  have s97 := pX q.kind x92 x95 _ h97
  refine aZ Tryz.call175 (eX.r) s97 ?_
  refine bc 4 rfl (bi ?_)
  exact bq tk H rfl
 refine ae (aw 2 tk rfl ?_)
 refine ck (γ := Unit) (fun t4 g4=>⟨138,upd (upd (upd (upd (upd (fun _=>.any) 100 (au t4)) 18 (ac q.kind)) 4 (.ptr (am q))) 3 (.ptr (dv c))) 2 (.list 53 (inA.map (ju 52 bd))),fun _=>none,fun _=>none⟩) H (fun _ H=>?_) (fun t4 g4 H=>?_)
 ·refine aQ rfl H (fun H=>?_) (fun H=>?_)
  ·refine ay ?_
   refine aH _ () H Gh.d
  refine bp 2 tk rfl ?_
  refine aH _ () H Gh.d
 refine aQ rfl H (fun H=>?_) (fun H=>?_)
 ·refine ae (br tk mok ⟨false,false,[]⟩ [0,1,2,3,4,5,6,7,8,9] rfl (by decide +kernel) rfl (bc 3 rfl ?_))
  obtain ⟨x106,k106,H⟩ := bB H
  refine bF k106.1 (aV (fun _=>rfl) k106.2) ?_
  refine bf rfl ?_
  obtain ⟨x108,h108,H⟩ := av H
  have s108 := lp c q x106 _ h108
  refine aZ Tryz.call176 (eX.r) s108 ?_
  refine bc 4 rfl (bi ?_)
  exact bq tk H rfl
 refine aw 2 tk rfl ?_
 refine aQ rfl H (fun H=>?_) (fun H=>?_)
 ·refine ae (aa (af 2 tk rfl (aD tk (zl _) ?_)))
  refine ah tk rfl (ab ?_)
  refine fw tk 116 115 114 (fun s5 g5=>upd (upd (fun _=>.any) 3 (.ptr (dv c))) 2 (.list 53 (inA.map (ju 52 bd)))) nB nO () H (fun fl5 Hp5 j5 s5 g5 hz5 hl5 x5 fb5 hx5 H hg5=>?_) (fun s5 g5 H=>?_)
  ·refine ae (aE (ae (aa (aX tk (zn j5) (bg aR hx5) ?_))))
   refine ah tk rfl ?_
   refine aC tk fun b13=>?_
   refine ao tk ?_
   refine ab (ae (br tk mok ⟨true,false,[123,125]⟩ [0,1,2,3,4,5,6,7,8,9,10,11,12,13] rfl (by decide +kernel) rfl (bf rfl ?_)))
   obtain ⟨x122,k122,H⟩ := bB H
   refine bF k122.1 (aV (fun _=>rfl) k122.2) ?_
   refine bc 3 rfl (aU ?_)
   obtain ⟨x127,h127,H⟩ := cZ H
   have s127 := lG x122 c.vars x5
   rw [h127] at s127
   refine aZ Tryz.call177 (eX.r) s127 ?_
   refine bc 7 rfl (bi (aw 2 tk rfl ?_))
   refine aQ rfl H (fun H=>?_) (fun H=>?_)
   ·refine aw 3 tk rfl ?_
    obtain rfl := az H
    have e5 : fl5 = .ret _ := hg5
    subst e5
    obtain rfl := bs Hp5
    refine ba tk rfl (ps := [(.val (.slice none 0 0)),(ac x127.2.2)]) ⟨_,_,rfl,rfl,_,_,rfl,rfl,rfl⟩ (PLe.of2 (lW.tup (gc.cons (lW.nil tk rfl) (gc.cons (lW.of_eq rfl) gc.nil))))
   refine ay (aW (bp 2 tk rfl ?_))
   exact bm () H hl5 hg5
  refine aW (ae (aa (ah tk rfl ?_)))
  obtain ⟨x136,k136,H⟩ := bB H
  refine aX tk k136.1 (aV (fun _=>rfl) k136.2) ?_
  refine af 3 tk rfl (ab ?_)
  exact bq tk H rfl
 refine ay (aW (ae (aa (ah tk rfl ?_))))
 obtain ⟨x136,k136,H⟩ := bB H
 refine aX tk k136.1 (aV (fun _=>rfl) k136.2) ?_
 refine af 3 tk rfl (ab ?_)
 exact bq tk H rfl
def dQ (rec97 : LChecker → LQuery → Option ((List LCol) × Int)) (c : LChecker) (q : LQuery) : Option ((List LCol) × Int) :=
 ag (jl q) fun x16 =>
 cond (!x16)
  (some ([],3))
  (ag (aJ (σ := List (List LCol)) (ρ := ((List LCol) × Int)) (fun (_ : Nat) (x1 : LQuery) (s1 : List (List LCol)) =>
   ag (rec97 c x1) fun x28 =>
   cond (x28.2 != (0 : Int))
    (some (.ret ([],x28.2)))
    (ag (bY 24 s1 ([x28.1] : List (List LCol))) fun (x37 : List (List LCol)) =>
    some (.next x37))) 0 q.inputs []) fun fl1=>fl1.thenR fun (s1 : List (List LCol)) =>
  ag (fY c q s1) fun x43 =>
  cond (x43.2 != (0 : Int))
   (some ([],x43.2))
   (cond (decide ((x43.1.length : Int) > (20 : Int)))
    (some ([],2))
    (ag (aJ (σ := Unit) (ρ := ((List LCol) × Int)) (fun (j2 : Nat) (x2 : LCol) (_ : Unit) =>
     ag (kE x43.1 0 (j2 : Int)) fun (x61 : List LCol) =>
     ag (bJ x61 (fun a0=>some (bX a0 x2))) fun x63 =>
     cond x63
      (some (.ret ([],23)))
      (some (.next ()))) 0 x43.1 ()) fun fl2=>fl2.thenR fun (_ : Unit) =>
    some (x43.1,0))))
theorem mQ (rec97 : LChecker → LQuery → Option ((List LCol) × Int)) (hrec97 : ∀ a0 a1 r,rec97 a0 a1 = some r → aT Tryz.prog 97 [(.agg (dv a0)),(.agg (am a1))] (.tup [(.list 52 (r.1.map bd)),(ac r.2)])) (c : LChecker) (q : LQuery) (r : (List LCol) × Int) (H : dQ rec97 c q = some r) :
  aT Tryz.prog 97 [(.agg (dv c)),(.agg (am q))] (.tup [(.list 52 (r.1.map bd)),(ac r.2)]) := by
 unfold dQ at H
 refine PH.ax Tryz.func97 Tryz.ntmps97 ?_
 refine ae (aa (aG ?_))
 refine aG ?_
 refine af 2 tk rfl (ab (ae (ae (aa (ah tk rfl ?_)))))
 obtain ⟨x16,h16,H⟩ := av H
 have s16 := W_query_shape q _ h16
 refine aq Tryz.call139 (eX.r) s16 ?_
 refine ah tk rfl (ab ?_)
 refine aQ rfl H (fun H=>?_) (fun H=>?_)
 ·refine aw 2 tk rfl ?_
  obtain rfl := az H
  refine ba tk rfl (ps := [(.val (.slice none 0 0)),(ac 3)]) ⟨_,_,rfl,rfl,_,_,rfl,rfl,rfl⟩ (PLe.of2 (lW.tup (gc.cons (lW.nil tk rfl) (gc.cons (lW.of_eq rfl) gc.nil))))
 refine ay (aw 1 tk rfl (ae (ae (aa (af 2 tk rfl (aD tk (zl _) ?_))))))
 refine ah tk rfl (ab (iu tk 6 37 (e := 53) rfl rfl ?_))
 refine fw (γ := OwnRef) tk 21 20 19 (fun s1 g1=>upd (upd (upd (fun _=>.any) 6 (.own 37 g1 (s1.map (ju 52 bd)).length)) 3 (.ptr (am q))) 2 (.ptr (dv c))) nB (fun s1 g1=>upd (fun _=>none) 37 (some ⟨g1,53,(s1.map (ju 52 bd)),true⟩)) (⟨none,0⟩) H (fun fl1 Hp1 j1 s1 g1 hz1 hl1 x1 fb1 hx1 H hg1=>?_) (fun s1 g1 H=>?_)
 ·refine ae (aE (ae (aa (aX tk (zn j1) (bg aI hx1) ?_))))
  refine ah tk rfl ?_
  refine aC tk fun b8=>?_
  refine ao tk ?_
  refine ab (ae (aa (ah tk rfl (al tk ?_))))
  obtain ⟨x28,h28,H⟩ := av H
  have s28 := hrec97 c x1 _ h28
  refine aq Tryz.call97 (eX.r) s28 ?_
  refine af 5 tk rfl (ab (ae (aw 2 tk rfl ?_)))
  refine aQ rfl H (fun H=>?_) (fun H=>?_)
  ·refine aw 3 tk rfl ?_
   obtain rfl := az H
   have e1 : fl1 = .ret _ := hg1
   subst e1
   obtain rfl := bs Hp1
   refine ba tk rfl (ps := [(.val (.slice none 0 0)),(ac x28.2)]) ⟨_,_,rfl,rfl,_,_,rfl,rfl,rfl⟩ (PLe.of2 (lW.tup (gc.cons (lW.nil tk rfl) (gc.cons (lW.of_eq rfl) gc.nil))))
  refine ay (aa (af 2 tk rfl (co tk (rows' := List.map (ju 52 bd) ([x28.1] : List (List LCol))) (dF.refl _) ?_)))
  obtain ⟨x37,h37,H⟩ := av H
  have k37 := bD h37
  refine bS (rows2' := List.map (ju 52 bd) ([x28.1] : List (List LCol))) (rows' := List.map (ju 52 bd) x37) tk rfl rfl rfl rfl rfl rfl rfl rfl rfl rfl rfl rfl rfl (dF.refl _) (cf k37.1) (cg k37.2.1) (ce k37.2.2) fun g37=>?_
  refine ah tk rfl (ab (aW (bp 2 tk rfl ?_)))
  exact bm g37 H hl1 hg1
 refine ae (eh 6 rfl rfl rfl (aa (af 3 tk rfl ?_)))
 obtain ⟨x43,h43,H⟩ := av H
 have s43 := pA c q s1 _ h43
 refine aq Tryz.call140 (eX.r) s43 ?_
 refine af 5 tk rfl (ab (ae (aw 2 tk rfl ?_)))
 refine aQ rfl H (fun H=>?_) (fun H=>?_)
 ·refine aw 3 tk rfl ?_
  obtain rfl := az H
  refine ba tk rfl (ps := [(.val (.slice none 0 0)),(ac x43.2)]) ⟨_,_,rfl,rfl,_,_,rfl,rfl,rfl⟩ (PLe.of2 (lW.tup (gc.cons (lW.nil tk rfl) (gc.cons (lW.of_eq rfl) gc.nil))))
 refine ay (ae (ae (aa (ah tk rfl (aD tk (zl _) ?_)))))
 refine ah tk rfl (ab ?_)
 refine aQ rfl H (fun H=>?_) (fun H=>?_)
 ·refine aw 2 tk rfl ?_
  obtain rfl := az H
  refine ba tk rfl (ps := [(.val (.slice none 0 0)),(ac 2)]) ⟨_,_,rfl,rfl,_,_,rfl,rfl,rfl⟩ (PLe.of2 (lW.tup (gc.cons (lW.nil tk rfl) (gc.cons (lW.of_eq rfl) gc.nil))))
 refine ay (ae (ae (aa (ah tk rfl (aD tk (zl _) ?_)))))
 refine ah tk rfl (ab ?_)
 refine fw tk 54 53 52 (fun s2 g2=>upd (fun _=>.any) 11 (.list 52 (x43.1.map bd))) nB nO () H (fun fl2 Hp2 j2 s2 g2 hz2 hl2 x2 fb2 hx2 H hg2=>?_) (fun s2 g2 H=>?_)
 ·refine ae (aE (ae (aa (ah tk rfl ?_))))
  refine aX tk (zn j2) (bg (fun _=>rfl) hx2) ?_
  refine ah tk rfl ?_
  refine aC tk fun b14=>?_
  refine ah tk rfl (ao tk ?_)
  refine ab (ae (aa (af 2 tk rfl ?_)))
  obtain ⟨x61,h61,H⟩ := av H
  have k61 := lR h61
  refine rk tk rfl rfl rfl rfl rfl (zl _) rfl rfl k61.1 (ni k61.2) rfl (gn (Gh.freezeB 14 rfl rfl rfl rfl) (ah tk rfl ?_))
  obtain ⟨x63,h63,H⟩ := av H
  have s63 := iD x61 (fun a0=>some (bX a0 x2)) Tryz.call142 (fun a0 r h=>(az h) ▸ my a0 x2) _ h63
  refine aq Tryz.call141 (eX.r) s63 ?_
  refine ab ?_
  refine aQ rfl H (fun H=>?_) (fun H=>?_)
  ·refine aw 2 tk rfl ?_
   obtain rfl := az H
   have e2 : fl2 = .ret _ := hg2
   subst e2
   obtain rfl := bs Hp2
   refine ba tk rfl (ps := [(.val (.slice none 0 0)),(ac 23)]) ⟨_,_,rfl,rfl,_,_,rfl,rfl,rfl⟩ (PLe.of2 (lW.tup (gc.cons (lW.nil tk rfl) (gc.cons (lW.of_eq rfl) gc.nil))))
  refine ay (aW (bp 2 tk rfl ?_))
  exact bm () H hl2 hg2
 refine aw 3 tk rfl ?_
 exact bq tk H rfl
def dR : Nat → LChecker → LQuery → Option ((List LCol) × Int)
 | 0,_,_=>none
 | n + 1,v0,v1=>dQ (fun b0 b1=>dR n b0 b1) v0 v1
theorem mO  (n : Nat) : (∀ a0 a1 r,dR n a0 a1 = some r → aT Tryz.prog 97 [(.agg (dv a0)),(.agg (am a1))] (.tup [(.list 52 (r.1.map bd)),(ac r.2)])) := by
 induction n with
 | zero=>exact (by intros; rename_i h; exact absurd (show (none : Option _) = some _ from h) (by simp))
 | succ n ih =>
  exact (fun v0 v1 r h=>mQ (fun b0 b1=>dR n b0 b1) ih v0 v1  r h)
def eG (c : LChecker) (q : LQuery) : Option ((List LCol) × Int) := fA fun n=>dR n c q
theorem nA (c : LChecker) (q : LQuery) (r : (List LCol) × Int) (H : eG c q = some r) :
  aT Tryz.prog 97 [(.agg (dv c)),(.agg (am q))] (.tup [(.list 52 (r.1.map bd)),(ac r.2)]) := by
 obtain ⟨n,h⟩ := fv H
 exact (mO  n) c q r h
def fZ (sA : LSchema) (vars : List LCol) (q : LQuery) : Option ((List LCol) × Int) :=
 ag (
  ag (eC q) fun x12 =>
  cond (decide ((x12.length : Int) > (24 : Int)))
   (some true)
   (ag (jk q) fun x17 =>
   cond (decide (x17 > (12 : Int)))
    (some true)
    (ag (eO q) fun x22 =>
    some (decide (x22 > (20000 : Int)))))) fun (t1 : Bool) =>
 cond t1
  (some ([],2))
  (ag (eZ q) fun x27 =>
  cond (x27.2 != (0 : Int))
   (some ([],x27.2))
   (ag (eG (LChecker.mk sA vars) q) fun x38 =>
   some (x38.1,x38.2)))
theorem pF (sA : LSchema) (vars : List LCol) (q : LQuery) (r : (List LCol) × Int) (H : fZ sA vars q = some r) :
  aT Tryz.prog 60 [(.agg (aB sA)),(.list 52 (vars.map bd)),(.agg (am q))] (.tup [(.list 52 (r.1.map bd)),(ac r.2)]) := by
 unfold fZ at H
 refine PH.ax Tryz.func60 Tryz.ntmps60 ?_
 refine ae (aa (aG ?_))
 refine aG ?_
 refine af 2 tk rfl (ab (ae (ae ?_)))
 refine bZ (γ := Unit) (fun t1 g1=>⟨41,upd (upd (upd (upd (fun _=>.any) 24 (au t1)) 5 (.ptr (am q))) 3 (.ptr (aB sA))) 1 (.list 52 (vars.map bd)),fun _=>none,fun _=>none⟩) H (fun _ H=>?_) (fun t1 g1 H=>?_)
 ·refine aa (ah tk rfl ?_)
  obtain ⟨x12,h12,H⟩ := av H
  have s12 := im (m := 12) q _ h12
  refine aq Tryz.call8 (eX.r) (PFun.dJ s12) ?_
  refine aD tk (zl _) ?_
  refine af 2 tk rfl ?_
  refine aO rfl rfl rfl H (fun H=>?_) (fun H=>?_)
  ·refine af 9 tk rfl (ab ?_)
   refine aH _ () (az H) Gh.d
  refine ah tk rfl ?_
  obtain ⟨x17,h17,H⟩ := av H
  have s17 := W_query_depth q _ h17
  refine aq Tryz.call94 (eX.r) s17 ?_
  refine af 3 tk rfl ?_
  refine aO rfl rfl rfl H (fun H=>?_) (fun H=>?_)
  ·refine af 4 tk rfl (ab ?_)
   refine aH _ () (az H) Gh.d
  refine ah tk rfl ?_
  obtain ⟨x22,h22,H⟩ := av H
  have s22 := lJ q _ h22
  refine aq Tryz.call95 (eX.r) s22 ?_
  refine af 2 tk rfl (ab ?_)
  refine aH _ () (az H) Gh.d
 refine aQ rfl H (fun H=>?_) (fun H=>?_)
 ·refine aw 2 tk rfl ?_
  obtain rfl := az H
  refine ba tk rfl (ps := [(.val (.slice none 0 0)),(ac 2)]) ⟨_,_,rfl,rfl,_,_,rfl,rfl,rfl⟩ (PLe.of2 (lW.tup (gc.cons (lW.nil tk rfl) (gc.cons (lW.of_eq rfl) gc.nil))))
 refine ay (ae (ae (aa (ah tk rfl ?_))))
 obtain ⟨x27,h27,H⟩ := av H
 have s27 := nS q _ h27
 refine aq Tryz.call96 (eX.r) s27 ?_
 refine af 5 tk rfl (ab (aw 2 tk rfl ?_))
 refine aQ rfl H (fun H=>?_) (fun H=>?_)
 ·refine aw 3 tk rfl ?_
  obtain rfl := az H
  refine ba tk rfl (ps := [(.val (.slice none 0 0)),(ac x27.2)]) ⟨_,_,rfl,rfl,_,_,rfl,rfl,rfl⟩ (PLe.of2 (lW.tup (gc.cons (lW.nil tk rfl) (gc.cons (lW.of_eq rfl) gc.nil))))
 refine ay (ae (aa (af 3 tk rfl ?_)))
 refine aC tk fun b10=>?_
 refine ao tk ?_
 refine ab (ae (aa (al tk ?_)))
 refine ah tk rfl ?_
 obtain ⟨x38,h38,H⟩ := av H
 have s38 := nA (LChecker.mk sA vars) q _ h38
 refine aq Tryz.call97 (eX.r) s38 ?_
 refine af 4 tk rfl (ab ?_)
 exact bq tk H rfl
def bH (sA : LSchema) (q : LQuery) : Option ((List LCol) × Int) :=
 ag (fZ sA ([] : List LCol) q) fun x8 =>
 some (x8.1,x8.2)
theorem dC (sA : LSchema) (q : LQuery) (r : (List LCol) × Int) (H : bH sA q = some r) :
  aT Tryz.prog 24 [(.agg (aB sA)),(.agg (am q))] (.tup [(.list 52 (r.1.map bd)),(ac r.2)]) := by
 unfold bH at H
 refine PH.ax Tryz.func24 Tryz.ntmps24 ?_
 refine ae (aa (aG ?_))
 refine aG ?_
 refine af 2 tk rfl (ab (ae (aa (af 2 tk rfl ?_))))
 obtain ⟨x8,h8,H⟩ := av H
 have s8 := pF sA ([] : List LCol) q _ h8
 refine aq Tryz.call60 (eX.of2 (gc.cons (lW.of_eq rfl) (gc.cons (lW.nil tk rfl) (gc.cons (lW.of_eq rfl) gc.nil)))) s8 ?_
 refine af 4 tk rfl (ab ?_)
 exact bq tk H rfl
def gM (sA : LSchema) (q : LQuery) : Option (Bool) :=
 ag (
  ag (kp q 400) fun x8 =>
  cond (decide (x8 < (0 : Int)))
   (some true)
   (ag (gN sA) fun x12 =>
   some (x12 != (0 : Int)))) fun (t1 : Bool) =>
 cond t1
  (some false)
  (ag (bH sA q) fun x18 =>
  some (x18.2 == (0 : Int)))
theorem qu (sA : LSchema) (q : LQuery) (r : Bool) (H : gM sA q = some r) :
  aT Tryz.prog 6 [(.agg (aB sA)),(.agg (am q))] (au r) := by
 unfold gM at H
 refine PH.ax Tryz.func6 Tryz.ntmps6 ?_
 refine ae (aa (aG ?_))
 refine aG ?_
 refine ah tk rfl (ab (ae (ae ?_)))
 refine bZ (γ := Unit) (fun t1 g1=>⟨23,upd (upd (upd (fun _=>.any) 14 (au t1)) 3 (.ptr (am q))) 2 (.ptr (aB sA)),fun _=>none,fun _=>none⟩) H (fun _ H=>?_) (fun t1 g1 H=>?_)
 ·refine aa (ah tk rfl ?_)
  obtain ⟨x8,h8,H⟩ := av H
  have s8 := qV q 400 _ h8
  refine aq Tryz.call22 (eX.r) s8 ?_
  refine af 2 tk rfl ?_
  refine aO rfl rfl rfl H (fun H=>?_) (fun H=>?_)
  ·refine af 4 tk rfl (ab ?_)
   refine aH _ () (az H) Gh.d
  refine ah tk rfl ?_
  obtain ⟨x12,h12,H⟩ := av H
  have s12 := qw sA _ h12
  refine aq Tryz.call23 (eX.r) s12 ?_
  refine af 2 tk rfl (ab ?_)
  refine aH _ () (az H) Gh.d
 refine aQ rfl H (fun H=>?_) (fun H=>?_)
 ·refine aw 1 tk rfl ?_
  exact bq tk H rfl
 refine ay (ae (aa (af 2 tk rfl ?_)))
 obtain ⟨x18,h18,H⟩ := av H
 have s18 := dC sA q _ h18
 refine aq Tryz.call24 (eX.r) s18 ?_
 refine af 5 tk rfl (ab (aw 3 tk rfl ?_))
 exact bq tk H rfl
def bU (m : LRewriteRewriter) (q : LQuery) : Option ((List (List UInt8))) :=
 ag (bH m.s q) fun x14 =>
 ag (aJ (σ := List (List UInt8)) (ρ := Empty) (fun (_ : Nat) (x1 : LCol) (s1 : List (List UInt8)) =>
  ag (bY 16 s1 ([x1.name] : List (List UInt8))) fun (x27 : List (List UInt8)) =>
  some (.next x27)) 0 x14.1 []) fun fl1=>fl1.thenP fun (s1 : List (List UInt8)) =>
 some s1
theorem da (m : LRewriteRewriter) (q : LQuery) (r : (List (List UInt8))) (H : bU m q = some r) :
  aT Tryz.prog 72 [(.agg (fu m)),(.agg (am q))] (.list 9 (r.map aF)) := by
 unfold bU at H
 refine PH.ax Tryz.func72 Tryz.ntmps72 ?_
 refine ae (aa (aG ?_))
 refine aG ?_
 refine ah tk rfl (ab (ae (aa (af 3 tk rfl ?_))))
 obtain ⟨x14,h14,H⟩ := av H
 have s14 := dC m.s q _ h14
 refine aq Tryz.call24 (eX.r) s14 ?_
 refine af 5 tk rfl (ab (aw 1 tk rfl (ae (ae (aa (ah tk rfl (aD tk (zl _) ?_)))))))
 refine ah tk rfl (ab (iu tk 7 27 (e := 9) rfl rfl ?_))
 refine dh (γ := OwnRef) tk 19 18 17 (fun s1 g1=>upd (fun _=>.any) 7 (.own 27 g1 (s1.map aF).length)) nB (fun s1 g1=>upd (fun _=>none) 27 (some ⟨g1,9,(s1.map aF),true⟩)) (⟨none,0⟩) H (fun fl1 Hp1 j1 s1 g1 hz1 hl1 x1 fb1 hx1 H hg1=>?_) (fun s1 g1 H=>?_)
 ·refine ae (aE (ae (aa ?_)))
  refine aX tk (zn j1) (bg (fun _=>rfl) hx1) ?_
  refine ah tk rfl ?_
  refine aC tk fun b9=>?_
  refine ao tk ?_
  refine ab (aa (af 2 tk rfl (al tk ?_)))
  refine co tk (rows' := List.map aF ([x1.name] : List (List UInt8))) (dF.refl _) ?_
  obtain ⟨x27,h27,H⟩ := av H
  have k27 := bD h27
  refine bS (rows2' := List.map aF ([x1.name] : List (List UInt8))) (rows' := List.map aF x27) tk rfl rfl rfl rfl rfl rfl rfl rfl rfl rfl rfl rfl rfl (dF.refl _) (cf k27.1) (cg k27.2.1) (ce k27.2.2) fun g27=>?_
  refine ah tk rfl (ab (aW (bp 2 tk rfl ?_)))
  exact bm g27 H hl1 hg1
 refine aw 2 tk rfl (eh 4 rfl rfl rfl ?_)
 exact bq tk H rfl
def gH (sA : LSchema) (q : LQuery) : Option (Bool) :=
 ag (bH sA q) fun x10 =>
 some (x10.2 == (0 : Int))
theorem qX (sA : LSchema) (q : LQuery) (r : Bool) (H : gH sA q = some r) :
  aT Tryz.prog 29 [(.agg (aB sA)),(.agg (am q))] (au r) := by
 unfold gH at H
 refine PH.ax Tryz.func29 Tryz.ntmps29 ?_
 refine ae (aa (aG ?_))
 refine aG ?_
 refine ah tk rfl (ab (ae (aa (af 2 tk rfl ?_))))
 obtain ⟨x10,h10,H⟩ := av H
 have s10 := dC sA q _ h10
 refine aq Tryz.call24 (eX.r) s10 ?_
 refine af 5 tk rfl (ab (aw 3 tk rfl ?_))
 exact bq tk H rfl
end
end Go.Proofs.YtlojdffmcdaheaaGreatDoor
