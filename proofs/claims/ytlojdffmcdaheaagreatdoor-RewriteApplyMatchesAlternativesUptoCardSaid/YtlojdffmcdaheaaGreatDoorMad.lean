/- rewriteApplyMatchesAlternativesUpto_holds, part 4: the layer, the plain functions and what they compute; conditions as in the statement. -/
import Derived.Test.YtlojdffmcdaheaaGreatDoorMac
set_option maxHeartbeats 4000000
namespace Go.Proofs.YtlojdffmcdaheaaGreatDoor
noncomputable section
open Go Go.Ab
attribute [local irreducible] V Ao Do Gh Eff PH IntKind.wrap
set_option maxRecDepth 4000
def cw (sA : List LConstraint) (v : LConstraint) : Option (Int) :=
 ag (aI (σ := Unit) (ρ := (Int)) (fun (j1 : Nat) (x1 : LConstraint) (_ : Unit) =>
  cond (v.table == x1.table && (v.left == x1.left && (v.op == x1.op && (v.right == x1.right && ((v.value.kind == x1.value.kind && (v.value.int == x1.value.int && (v.value.text == x1.value.text && true))) && true)))))
   (some (.ret (j1 : Int)))
   (some (.next ()))) 0 sA ()) fun fl1=>fl1.thenR fun (_ : Unit) =>
 some (-1)
theorem iD (sA : List LConstraint) (v : LConstraint) (r : Int) (H : cw sA v = some r) :
  aU Tryz.prog 93 [(.list 118 (sA.map js)),(.agg (js v))] (ae r) := by
 unfold cw at H
 refine PH.ay Tryz.func93 Tryz.ntmps93 ?_
 refine ac (aa (aG ?_))
 refine ah tk rfl (ab (ac (ac (aa (ah tk rfl (aB tk (zl _) ?_))))))
 refine ah tk rfl (ab ?_)
 refine eQ tk 8 7 0 (fun s1 g1=>upd (fun _=>.any) 3 (.ptr (js v))) nB nO () H (fun fl1 Hp1 j1 s1 g1 hz1 hl1 x1 fb1 hx1 H hg1=>?_) (fun s1 g1 H=>?_)
 ·refine ac (aE (aw 2 tk rfl (ac (bt tk mok ⟨false,false,[]⟩ [0,1,2,3,4,5] rfl (by decide +kernel) rfl (bf 3 rfl ?_)))))
  refine bF (zn j1) (bj (fun _=>rfl) hx1) ?_
  refine bn rfl (rM (b := (v.table == x1.table && (v.left == x1.left && (v.op == x1.op && (v.right == x1.right && ((v.value.kind == x1.value.kind && (v.value.int == x1.value.int && (v.value.text == x1.value.text && true))) && true)))))) tk rfl rfl rfl rfl rfl Tryz.stoodInHeld118 Tryz.eqGuardType118 (eqf := [(9,0),(3,1),(9,2),(3,3),(58,4)]) (by simp [cv,Program.fieldsOf,Tryz.underlying118]) (by kernel_rfl) rfl rfl (bp ?_))
  refine aN rfl H (fun H=>?_) (fun H=>?_)
  ·refine aw 2 tk rfl ?_
   obtain rfl := az H
   have e1 : fl1 = .ret _ := hg1
   subst e1
   obtain rfl := bu Hp1
   refine bd tk rfl (ps := [(ae (j1 : Int))]) ⟨_,_,rfl,rfl,rfl⟩ (PLe.q rfl)
  refine ax (aW (br 2 tk rfl ?_))
  exact bq () H hl1 hg1
 refine aw 1 tk rfl ?_
 exact bi tk H rfl
def iq (rec8 : LQuery → Option ((List LQuery))) (q : LQuery) : Option ((List LQuery)) :=
 ag (aI (σ := List LQuery) (ρ := Empty) (fun (_ : Nat) (x1 : LQuery) (s1 : List LQuery) =>
  ag (rec8 x1) fun x17 =>
  ag (bS 160 s1 x17) fun (x18 : List LQuery) =>
  some (.next x18)) 0 q.inputs [q]) fun fl1=>fl1.thenP fun (s1 : List LQuery) =>
 some s1
theorem WO_query_Nodes {m : Nat} (rec8 : LQuery → Option ((List LQuery))) (hrec8 : ∀ m a0 r,rec8 a0 = some r → dY Tryz.prog 8 [(.agg (am a0))] (jq m 33 (r.map ap))) (q : LQuery) (r : (List LQuery)) (H : iq rec8 q = some r) :
  dY Tryz.prog 8 [(.agg (am q))] (jq m 33 (r.map ap)) := by
 unfold iq at H
 refine PH.ay Tryz.func8 Tryz.ntmps8 ?_
 refine ac (aa (aG ?_))
 refine ah tk rfl (ab (ac (aa (ah tk rfl ?_))))
 refine jA (rows' := List.map ap ([q] : List LQuery)) tk (congrArg (List.map List.length) (bN aH ([q] : List LQuery))).symm (gk.trans (b := (List.map am ([q] : List LQuery)).flatten) (gk.refl _) (gk.of_eq (congrArg List.flatten (bN aH ([q] : List LQuery))))) fun g7=>?_
 refine ah tk rfl (ab (ac (ac (aa (af 2 tk rfl (aB tk (zl _) ?_))))))
 refine ah tk rfl (ab ?_)
 refine db (γ := OwnRef) tk 11 10 9 (fun s1 g1=>upd (fun _=>.any) 3 (.own 7 g1 (s1.map ap).length)) nB (fun s1 g1=>upd (fun _=>none) 7 (some ⟨g1,33,(s1.map ap),true⟩)) g7 H (fun fl1 Hp1 j1 s1 g1 hz1 hl1 x1 fb1 hx1 H hg1=>?_) (fun s1 g1 H=>?_)
 ·refine ac (aE (ac (aa (aX tk (zn j1) (bj aH hx1) ?_))))
  refine ah tk rfl ?_
  refine aA tk fun b5=>?_
  refine ao tk ?_
  refine ab (aa (ah tk rfl (al tk ?_)))
  obtain ⟨x17,h17,H⟩ := av H
  have s17 := hrec8 17 x1 _ h17
  refine aq Tryz.call8 (eZ.r) (PFun.eE s17) ?_
  obtain ⟨x18,h18,H⟩ := av H
  have k18 := bE h18
  refine bO (rows2' := List.map ap x17) (rows' := List.map ap x18) tk rfl rfl rfl rfl rfl rfl rfl rfl rfl rfl rfl rfl rfl (dH.refl _) (ce k18.1) (cb k18.2.1) (ca k18.2.2) fun g18=>?_
  refine ah tk rfl (ab (aW (br 2 tk rfl ?_)))
  exact bq g18 H hl1 hg1
 refine aw 2 tk rfl ?_
 obtain rfl := az H
 refine im tk rfl
def ir : Nat → LQuery → Option ((List LQuery))
 | 0,_=>none
 | n + 1,v0=>iq (fun b0=>ir n b0) v0
theorem WF_query_Nodes  (n : Nat) : (∀ m a0 r,ir n a0 = some r → dY Tryz.prog 8 [(.agg (am a0))] (jq m 33 (r.map ap))) := by
 induction n with
 | zero=>exact (by intros; rename_i h; exact absurd (show (none : Option _) = some _ from h) (by simp))
 | succ n ih =>
  exact (fun m v0 r h=>WO_query_Nodes (m := m) (fun b0=>ir n b0) ih v0  r h)
def fU (q : LQuery) : Option ((List LQuery)) := fe fun n=>ir n q
theorem kh {m : Nat} (q : LQuery) (r : (List LQuery)) (H : fU q = some r) :
  dY Tryz.prog 8 [(.agg (am q))] (jq m 33 (r.map ap)) := by
 obtain ⟨n,h⟩ := et H
 exact (WF_query_Nodes  n) m q r h
def it (rec94 : LQuery → Option (Int)) (q : LQuery) : Option (Int) :=
 ag (aI (σ := Int) (ρ := Empty) (fun (_ : Nat) (x1 : LQuery) (s1 : Int) =>
  ag (rec94 x1) fun x15 =>
  some (.next (if x15 > s1 then x15 else s1))) 0 q.inputs 0) fun fl1=>fl1.thenP fun (s1 : Int) =>
 some (IntKind.i64.wrap (s1 + (1 : Int)))
theorem WO_query_depth (rec94 : LQuery → Option (Int)) (hrec94 : ∀ a0 r,rec94 a0 = some r → aU Tryz.prog 94 [(.agg (am a0))] (ae r)) (q : LQuery) (r : Int) (H : it rec94 q = some r) :
  aU Tryz.prog 94 [(.agg (am q))] (ae r) := by
 unfold it at H
 refine PH.ay Tryz.func94 Tryz.ntmps94 ?_
 refine ac (aa (aG ?_))
 refine ah tk rfl (ab (aw 1 tk rfl (ac (ac (aa (af 2 tk rfl (aB tk (zl _) ?_)))))))
 refine ah tk rfl (ab ?_)
 refine db tk 9 8 7 (fun s1 g1=>upd (fun _=>.any) 3 (ae s1)) nB nO () H (fun fl1 Hp1 j1 s1 g1 hz1 hl1 x1 fb1 hx1 H hg1=>?_) (fun s1 g1 H=>?_)
 ·refine ac (aE (ac (aa (aX tk (zn j1) (bj aH hx1) ?_))))
  refine ah tk rfl ?_
  refine aA tk fun b5=>?_
  refine ao tk ?_
  refine ab (aa (ah tk rfl (al tk ?_)))
  obtain ⟨x15,h15,H⟩ := av H
  have s15 := hrec94 x1 _ h15
  refine aq Tryz.call94 (eZ.r) s15 ?_
  refine af 2 tk rfl (ab (aW (br 2 tk rfl ?_)))
  exact bq () H hl1 hg1
 refine aw 3 tk rfl ?_
 exact bi tk H rfl
def io : Nat → LQuery → Option (Int)
 | 0,_=>none
 | n + 1,v0=>it (fun b0=>io n b0) v0
theorem WF_query_depth  (n : Nat) : (∀ a0 r,io n a0 = some r → aU Tryz.prog 94 [(.agg (am a0))] (ae r)) := by
 induction n with
 | zero=>exact (by intros; rename_i h; exact absurd (show (none : Option _) = some _ from h) (by simp))
 | succ n ih =>
  exact (fun v0 r h=>WO_query_depth (fun b0=>io n b0) ih v0  r h)
def jm (q : LQuery) : Option (Int) := fe fun n=>io n q
theorem W_query_depth (q : LQuery) (r : Int) (H : jm q = some r) :
  aU Tryz.prog 94 [(.agg (am q))] (ae r) := by
 obtain ⟨n,h⟩ := et H
 exact (WF_query_depth  n) q r h
def iQ (rec137 : LQuery → Option (Int × Int)) (q : LQuery) : Option (Int × Int) :=
 ag (aI (σ := Int × Int) (ρ := Empty) (fun (j1 : Nat) (x1 : LQuery) (s1 : Int × Int) =>
  ag (rec137 x1) fun x20 =>
  cond ((j1 : Int) == (0 : Int))
   (some (.next ((if (20001 : Int) < x20.1 then (20001 : Int) else x20.1),(if x20.2 > s1.2 then x20.2 else s1.2))))
   (cond (q.kind == (6 : Int))
    (some (.next ((if (20001 : Int) < (IntKind.i64.wrap (s1.1 + x20.1)) then (20001 : Int) else (IntKind.i64.wrap (s1.1 + x20.1))),(if x20.2 > s1.2 then x20.2 else s1.2))))
    (bs (
     cond (q.kind == (4 : Int))
      (true)
      ((q.kind == (5 : Int)))) fun (t4 : Bool) =>
    cond t4
     (some (.next ((if (20001 : Int) < (IntKind.i64.wrap (s1.1 * (if x20.1 > (1 : Int) then x20.1 else (1 : Int)))) then (20001 : Int) else (IntKind.i64.wrap (s1.1 * (if x20.1 > (1 : Int) then x20.1 else (1 : Int))))),(if x20.2 > s1.2 then x20.2 else s1.2))))
     (some (.next ((if (20001 : Int) < s1.1 then (20001 : Int) else s1.1),(if x20.2 > s1.2 then x20.2 else s1.2))))))) 0 q.inputs (0,0)) fun fl1=>fl1.thenP fun (s1 : Int × Int) =>
 cond (q.kind == (1 : Int))
  (some (24,(if (24 : Int) > s1.2 then (24 : Int) else s1.2)))
  (some (s1.1,(if s1.1 > s1.2 then s1.1 else s1.2)))
theorem WO_query_most (rec137 : LQuery → Option (Int × Int)) (hrec137 : ∀ a0 r,rec137 a0 = some r → aU Tryz.prog 137 [(.agg (am a0))] (.tup [(ae r.1),(ae r.2)])) (q : LQuery) (r : Int × Int) (H : iQ rec137 q = some r) :
  aU Tryz.prog 137 [(.agg (am q))] (.tup [(ae r.1),(ae r.2)]) := by
 unfold iQ at H
 refine PH.ay Tryz.func137 Tryz.ntmps137 ?_
 refine ac (aa (aG ?_))
 refine af 2 tk rfl (ab (aw 2 tk rfl (ac (ac (aa (af 2 tk rfl (aB tk (zl _) ?_)))))))
 refine ah tk rfl (ab ?_)
 refine db tk 13 12 11 (fun s1 g1=>upd (upd (upd (fun _=>.any) 5 (ae s1.2)) 4 (ae s1.1)) 1 (.ptr (am q))) nB nO () H (fun fl1 Hp1 j1 s1 g1 hz1 hl1 x1 fb1 hx1 H hg1=>?_) (fun s1 g1 H=>?_)
 ·refine ac (aE (ac (aa (ah tk rfl (aX tk (zn j1) (bj aH hx1) ?_)))))
  refine ah tk rfl ?_
  refine aA tk fun b7=>?_
  refine ah tk rfl (ao tk ?_)
  refine ab (ac (aa (al tk ?_)))
  obtain ⟨x20,h20,H⟩ := av H
  have s20 := hrec137 x1 _ h20
  refine aq Tryz.call137 (eZ.r) s20 ?_
  refine af 5 tk rfl (ab (aw 4 tk rfl (ac (aE (aw 3 tk rfl ?_)))))
  refine aN rfl H (fun H=>?_) (fun H=>?_)
  ·refine br 2 tk rfl (aW (br 3 tk rfl (aW (br 2 tk rfl ?_))))
   exact bq () H hl1 hg1
  refine aw 4 tk rfl ?_
  refine aN rfl H (fun H=>?_) (fun H=>?_)
  ·refine br 4 tk rfl (aW (br 3 tk rfl (aW (br 2 tk rfl ?_))))
   exact bq () H hl1 hg1
  refine ac ?_
  refine cm (γ := Unit) (fun t4 g4=>⟨60,upd (upd (upd (upd (upd (upd (upd (upd (fun _=>.any) 37 (au t4)) 13 (ae (j1 : Int))) 12 (ae (q.inputs.length : Int))) 11 (.list 33 (q.inputs.map ap))) 8 (ae x20.1)) 5 (ae (if x20.2 > s1.2 then x20.2 else s1.2))) 4 (ae s1.1)) 1 (.ptr (am q)),fun _=>none,fun _=>none⟩) H (fun _ H=>?_) (fun t4 g4 H=>?_)
  ·refine aa (af 4 tk rfl ?_)
   refine aL rfl rfl rfl H (fun H=>?_) (fun H=>?_)
   ·refine af 5 tk rfl (ab ?_)
    refine aJ _ () H Gh.d
   refine af 5 tk rfl (ab ?_)
   refine aJ _ () H Gh.d
  refine aN rfl H (fun H=>?_) (fun H=>?_)
  ·refine br 5 tk rfl (aW (br 3 tk rfl (aW (br 2 tk rfl ?_))))
   exact bq () H hl1 hg1
  refine ax (aW (br 3 tk rfl (aW (br 2 tk rfl ?_))))
  exact bq () H hl1 hg1
 refine ac (aw 3 tk rfl ?_)
 refine aN rfl H (fun H=>?_) (fun H=>?_)
 ·refine br 1 tk rfl (aw 6 tk rfl ?_)
  exact bi tk H rfl
 refine ax (aw 6 tk rfl ?_)
 exact bi tk H rfl
def iP : Nat → LQuery → Option (Int × Int)
 | 0,_=>none
 | n + 1,v0=>iQ (fun b0=>iP n b0) v0
theorem WF_query_most  (n : Nat) : (∀ a0 r,iP n a0 = some r → aU Tryz.prog 137 [(.agg (am a0))] (.tup [(ae r.1),(ae r.2)])) := by
 induction n with
 | zero=>exact (by intros; rename_i h; exact absurd (show (none : Option _) = some _ from h) (by simp))
 | succ n ih =>
  exact (fun v0 r h=>WO_query_most (fun b0=>iP n b0) ih v0  r h)
def kU (q : LQuery) : Option (Int × Int) := fe fun n=>iP n q
theorem W_query_most (q : LQuery) (r : Int × Int) (H : kU q = some r) :
  aU Tryz.prog 137 [(.agg (am q))] (.tup [(ae r.1),(ae r.2)]) := by
 obtain ⟨n,h⟩ := et H
 exact (WF_query_most  n) q r h
def fH (rec138 : LExpr → (List Int) → Bool → (List Bool) → Option ((List Int) × Bool × (List Bool))) (e : LExpr) (c0 : List Int) (c1 : Bool) (c2 : List Bool) : Option ((List Int) × Bool × (List Bool)) :=
 bs (
  cond (e.kind == (3 : Int))
   (cond (decide (e.index ≥ (0 : Int)))
    ((decide (e.index < (8 : Int))))
    (false))
   (false)) fun (t1 : Bool) =>
 ag (
  cond t1
   (ag (iF (σ := List Int) (ρ := Empty) (fun (s7 : List Int) =>
    cond (decide ((s7.length : Int) ≤ e.index))
     (ag (bS 8 s7 ([0] : List Int)) fun (x28 : List Int) =>
     some (.next x28))
     (some (.brk s7))) c0) fun fl7=>fl7.thenP fun (s7 : List Int) =>
   ag (
    cond c1
     (some true)
     (ag (arrI 8 c2 e.index) fun (x33 : Bool) =>
     cond x33
      (ag (aR s7 e.index) fun (x39 : Int) =>
      some (x39 != e.value.kind))
      (some false))) fun (t8 : Bool) =>
   ag (aR s7 e.index) fun (_ : Int) =>
   bs (s7.set e.index.toNat e.value.kind) fun (y9 : List Int) =>
   ag (arrI 8 c2 e.index) fun (_ : Bool) =>
   bs (c2.set e.index.toNat true) fun (y10 : List Bool) =>
   some (y9,t8,y10))
   (some (c0,c1,c2))) fun (t6 : List Int × Bool × List Bool) =>
 ag (aI (σ := List Int × Bool × List Bool) (ρ := Empty) (fun (_ : Nat) (x11 : LExpr) (s11 : List Int × Bool × List Bool) =>
  ag (rec138 x11 s11.1 s11.2.1 s11.2.2) fun x66 =>
  some (.next (x66.1,x66.2.1,x66.2.2))) 0 e.args (t6.1,t6.2.1,t6.2.2)) fun fl11=>fl11.thenP fun (s11 : List Int × Bool × List Bool) =>
 some (s11.1,s11.2.1,s11.2.2)
theorem mD (b_c0 : Nat) (g_c0 : OwnRef) (b_c1 : Nat) (b_c2 : Nat) (b_c3 : Nat) (rec138 : LExpr → (List Int) → Bool → (List Bool) → Option ((List Int) × Bool × (List Bool))) (hrec138 : ∀ bq0 gq0 bq1 bq2 bq3 a0 a1 a2 a3 r,rec138 a0 a1 a2 a3 = some r → PH Tryz.prog 138 [(.agg (bl a0)),(.box 1000 bq0 0),(.box 1001 bq1 0),(.box 1002 bq2 0),(.box 1003 bq3 0)] ⟨upd (upd (upd (upd (fun _=>none) 1003 (some ⟨bq3,[(.fn 138 [(.box 1000 bq0 0),(.box 1001 bq1 0),(.box 1002 bq2 0),(.box 1003 bq3 0)])]⟩)) 1002 (some ⟨bq2,(List.map au a3)⟩)) 1001 (some ⟨bq1,[(au a2)]⟩)) 1000 (some ⟨bq0,[(.own 1100 gq0 (a1.map bH).length)]⟩),upd (fun _=>none) 1100 (some ⟨gq0,3,(a1.map bH),true⟩)⟩ (fun u H=>∃ gz0,u = (.tup []) ∧ H = ⟨upd (upd (upd (upd (fun _=>none) 1003 (some ⟨bq3,[(.fn 138 [(.box 1000 bq0 0),(.box 1001 bq1 0),(.box 1002 bq2 0),(.box 1003 bq3 0)])]⟩)) 1002 (some ⟨bq2,(List.map au r.2.2)⟩)) 1001 (some ⟨bq1,[(au r.2.1)]⟩)) 1000 (some ⟨bq0,[(.own 1100 gz0 (r.1.map bH).length)]⟩),upd (fun _=>none) 1100 (some ⟨gz0,3,(r.1.map bH),true⟩)⟩)) (e : LExpr) (c0 : List Int) (c1 : Bool) (c2 : List Bool) (r : (List Int) × Bool × (List Bool)) (H : fH rec138 e c0 c1 c2 = some r) :
  PH Tryz.prog 138 [(.agg (bl e)),(.box 1000 b_c0 0),(.box 1001 b_c1 0),(.box 1002 b_c2 0),(.box 1003 b_c3 0)] ⟨upd (upd (upd (upd (fun _=>none) 1003 (some ⟨b_c3,[(.fn 138 [(.box 1000 b_c0 0),(.box 1001 b_c1 0),(.box 1002 b_c2 0),(.box 1003 b_c3 0)])]⟩)) 1002 (some ⟨b_c2,(List.map au c2)⟩)) 1001 (some ⟨b_c1,[(au c1)]⟩)) 1000 (some ⟨b_c0,[(.own 1100 g_c0 (c0.map bH).length)]⟩),upd (fun _=>none) 1100 (some ⟨g_c0,3,(c0.map bH),true⟩)⟩ (fun u H=>∃ gz0,u = (.tup []) ∧ H = ⟨upd (upd (upd (upd (fun _=>none) 1003 (some ⟨b_c3,[(.fn 138 [(.box 1000 b_c0 0),(.box 1001 b_c1 0),(.box 1002 b_c2 0),(.box 1003 b_c3 0)])]⟩)) 1002 (some ⟨b_c2,(List.map au r.2.2)⟩)) 1001 (some ⟨b_c1,[(au r.2.1)]⟩)) 1000 (some ⟨b_c0,[(.own 1100 gz0 (r.1.map bH).length)]⟩),upd (fun _=>none) 1100 (some ⟨gz0,3,(r.1.map bH),true⟩)⟩) := by
 unfold fH at H
 refine PH.ay Tryz.func138 Tryz.ntmps138 ?_
 refine ac (aa (aG ?_))
 refine ab (ac (ac ?_))
 refine cm (γ := Unit) (fun t1 g1=>⟨68,upd (upd (upd (upd (upd (upd (fun _=>.any) 20 (au t1)) 5 (.ptr (bl e))) 4 (.box 1003 b_c3 0)) 3 (.box 1002 b_c2 0)) 2 (.box 1001 b_c1 0)) 1 (.box 1000 b_c0 0),upd (upd (upd (upd (fun _=>none) 1003 (some ⟨b_c3,[(.fn 138 [(.box 1000 b_c0 0),(.box 1001 b_c1 0),(.box 1002 b_c2 0),(.box 1003 b_c3 0)])]⟩)) 1002 (some ⟨b_c2,(List.map au c2)⟩)) 1001 (some ⟨b_c1,[(au c1)]⟩)) 1000 (some ⟨b_c0,[(.own 1100 g_c0 (c0.map bH).length)]⟩),upd (fun _=>none) 1100 (some ⟨g_c0,3,(c0.map bH),true⟩)⟩) H (fun _ H=>?_) (fun t1 g1 H=>?_)
 ·refine aa (af 4 tk rfl ?_)
  refine aL rfl rfl rfl H (fun H=>?_) (fun H=>?_)
  ·refine af 5 tk rfl ?_
   refine aL rfl rfl rfl H (fun H=>?_) (fun H=>?_)
   ·refine af 4 tk rfl (ab ?_)
    refine aJ _ () H Gh.d
   refine af 4 tk rfl (ab ?_)
   refine aJ _ () H Gh.d
  refine af 9 tk rfl (ab ?_)
  refine aJ _ () H Gh.d
 refine ci (γ := OwnRef) (fun t6 g6=>⟨68,upd (upd (upd (upd (upd (fun _=>.any) 5 (.ptr (bl e))) 4 (.box 1003 b_c3 0)) 3 (.box 1002 b_c2 0)) 2 (.box 1001 b_c1 0)) 1 (.box 1000 b_c0 0),upd (upd (upd (upd (fun _=>none) 1003 (some ⟨b_c3,[(.fn 138 [(.box 1000 b_c0 0),(.box 1001 b_c1 0),(.box 1002 b_c2 0),(.box 1003 b_c3 0)])]⟩)) 1002 (some ⟨b_c2,(List.map au t6.2.2)⟩)) 1001 (some ⟨b_c1,[(au t6.2.1)]⟩)) 1000 (some ⟨b_c0,[(.own 1100 g6 (t6.1.map bH).length)]⟩),upd (fun _=>none) 1100 (some ⟨g6,3,(t6.1.map bH),true⟩)⟩) H (fun _ H=>?_) (fun t6 g6 H=>?_)
 ·refine aN rfl H (fun H=>?_) (fun H=>?_)
  ·refine ac ?_
   obtain ⟨fl7,H7,Hp7⟩ := av H
   refine ke (τ := List Int) (γ := OwnRef) (fun s7 g7=>⟨68,upd (upd (upd (upd (upd (fun _=>.any) 5 (.ptr (bl e))) 4 (.box 1003 b_c3 0)) 3 (.box 1002 b_c2 0)) 2 (.box 1001 b_c1 0)) 1 (.box 1000 b_c0 0),upd (upd (upd (upd (fun _=>none) 1003 (some ⟨b_c3,[(.fn 138 [(.box 1000 b_c0 0),(.box 1001 b_c1 0),(.box 1002 b_c2 0),(.box 1003 b_c3 0)])]⟩)) 1002 (some ⟨b_c2,(List.map au c2)⟩)) 1001 (some ⟨b_c1,[(au c1)]⟩)) 1000 (some ⟨b_c0,[(.own 1100 g7 (s7.map bH).length)]⟩),upd (fun _=>none) 1100 (some ⟨g7,3,(s7.map bH),true⟩)⟩) (fun t=>fl7 = .next t) ?_ (fun s7 g7 hn7=>?_)
   ·refine aE ?_
    refine qW (fun s7 g7=>⟨68,upd (upd (upd (upd (upd (fun _=>.any) 5 (.ptr (bl e))) 4 (.box 1003 b_c3 0)) 3 (.box 1002 b_c2 0)) 2 (.box 1001 b_c1 0)) 1 (.box 1000 b_c0 0),upd (upd (upd (upd (fun _=>none) 1003 (some ⟨b_c3,[(.fn 138 [(.box 1000 b_c0 0),(.box 1001 b_c1 0),(.box 1002 b_c2 0),(.box 1003 b_c3 0)])]⟩)) 1002 (some ⟨b_c2,(List.map au c2)⟩)) 1001 (some ⟨b_c1,[(au c1)]⟩)) 1000 (some ⟨b_c0,[(.own 1100 g7 (s7.map bH).length)]⟩),upd (fun _=>none) 1100 (some ⟨g7,3,(s7.map bH),true⟩)⟩) g_c0 H7 Gh.d (fun m7 s7 g7 hr7=>?_)
    obtain ⟨fb7,H,hg7⟩ := oV hr7
    refine ac (ac (aa (al tk ?_)))
    refine iI tk (zl _) ?_
    refine af 3 tk rfl (ab ?_)
    refine aN rfl H (fun H=>?_) (fun H=>?_)
    ·refine ax (aE (aa (al tk ?_)))
     refine cj tk (rows' := List.map bH ([0] : List Int)) (dH.refl _) ?_
     obtain ⟨x28,h28,H⟩ := av H
     have k28 := bE h28
     refine bO (rows2' := List.map bH ([0] : List Int)) (rows' := List.map bH x28) tk rfl rfl rfl rfl rfl rfl rfl rfl rfl rfl rfl rfl rfl (dH.refl _) (ce k28.1) (cb k28.2.1) (ca k28.2.2) fun g28=>?_
     refine ao tk ?_
     refine ab (aW ?_)
     obtain rfl := az H
     refine kt x28 g28 hg7 Gh.d
    refine cW rfl ?_
    obtain rfl := az H
    refine aJ s7 g7 hg7 Gh.d
   have H := jM hn7 Hp7
   refine ac ?_
   refine ci (γ := Unit) (fun t8 g8=>⟨68,upd (upd (upd (upd (upd (fun _=>.any) 5 (.ptr (bl e))) 4 (.box 1003 b_c3 0)) 3 (.box 1002 b_c2 0)) 2 (.box 1001 b_c1 0)) 1 (.box 1000 b_c0 0),upd (upd (upd (upd (fun _=>none) 1003 (some ⟨b_c3,[(.fn 138 [(.box 1000 b_c0 0),(.box 1001 b_c1 0),(.box 1002 b_c2 0),(.box 1003 b_c3 0)])]⟩)) 1002 (some ⟨b_c2,(List.map au c2)⟩)) 1001 (some ⟨b_c1,[(au t8)]⟩)) 1000 (some ⟨b_c0,[(.own 1100 g7 (s7.map bH).length)]⟩),upd (fun _=>none) 1100 (some ⟨g7,3,(s7.map bH),true⟩)⟩) H (fun _ H=>?_) (fun t8 g8 H=>?_)
   ·refine gp (tag := 1100) rfl (fun ho1100=>?_)
    refine bt tk mok ⟨true,true,[32,38,43]⟩ [0,1,2,3,4,5,6,7,8,9,10,11,12,13,14,15,16,17,18] rfl (by decide +kernel) rfl (aY ?_)
    refine bn rfl ?_
    refine rd rfl rfl rfl rfl H (fun H=>?_) (fun H=>?_)
    ·refine bf 16 rfl (bm ?_)
     refine bp ?_
     refine aJ _ () (az H) Gh.d
    refine bf 2 rfl ?_
    obtain ⟨x33,h33,H⟩ := av H
    have k33 := arrI_some h33
    refine rF rfl rfl rfl rfl rfl rfl rfl rfl rfl k33.1 rfl ?_
    refine rT rfl rfl rfl rfl rfl rfl rfl rfl (by rw [List.getElem?_map,k33.2]; rfl) rfl ?_
    refine bn rfl ?_
    refine rd rfl rfl rfl rfl H (fun H=>?_) (fun H=>?_)
    ·refine aY ?_
     refine bf 2 rfl ?_
     obtain ⟨x39,k39,H⟩ := bB H
     refine ej tk ⟨k39.1,(dZ k39.2)⟩ (ed ho1100 k39.2) ?_
     refine iE tk (aV (fun _=>rfl) k39.2) ?_
     refine bf 6 rfl (bm ?_)
     refine bp ?_
     refine aJ _ () (az H) Gh.d
    refine bf 11 rfl (bm ?_)
    refine bp ?_
    refine aJ _ () (az H) Gh.d
   refine gp (tag := 1100) rfl (fun ho1100=>?_)
   refine bt tk mok ⟨true,false,[49,51,54]⟩ [0,1,2,3,4,5,6,7,8,9,10,11] rfl (by decide +kernel) rfl (aY ?_)
   refine bf 7 rfl ?_
   obtain ⟨x55,k55,H⟩ := bB H
   refine ej tk ⟨k55.1,(dZ k55.2)⟩ (ed ho1100 k55.2) ?_
   obtain ⟨y9,hy9,H⟩ := dg H
   refine gV tk rfl rfl rfl rfl rfl rfl rfl rfl rfl (by rw [zl]; exact (zg.1 k55.2).1) (PLe.refl _ _) rfl rfl rfl rfl (by decide) (fm (fun _=>rfl) k55.2 rfl hy9) ?_
   obtain ⟨x56,h56,H⟩ := av H
   have k56 := arrI_some h56
   refine rF rfl rfl rfl rfl rfl rfl rfl rfl rfl k56.1 rfl ?_
   obtain ⟨y10,hy10,H⟩ := dg H
   refine rO rfl rfl rfl rfl rfl rfl rfl rfl rfl rfl (by rw [zl]; exact (zg.1 k56.2).1) (splice_map au _ _ _ (zg.1 k56.2).1 hy10) ?_
   refine bp ?_
   refine aJ _ g7 (az H) (Gh.le (aM (aM (aM (aM (aM bU))))) (aO rfl (eZ.of2 (gk.cons (lW.of_eq (congrArg (PV.own 1100 g7) (gK (f := bH) hy9))) gk.nil)) (aO rfl (eZ.r) (aO rfl (eZ.r) (aO rfl (eZ.r) bw)))) (da bA))
  refine ax ?_
  refine aJ _ g_c0 (az H) Gh.d
 refine ac (aa (af 2 tk rfl (aB tk (zl _) ?_)))
 refine ah tk rfl (ab ?_)
 refine db (γ := OwnRef) tk 60 59 58 (fun s11 g11=>upd (upd (upd (upd (fun _=>.any) 4 (.box 1003 b_c3 0)) 3 (.box 1002 b_c2 0)) 2 (.box 1001 b_c1 0)) 1 (.box 1000 b_c0 0)) (fun s11 g11=>upd (upd (upd (upd (fun _=>none) 1003 (some ⟨b_c3,[(.fn 138 [(.box 1000 b_c0 0),(.box 1001 b_c1 0),(.box 1002 b_c2 0),(.box 1003 b_c3 0)])]⟩)) 1002 (some ⟨b_c2,(List.map au s11.2.2)⟩)) 1001 (some ⟨b_c1,[(au s11.2.1)]⟩)) 1000 (some ⟨b_c0,[(.own 1100 g11 (s11.1.map bH).length)]⟩)) (fun s11 g11=>upd (fun _=>none) 1100 (some ⟨g11,3,(s11.1.map bH),true⟩)) g6 H (fun fl11 Hp11 j11 s11 g11 hz11 hl11 x11 fb11 hx11 H hg11=>?_) (fun s11 g11 H=>?_)
 ·refine ac (aE (ac (aa (aX tk (zn j11) (bj aS hx11) ?_))))
  refine ah tk rfl ?_
  refine aA tk fun b7=>?_
  refine ao tk ?_
  refine ab (aa (al tk ?_))
  refine al tk ?_
  obtain ⟨x66,h66,H⟩ := av H
  have s66 := hrec138 b_c0 g11 b_c1 b_c2 b_c3 x11 s11.1 s11.2.1 s11.2.2 _ h66
  refine gI (st' := ⟨_,_,upd (upd (upd (upd (upd (fun _=>none) 1003 (some ⟨b_c3,[(.fn 138 [(.box 1000 b_c0 0),(.box 1001 b_c1 0),(.box 1002 b_c2 0),(.box 1003 b_c3 0)])]⟩)) 1002 (some ⟨b_c2,(List.map au s11.2.2)⟩)) 1001 (some ⟨b_c1,[(au s11.2.1)]⟩)) 1000 (some ⟨b_c0,[(.own 1100 g11 (s11.1.map bH).length)]⟩)) 7 (some ⟨b7,(bl x11)⟩),upd (fun _=>none) 1100 (some ⟨g11,3,(s11.1.map bH),true⟩)⟩) (Gh.le (fF _ _) (aO rfl (eZ.r) (aO rfl (eZ.of2 (gk.cons (lW.own rfl) gk.nil)) (aO rfl (eZ.r) (aO rfl (eZ.r) (aO rfl (eZ.of2 (gk.cons (lW.fn (gk.cons lW.boxT (gk.cons lW.boxT (gk.cons lW.boxT (gk.cons lW.boxT gk.nil))))) gk.nil)) bw))))) (da bA)) ?_
  refine hM (g := 138) rfl rfl rfl Tryz.call138 [(1000,1000),(1001,1001),(1002,1002),(1003,1003)] [(1100,1100)] rfl rfl rfl rfl (eZ.of2 (gk.cons (lW.of_eq rfl) (gk.cons lW.boxT (gk.cons lW.boxT (gk.cons lW.boxT (gk.cons lW.boxT gk.nil)))))) (by rw [fh,fh,fh,fh,gD,fI,gC]; rfl) s66 ?_
  rintro u66 H66h ⟨gz66_0,rfl,rfl⟩
  refine ⟨_,rfl,?_⟩
  refine gI (st' := ⟨_,_,upd (upd (upd (upd (upd (fun _=>none) 1003 (some ⟨b_c3,[(.fn 138 [(.box 1000 b_c0 0),(.box 1001 b_c1 0),(.box 1002 b_c2 0),(.box 1003 b_c3 0)])]⟩)) 1002 (some ⟨b_c2,(List.map au x66.2.2)⟩)) 1001 (some ⟨b_c1,[(au x66.2.1)]⟩)) 1000 (some ⟨b_c0,[(.own 1100 gz66_0 (x66.1.map bH).length)]⟩)) 7 (some ⟨b7,(bl x11)⟩),upd (fun _=>none) 1100 (some ⟨gz66_0,3,(x66.1.map bH),true⟩)⟩) (Gh.le (fF _ _) (aO rfl (eZ.r) (aO rfl (eZ.of2 (gk.cons (lW.own rfl) gk.nil)) (aO rfl (eZ.r) (aO rfl (eZ.r) (aO rfl (eZ.of2 (gk.cons (lW.fn (gk.cons lW.boxT (gk.cons lW.boxT (gk.cons lW.boxT (gk.cons lW.boxT gk.nil))))) gk.nil)) bw))))) (da bA)) ?_
  refine ab (aW (br 2 tk rfl ?_))
  exact bq gz66_0 H hl11 hg11
 obtain rfl := az H
 refine lA (st' := ⟨68,fun _=>.any,upd (upd (upd (upd (fun _=>none) 1003 (some ⟨b_c3,[(.fn 138 [(.box 1000 b_c0 0),(.box 1001 b_c1 0),(.box 1002 b_c2 0),(.box 1003 b_c3 0)])]⟩)) 1002 (some ⟨b_c2,(List.map au s11.2.2)⟩)) 1001 (some ⟨b_c1,[(au s11.2.1)]⟩)) 1000 (some ⟨b_c0,[(.own 1100 g11 (s11.1.map bH).length)]⟩),upd (fun _=>none) 1100 (some ⟨g11,3,(s11.1.map bH),true⟩)⟩) (Gh.le bU (aO rfl (eZ.of2 (gk.cons (lW.own rfl) gk.nil)) (aO rfl (eZ.r) (aO rfl (eZ.r) (aO rfl (eZ.r) bw)))) (da bA)) ?_
 refine V.endH rfl (PLe.q rfl) ⟨_,rfl,rfl⟩
def cD : Nat → LExpr → (List Int) → Bool → (List Bool) → Option ((List Int) × Bool × (List Bool))
 | 0,_,_,_,_=>none
 | n + 1,v0,v1,v2,v3=>fH (fun b0 b1 b2 b3=>cD n b0 b1 b2 b3) v0 v1 v2 v3
theorem mF  (n : Nat) : (∀ bq0 gq0 bq1 bq2 bq3 a0 a1 a2 a3 r,cD n a0 a1 a2 a3 = some r → PH Tryz.prog 138 [(.agg (bl a0)),(.box 1000 bq0 0),(.box 1001 bq1 0),(.box 1002 bq2 0),(.box 1003 bq3 0)] ⟨upd (upd (upd (upd (fun _=>none) 1003 (some ⟨bq3,[(.fn 138 [(.box 1000 bq0 0),(.box 1001 bq1 0),(.box 1002 bq2 0),(.box 1003 bq3 0)])]⟩)) 1002 (some ⟨bq2,(List.map au a3)⟩)) 1001 (some ⟨bq1,[(au a2)]⟩)) 1000 (some ⟨bq0,[(.own 1100 gq0 (a1.map bH).length)]⟩),upd (fun _=>none) 1100 (some ⟨gq0,3,(a1.map bH),true⟩)⟩ (fun u H=>∃ gz0,u = (.tup []) ∧ H = ⟨upd (upd (upd (upd (fun _=>none) 1003 (some ⟨bq3,[(.fn 138 [(.box 1000 bq0 0),(.box 1001 bq1 0),(.box 1002 bq2 0),(.box 1003 bq3 0)])]⟩)) 1002 (some ⟨bq2,(List.map au r.2.2)⟩)) 1001 (some ⟨bq1,[(au r.2.1)]⟩)) 1000 (some ⟨bq0,[(.own 1100 gz0 (r.1.map bH).length)]⟩),upd (fun _=>none) 1100 (some ⟨gz0,3,(r.1.map bH),true⟩)⟩)) := by
 induction n with
 | zero=>exact (by intros; rename_i h; exact absurd (show (none : Option _) = some _ from h) (by simp))
 | succ n ih =>
  exact (fun bq0 gq0 bq1 bq2 bq3 v0 v1 v2 v3 r h=>mD bq0 gq0 bq1 bq2 bq3 (fun b0 b1 b2 b3=>cD n b0 b1 b2 b3) ih v0 v1 v2 v3  r h)
def ez (e : LExpr) (c0 : List Int) (c1 : Bool) (c2 : List Bool) : Option ((List Int) × Bool × (List Bool)) := fe fun n=>cD n e c0 c1 c2
theorem jG (b_c0 : Nat) (g_c0 : OwnRef) (b_c1 : Nat) (b_c2 : Nat) (b_c3 : Nat) (e : LExpr) (c0 : List Int) (c1 : Bool) (c2 : List Bool) (r : (List Int) × Bool × (List Bool)) (H : ez e c0 c1 c2 = some r) :
  PH Tryz.prog 138 [(.agg (bl e)),(.box 1000 b_c0 0),(.box 1001 b_c1 0),(.box 1002 b_c2 0),(.box 1003 b_c3 0)] ⟨upd (upd (upd (upd (fun _=>none) 1003 (some ⟨b_c3,[(.fn 138 [(.box 1000 b_c0 0),(.box 1001 b_c1 0),(.box 1002 b_c2 0),(.box 1003 b_c3 0)])]⟩)) 1002 (some ⟨b_c2,(List.map au c2)⟩)) 1001 (some ⟨b_c1,[(au c1)]⟩)) 1000 (some ⟨b_c0,[(.own 1100 g_c0 (c0.map bH).length)]⟩),upd (fun _=>none) 1100 (some ⟨g_c0,3,(c0.map bH),true⟩)⟩ (fun u H=>∃ gz0,u = (.tup []) ∧ H = ⟨upd (upd (upd (upd (fun _=>none) 1003 (some ⟨b_c3,[(.fn 138 [(.box 1000 b_c0 0),(.box 1001 b_c1 0),(.box 1002 b_c2 0),(.box 1003 b_c3 0)])]⟩)) 1002 (some ⟨b_c2,(List.map au r.2.2)⟩)) 1001 (some ⟨b_c1,[(au r.2.1)]⟩)) 1000 (some ⟨b_c0,[(.own 1100 gz0 (r.1.map bH).length)]⟩),upd (fun _=>none) 1100 (some ⟨gz0,3,(r.1.map bH),true⟩)⟩) := by
 obtain ⟨n,h⟩ := et H
 exact (mF  n) b_c0 g_c0 b_c1 b_c2 b_c3 e c0 c1 c2 r h
def fY (sA : List Int) (v : Int) : Option (Int) :=
 ag (aI (σ := Unit) (ρ := (Int)) (fun (j1 : Nat) (x1 : Int) (_ : Unit) =>
  cond (v == x1)
   (some (.ret (j1 : Int)))
   (some (.next ()))) 0 sA ()) fun fl1=>fl1.thenR fun (_ : Unit) =>
 some (-1)
theorem nu (sA : List Int) (v : Int) (r : Int) (H : fY sA v = some r) :
  aU Tryz.prog 195 [(.list 3 (sA.map bH)),(ae v)] (ae r) := by
 unfold fY at H
 refine PH.ay Tryz.func195 Tryz.ntmps195 ?_
 refine aw 1 tk rfl (ac (ac (aa (ah tk rfl (aB tk (zl _) ?_)))))
 refine ah tk rfl (ab ?_)
 refine eQ tk 8 7 0 (fun s1 g1=>upd (fun _=>.any) 1 (ae v)) nB nO () H (fun fl1 Hp1 j1 s1 g1 hz1 hl1 x1 fb1 hx1 H hg1=>?_) (fun s1 g1 H=>?_)
 ·refine ac (aE (aw 2 tk rfl (ac (aa (af 3 tk rfl ?_)))))
  refine aX tk (zn j1) (bj (fun _=>rfl) hx1) ?_
  refine af 2 tk rfl (ab ?_)
  refine aN rfl H (fun H=>?_) (fun H=>?_)
  ·refine aw 2 tk rfl ?_
   obtain rfl := az H
   have e1 : fl1 = .ret _ := hg1
   subst e1
   obtain rfl := bu Hp1
   refine bd tk rfl (ps := [(ae (j1 : Int))]) ⟨_,_,rfl,rfl,rfl⟩ (PLe.q rfl)
  refine ax (aW (br 2 tk rfl ?_))
  exact bq () H hl1 hg1
 refine aw 1 tk rfl ?_
 exact bi tk H rfl
def dI (t : LTable) (c0 : LQuery) : Bool :=
 (t.name == c0.table)
theorem oD (t : LTable) (c0 : LQuery) :
  aU Tryz.prog 173 [(.agg (cU t)),(.ptr (am c0))] (au (dI t c0)) := by
 obtain ⟨r,H⟩ : ∃ r,dI t c0 = r := ⟨_,rfl⟩
 rw [H]
 unfold dI at H
 refine PH.ay Tryz.func173 Tryz.ntmps173 ?_
 refine ac (aa (aG ?_))
 refine ah tk rfl (ab (aw 6 tk rfl ?_))
 exact dB tk H rfl
theorem pV {m : Nat} (xs : List LCol) : dY Tryz.prog 158 [.list 52 (xs.map bh)] (jq m 52 (xs.map bh)) := by
 refine PH.ay Tryz.func158 Tryz.ntmps158 ?_
 refine jj tk 0 rfl rfl (fun hz hb=>?_)
 refine aw 1 tk rfl (ac (ac (aa (ah tk rfl ?_))))
 refine qT tk rfl rfl rfl rfl rfl rfl rfl (fun b hn=>?_)
 refine ab ?_
 refine cK rfl (fun h=>?_) (fun h=>?_)
 ·refine aw 1 tk rfl (gQ tk 2 902 (e := 52) rfl rfl ?_)
  refine im tk (hn h).symm
 ·refine ax (ac (aa ?_))
  refine jA (rows' := []) tk rfl (gk.refl _) fun g=>?_
  refine ah tk rfl ?_
  refine bO (rows2' := xs.map bh) (rows' := xs.map bh) tk rfl rfl rfl rfl rfl rfl rfl rfl rfl rfl rfl rfl rfl (dH.refl _) (by simpa using hb) (by simpa using hz) rfl fun g'=>?_
  refine ah tk rfl (ab ?_)
  refine im tk rfl
def bQ (sA : List (List UInt8)) (v : List UInt8) : Option (Int) :=
 ag (aI (σ := Unit) (ρ := (Int)) (fun (j1 : Nat) (x1 : List UInt8) (_ : Unit) =>
  cond (v == x1)
   (some (.ret (j1 : Int)))
   (some (.next ()))) 0 sA ()) fun fl1=>fl1.thenR fun (_ : Unit) =>
 some (-1)
theorem iJ (sA : List (List UInt8)) (v : List UInt8) (r : Int) (H : bQ sA v = some r) :
  aU Tryz.prog 99 [(.list 9 (sA.map aF)),(.str v)] (ae r) := by
 unfold bQ at H
 refine PH.ay Tryz.func99 Tryz.ntmps99 ?_
 refine aw 1 tk rfl (ac (ac (aa (ah tk rfl (aB tk (zl _) ?_)))))
 refine ah tk rfl (ab ?_)
 refine eQ tk 8 7 0 (fun s1 g1=>upd (fun _=>.any) 1 (.str v)) nB nO () H (fun fl1 Hp1 j1 s1 g1 hz1 hl1 x1 fb1 hx1 H hg1=>?_) (fun s1 g1 H=>?_)
 ·refine ac (aE (aw 2 tk rfl (ac (aa (af 3 tk rfl ?_)))))
  refine aX tk (zn j1) (bj (fun _=>rfl) hx1) ?_
  refine af 2 tk rfl (ab ?_)
  refine aN rfl H (fun H=>?_) (fun H=>?_)
  ·refine aw 2 tk rfl ?_
   obtain rfl := az H
   have e1 : fl1 = .ret _ := hg1
   subst e1
   obtain rfl := bu Hp1
   refine bd tk rfl (ps := [(ae (j1 : Int))]) ⟨_,_,rfl,rfl,rfl⟩ (PLe.q rfl)
  refine ax (aW (br 2 tk rfl ?_))
  exact bq () H hl1 hg1
 refine aw 1 tk rfl ?_
 exact bi tk H rfl
def cY (sA : List (List UInt8)) (v : List UInt8) : Option (Int × (List (List UInt8))) :=
 ag (np (sA.length : Int)) fun (n1 : Nat) =>
 ag (aI (σ := List (List UInt8)) (ρ := (Int × (List (List UInt8)))) (fun (j1 : Nat) (_ : Nat) (s1 : List (List UInt8)) =>
  ag (aR s1 (j1 : Int)) fun (x14 : List UInt8) =>
  cond (v == x14)
   (some (.ret ((j1 : Int),s1)))
   (some (.next s1))) 0 (List.range n1) sA) fun fl1=>fl1.thenR fun (s1 : List (List UInt8)) =>
 some ((-1),s1)
theorem kE (g_sA : OwnRef) (sA : List (List UInt8)) (v : List UInt8) (r : Int × (List (List UInt8))) (H : cY sA v = some r) :
  PH Tryz.prog 99 [(.own 0 g_sA (sA.map aF).length),(.str v)] ⟨fun _=>none,upd (fun _=>none) 0 (some ⟨g_sA,9,(sA.map aF),true⟩)⟩ (fun u H=>u = (ae r.1) ∧ H = ⟨fun _=>none,upd (fun _=>none) 0 (some ⟨g_sA,9,(r.2.map aF),true⟩)⟩) := by
 unfold cY at H
 refine PH.ay Tryz.func99 Tryz.ntmps99 ?_
 refine aw 1 tk rfl (ac (ac (aa (ah tk rfl (iI tk (zl _) ?_)))))
 refine ah tk rfl (ab ?_)
 obtain ⟨n1,hs1,H⟩ := av H
 have hz1 := nY hs1
 obtain ⟨fl1,H1,Hp1⟩ := av H
 refine ke (τ := List (List UInt8)) (γ := Unit) (fun s1 g1=>⟨19,upd (fun _=>.any) 0 (.own 0 g_sA (s1.map aF).length),fun _=>none,upd (fun _=>none) 0 (some ⟨g_sA,9,(s1.map aF),true⟩)⟩) (fun t=>fl1 = .next t) ?_ (fun s1 g1 hn1=>?_)
 ·refine aE ?_
  refine lk (fun j1 s1 g1=>⟨19,upd (upd (upd (upd (fun _=>.any) 8 (ae (j1 : Int))) 7 (ae (sA.length : Int))) 1 (.str v)) 0 (.own 0 g_sA (s1.map aF).length),fun _=>none,upd (fun _=>none) 0 (some ⟨g_sA,9,(s1.map aF),true⟩)⟩) () H1 Gh.d (fun j1 s1 g1 hj1 hr1=>?_)
  refine aw 1 tk rfl (ac ?_)
  refine cK rfl (fun h=>?_) (fun h=>?_)
  ·have hl1 := natLt hz1 h
   obtain ⟨x1,fb1,hx1,H,hg1⟩ := rMc hl1 hr1
   obtain rfl := natX hx1
   refine ax (ac (aE (aw 2 tk rfl (ac (aa (af 3 tk rfl ?_))))))
   obtain ⟨x14,k14,H⟩ := bB H
   refine ll (tag := 0) rfl (fun ho0=>?_)
   refine lm tk rfl rfl rfl rfl rfl rfl rfl ⟨k14.1,(dZ k14.2)⟩ (ed ho0 k14.2) rfl ?_
   refine oL tk rfl rfl rfl rfl rfl rfl rfl (aV (fun _=>rfl) k14.2) rfl rfl ?_
   refine ah tk rfl (ab ?_)
   refine aN rfl H (fun H=>?_) (fun H=>?_)
   ·refine aw 2 tk rfl ?_
    obtain rfl := az H
    have e1 : fl1 = .ret _ := hg1
    subst e1
    obtain rfl := bu Hp1
    refine lA (st' := ⟨19,upd (fun _=>.any) 4 (ae (j1 : Int)),fun _=>none,upd (fun _=>none) 0 (some ⟨g_sA,9,(s1.map aF),true⟩)⟩) (Gh.le (aM bU) bw (da bA)) ?_
    refine rh tk rfl (ps := [(ae (j1 : Int))]) ⟨_,_,rfl,rfl,rfl⟩ (PLe.q rfl) ⟨rfl,rfl⟩
   refine ax (aW (br 2 tk rfl ?_))
   exact bq () H hl1 hg1 (Gh.le (aM (aM (aM (ck (PLe.q (me hz1 hl1)) bU)))) bw (da bA))
  have hn1 := rMd (natGe hz1 h) hr1
  refine cW rfl ?_
  refine aJ s1 g1 hn1 Gh.d
 have H := thenR_next hn1 Hp1
 refine aw 1 tk rfl ?_
 obtain rfl := az H
 refine lA (st' := ⟨19,upd (fun _=>.any) 4 (ae (-1)),fun _=>none,upd (fun _=>none) 0 (some ⟨g_sA,9,(s1.map aF),true⟩)⟩) (Gh.le (aM bU) bw (da bA)) ?_
 refine rh tk rfl (ps := [(ae (-1))]) ⟨_,_,rfl,rfl,rfl⟩ (PLe.q rfl) ⟨rfl,rfl⟩
def bZ (y : LCol) (c0 : LCol) : Bool :=
 (y.name == c0.name)
theorem mB (y : LCol) (c0 : LCol) :
  aU Tryz.prog 142 [(.agg (bh y)),(.ptr (bh c0))] (au (bZ y c0)) := by
 obtain ⟨r,H⟩ : ∃ r,bZ y c0 = r := ⟨_,rfl⟩
 rw [H]
 unfold bZ at H
 refine PH.ay Tryz.func142 Tryz.ntmps142 ?_
 refine ac (aa (aG ?_))
 refine ah tk rfl (ab (aw 6 tk rfl ?_))
 exact dB tk H rfl
def gU (rec7 : LQuery → Bool → Option ((List Bool))) (q : LQuery) (below : Bool) : Option ((List Bool)) :=
 ag (aI (σ := List Bool) (ρ := Empty) (fun (_ : Nat) (x1 : LQuery) (s1 : List Bool) =>
  cond below
   (ag (rec7 x1 true) fun x25 =>
   ag (bS 1 s1 x25) fun (x26 : List Bool) =>
   some (.next x26))
   (ag (rec7 x1 (q.kind == (10 : Int))) fun x25 =>
   ag (bS 1 s1 x25) fun (x26 : List Bool) =>
   some (.next x26))) 0 q.inputs [below]) fun fl1=>fl1.thenP fun (s1 : List Bool) =>
 some s1
theorem ow (rec7 : LQuery → Bool → Option ((List Bool))) (hrec7 : ∀ a0 a1 r,rec7 a0 a1 = some r → aU Tryz.prog 7 [(.agg (am a0)),(au a1)] (.list 4 (r.map aP))) (q : LQuery) (below : Bool) (r : (List Bool)) (H : gU rec7 q below = some r) :
  aU Tryz.prog 7 [(.agg (am q)),(au below)] (.list 4 (r.map aP)) := by
 unfold gU at H
 refine PH.ay Tryz.func7 Tryz.ntmps7 ?_
 refine ac (aa (aG ?_))
 refine ah tk rfl (ab (ac (aa (ah tk rfl ?_))))
 refine jA (rows' := List.map aP ([below] : List Bool)) tk rfl (gk.refl _) fun g9=>?_
 refine ah tk rfl (ab (ac (ac (aa (af 2 tk rfl (aB tk (zl _) ?_))))))
 refine ah tk rfl (ab ?_)
 refine db (γ := OwnRef) tk 13 12 11 (fun s1 g1=>upd (upd (upd (fun _=>.any) 5 (.own 9 g1 (s1.map aP).length)) 2 (.ptr (am q))) 1 (au below)) nB (fun s1 g1=>upd (fun _=>none) 9 (some ⟨g1,4,(s1.map aP),true⟩)) g9 H (fun fl1 Hp1 j1 s1 g1 hz1 hl1 x1 fb1 hx1 H hg1=>?_) (fun s1 g1 H=>?_)
 ·refine ac (aE (ac (aa (aX tk (zn j1) (bj aH hx1) ?_))))
  refine ah tk rfl ?_
  refine aA tk fun b7=>?_
  refine ao tk ?_
  refine ab (aa (ah tk rfl (al tk ?_)))
  refine af 2 tk rfl ?_
  refine aL rfl rfl rfl H (fun H=>?_) (fun H=>?_)
  ·refine af 4 tk rfl ?_
   obtain ⟨x25,h25,H⟩ := av H
   have s25 := hrec7 x1 true _ h25
   refine aq Tryz.call7 (eZ.r) s25 ?_
   obtain ⟨x26,h26,H⟩ := av H
   have k26 := bE h26
   refine bO (rows2' := List.map aP x25) (rows' := List.map aP x26) tk rfl rfl rfl rfl rfl rfl rfl rfl rfl rfl rfl rfl rfl (dH.refl _) (ce k26.1) (cb k26.2.1) (ca k26.2.2) fun g26=>?_
   refine ah tk rfl (ab (aW (br 2 tk rfl ?_)))
   exact bq g26 H hl1 hg1
  refine af 4 tk rfl ?_
  obtain ⟨x25,h25,H⟩ := av H
  have s25 := hrec7 x1 (q.kind == (10 : Int)) _ h25
  refine aq Tryz.call7 (eZ.r) s25 ?_
  obtain ⟨x26,h26,H⟩ := av H
  have k26 := bE h26
  refine bO (rows2' := List.map aP x25) (rows' := List.map aP x26) tk rfl rfl rfl rfl rfl rfl rfl rfl rfl rfl rfl rfl rfl (dH.refl _) (ce k26.1) (cb k26.2.1) (ca k26.2.2) fun g26=>?_
  refine ah tk rfl (ab (aW (br 2 tk rfl ?_)))
  exact bq g26 H hl1 hg1
 refine aw 2 tk rfl (dD 4 rfl rfl rfl ?_)
 exact bi tk H rfl
def cQ : Nat → LQuery → Bool → Option ((List Bool))
 | 0,_,_=>none
 | n + 1,v0,v1=>gU (fun b0 b1=>cQ n b0 b1) v0 v1
theorem ot  (n : Nat) : (∀ a0 a1 r,cQ n a0 a1 = some r → aU Tryz.prog 7 [(.agg (am a0)),(au a1)] (.list 4 (r.map aP))) := by
 induction n with
 | zero=>exact (by intros; rename_i h; exact absurd (show (none : Option _) = some _ from h) (by simp))
 | succ n ih =>
  exact (fun v0 v1 r h=>ow (fun b0 b1=>cQ n b0 b1) ih v0 v1  r h)
def iW (q : LQuery) (below : Bool) : Option ((List Bool)) := fe fun n=>cQ n q below
theorem pn (q : LQuery) (below : Bool) (r : (List Bool)) (H : iW q below = some r) :
  aU Tryz.prog 7 [(.agg (am q)),(au below)] (.list 4 (r.map aP)) := by
 obtain ⟨n,h⟩ := et H
 exact (ot  n) q below r h
theorem pq {m : Nat} (xs : List (List UInt8)) : dY Tryz.prog 61 [.list 9 (xs.map aF)] (jq m 9 (xs.map aF)) := by
 refine PH.ay Tryz.func61 Tryz.ntmps61 ?_
 refine jj tk 0 rfl rfl (fun hz hb=>?_)
 refine aw 1 tk rfl (ac (ac (aa (ah tk rfl ?_))))
 refine qT tk rfl rfl rfl rfl rfl rfl rfl (fun b hn=>?_)
 refine ab ?_
 refine cK rfl (fun h=>?_) (fun h=>?_)
 ·refine aw 1 tk rfl (gQ tk 2 902 (e := 9) rfl rfl ?_)
  refine im tk (hn h).symm
 ·refine ax (ac (aa ?_))
  refine jA (rows' := []) tk rfl (gk.refl _) fun g=>?_
  refine ah tk rfl ?_
  refine bO (rows2' := xs.map aF) (rows' := xs.map aF) tk rfl rfl rfl rfl rfl rfl rfl rfl rfl rfl rfl rfl rfl (dH.refl _) (by simpa using hb) (by simpa using hz) rfl fun g'=>?_
  refine ah tk rfl (ab ?_)
  refine im tk rfl
theorem oK {m : Nat} (xs : List Bool) : dY Tryz.prog 62 [.list 4 (xs.map aP)] (jq m 4 (xs.map aP)) := by
 refine PH.ay Tryz.func62 Tryz.ntmps62 ?_
 refine jj tk 0 rfl rfl (fun hz hb=>?_)
 refine aw 1 tk rfl (ac (ac (aa (ah tk rfl ?_))))
 refine qT tk rfl rfl rfl rfl rfl rfl rfl (fun b hn=>?_)
 refine ab ?_
 refine cK rfl (fun h=>?_) (fun h=>?_)
 ·refine aw 1 tk rfl (gQ tk 2 902 (e := 4) rfl rfl ?_)
  refine im tk (hn h).symm
 ·refine ax (ac (aa ?_))
  refine jA (rows' := []) tk rfl (gk.refl _) fun g=>?_
  refine ah tk rfl ?_
  refine bO (rows2' := xs.map aP) (rows' := xs.map aP) tk rfl rfl rfl rfl rfl rfl rfl rfl rfl rfl rfl rfl rfl (dH.refl _) (by simpa using hb) (by simpa using hz) rfl fun g'=>?_
  refine ah tk rfl (ab ?_)
  refine im tk rfl
def bv (e : LExpr) (q : LQuery) : LQuery :=
 (LQuery.mk 2 [] [] [e] [] [] 0 0 [q])
theorem dp (e : LExpr) (q : LQuery) :
  aU Tryz.prog 65 [(.agg (bl e)),(.agg (am q))] (.agg (am (bv e q))) := by
 obtain ⟨r,H⟩ : ∃ r,bv e q = r := ⟨_,rfl⟩
 rw [H]
 unfold bv at H
 refine PH.ay Tryz.func65 Tryz.ntmps65 ?_
 refine ac (aa (aG ?_))
 refine aG ?_
 refine aA tk fun b4=>?_
 refine ab (ac (aa (ah tk rfl (cj tk (rows' := List.map ak ([e] : List LExpr)) (dH.trans (b := List.map bl [e]) (dH.refl _) (dH.of_eq (bN aS [e]))) ?_))))
 refine ah tk rfl (cj tk (rows' := List.map ap ([q] : List LQuery)) (dH.trans (b := List.map am [q]) (dH.refl _) (dH.of_eq (bN aH [q]))) ?_)
 refine ah tk rfl (ao tk ?_)
 refine ab ?_
 subst H
 refine bd tk rfl (ps := [(.agg [(ae 2),(.str []),(.val (.slice none 0 0)),(.list 94 (([e] : List LExpr).map ak)),(.val (.slice none 0 0)),(.val (.slice none 0 0)),(ae 0),(ae 0),(.list 33 (([q] : List LQuery).map ap))])]) ⟨_,_,rfl,⟨_,_,_,_,_,rfl,rfl,rfl,rfl⟩,rfl⟩ (PLe.of2 (lW.agg (gk.cons (lW.of_eq rfl) (gk.cons (lW.of_eq rfl) (gk.cons (lW.nil tk rfl) (gk.cons (lW.of_eq rfl) (gk.cons (lW.nil tk rfl) (gk.cons (lW.nil tk rfl) (gk.cons (lW.of_eq rfl) (gk.cons (lW.of_eq rfl) (gk.cons (lW.of_eq rfl) gk.nil)))))))))))
def dN (sA : List (List UInt8)) (f : (List UInt8) → Option (Bool)) : Option (Int) :=
 ag (aI (σ := Unit) (ρ := (Int)) (fun (j1 : Nat) (x1 : List UInt8) (_ : Unit) =>
  ag (f x1) fun x16 =>
  cond x16
   (some (.ret (j1 : Int)))
   (some (.next ()))) 0 sA ()) fun fl1=>fl1.thenR fun (_ : Unit) =>
 some (-1)
theorem jV {g_f : FuncId} {caps_f : List PV} (sA : List (List UInt8)) (f : (List UInt8) → Option (Bool)) (hg_f : ∀ (vs : Array Value) (w : World),(callFunc g_f vs).run Tryz.prog w = .ok (.enter g_f vs) w) (hp_f : ∀ a0 r,f a0 = some r → aU Tryz.prog g_f ((.str a0) :: caps_f) (au r)) (r : Int) (H : dN sA f = some r) :
  aU Tryz.prog 143 [(.list 9 (sA.map aF)),(.fn g_f caps_f)] (ae r) := by
 unfold dN at H
 refine PH.ay Tryz.func143 Tryz.ntmps143 ?_
 refine aw 1 tk rfl (ac (ac (aa (ah tk rfl (aB tk (zl _) ?_)))))
 refine ah tk rfl (ab ?_)
 refine eQ tk 8 7 0 (fun s1 g1=>upd (fun _=>.any) 1 (.fn g_f caps_f)) nB nO () H (fun fl1 Hp1 j1 s1 g1 hz1 hl1 x1 fb1 hx1 H hg1=>?_) (fun s1 g1 H=>?_)
 ·refine ac (aE (aw 2 tk rfl (ac (aa (af 3 tk rfl ?_)))))
  refine aX tk (zn j1) (bj (fun _=>rfl) hx1) ?_
  refine ah tk rfl ?_
  obtain ⟨x16,h16,H⟩ := av H
  refine aq hg_f (eZ.r) (hp_f _ _ h16) ?_
  refine ab ?_
  refine aN rfl H (fun H=>?_) (fun H=>?_)
  ·refine aw 2 tk rfl ?_
   obtain rfl := az H
   have e1 : fl1 = .ret _ := hg1
   subst e1
   obtain rfl := bu Hp1
   refine bd tk rfl (ps := [(ae (j1 : Int))]) ⟨_,_,rfl,rfl,rfl⟩ (PLe.q rfl)
  refine ax (aW (br 2 tk rfl ?_))
  exact bq () H hl1 hg1
 refine aw 1 tk rfl ?_
 exact bi tk H rfl
def fD (names : List (List UInt8)) (q : LQuery) : Option (LQuery) :=
 ag (aI (σ := List LExpr) (ρ := Empty) (fun (_ : Nat) (x1 : List UInt8) (s1 : List LExpr) =>
  ag (bS 88 s1 ([(LExpr.mk 2 x1 0 (LVal.mk 0 0 []) [])] : List LExpr)) fun (x23 : List LExpr) =>
  some (.next x23)) 0 names []) fun fl1=>fl1.thenP fun (s1 : List LExpr) =>
 some (LQuery.mk 3 [] names s1 [] [] 0 0 [q])
theorem nc (names : List (List UInt8)) (q : LQuery) (r : LQuery) (H : fD names q = some r) :
  aU Tryz.prog 73 [(.list 9 (names.map aF)),(.agg (am q))] (.agg (am r)) := by
 unfold fD at H
 refine PH.ay Tryz.func73 Tryz.ntmps73 ?_
 refine ac (aa (aG ?_))
 refine aA tk fun b4=>?_
 refine ab (ac (aa (af 2 tk rfl (cj tk (rows' := List.map ap ([q] : List LQuery)) (dH.trans (b := List.map am [q]) (dH.refl _) (dH.of_eq (bN aH [q]))) ?_))))
 refine ah tk rfl ?_
 refine aA tk fun b5=>?_
 refine ao tk ?_
 refine ab (ac (ac (aa (ah tk rfl (aB tk (zl _) ?_)))))
 refine ah tk rfl (ab (gg tk 5 3 23 (e := 94) rfl rfl rfl rfl ?_))
 refine db (γ := OwnRef) tk 14 13 12 (fun s1 g1=>upd (upd (fun _=>.any) 5 (.box 5 b5 0)) 4 (.box 4 b4 0)) (fun s1 g1=>upd (upd (fun _=>none) 5 (some ⟨b5,[(ae 3),(.str []),(.list 9 (names.map aF)),(.own 23 g1 (s1.map ak).length),(.val (.slice none 0 0)),(.val (.slice none 0 0)),(ae 0),(ae 0),(.list 33 (([q] : List LQuery).map ap))]⟩)) 4 (some ⟨b4,[(ae 0),(.str []),(.val (.slice none 0 0)),(.val (.slice none 0 0)),(.val (.slice none 0 0)),(.val (.slice none 0 0)),(ae 0),(ae 0),(.val (.slice none 0 0))]⟩)) (fun s1 g1=>upd (fun _=>none) 23 (some ⟨g1,94,(s1.map ak),true⟩)) (⟨none,0⟩) H (fun fl1 Hp1 j1 s1 g1 hz1 hl1 x1 fb1 hx1 H hg1=>?_) (fun s1 g1 H=>?_)
 ·refine ac (aE (ac (aa ?_)))
  refine aX tk (zn j1) (bj (fun _=>rfl) hx1) ?_
  refine af 2 tk rfl (ab (aa (ah tk rfl (al tk ?_))))
  refine af 2 tk rfl (cj tk (rows' := List.map ak ([(LExpr.mk 2 x1 0 (LVal.mk 0 0 []) [])] : List LExpr)) (dH.trans (b := List.map bl [(LExpr.mk 2 x1 0 (LVal.mk 0 0 []) [])]) (dH.cons (oG.cons (lW.of_eq rfl) (oG.cons (lW.of_eq rfl) (oG.cons (lW.of_eq rfl) (oG.cons (lW.of_eq rfl) (oG.cons (lW.of_eq rfl) (oG.cons (lW.of_eq rfl) (oG.cons (lW.nil tk rfl) oG.nil))))))) dH.nil) (dH.of_eq (bN aS [(LExpr.mk 2 x1 0 (LVal.mk 0 0 []) [])]))) ?_)
  obtain ⟨x23,h23,H⟩ := av H
  have k23 := bE h23
  refine bO (rows2' := List.map ak ([(LExpr.mk 2 x1 0 (LVal.mk 0 0 []) [])] : List LExpr)) (rows' := List.map ak x23) tk rfl rfl rfl rfl rfl rfl rfl rfl rfl rfl rfl rfl rfl (dH.refl _) (ce k23.1) (cb k23.2.1) (ca k23.2.2) fun g23=>?_
  refine ah tk rfl (ao tk ?_)
  refine ab (aW (br 2 tk rfl ?_))
  exact bq g23 H hl1 hg1
 refine ac (aa (al tk ?_))
 refine ao tk ?_
 refine ab ?_
 obtain rfl := az H
 refine bD 4 3 rfl rfl rfl rfl rfl ?_
 refine bd tk rfl (ps := [(.agg [(ae 3),(.str []),(.list 9 (names.map aF)),(.list 94 (s1.map ak)),(.val (.slice none 0 0)),(.val (.slice none 0 0)),(ae 0),(ae 0),(.list 33 (([q] : List LQuery).map ap))])]) ⟨_,_,rfl,⟨_,_,_,_,_,rfl,rfl,rfl,rfl⟩,rfl⟩ (PLe.of2 (lW.agg (gk.cons (lW.of_eq rfl) (gk.cons (lW.of_eq rfl) (gk.cons (lW.of_eq rfl) (gk.cons (lW.of_eq rfl) (gk.cons (lW.nil tk rfl) (gk.cons (lW.nil tk rfl) (gk.cons (lW.of_eq rfl) (gk.cons (lW.of_eq rfl) (gk.cons (lW.of_eq rfl) gk.nil)))))))))))
theorem grow_104 {m : Nat} {u : Unit} (n : Int) (h : growI 16 n = some u) : dY Tryz.prog 104 [.val (.slice none 0 0),ae n] (jq m 9 []) := by
 have hn := growI_some h
 have hw : IntKind.i64.wrap (n - IntKind.i64.wrap ((0 : Int) - 0)) = n := by
  have e0 : IntKind.i64.wrap ((0 : Int) - 0) = 0 := fR (by omega) (by omega)
  rw [e0,Int.sub_zero,fR (by omega) (by unfold maxLen at hn; omega)]
 refine PH.ay Tryz.func104 Tryz.ntmps104 ?_
 refine aw 1 tk rfl (ac (aw 2 tk rfl ?_))
 refine cK rfl (fun h=>?_) (fun h=>?_)
 ·exfalso; have := of_decide_eq_true h; omega
 refine ax (ac (ac (aa (af 2 tk rfl (rB tk rfl rfl rfl rfl rfl rfl (af 4 tk rfl (oE 14 (q := ae n) rfl (PLe.q (congrArg ae hw)) (ah tk rfl (ab (aw 2 tk rfl ?_))))))))))
 refine cK rfl (fun h=>?_) (fun h=>?_)
 ·refine aa (af 2 tk rfl (rB tk rfl rfl rfl rfl rfl rfl (Ao.subN tk rfl rfl rfl rfl rfl rfl rfl rfl (ah tk rfl ?_))))
  refine rm tk rfl rfl rfl rfl rfl rfl rfl rfl rfl rfl rfl rfl rfl rfl rfl (of_decide_eq_true h) hn.2.1 hn.2.2 fun g=>?_
  refine af 2 tk rfl (Ao.cutO tk rfl rfl rfl rfl rfl rfl rfl rfl rfl ⟨Int.le_refl 0,Nat.zero_le _⟩ rfl rfl rfl (ah tk rfl (ab (aw 2 tk rfl ?_))))
  refine im tk rfl
 ·refine ax (aw 2 tk rfl (gQ tk 4 904 (e := 9) rfl rfl ?_))
  refine im tk rfl
def cJ (q : LQuery) (inA : LQuery) : LQuery × Bool :=
 bs (
  cond (decide (q.offset > (1099511627776 : Int)))
   (true)
   ((decide (inA.offset > (1099511627776 : Int))))) fun (t1 : Bool) =>
 cond t1
  (((LQuery.mk 0 [] [] [] [] [] 0 0 []),false))
  (((LQuery.mk 10 [] [] [] [] [] (if (if (IntKind.i64.wrap (inA.count - q.offset)) < q.count then (IntKind.i64.wrap (inA.count - q.offset)) else q.count) > (0 : Int) then (if (IntKind.i64.wrap (inA.count - q.offset)) < q.count then (IntKind.i64.wrap (inA.count - q.offset)) else q.count) else (0 : Int)) (IntKind.i64.wrap (q.offset + inA.offset)) inA.inputs),true))
theorem ol (q : LQuery) (inA : LQuery) :
  aU Tryz.prog 36 [(.agg (am q)),(.agg (am inA))] (.tup [(.agg (am ((cJ q inA).1))),(au ((cJ q inA).2))]) := by
 obtain ⟨r,H⟩ : ∃ r,cJ q inA = r := ⟨_,rfl⟩
 rw [H]
 unfold cJ at H
 refine PH.ay Tryz.func36 Tryz.ntmps36 ?_
 refine ac (aa (aG ?_))
 refine aG ?_
 refine aA tk fun b4=>?_
 refine ah tk rfl (ab (ac (ac ?_)))
 refine cm (γ := Unit) (fun t1 g1=>⟨32,upd (upd (upd (upd (fun _=>.any) 13 (au t1)) 4 (.box 4 b4 0)) 3 (.ptr (am inA))) 2 (.ptr (am q)),upd (fun _=>none) 4 (some ⟨b4,[(ae 0),(.str []),(.val (.slice none 0 0)),(.val (.slice none 0 0)),(.val (.slice none 0 0)),(.val (.slice none 0 0)),(ae 0),(ae 0),(.val (.slice none 0 0))]⟩),fun _=>none⟩) H (fun _ H=>?_) (fun t1 g1 H=>?_)
 ·refine aa (af 4 tk rfl ?_)
  refine aL rfl rfl rfl H (fun H=>?_) (fun H=>?_)
  ·refine af 4 tk rfl (ab ?_)
   refine aJ _ () H Gh.d
  refine af 4 tk rfl (ab ?_)
  refine aJ _ () H Gh.d
 refine aN rfl H (fun H=>?_) (fun H=>?_)
 ·refine ac (aa (ah tk rfl (ao tk ?_)))
  refine ah tk rfl (ab ?_)
  subst H
  refine bd tk rfl (ps := [(.agg [(ae 0),(.str []),(.val (.slice none 0 0)),(.val (.slice none 0 0)),(.val (.slice none 0 0)),(.val (.slice none 0 0)),(ae 0),(ae 0),(.val (.slice none 0 0))]),(au false)]) ⟨_,_,rfl,⟨_,_,_,_,_,rfl,rfl,rfl,rfl⟩,_,_,rfl,rfl,rfl⟩ (PLe.of2 (lW.tup (gk.cons (lW.agg (gk.cons (lW.of_eq rfl) (gk.cons (lW.of_eq rfl) (gk.cons (lW.nil tk rfl) (gk.cons (lW.nil tk rfl) (gk.cons (lW.nil tk rfl) (gk.cons (lW.nil tk rfl) (gk.cons (lW.of_eq rfl) (gk.cons (lW.of_eq rfl) (gk.cons (lW.nil tk rfl) gk.nil)))))))))) (gk.cons (lW.of_eq rfl) gk.nil))))
 refine ax (ac (aa (af 17 tk rfl (ao tk ?_))))
 refine ah tk rfl (ab ?_)
 subst H
 refine bd tk rfl (ps := [(.agg [(ae 10),(.str []),(.val (.slice none 0 0)),(.val (.slice none 0 0)),(.val (.slice none 0 0)),(.val (.slice none 0 0)),(ae (if (if (IntKind.i64.wrap (inA.count - q.offset)) < q.count then (IntKind.i64.wrap (inA.count - q.offset)) else q.count) > (0 : Int) then (if (IntKind.i64.wrap (inA.count - q.offset)) < q.count then (IntKind.i64.wrap (inA.count - q.offset)) else q.count) else (0 : Int))),(ae (IntKind.i64.wrap (q.offset + inA.offset))),(.list 33 (inA.inputs.map ap))]),(au true)]) ⟨_,_,rfl,⟨_,_,_,_,_,rfl,rfl,rfl,rfl⟩,_,_,rfl,rfl,rfl⟩ (PLe.of2 (lW.tup (gk.cons (lW.agg (gk.cons (lW.of_eq rfl) (gk.cons (lW.of_eq rfl) (gk.cons (lW.nil tk rfl) (gk.cons (lW.nil tk rfl) (gk.cons (lW.nil tk rfl) (gk.cons (lW.nil tk rfl) (gk.cons (lW.of_eq rfl) (gk.cons (lW.of_eq rfl) (gk.cons (lW.of_eq rfl) gk.nil)))))))))) (gk.cons (lW.of_eq rfl) gk.nil))))
def aT (s1A : List LQuery) (s2A : List LQuery) (eq : LQuery → LQuery → Option (Bool)) : Option (Bool) :=
 cond ((s1A.length : Int) != (s2A.length : Int))
  (some false)
  (ag (aI (σ := Unit) (ρ := (Bool)) (fun (j1 : Nat) (x1 : LQuery) (_ : Unit) =>
   ag (aR s2A (j1 : Int)) fun (x24 : LQuery) =>
   ag (eq x1 x24) fun x29 =>
   cond (!x29)
    (some (.ret false))
    (some (.next ()))) 0 s1A ()) fun fl1=>fl1.thenR fun (_ : Unit) =>
  some true)
theorem cM {g_eq : FuncId} {caps_eq : List PV} (s1A : List LQuery) (s2A : List LQuery) (eq : LQuery → LQuery → Option (Bool)) (hg_eq : ∀ (vs : Array Value) (w : World),(callFunc g_eq vs).run Tryz.prog w = .ok (.enter g_eq vs) w) (hp_eq : ∀ a0 a1 r,eq a0 a1 = some r → aU Tryz.prog g_eq ((.agg (am a0)) :: (.agg (am a1)) :: caps_eq) (au r)) (r : Bool) (H : aT s1A s2A eq = some r) :
  aU Tryz.prog 16 [(.list 33 (s1A.map ap)),(.list 33 (s2A.map ap)),(.fn g_eq caps_eq)] (au r) := by
 unfold aT at H
 refine PH.ay Tryz.func16 Tryz.ntmps16 ?_
 refine aw 1 tk rfl (ac (ac (aa (ah tk rfl (aB tk (zl _) ?_)))))
 refine ah tk rfl (aB tk (zl _) ?_)
 refine ah tk rfl (ab ?_)
 refine aN rfl H (fun H=>?_) (fun H=>?_)
 ·refine aw 1 tk rfl ?_
  exact bi tk H rfl
 refine ax (ac (ac (aa (ah tk rfl (aB tk (zl _) ?_)))))
 refine ah tk rfl (ab ?_)
 refine eQ tk 17 16 15 (fun s1 g1=>upd (upd (fun _=>.any) 2 (.fn g_eq caps_eq)) 1 (.list 33 (s2A.map ap))) nB nO () H (fun fl1 Hp1 j1 s1 g1 hz1 hl1 x1 fb1 hx1 H hg1=>?_) (fun s1 g1 H=>?_)
 ·refine ac (aE (ac (aa (ah tk rfl (aX tk (zn j1) (bj aH hx1) ?_)))))
  refine ah tk rfl ?_
  refine aA tk fun b8=>?_
  refine ah tk rfl (ao tk ?_)
  refine ab (ac (aa (af 2 tk rfl ?_)))
  obtain ⟨x24,k24,H⟩ := bB H
  refine aX tk k24.1 (aV aH k24.2) ?_
  refine ah tk rfl ?_
  refine aA tk fun b9=>?_
  refine ao tk ?_
  refine ab (ac (aa (ah tk rfl (al tk ?_))))
  refine al tk ?_
  obtain ⟨x29,h29,H⟩ := av H
  refine aq hg_eq (eZ.r) (hp_eq _ _ _ h29) ?_
  refine ah tk rfl (ab ?_)
  refine aN rfl H (fun H=>?_) (fun H=>?_)
  ·refine aw 1 tk rfl ?_
   obtain rfl := az H
   have e1 : fl1 = .ret _ := hg1
   subst e1
   obtain rfl := bu Hp1
   refine bd tk rfl (ps := [(au false)]) ⟨_,_,rfl,rfl,rfl⟩ (PLe.q rfl)
  refine ax (aW (br 2 tk rfl ?_))
  exact bq () H hl1 hg1
 refine aw 1 tk rfl ?_
 exact bi tk H rfl
def bc (s1A : List LExpr) (s2A : List LExpr) (eq : LExpr → LExpr → Option (Bool)) : Option (Bool) :=
 cond ((s1A.length : Int) != (s2A.length : Int))
  (some false)
  (ag (aI (σ := Unit) (ρ := (Bool)) (fun (j1 : Nat) (x1 : LExpr) (_ : Unit) =>
   ag (aR s2A (j1 : Int)) fun (x24 : LExpr) =>
   ag (eq x1 x24) fun x29 =>
   cond (!x29)
    (some (.ret false))
    (some (.next ()))) 0 s1A ()) fun fl1=>fl1.thenR fun (_ : Unit) =>
  some true)
theorem cp {g_eq : FuncId} {caps_eq : List PV} (s1A : List LExpr) (s2A : List LExpr) (eq : LExpr → LExpr → Option (Bool)) (hg_eq : ∀ (vs : Array Value) (w : World),(callFunc g_eq vs).run Tryz.prog w = .ok (.enter g_eq vs) w) (hp_eq : ∀ a0 a1 r,eq a0 a1 = some r → aU Tryz.prog g_eq ((.agg (bl a0)) :: (.agg (bl a1)) :: caps_eq) (au r)) (r : Bool) (H : bc s1A s2A eq = some r) :
  aU Tryz.prog 38 [(.list 94 (s1A.map ak)),(.list 94 (s2A.map ak)),(.fn g_eq caps_eq)] (au r) := by
 unfold bc at H
 refine PH.ay Tryz.func38 Tryz.ntmps38 ?_
 refine aw 1 tk rfl (ac (ac (aa (ah tk rfl (aB tk (zl _) ?_)))))
 refine ah tk rfl (aB tk (zl _) ?_)
 refine ah tk rfl (ab ?_)
 refine aN rfl H (fun H=>?_) (fun H=>?_)
 ·refine aw 1 tk rfl ?_
  exact bi tk H rfl
 refine ax (ac (ac (aa (ah tk rfl (aB tk (zl _) ?_)))))
 refine ah tk rfl (ab ?_)
 refine eQ tk 17 16 15 (fun s1 g1=>upd (upd (fun _=>.any) 2 (.fn g_eq caps_eq)) 1 (.list 94 (s2A.map ak))) nB nO () H (fun fl1 Hp1 j1 s1 g1 hz1 hl1 x1 fb1 hx1 H hg1=>?_) (fun s1 g1 H=>?_)
 ·refine ac (aE (ac (aa (ah tk rfl (aX tk (zn j1) (bj aS hx1) ?_)))))
  refine ah tk rfl ?_
  refine aA tk fun b8=>?_
  refine ah tk rfl (ao tk ?_)
  refine ab (ac (aa (af 2 tk rfl ?_)))
  obtain ⟨x24,k24,H⟩ := bB H
  refine aX tk k24.1 (aV aS k24.2) ?_
  refine ah tk rfl ?_
  refine aA tk fun b9=>?_
  refine ao tk ?_
  refine ab (ac (aa (ah tk rfl (al tk ?_))))
  refine al tk ?_
  obtain ⟨x29,h29,H⟩ := av H
  refine aq hg_eq (eZ.r) (hp_eq _ _ _ h29) ?_
  refine ah tk rfl (ab ?_)
  refine aN rfl H (fun H=>?_) (fun H=>?_)
  ·refine aw 1 tk rfl ?_
   obtain rfl := az H
   have e1 : fl1 = .ret _ := hg1
   subst e1
   obtain rfl := bu Hp1
   refine bd tk rfl (ps := [(au false)]) ⟨_,_,rfl,rfl,rfl⟩ (PLe.q rfl)
  refine ax (aW (br 2 tk rfl ?_))
  exact bq () H hl1 hg1
 refine aw 1 tk rfl ?_
 exact bi tk H rfl
def dA (s1A : List (List UInt8)) (s2A : List (List UInt8)) : Option (Bool) :=
 cond ((s1A.length : Int) != (s2A.length : Int))
  (some false)
  (ag (aI (σ := Unit) (ρ := (Bool)) (fun (j1 : Nat) (x1 : List UInt8) (_ : Unit) =>
   ag (aR s2A (j1 : Int)) fun (x22 : List UInt8) =>
   cond (!(x1 == x22))
    (some (.ret false))
    (some (.next ()))) 0 s1A ()) fun fl1=>fl1.thenR fun (_ : Unit) =>
  some true)
theorem kZ (s1A : List (List UInt8)) (s2A : List (List UInt8)) (r : Bool) (H : dA s1A s2A = some r) :
  aU Tryz.prog 40 [(.list 9 (s1A.map aF)),(.list 9 (s2A.map aF))] (au r) := by
 unfold dA at H
 refine PH.ay Tryz.func40 Tryz.ntmps40 ?_
 refine aw 1 tk rfl (ac (ac (aa (ah tk rfl (aB tk (zl _) ?_)))))
 refine ah tk rfl (aB tk (zl _) ?_)
 refine ah tk rfl (ab ?_)
 refine aN rfl H (fun H=>?_) (fun H=>?_)
 ·refine aw 1 tk rfl ?_
  exact bi tk H rfl
 refine ax (ac (ac (aa (ah tk rfl (aB tk (zl _) ?_)))))
 refine ah tk rfl (ab ?_)
 refine eQ tk 13 12 0 (fun s1 g1=>upd (fun _=>.any) 1 (.list 9 (s2A.map aF))) nB nO () H (fun fl1 Hp1 j1 s1 g1 hz1 hl1 x1 fb1 hx1 H hg1=>?_) (fun s1 g1 H=>?_)
 ·refine ac (aE (aw 2 tk rfl (ac (bt tk mok ⟨false,false,[]⟩ [0,1,2,3,4,5,6,7,8] rfl (by decide +kernel) rfl (bf 2 rfl ?_)))))
  refine bF (zn j1) (bj (fun _=>rfl) hx1) ?_
  refine bf 3 rfl ?_
  obtain ⟨x22,k22,H⟩ := bB H
  refine bF k22.1 (aV (fun _=>rfl) k22.2) ?_
  refine bf 2 rfl (bp ?_)
  refine aN rfl H (fun H=>?_) (fun H=>?_)
  ·refine aw 1 tk rfl ?_
   obtain rfl := az H
   have e1 : fl1 = .ret _ := hg1
   subst e1
   obtain rfl := bu Hp1
   refine bd tk rfl (ps := [(au false)]) ⟨_,_,rfl,rfl,rfl⟩ (PLe.q rfl)
  refine ax (aW (br 2 tk rfl ?_))
  exact bq () H hl1 hg1
 refine aw 1 tk rfl ?_
 exact bi tk H rfl
def en (s1A : List Bool) (s2A : List Bool) : Option (Bool) :=
 cond ((s1A.length : Int) != (s2A.length : Int))
  (some false)
  (ag (aI (σ := Unit) (ρ := (Bool)) (fun (j1 : Nat) (x1 : Bool) (_ : Unit) =>
   ag (aR s2A (j1 : Int)) fun (x22 : Bool) =>
   cond (!(x1 == x22))
    (some (.ret false))
    (some (.next ()))) 0 s1A ()) fun fl1=>fl1.thenR fun (_ : Unit) =>
  some true)
theorem mz (s1A : List Bool) (s2A : List Bool) (r : Bool) (H : en s1A s2A = some r) :
  aU Tryz.prog 41 [(.list 4 (s1A.map aP)),(.list 4 (s2A.map aP))] (au r) := by
 unfold en at H
 refine PH.ay Tryz.func41 Tryz.ntmps41 ?_
 refine aw 1 tk rfl (ac (ac (aa (ah tk rfl (aB tk (zl _) ?_)))))
 refine ah tk rfl (aB tk (zl _) ?_)
 refine ah tk rfl (ab ?_)
 refine aN rfl H (fun H=>?_) (fun H=>?_)
 ·refine aw 1 tk rfl ?_
  exact bi tk H rfl
 refine ax (ac (ac (aa (ah tk rfl (aB tk (zl _) ?_)))))
 refine ah tk rfl (ab ?_)
 refine eQ tk 13 12 0 (fun s1 g1=>upd (fun _=>.any) 1 (.list 4 (s2A.map aP))) nB nO () H (fun fl1 Hp1 j1 s1 g1 hz1 hl1 x1 fb1 hx1 H hg1=>?_) (fun s1 g1 H=>?_)
 ·refine ac (aE (aw 2 tk rfl (ac (bt tk mok ⟨false,false,[]⟩ [0,1,2,3,4,5,6,7,8] rfl (by decide +kernel) rfl (bf 2 rfl ?_)))))
  refine bF (zn j1) (bj (fun _=>rfl) hx1) ?_
  refine bf 3 rfl ?_
  obtain ⟨x22,k22,H⟩ := bB H
  refine bF k22.1 (aV (fun _=>rfl) k22.2) ?_
  refine bf 2 rfl (bp ?_)
  refine aN rfl H (fun H=>?_) (fun H=>?_)
  ·refine aw 1 tk rfl ?_
   obtain rfl := az H
   have e1 : fl1 = .ret _ := hg1
   subst e1
   obtain rfl := bu Hp1
   refine bd tk rfl (ps := [(au false)]) ⟨_,_,rfl,rfl,rfl⟩ (PLe.q rfl)
  refine ax (aW (br 2 tk rfl ?_))
  exact bq () H hl1 hg1
 refine aw 1 tk rfl ?_
 exact bi tk H rfl
def ba (s1A : List LAggregateCall) (s2A : List LAggregateCall) (eq : LAggregateCall → LAggregateCall → Option (Bool)) : Option (Bool) :=
 cond ((s1A.length : Int) != (s2A.length : Int))
  (some false)
  (ag (aI (σ := Unit) (ρ := (Bool)) (fun (j1 : Nat) (x1 : LAggregateCall) (_ : Unit) =>
   ag (aR s2A (j1 : Int)) fun (x24 : LAggregateCall) =>
   ag (eq x1 x24) fun x29 =>
   cond (!x29)
    (some (.ret false))
    (some (.next ()))) 0 s1A ()) fun fl1=>fl1.thenR fun (_ : Unit) =>
  some true)
theorem cP {g_eq : FuncId} {caps_eq : List PV} (s1A : List LAggregateCall) (s2A : List LAggregateCall) (eq : LAggregateCall → LAggregateCall → Option (Bool)) (hg_eq : ∀ (vs : Array Value) (w : World),(callFunc g_eq vs).run Tryz.prog w = .ok (.enter g_eq vs) w) (hp_eq : ∀ a0 a1 r,eq a0 a1 = some r → aU Tryz.prog g_eq ((.agg (aQ a0)) :: (.agg (aQ a1)) :: caps_eq) (au r)) (r : Bool) (H : ba s1A s2A eq = some r) :
  aU Tryz.prog 42 [(.list 91 (s1A.map aQ)),(.list 91 (s2A.map aQ)),(.fn g_eq caps_eq)] (au r) := by
 unfold ba at H
 refine PH.ay Tryz.func42 Tryz.ntmps42 ?_
 refine aw 1 tk rfl (ac (ac (aa (ah tk rfl (aB tk (zl _) ?_)))))
 refine ah tk rfl (aB tk (zl _) ?_)
 refine ah tk rfl (ab ?_)
 refine aN rfl H (fun H=>?_) (fun H=>?_)
 ·refine aw 1 tk rfl ?_
  exact bi tk H rfl
 refine ax (ac (ac (aa (ah tk rfl (aB tk (zl _) ?_)))))
 refine ah tk rfl (ab ?_)
 refine eQ tk 17 16 15 (fun s1 g1=>upd (upd (fun _=>.any) 2 (.fn g_eq caps_eq)) 1 (.list 91 (s2A.map aQ))) nB nO () H (fun fl1 Hp1 j1 s1 g1 hz1 hl1 x1 fb1 hx1 H hg1=>?_) (fun s1 g1 H=>?_)
 ·refine ac (aE (ac (aa (ah tk rfl ?_))))
  refine aX tk (zn j1) (bj (fun _=>rfl) hx1) ?_
  refine ah tk rfl ?_
  refine aA tk fun b8=>?_
  refine ah tk rfl (ao tk ?_)
  refine ab (ac (aa (af 2 tk rfl ?_)))
  obtain ⟨x24,k24,H⟩ := bB H
  refine aX tk k24.1 (aV (fun _=>rfl) k24.2) ?_
  refine ah tk rfl ?_
  refine aA tk fun b9=>?_
  refine ao tk ?_
  refine ab (ac (aa (ah tk rfl (al tk ?_))))
  refine al tk ?_
  obtain ⟨x29,h29,H⟩ := av H
  refine aq hg_eq (eZ.r) (hp_eq _ _ _ h29) ?_
  refine ah tk rfl (ab ?_)
  refine aN rfl H (fun H=>?_) (fun H=>?_)
  ·refine aw 1 tk rfl ?_
   obtain rfl := az H
   have e1 : fl1 = .ret _ := hg1
   subst e1
   obtain rfl := bu Hp1
   refine bd tk rfl (ps := [(au false)]) ⟨_,_,rfl,rfl,rfl⟩ (PLe.q rfl)
  refine ax (aW (br 2 tk rfl ?_))
  exact bq () H hl1 hg1
 refine aw 1 tk rfl ?_
 exact bi tk H rfl
def eW (t : LTable) (name : List UInt8) : Option (Int × Bool) :=
 ag (cn t.columns (fun a0=>some (cV a0 name))) fun x10 =>
 some ((if (0 : Int) > x10 then (0 : Int) else x10),(decide (x10 ≥ (0 : Int))))
theorem pz (t : LTable) (name : List UInt8) (r : Int × Bool) (H : eW t name = some r) :
  aU Tryz.prog 87 [(.agg (cU t)),(.str name)] (.tup [(ae r.1),(au r.2)]) := by
 unfold eW at H
 refine PH.ay Tryz.func87 Tryz.ntmps87 ?_
 refine ac (aa (aG ?_))
 refine aG ?_
 refine af 2 tk rfl (ab (ac (aa (af 3 tk rfl ?_))))
 obtain ⟨x10,h10,H⟩ := av H
 have s10 := fC t.columns (fun a0=>some (cV a0 name)) Tryz.call133 (fun a0 r h=>(az h) ▸ og a0 name) _ h10
 refine aq Tryz.call132 (eZ.r) s10 ?_
 refine ah tk rfl (ab (aw 6 tk rfl ?_))
 exact bi tk H rfl
def eB (sA : LSchema) (name : List UInt8) : Option (Int × Bool) :=
 ag (cr sA.tables (fun a0=>some (cB a0 name))) fun x10 =>
 some ((if (0 : Int) > x10 then (0 : Int) else x10),(decide (x10 ≥ (0 : Int))))
theorem jD (sA : LSchema) (name : List UInt8) (r : Int × Bool) (H : eB sA name = some r) :
  aU Tryz.prog 88 [(.agg (aD sA)),(.str name)] (.tup [(ae r.1),(au r.2)]) := by
 unfold eB at H
 refine PH.ay Tryz.func88 Tryz.ntmps88 ?_
 refine ac (aa (aG ?_))
 refine aG ?_
 refine af 2 tk rfl (ab (ac (aa (af 3 tk rfl ?_))))
 obtain ⟨x10,h10,H⟩ := av H
 have s10 := fW sA.tables (fun a0=>some (cB a0 name)) Tryz.call135 (fun a0 r h=>(az h) ▸ pj a0 name) _ h10
 refine aq Tryz.call134 (eZ.r) s10 ?_
 refine ah tk rfl (ab (aw 6 tk rfl ?_))
 exact bi tk H rfl
def fB (a : LForeignKey) (b : LForeignKey) : Option (Bool) :=
 cond (a.table == b.table)
  (ag (eI a.columns b.columns) fun x15 =>
  cond x15
   (some (a.refTable == b.refTable))
   (some false))
  (some false)
theorem mH (a : LForeignKey) (b : LForeignKey) (r : Bool) (H : fB a b = some r) :
  aU Tryz.prog 57 [(.agg (iC a)),(.agg (iC b))] (au r) := by
 unfold fB at H
 refine PH.ay Tryz.func57 Tryz.ntmps57 ?_
 refine ac (aa (aG ?_))
 refine aG ?_
 refine ah tk rfl (ab (ac (aa (af 6 tk rfl ?_))))
 refine aL rfl rfl rfl H (fun H=>?_) (fun H=>?_)
 ·refine af 4 tk rfl ?_
  obtain ⟨x15,h15,H⟩ := av H
  have s15 := nw a.columns b.columns _ h15
  refine aq Tryz.call90 (eZ.r) s15 ?_
  refine af 2 tk rfl ?_
  refine aL rfl rfl rfl H (fun H=>?_) (fun H=>?_)
  ·refine af 7 tk rfl (ab ?_)
   exact bi tk H rfl
  refine af 7 tk rfl (ab ?_)
  exact bi tk H rfl
 refine af 14 tk rfl (ab ?_)
 exact bi tk H rfl
def bK (sA : List LForeignKey) (f : LForeignKey → Option (Bool)) : Option (Bool) :=
 ag (co sA f) fun x7 =>
 some (decide (x7 ≥ (0 : Int)))
theorem gM {g_f : FuncId} {caps_f : List PV} (sA : List LForeignKey) (f : LForeignKey → Option (Bool)) (hg_f : ∀ (vs : Array Value) (w : World),(callFunc g_f vs).run Tryz.prog w = .ok (.enter g_f vs) w) (hp_f : ∀ a0 r,f a0 = some r → aU Tryz.prog g_f ((.agg (iC a0)) :: caps_f) (au r)) (r : Bool) (H : bK sA f = some r) :
  aU Tryz.prog 55 [(.list 112 (sA.map iC)),(.fn g_f caps_f)] (au r) := by
 unfold bK at H
 refine PH.ay Tryz.func55 Tryz.ntmps55 ?_
 refine aw 1 tk rfl (ac (aa (af 2 tk rfl ?_)))
 obtain ⟨x7,h7,H⟩ := av H
 have s7 := gW sA f hg_f hp_f _ h7
 refine aq Tryz.call89 (eZ.r) s7 ?_
 refine af 2 tk rfl (ab ?_)
 exact bi tk H rfl
def iM (a : List UInt8) (b : List UInt8) : Int :=
 bs (dV a b) fun x7 =>
 x7
theorem qB (a : List UInt8) (b : List UInt8) :
  aU Tryz.prog 170 [(.str a),(.str b)] (ae (iM a b)) := by
 obtain ⟨r,H⟩ : ∃ r,iM a b = r := ⟨_,rfl⟩
 rw [H]
 unfold iM at H
 refine PH.ay Tryz.func170 Tryz.ntmps170 ?_
 refine aw 1 tk rfl (ac (aa (af 2 tk rfl ?_)))
 obtain ⟨x7,h7,H⟩ := dg H
 have s7 := kr a b
 rw [h7] at s7
 refine aq Tryz.call194 (eZ.r) s7 ?_
 refine ah tk rfl (ab ?_)
 exact dB tk H rfl
def bT (sA : List LConstraint) (v : LConstraint) : Option (Bool) :=
 ag (cw sA v) fun x7 =>
 some (decide (x7 ≥ (0 : Int)))
theorem hC (sA : List LConstraint) (v : LConstraint) (r : Bool) (H : bT sA v = some r) :
  aU Tryz.prog 59 [(.list 118 (sA.map js)),(.agg (js v))] (au r) := by
 unfold bT at H
 refine PH.ay Tryz.func59 Tryz.ntmps59 ?_
 refine ac (aa (aG ?_))
 refine ah tk rfl (ab (ac (aa (af 2 tk rfl ?_))))
 obtain ⟨x7,h7,H⟩ := av H
 have s7 := iD sA v _ h7
 refine aq Tryz.call93 (eZ.r) s7 ?_
 refine af 2 tk rfl (ab ?_)
 exact bi tk H rfl
def eN (q : LQuery) : Option (Int) :=
 ag (kU q) fun x7 =>
 some x7.2
theorem lJ (q : LQuery) (r : Int) (H : eN q = some r) :
  aU Tryz.prog 95 [(.agg (am q))] (ae r) := by
 unfold eN at H
 refine PH.ay Tryz.func95 Tryz.ntmps95 ?_
 refine ac (aa (aG ?_))
 refine ah tk rfl (ab (ac (aa (ah tk rfl ?_))))
 obtain ⟨x7,h7,H⟩ := av H
 have s7 := W_query_most q _ h7
 refine aq Tryz.call137 (eZ.r) s7 ?_
 refine af 5 tk rfl (ab (aw 2 tk rfl ?_))
 exact bi tk H rfl
def fc (q : LQuery) : Option ((List Int) × Int) :=
 ag (fU q) fun x18 =>
 ag (aI (σ := List Int × Bool × List Bool) (ρ := Empty) (fun (_ : Nat) (x1 : LQuery) (s1 : List Int × Bool × List Bool) =>
  ag (aI (σ := List Int × Bool × List Bool) (ρ := Empty) (fun (_ : Nat) (x12 : LExpr) (s12 : List Int × Bool × List Bool) =>
   ag (ez x12 s12.1 s12.2.1 s12.2.2) fun x33 =>
   some (.next (x33.1,x33.2.1,x33.2.2))) 0 x1.exprs (s1.1,s1.2.1,s1.2.2)) fun fl12=>fl12.thenP fun (s12 : List Int × Bool × List Bool) =>
  ag (aI (σ := List Int × Bool × List Bool) (ρ := Empty) (fun (_ : Nat) (x13 : LAggregateCall) (s13 : List Int × Bool × List Bool) =>
   ag (aI (σ := List Int × Bool × List Bool) (ρ := Empty) (fun (_ : Nat) (x16 : LExpr) (s16 : List Int × Bool × List Bool) =>
    ag (ez x16 s16.1 s16.2.1 s16.2.2) fun x51 =>
    some (.next (x51.1,x51.2.1,x51.2.2))) 0 x13.args (s13.1,s13.2.1,s13.2.2)) fun fl16=>fl16.thenP fun (s16 : List Int × Bool × List Bool) =>
   some (.next (s16.1,s16.2.1,s16.2.2))) 0 x1.aggregates (s12.1,s12.2.1,s12.2.2)) fun fl13=>fl13.thenP fun (s13 : List Int × Bool × List Bool) =>
  some (.next (s13.1,s13.2.1,s13.2.2))) 0 x18 ([],false,(List.replicate 8 false))) fun fl1=>fl1.thenP fun (s1 : List Int × Bool × List Bool) =>
 cond s1.2.1
  (some ([],13))
  (some (s1.1,0))
theorem nW (q : LQuery) (r : (List Int) × Int) (H : fc q = some r) :
  aU Tryz.prog 96 [(.agg (am q))] (.tup [(.list 3 (r.1.map bH)),(ae r.2)]) := by
 unfold fc at H
 refine PH.ay Tryz.func96 Tryz.ntmps96 ?_
 refine ac (aa (aG ?_))
 refine af 2 tk rfl (ab (ac (aa ?_)))
 refine aA tk fun b4=>?_
 refine ab (ac (aa ?_))
 refine aA tk fun b5=>?_
 refine ab (ac (aa ?_))
 refine aA tk fun b6=>?_
 refine ao tk ?_
 refine ab (ac (aa ?_))
 refine aA tk fun b7=>?_
 refine ab (ac (aa (ah tk rfl (ao tk ?_))))
 refine ab (ac (ac (aa (ah tk rfl ?_))))
 obtain ⟨x18,h18,H⟩ := av H
 have s18 := kh (m := 18) q _ h18
 refine aq Tryz.call8 (eZ.r) (PFun.eE s18) ?_
 refine aB tk (zl _) ?_
 refine ah tk rfl (ab ?_)
 obtain ⟨fl1,H1,Hp1⟩ := av H
 refine jj tk 18 rfl rfl (fun hz1 _=>?_)
 rw [zl] at hz1
 refine ke (τ := List Int × Bool × List Bool) (γ := OwnRef) (fun s1 g1=>⟨57,upd (upd (fun _=>.any) 6 (.box 6 b6 0)) 4 (.box 4 b4 0),upd (upd (fun _=>none) 6 (some ⟨b6,[(au s1.2.1)]⟩)) 4 (some ⟨b4,[(.own 1204 g1 (s1.1.map bH).length)]⟩),upd (fun _=>none) 1204 (some ⟨g1,3,(s1.1.map bH),true⟩)⟩) (fun t=>fl1 = .next t) ?_ (fun s1 g1 hn1=>?_)
 ·refine aE (gg tk 4 0 1204 (e := 3) rfl rfl rfl rfl ?_)
  refine lk (fun j1 s1 g1=>⟨57,upd (upd (upd (upd (upd (upd (fun _=>.any) 20 (ae (j1 : Int))) 19 (ae (x18.length : Int))) 18 (.list 33 (x18.map ap))) 7 (.box 7 b7 0)) 6 (.box 6 b6 0)) 4 (.box 4 b4 0),upd (upd (upd (upd (fun _=>none) 7 (some ⟨b7,[(.fn 138 [(.box 4 b4 0),(.box 6 b6 0),(.box 5 b5 0),(.box 7 b7 0)])]⟩)) 6 (some ⟨b6,[(au s1.2.1)]⟩)) 5 (some ⟨b5,(List.map au s1.2.2)⟩)) 4 (some ⟨b4,[(.own 1204 g1 (s1.1.map bH).length)]⟩),upd (fun _=>none) 1204 (some ⟨g1,3,(s1.1.map bH),true⟩)⟩) (⟨none,0⟩) H1 Gh.d (fun j1 s1 g1 hj1 hr1=>?_)
  refine aw 1 tk rfl (ac ?_)
  refine cK rfl (fun h=>?_) (fun h=>?_)
  ·have hl1 := rowsLt h
   obtain ⟨x1,fb1,hx1,H,hg1⟩ := rMc hl1 hr1
   refine ax (ac (aE (ac (aa (aX tk (zn j1) (bj aH hx1) ?_)))))
   refine ah tk rfl ?_
   refine aA tk fun b9=>?_
   refine ao tk ?_
   refine ab (ac (ac (aa (ah tk rfl (al tk ?_)))))
   refine aB tk (zl _) ?_
   refine ah tk rfl (ab ?_)
   refine db (γ := OwnRef) tk 27 26 25 (fun s12 g12=>upd (upd (upd (upd (upd (upd (upd (fun _=>.any) 20 (ae (j1 : Int))) 19 (ae (x18.length : Int))) 18 (.list 33 (x18.map ap))) 9 (.box 9 b9 0)) 7 (.box 7 b7 0)) 6 (.box 6 b6 0)) 4 (.box 4 b4 0)) (fun s12 g12=>upd (upd (upd (upd (upd (fun _=>none) 9 (some ⟨b9,(am x1)⟩)) 7 (some ⟨b7,[(.fn 138 [(.box 4 b4 0),(.box 6 b6 0),(.box 5 b5 0),(.box 7 b7 0)])]⟩)) 6 (some ⟨b6,[(au s12.2.1)]⟩)) 5 (some ⟨b5,(List.map au s12.2.2)⟩)) 4 (some ⟨b4,[(.own 1204 g12 (s12.1.map bH).length)]⟩)) (fun s12 g12=>upd (fun _=>none) 1204 (some ⟨g12,3,(s12.1.map bH),true⟩)) g1 H (fun fl12 Hp12 j12 s12 g12 hz12 hl12 x12 fb12 hx12 H hg12=>?_) (fun s12 g12 H=>?_)
   ·refine ac (aE (ac (aa (aX tk (zn j12) (bj aS hx12) ?_))))
    refine ah tk rfl ?_
    refine aA tk fun b11=>?_
    refine ao tk ?_
    refine ab (aa (al tk ?_))
    refine al tk ?_
    obtain ⟨x33,h33,H⟩ := av H
    have s33 := jG b4 g12 b6 b5 b7 x12 s12.1 s12.2.1 s12.2.2 _ h33
    refine gI (st' := ⟨_,_,upd (upd (upd (upd (upd (upd (fun _=>none) 11 (some ⟨b11,(bl x12)⟩)) 9 (some ⟨b9,(am x1)⟩)) 7 (some ⟨b7,[(.fn 138 [(.box 1000 b4 0),(.box 1001 b6 0),(.box 1002 b5 0),(.box 1003 b7 0)])]⟩)) 6 (some ⟨b6,[(au s12.2.1)]⟩)) 5 (some ⟨b5,(List.map au s12.2.2)⟩)) 4 (some ⟨b4,[(.own 1100 g12 (s12.1.map bH).length)]⟩),upd (fun _=>none) 1204 (some ⟨g12,3,(s12.1.map bH),true⟩)⟩) (Gh.le (fF _ _) (aO rfl (eZ.of2 (gk.cons (lW.own rfl) gk.nil)) (aO rfl (eZ.r) (aO rfl (eZ.r) (aO rfl (eZ.of2 (gk.cons (lW.fn (gk.cons lW.boxT (gk.cons lW.boxT (gk.cons lW.boxT (gk.cons lW.boxT gk.nil))))) gk.nil)) (aO rfl (eZ.r) (aO rfl (eZ.r) bw)))))) (da bA)) ?_
    refine hM (g := 138) rfl rfl rfl Tryz.call138 [(4,1000),(6,1001),(5,1002),(7,1003)] [(1204,1100)] rfl rfl rfl rfl (eZ.of2 (gk.cons (lW.of_eq rfl) (gk.cons lW.boxT (gk.cons lW.boxT (gk.cons lW.boxT (gk.cons lW.boxT gk.nil)))))) (by rw [fh,fh,fh,fh,gD,fI,gC]; rfl) s33 ?_
    rintro u33 H33h ⟨gz33_0,rfl,rfl⟩
    refine ⟨_,rfl,?_⟩
    refine gI (st' := ⟨_,_,upd (upd (upd (upd (upd (upd (fun _=>none) 11 (some ⟨b11,(bl x12)⟩)) 9 (some ⟨b9,(am x1)⟩)) 7 (some ⟨b7,[(.fn 138 [(.box 4 b4 0),(.box 6 b6 0),(.box 5 b5 0),(.box 7 b7 0)])]⟩)) 6 (some ⟨b6,[(au x33.2.1)]⟩)) 5 (some ⟨b5,(List.map au x33.2.2)⟩)) 4 (some ⟨b4,[(.own 1204 gz33_0 (x33.1.map bH).length)]⟩),upd (fun _=>none) 1204 (some ⟨gz33_0,3,(x33.1.map bH),true⟩)⟩) (Gh.le (fF _ _) (aO rfl (eZ.of2 (gk.cons (lW.own rfl) gk.nil)) (aO rfl (eZ.r) (aO rfl (eZ.r) (aO rfl (eZ.of2 (gk.cons (lW.fn (gk.cons lW.boxT (gk.cons lW.boxT (gk.cons lW.boxT (gk.cons lW.boxT gk.nil))))) gk.nil)) (aO rfl (eZ.r) (aO rfl (eZ.r) bw)))))) (da bA)) ?_
    refine ab (aW (br 2 tk rfl ?_))
    exact bq gz33_0 H hl12 hg12
   refine ac (aa (ah tk rfl (al tk ?_)))
   refine aB tk (zl _) ?_
   refine ah tk rfl (ab ?_)
   refine db (γ := OwnRef) tk 38 37 36 (fun s13 g13=>upd (upd (upd (upd (upd (upd (fun _=>.any) 20 (ae (j1 : Int))) 19 (ae (x18.length : Int))) 18 (.list 33 (x18.map ap))) 7 (.box 7 b7 0)) 6 (.box 6 b6 0)) 4 (.box 4 b4 0)) (fun s13 g13=>upd (upd (upd (upd (fun _=>none) 7 (some ⟨b7,[(.fn 138 [(.box 4 b4 0),(.box 6 b6 0),(.box 5 b5 0),(.box 7 b7 0)])]⟩)) 6 (some ⟨b6,[(au s13.2.1)]⟩)) 5 (some ⟨b5,(List.map au s13.2.2)⟩)) 4 (some ⟨b4,[(.own 1204 g13 (s13.1.map bH).length)]⟩)) (fun s13 g13=>upd (fun _=>none) 1204 (some ⟨g13,3,(s13.1.map bH),true⟩)) g12 H (fun fl13 Hp13 j13 s13 g13 hz13 hl13 x13 fb13 hx13 H hg13=>?_) (fun s13 g13 H=>?_)
   ·refine ac (aE (ac (aa ?_)))
    refine aX tk (zn j13) (bj (fun _=>rfl) hx13) ?_
    refine ah tk rfl ?_
    refine aA tk fun b13=>?_
    refine ao tk ?_
    refine ab (ac (aa (ah tk rfl (al tk ?_))))
    refine aB tk (zl _) ?_
    refine ah tk rfl (ab ?_)
    refine db (γ := OwnRef) tk 45 44 43 (fun s16 g16=>upd (upd (upd (upd (upd (upd (upd (upd (upd (fun _=>.any) 38 (ae (j13 : Int))) 37 (ae (x1.aggregates.length : Int))) 36 (.list 91 (x1.aggregates.map aQ))) 20 (ae (j1 : Int))) 19 (ae (x18.length : Int))) 18 (.list 33 (x18.map ap))) 7 (.box 7 b7 0)) 6 (.box 6 b6 0)) 4 (.box 4 b4 0)) (fun s16 g16=>upd (upd (upd (upd (fun _=>none) 7 (some ⟨b7,[(.fn 138 [(.box 4 b4 0),(.box 6 b6 0),(.box 5 b5 0),(.box 7 b7 0)])]⟩)) 6 (some ⟨b6,[(au s16.2.1)]⟩)) 5 (some ⟨b5,(List.map au s16.2.2)⟩)) 4 (some ⟨b4,[(.own 1204 g16 (s16.1.map bH).length)]⟩)) (fun s16 g16=>upd (fun _=>none) 1204 (some ⟨g16,3,(s16.1.map bH),true⟩)) g13 H (fun fl16 Hp16 j16 s16 g16 hz16 hl16 x16 fb16 hx16 H hg16=>?_) (fun s16 g16 H=>?_)
    ·refine ac (aE (ac (aa (aX tk (zn j16) (bj aS hx16) ?_))))
     refine ah tk rfl ?_
     refine aA tk fun b15=>?_
     refine ao tk ?_
     refine ab (aa (al tk ?_))
     refine al tk ?_
     obtain ⟨x51,h51,H⟩ := av H
     have s51 := jG b4 g16 b6 b5 b7 x16 s16.1 s16.2.1 s16.2.2 _ h51
     refine gI (st' := ⟨_,_,upd (upd (upd (upd (upd (fun _=>none) 15 (some ⟨b15,(bl x16)⟩)) 7 (some ⟨b7,[(.fn 138 [(.box 1000 b4 0),(.box 1001 b6 0),(.box 1002 b5 0),(.box 1003 b7 0)])]⟩)) 6 (some ⟨b6,[(au s16.2.1)]⟩)) 5 (some ⟨b5,(List.map au s16.2.2)⟩)) 4 (some ⟨b4,[(.own 1100 g16 (s16.1.map bH).length)]⟩),upd (fun _=>none) 1204 (some ⟨g16,3,(s16.1.map bH),true⟩)⟩) (Gh.le (fF _ _) (aO rfl (eZ.of2 (gk.cons (lW.own rfl) gk.nil)) (aO rfl (eZ.r) (aO rfl (eZ.r) (aO rfl (eZ.of2 (gk.cons (lW.fn (gk.cons lW.boxT (gk.cons lW.boxT (gk.cons lW.boxT (gk.cons lW.boxT gk.nil))))) gk.nil)) (aO rfl (eZ.r) bw))))) (da bA)) ?_
     refine hM (g := 138) rfl rfl rfl Tryz.call138 [(4,1000),(6,1001),(5,1002),(7,1003)] [(1204,1100)] rfl rfl rfl rfl (eZ.of2 (gk.cons (lW.of_eq rfl) (gk.cons lW.boxT (gk.cons lW.boxT (gk.cons lW.boxT (gk.cons lW.boxT gk.nil)))))) (by rw [fh,fh,fh,fh,gD,fI,gC]; rfl) s51 ?_
     rintro u51 H51h ⟨gz51_0,rfl,rfl⟩
     refine ⟨_,rfl,?_⟩
     refine gI (st' := ⟨_,_,upd (upd (upd (upd (upd (fun _=>none) 15 (some ⟨b15,(bl x16)⟩)) 7 (some ⟨b7,[(.fn 138 [(.box 4 b4 0),(.box 6 b6 0),(.box 5 b5 0),(.box 7 b7 0)])]⟩)) 6 (some ⟨b6,[(au x51.2.1)]⟩)) 5 (some ⟨b5,(List.map au x51.2.2)⟩)) 4 (some ⟨b4,[(.own 1204 gz51_0 (x51.1.map bH).length)]⟩),upd (fun _=>none) 1204 (some ⟨gz51_0,3,(x51.1.map bH),true⟩)⟩) (Gh.le (fF _ _) (aO rfl (eZ.of2 (gk.cons (lW.own rfl) gk.nil)) (aO rfl (eZ.r) (aO rfl (eZ.r) (aO rfl (eZ.of2 (gk.cons (lW.fn (gk.cons lW.boxT (gk.cons lW.boxT (gk.cons lW.boxT (gk.cons lW.boxT gk.nil))))) gk.nil)) (aO rfl (eZ.r) bw))))) (da bA)) ?_
     refine ab (aW (br 2 tk rfl ?_))
     exact bq gz51_0 H hl16 hg16
    refine aW (br 2 tk rfl ?_)
    exact bq g16 H hl13 hg13
   refine aW (br 2 tk rfl ?_)
   exact bq g13 H hl1 hg1
  have hn1 := rMd (rowsGe h) hr1
  refine cW rfl ?_
  refine aJ s1 g1 hn1 Gh.d
 have H := jM hn1 Hp1
 refine ac (ac (aa (al tk ?_)))
 refine ab ?_
 refine aN rfl H (fun H=>?_) (fun H=>?_)
 ·refine aw 2 tk rfl ?_
  obtain rfl := az H
  refine bd tk rfl (ps := [(.val (.slice none 0 0)),(ae 13)]) ⟨_,_,rfl,rfl,_,_,rfl,rfl,rfl⟩ (PLe.of2 (lW.tup (gk.cons (lW.nil tk rfl) (gk.cons (lW.of_eq rfl) gk.nil))))
 refine ax (ac (aa (al tk ?_)))
 refine af 2 tk rfl (ab (dD 2 rfl rfl rfl ?_))
 exact bi tk H rfl
def ec (sA : List Int) (v : Int) : Option (Bool) :=
 ag (fY sA v) fun x7 =>
 some (decide (x7 ≥ (0 : Int)))
theorem lX (sA : List Int) (v : Int) (r : Bool) (H : ec sA v = some r) :
  aU Tryz.prog 172 [(.list 3 (sA.map bH)),(ae v)] (au r) := by
 unfold ec at H
 refine PH.ay Tryz.func172 Tryz.ntmps172 ?_
 refine aw 1 tk rfl (ac (aa (af 2 tk rfl ?_)))
 obtain ⟨x7,h7,H⟩ := av H
 have s7 := nu sA v _ h7
 refine aq Tryz.call195 (eZ.r) s7 ?_
 refine af 2 tk rfl (ab ?_)
 exact bi tk H rfl
def gE (kind : Int) (a : List LCol) (b : List LCol) : Option ((List LCol) × Int) :=
 cond ((a.length : Int) != (b.length : Int))
  (some ([],7))
  (ag (aI (σ := List LCol) (ρ := ((List LCol) × Int)) (fun (j1 : Nat) (x1 : LCol) (s1 : List LCol) =>
   ag (aR b (j1 : Int)) fun (x29 : LCol) =>
   cond (x1.kind != x29.kind)
    (some (.ret ([],7)))
    (cond x1.nullable
     (ag (aR s1 (j1 : Int)) fun (x51 : LCol) =>
     bs (s1.set ((j1 : Int).toNat) (LCol.mk x51.name x51.kind true)) fun (y8 : List LCol) =>
     some (.next y8))
     (cond (kind == (6 : Int))
      (ag (aR b (j1 : Int)) fun (x46 : LCol) =>
      ag (aR s1 (j1 : Int)) fun (x51 : LCol) =>
      bs (s1.set ((j1 : Int).toNat) (LCol.mk x51.name x51.kind x46.nullable)) fun (y9 : List LCol) =>
      some (.next y9))
      (ag (aR s1 (j1 : Int)) fun (x51 : LCol) =>
      bs (s1.set ((j1 : Int).toNat) (LCol.mk x51.name x51.kind false)) fun (y10 : List LCol) =>
      some (.next y10))))) 0 a a) fun fl1=>fl1.thenR fun (s1 : List LCol) =>
  some (s1,0))
theorem pT (kind : Int) (a : List LCol) (b : List LCol) (r : (List LCol) × Int) (H : gE kind a b = some r) :
  aU Tryz.prog 175 [(ae kind),(.list 52 (a.map bh)),(.list 52 (b.map bh))] (.tup [(.list 52 (r.1.map bh)),(ae r.2)]) := by
 unfold gE at H
 refine PH.ay Tryz.func175 Tryz.ntmps175 ?_
 refine aw 2 tk rfl (ac (ac (aa (ah tk rfl (aB tk (zl _) ?_)))))
 refine ah tk rfl (aB tk (zl _) ?_)
 refine ah tk rfl (ab ?_)
 refine aN rfl H (fun H=>?_) (fun H=>?_)
 ·refine aw 2 tk rfl ?_
  obtain rfl := az H
  refine bd tk rfl (ps := [(.val (.slice none 0 0)),(ae 7)]) ⟨_,_,rfl,rfl,_,_,rfl,rfl,rfl⟩ (PLe.of2 (lW.tup (gk.cons (lW.nil tk rfl) (gk.cons (lW.of_eq rfl) gk.nil))))
 refine ax (ac (aa (ah tk rfl ?_)))
 have s16 := pV (m := 16) a
 refine qX (g := 158) rfl rfl rfl Tryz.call158 (eZ.r) rfl rfl s16 (fun g16=>?_)
 refine ah tk rfl (ab (ac (ac (aa (ah tk rfl (aB tk (zl _) ?_))))))
 refine ah tk rfl (ab ?_)
 refine eQ (γ := OwnRef) tk 19 18 1 (fun s1 g1=>upd (upd (upd (fun _=>.any) 8 (.own 16 g1 (s1.map bh).length)) 2 (.list 52 (b.map bh))) 0 (ae kind)) nB (fun s1 g1=>upd (fun _=>none) 16 (some ⟨g1,52,(s1.map bh),true⟩)) g16 H (fun fl1 Hp1 j1 s1 g1 hz1 hl1 x1 fb1 hx1 H hg1=>?_) (fun s1 g1 H=>?_)
 ·refine ac (aE (aw 2 tk rfl (ac (ac ?_))))
  refine gp (tag := 16) rfl (fun ho16=>?_)
  refine bt tk mok ⟨false,false,[]⟩ [0,1,2,3,4,5,6,7,8,9,10] rfl (by decide +kernel) rfl (bf 2 rfl ?_)
  refine bF (zn j1) (bj (fun _=>rfl) hx1) ?_
  refine bf 4 rfl ?_
  obtain ⟨x29,k29,H⟩ := bB H
  refine bF k29.1 (aV (fun _=>rfl) k29.2) ?_
  refine bf 3 rfl (bp ?_)
  refine aN rfl H (fun H=>?_) (fun H=>?_)
  ·refine aw 2 tk rfl ?_
   obtain rfl := az H
   have e1 : fl1 = .ret _ := hg1
   subst e1
   obtain rfl := bu Hp1
   refine bd tk rfl (ps := [(.val (.slice none 0 0)),(ae 7)]) ⟨_,_,rfl,rfl,_,_,rfl,rfl,rfl⟩ (PLe.of2 (lW.tup (gk.cons (lW.nil tk rfl) (gk.cons (lW.of_eq rfl) gk.nil))))
  refine ax (aa (af 4 tk rfl ?_))
  refine aX tk (zn j1) (bj (fun _=>rfl) hx1) ?_
  refine af 3 tk rfl ?_
  refine aL rfl rfl rfl H (fun H=>?_) (fun H=>?_)
  ·refine af 10 tk rfl ?_
   obtain ⟨x51,k51,H⟩ := bB H
   refine ll (tag := 16) rfl (fun ho16=>?_)
   refine lm tk rfl rfl rfl rfl rfl rfl rfl ⟨k51.1,(dZ k51.2)⟩ (ed ho16 k51.2) rfl (ah tk rfl ?_)
   obtain ⟨y8,hy8,H⟩ := dg H
   refine pU tk rfl rfl rfl rfl rfl rfl rfl rfl (by rw [zl]; exact (zg.1 k51.2).1) (PLe.refl _ _) rfl rfl rfl rfl (by decide) (fm (fun _=>rfl) k51.2 rfl hy8) ?_
   refine ab (aW (br 2 tk rfl ?_))
   exact bq g1 H hl1 hg1 (Gh.le (aM (aM (ck (PLe.q (eM (by omega))) (aM (aM (ck (PLe.of2 (lW.of_eq (congrArg (PV.own 16 g1) (gK (f := bh) hy8)))) bU)))))) bw (da bA))
  refine af 3 tk rfl ?_
  refine aL rfl rfl rfl H (fun H=>?_) (fun H=>?_)
  ·refine af 2 tk rfl ?_
   obtain ⟨x46,k46,H⟩ := bB H
   refine aX tk k46.1 (aV (fun _=>rfl) k46.2) ?_
   refine af 4 tk rfl ?_
   obtain ⟨x51,k51,H⟩ := bB H
   refine ll (tag := 16) rfl (fun ho16=>?_)
   refine lm tk rfl rfl rfl rfl rfl rfl rfl ⟨k51.1,(dZ k51.2)⟩ (ed ho16 k51.2) rfl (ah tk rfl ?_)
   obtain ⟨y9,hy9,H⟩ := dg H
   refine pU tk rfl rfl rfl rfl rfl rfl rfl rfl (by rw [zl]; exact (zg.1 k51.2).1) (PLe.refl _ _) rfl rfl rfl rfl (by decide) (fm (fun _=>rfl) k51.2 rfl hy9) ?_
   refine ab (aW (br 2 tk rfl ?_))
   exact bq g1 H hl1 hg1 (Gh.le (aM (aM (ck (PLe.q (eM (by omega))) (aM (aM (ck (PLe.of2 (lW.of_eq (congrArg (PV.own 16 g1) (gK (f := bh) hy9)))) bU)))))) bw (da bA))
  refine af 7 tk rfl ?_
  obtain ⟨x51,k51,H⟩ := bB H
  refine ll (tag := 16) rfl (fun ho16=>?_)
  refine lm tk rfl rfl rfl rfl rfl rfl rfl ⟨k51.1,(dZ k51.2)⟩ (ed ho16 k51.2) rfl (ah tk rfl ?_)
  obtain ⟨y10,hy10,H⟩ := dg H
  refine pU tk rfl rfl rfl rfl rfl rfl rfl rfl (by rw [zl]; exact (zg.1 k51.2).1) (PLe.refl _ _) rfl rfl rfl rfl (by decide) (fm (fun _=>rfl) k51.2 rfl hy10) ?_
  refine ab (aW (br 2 tk rfl ?_))
  exact bq g1 H hl1 hg1 (Gh.le (aM (aM (ck (PLe.q (eM (by omega))) (aM (aM (ck (PLe.of2 (lW.of_eq (congrArg (PV.own 16 g1) (gK (f := bh) hy10)))) bU)))))) bw (da bA))
 refine aw 3 tk rfl (dD 6 rfl rfl rfl ?_)
 exact bi tk H rfl
def cx (sA : List (List UInt8)) (v : List UInt8) : Option (Bool) :=
 ag (bQ sA v) fun x7 =>
 some (decide (x7 ≥ (0 : Int)))
theorem hZ (sA : List (List UInt8)) (v : List UInt8) (r : Bool) (H : cx sA v = some r) :
  aU Tryz.prog 103 [(.list 9 (sA.map aF)),(.str v)] (au r) := by
 unfold cx at H
 refine PH.ay Tryz.func103 Tryz.ntmps103 ?_
 refine aw 1 tk rfl (ac (aa (af 2 tk rfl ?_)))
 obtain ⟨x7,h7,H⟩ := av H
 have s7 := iJ sA v _ h7
 refine aq Tryz.call99 (eZ.r) s7 ?_
 refine af 2 tk rfl (ab ?_)
 exact bi tk H rfl
def cq (sA : List (List UInt8)) (v : List UInt8) : Option (Bool × (List (List UInt8))) :=
 ag (cY sA v) fun x7 =>
 ag (lM (x7.2.length = sA.length) ()) fun (_ : Unit) =>
 some ((decide (x7.1 ≥ (0 : Int))),x7.2)
theorem jS (g_sA : OwnRef) (sA : List (List UInt8)) (v : List UInt8) (r : Bool × (List (List UInt8))) (H : cq sA v = some r) :
  PH Tryz.prog 103 [(.own 0 g_sA (sA.map aF).length),(.str v)] ⟨fun _=>none,upd (fun _=>none) 0 (some ⟨g_sA,9,(sA.map aF),true⟩)⟩ (fun u H=>u = (au r.1) ∧ H = ⟨fun _=>none,upd (fun _=>none) 0 (some ⟨g_sA,9,(r.2.map aF),true⟩)⟩) := by
 unfold cq at H
 refine PH.ay Tryz.func103 Tryz.ntmps103 ?_
 refine aw 1 tk rfl (ac (aa (af 2 tk rfl ?_)))
 obtain ⟨x7,h7,H⟩ := av H
 have s7 := kE g_sA sA v _ h7
 obtain ⟨_,q7_0,H⟩ := av H
 have l7_0 := (nU q7_0).1
 have z7_0 : (List.map aF sA).length = (List.map aF x7.2).length := by simpa using (l7_0).symm
 refine hM (g := 99) rfl rfl rfl Tryz.call99 [] [(0,0)] rfl rfl rfl rfl (eZ.of2 (gk.cons (lW.own rfl) (gk.cons (lW.of_eq rfl) gk.nil))) (by rw [gD,fI,gC]; rfl) s7 ?_
 rintro u7 H7h ⟨rfl,rfl⟩
 refine ⟨_,rfl,?_⟩
 refine gI (st' := ⟨_,_,fun _=>none,upd (fun _=>none) 0 (some ⟨g_sA,9,(x7.2.map aF),true⟩)⟩) (Gh.le (fF _ _) bw (da bA)) ?_
 refine af 2 tk rfl (ab ?_)
 obtain rfl := az H
 refine lA (st' := ⟨9,upd (fun _=>.any) 4 (au (decide (x7.1 ≥ (0 : Int)))),fun _=>none,upd (fun _=>none) 0 (some ⟨g_sA,9,(x7.2.map aF),true⟩)⟩) (Gh.le (aM bU) bw (da bA)) ?_
 refine rh tk rfl (ps := [(au (decide (x7.1 ≥ (0 : Int))))]) ⟨_,_,rfl,rfl,rfl⟩ (PLe.q rfl) ⟨rfl,rfl⟩
def bM (sA : List LCol) (f : LCol → Option (Bool)) : Option (Bool) :=
 ag (cn sA f) fun x7 =>
 some (decide (x7 ≥ (0 : Int)))
theorem iH {g_f : FuncId} {caps_f : List PV} (sA : List LCol) (f : LCol → Option (Bool)) (hg_f : ∀ (vs : Array Value) (w : World),(callFunc g_f vs).run Tryz.prog w = .ok (.enter g_f vs) w) (hp_f : ∀ a0 r,f a0 = some r → aU Tryz.prog g_f ((.agg (bh a0)) :: caps_f) (au r)) (r : Bool) (H : bM sA f = some r) :
  aU Tryz.prog 141 [(.list 52 (sA.map bh)),(.fn g_f caps_f)] (au r) := by
 unfold bM at H
 refine PH.ay Tryz.func141 Tryz.ntmps141 ?_
 refine aw 1 tk rfl (ac (aa (af 2 tk rfl ?_)))
 obtain ⟨x7,h7,H⟩ := av H
 have s7 := fC sA f hg_f hp_f _ h7
 refine aq Tryz.call132 (eZ.r) s7 ?_
 refine af 2 tk rfl (ab ?_)
 exact bi tk H rfl
def jF (_rec63 : LExpr → Option (LExpr)) (rec68 : LExpr → (List (List UInt8)) → (List LExpr) → Option (LExpr)) (e : LExpr) : Option (LExpr) :=
 ag (rec68 e ([] : List (List UInt8)) ([] : List LExpr)) fun x4 =>
 some x4
theorem WO_expr_Clone (rec63 : LExpr → Option (LExpr)) (rec68 : LExpr → (List (List UInt8)) → (List LExpr) → Option (LExpr)) (_hrec63 : ∀ a0 r,rec63 a0 = some r → aU Tryz.prog 63 [(.agg (bl a0))] (.agg (bl r))) (hrec68 : ∀ a0 a1 a2 r,rec68 a0 a1 a2 = some r → aU Tryz.prog 68 [(.agg (bl a0)),(.list 9 (a1.map aF)),(.list 94 (a2.map ak))] (.agg (bl r))) (e : LExpr) (r : LExpr) (H : jF rec63 rec68 e = some r) :
  aU Tryz.prog 63 [(.agg (bl e))] (.agg (bl r)) := by
 unfold jF at H
 refine PH.ay Tryz.func63 Tryz.ntmps63 ?_
 refine ac (aa (aG ?_))
 refine aA tk fun b2=>?_
 refine ab (ac (aa (ah tk rfl ?_)))
 obtain ⟨x4,h4,H⟩ := av H
 have s4 := hrec68 e ([] : List (List UInt8)) ([] : List LExpr) _ h4
 refine aq Tryz.call68 (eZ.of2 (gk.cons (lW.of_eq rfl) (gk.cons (lW.nil tk rfl) (gk.cons (lW.nil tk rfl) gk.nil)))) s4 ?_
 refine ao tk ?_
 refine ab ?_
 exact pI tk H rfl rfl rfl rfl rfl
def eJ (rec63 : LExpr → Option (LExpr)) (rec68 : LExpr → (List (List UInt8)) → (List LExpr) → Option (LExpr)) (e : LExpr) (names : List (List UInt8)) (l : List LExpr) : Option (LExpr) :=
 ag (
  cond (e.kind == (2 : Int))
   (ag (bQ names e.name) fun x17 =>
   cond (decide (x17 ≥ (0 : Int)))
    (cond (decide (x17 < (l.length : Int)))
     (ag (aR l x17) fun (x28 : LExpr) =>
     ag (rec63 x28) fun x30 =>
     some (.ret x30))
     (some (.next ())))
    (some (.next ())))
   (some (.next ()))) fun (fl1 : Flow (Unit) (LExpr))=>fl1.thenR fun _ =>
 ag (aI (σ := List LExpr) (ρ := Empty) (fun (_ : Nat) (x2 : LExpr) (s2 : List LExpr) =>
  ag (rec68 x2 names l) fun x45 =>
  ag (bS 88 s2 ([x45] : List LExpr)) fun (x47 : List LExpr) =>
  some (.next x47)) 0 e.args []) fun fl2=>fl2.thenP fun (s2 : List LExpr) =>
 some (LExpr.mk e.kind e.name e.index e.value s2)
theorem pO (rec63 : LExpr → Option (LExpr)) (rec68 : LExpr → (List (List UInt8)) → (List LExpr) → Option (LExpr)) (hrec63 : ∀ a0 r,rec63 a0 = some r → aU Tryz.prog 63 [(.agg (bl a0))] (.agg (bl r))) (hrec68 : ∀ a0 a1 a2 r,rec68 a0 a1 a2 = some r → aU Tryz.prog 68 [(.agg (bl a0)),(.list 9 (a1.map aF)),(.list 94 (a2.map ak))] (.agg (bl r))) (e : LExpr) (names : List (List UInt8)) (l : List LExpr) (r : LExpr) (H : eJ rec63 rec68 e names l = some r) :
  aU Tryz.prog 68 [(.agg (bl e)),(.list 9 (names.map aF)),(.list 94 (l.map ak))] (.agg (bl r)) := by
 unfold eJ at H
 refine PH.ay Tryz.func68 Tryz.ntmps68 ?_
 refine ac (aa (aG ?_))
 refine aA tk fun b6=>?_
 refine ab (ac (aw 3 tk rfl ?_))
 refine V.cutR (γ := Unit) (fun t1 g1=>⟨51,upd (upd (upd (upd (fun _=>.any) 6 (.box 6 b6 0)) 3 (.ptr (bl e))) 2 (.list 94 (l.map ak))) 1 (.list 9 (names.map aF)),upd (fun _=>none) 6 (some ⟨b6,[(ae 0),(.str []),(ae 0),(ae 0),(ae 0),(.str []),(.val (.slice none 0 0))]⟩),fun _=>none⟩) H (fun _ H Hp1=>?_) (fun t1 g1 H=>?_)
 ·refine aN rfl H (fun H=>?_) (fun H=>?_)
  ·refine ac (aa (af 3 tk rfl ?_))
   obtain ⟨x17,h17,H⟩ := av H
   have s17 := iJ names e.name _ h17
   refine aq Tryz.call99 (eZ.r) s17 ?_
   refine ah tk rfl (ab (ac (aa (af 3 tk rfl ?_))))
   refine aL rfl rfl rfl H (fun H=>?_) (fun H=>?_)
   ·refine af 2 tk rfl (aB tk (zl _) ?_)
    refine af 2 tk rfl (ab ?_)
    refine aN rfl H (fun H=>?_) (fun H=>?_)
    ·refine ac (aa (af 2 tk rfl ?_))
     obtain ⟨x28,k28,H⟩ := bB H
     refine aX tk k28.1 (aV aS k28.2) ?_
     refine ah tk rfl ?_
     obtain ⟨x30,h30,H⟩ := av H
     have s30 := hrec63 x28 _ h30
     refine aq Tryz.call63 (eZ.r) s30 ?_
     refine ao tk ?_
     refine ab ?_
     obtain rfl := az H
     obtain rfl := bu Hp1
     refine bd tk rfl (ps := [(.agg (bl x30))]) ⟨_,_,rfl,⟨_,_,_,_,_,rfl,rfl,rfl,rfl⟩,rfl⟩ (PLe.q rfl)
    refine ax ?_
    refine aJ _ () (az H).symm Gh.d
   refine af 5 tk rfl (ab (bW rfl (ax ?_)))
   refine aJ _ () (az H).symm Gh.d
  refine ax ?_
  refine aJ _ () (az H).symm Gh.d
 refine ac (aa (ah tk rfl ?_))
 refine aA tk fun b8=>?_
 refine ao tk ?_
 refine ab (ac (aa (ah tk rfl (ao tk ?_))))
 refine ab (ac (ac (aa (af 2 tk rfl (aB tk (zl _) ?_)))))
 refine ah tk rfl (ab (gg tk 8 6 47 (e := 94) rfl rfl rfl rfl ?_))
 refine db (γ := OwnRef) tk 36 35 34 (fun s2 g2=>upd (upd (upd (upd (fun _=>.any) 8 (.box 8 b8 0)) 6 (.box 6 b6 0)) 2 (.list 94 (l.map ak))) 1 (.list 9 (names.map aF))) (fun s2 g2=>upd (upd (fun _=>none) 8 (some ⟨b8,[(ae e.kind),(.str e.name),(ae e.index),(ae e.value.kind),(ae e.value.int),(.str e.value.text),(.own 47 g2 (s2.map ak).length)]⟩)) 6 (some ⟨b6,[(ae 0),(.str []),(ae 0),(ae 0),(ae 0),(.str []),(.val (.slice none 0 0))]⟩)) (fun s2 g2=>upd (fun _=>none) 47 (some ⟨g2,94,(s2.map ak),true⟩)) (⟨none,0⟩) H (fun fl2 Hp2 j2 s2 g2 hz2 hl2 x2 fb2 hx2 H hg2=>?_) (fun s2 g2 H=>?_)
 ·refine ac (aE (ac (aa (aX tk (zn j2) (bj aS hx2) ?_))))
  refine ah tk rfl ?_
  refine aA tk fun b10=>?_
  refine ao tk ?_
  refine ab (cg 10 ?_)
  refine bt tk mok ⟨true,false,[42]⟩ [0,1,2,3,4,5,6,7,8,9] rfl (by decide +kernel) rfl (bn rfl (aY ?_))
  refine bf 3 rfl ?_
  obtain ⟨x45,h45,H⟩ := av H
  have s45 := hrec68 x2 names l _ h45
  refine be Tryz.call68 (eZ.r) s45 ?_
  refine bn rfl ?_
  obtain ⟨x47,h47,H⟩ := av H
  have k47 := bE h47
  refine em (rows2' := List.map ak ([x45] : List LExpr)) (rows' := List.map ak x47) tk rfl rfl rfl rfl rfl rfl rfl rfl rfl rfl rfl rfl rfl rfl (dH.trans (b := List.map bl [x45]) (dH.refl _) (dH.of_eq (bN aS [x45]))) (ce k47.1) (cb k47.2.1) (ca k47.2.2) fun g47=>?_
  refine bn rfl (bm ?_)
  refine bp (aW (br 2 tk rfl ?_))
  exact bq g47 H hl2 hg2
 refine ac (aa (al tk ?_))
 refine ao tk ?_
 refine ab (bD 6 6 rfl rfl rfl rfl rfl ?_)
 exact pI tk H rfl rfl rfl rfl rfl
mutual
def fN : Nat → LExpr → Option (LExpr)
 | 0,_=>none
 | n + 1,v0=>jF (fun b0=>fN n b0) (fun b0 b1 b2=>bC n b0 b1 b2) v0
def bC : Nat → LExpr → (List (List UInt8)) → (List LExpr) → Option (LExpr)
 | 0,_,_,_=>none
 | n + 1,v0,v1,v2=>eJ (fun b0=>fN n b0) (fun b0 b1 b2=>bC n b0 b1 b2) v0 v1 v2
end
theorem px  (n : Nat) : (∀ a0 r,fN n a0 = some r → aU Tryz.prog 63 [(.agg (bl a0))] (.agg (bl r))) ∧ (∀ a0 a1 a2 r,bC n a0 a1 a2 = some r → aU Tryz.prog 68 [(.agg (bl a0)),(.list 9 (a1.map aF)),(.list 94 (a2.map ak))] (.agg (bl r))) := by
 induction n with
 | zero=>exact ⟨(by intros; rename_i h; exact absurd (show (none : Option _) = some _ from h) (by simp)),(by intros; rename_i h; exact absurd (show (none : Option _) = some _ from h) (by simp))⟩
 | succ n ih =>
  exact ⟨(fun v0 r h=>WO_expr_Clone (fun b0=>fN n b0) (fun b0 b1 b2=>bC n b0 b1 b2) ih.1 ih.2 v0  r h),(fun v0 v1 v2 r h=>pO (fun b0=>fN n b0) (fun b0 b1 b2=>bC n b0 b1 b2) ih.1 ih.2 v0 v1 v2  r h)⟩
def dL (e : LExpr) : Option (LExpr) := fe fun n=>fN n e
theorem gB (e : LExpr) (r : LExpr) (H : dL e = some r) :
  aU Tryz.prog 63 [(.agg (bl e))] (.agg (bl r)) := by
 obtain ⟨n,h⟩ := et H
 exact (px  n).1 e r h
def dF (e : LExpr) (names : List (List UInt8)) (l : List LExpr) : Option (LExpr) := fe fun n=>bC n e names l
theorem iN (e : LExpr) (names : List (List UInt8)) (l : List LExpr) (r : LExpr) (H : dF e names l = some r) :
  aU Tryz.prog 68 [(.agg (bl e)),(.list 9 (names.map aF)),(.list 94 (l.map ak))] (.agg (bl r)) := by
 obtain ⟨n,h⟩ := et H
 exact (px  n).2 e names l r h
def cE (sA : List (List UInt8)) (f : (List UInt8) → Option (Bool)) : Option (Bool) :=
 ag (dN sA f) fun x7 =>
 some (decide (x7 ≥ (0 : Int)))
theorem jx {g_f : FuncId} {caps_f : List PV} (sA : List (List UInt8)) (f : (List UInt8) → Option (Bool)) (hg_f : ∀ (vs : Array Value) (w : World),(callFunc g_f vs).run Tryz.prog w = .ok (.enter g_f vs) w) (hp_f : ∀ a0 r,f a0 = some r → aU Tryz.prog g_f ((.str a0) :: caps_f) (au r)) (r : Bool) (H : cE sA f = some r) :
  aU Tryz.prog 100 [(.list 9 (sA.map aF)),(.fn g_f caps_f)] (au r) := by
 unfold cE at H
 refine PH.ay Tryz.func100 Tryz.ntmps100 ?_
 refine aw 1 tk rfl (ac (aa (af 2 tk rfl ?_)))
 obtain ⟨x7,h7,H⟩ := av H
 have s7 := jV sA f hg_f hp_f _ h7
 refine aq Tryz.call143 (eZ.r) s7 ?_
 refine af 2 tk rfl (ab ?_)
 exact bi tk H rfl
def dq (slices : List (List (List UInt8))) : Option ((List (List UInt8))) :=
 ag (aI (σ := Int) (ρ := Empty) (fun (_ : Nat) (x1 : List (List UInt8)) (s1 : Int) =>
  cond (decide ((IntKind.i64.wrap (s1 + (x1.length : Int))) < (0 : Int)))
   (none)
   (some (.next (IntKind.i64.wrap (s1 + (x1.length : Int)))))) 0 slices 0) fun fl1=>fl1.thenP fun (s1 : Int) =>
 ag (growI 16 s1) fun (_ : Unit) =>
 ag (aI (σ := List (List UInt8)) (ρ := Empty) (fun (_ : Nat) (x2 : List (List UInt8)) (s2 : List (List UInt8)) =>
  ag (bS 16 s2 x2) fun (x33 : List (List UInt8)) =>
  some (.next x33)) 0 slices []) fun fl2=>fl2.thenP fun (s2 : List (List UInt8)) =>
 some s2
theorem kT {m : Nat} (slices : List (List (List UInt8))) (r : (List (List UInt8))) (H : dq slices = some r) :
  dY Tryz.prog 74 [(.list 27 (slices.map (jt 9 aF)))] (jq m 9 (r.map aF)) := by
 unfold dq at H
 refine PH.ay Tryz.func74 Tryz.ntmps74 ?_
 refine aw 1 tk rfl (aw 1 tk rfl (ac (ac (aa (ah tk rfl (aB tk (zl _) ?_))))))
 refine ah tk rfl (ab ?_)
 refine db tk 11 10 9 (fun s1 g1=>upd (upd (fun _=>.any) 3 (ae s1)) 0 (.list 27 (slices.map (jt 9 aF)))) nB nO () H (fun fl1 Hp1 j1 s1 g1 hz1 hl1 x1 fb1 hx1 H hg1=>?_) (fun s1 g1 H=>?_)
 ·refine ac (aE (ac (aa ?_)))
  refine aX tk (zn j1) (bj (fun _=>rfl) hx1) ?_
  refine af 2 tk rfl (ab (ac (aa (af 2 tk rfl (aB tk (zl _) ?_)))))
  refine af 2 tk rfl (ab (aw 2 tk rfl ?_))
  refine aN rfl H (fun H=>?_) (fun H=>?_)
  ·cases H
  refine ax (aW (br 2 tk rfl ?_))
  exact bq () H hl1 hg1
 refine ac (aa (ah tk rfl ?_))
 obtain ⟨_,h24,H⟩ := av H
 have s24 := grow_104 (m := 24) s1 h24
 refine qX (g := 104) rfl rfl rfl Tryz.call104 (eZ.r) rfl rfl s24 (fun g24=>?_)
 refine ah tk rfl (ab (ac (ac (aa (ah tk rfl (aB tk (zl _) ?_))))))
 refine ah tk rfl (ab ?_)
 refine db (γ := OwnRef) tk 27 26 25 (fun s2 g2=>upd (fun _=>.any) 6 (.own 24 g2 (s2.map aF).length)) nB (fun s2 g2=>upd (fun _=>none) 24 (some ⟨g2,9,(s2.map aF),true⟩)) g24 H (fun fl2 Hp2 j2 s2 g2 hz2 hl2 x2 fb2 hx2 H hg2=>?_) (fun s2 g2 H=>?_)
 ·refine ac (aE (ac (aa ?_)))
  refine aX tk (zn j2) (bj (fun _=>rfl) hx2) ?_
  refine af 2 tk rfl (ab (aa (af 2 tk rfl ?_)))
  obtain ⟨x33,h33,H⟩ := av H
  have k33 := bE h33
  refine bO (rows2' := List.map aF x2) (rows' := List.map aF x33) tk rfl rfl rfl rfl rfl rfl rfl rfl rfl rfl rfl rfl rfl (dH.refl _) (ce k33.1) (cb k33.2.1) (ca k33.2.2) fun g33=>?_
  refine ah tk rfl (ab (aW (br 2 tk rfl ?_)))
  exact bq g33 H hl2 hg2
 refine aw 2 tk rfl ?_
 obtain rfl := az H
 refine im tk rfl
def kO (rec39 : LExpr → LExpr → Option (Bool)) (a : LExpr) (b : LExpr) : Option (Bool) :=
 cond (a.kind == b.kind)
  (cond (a.index == b.index)
   (cond (a.name == b.name)
    (cond (a.value.kind == b.value.kind && (a.value.int == b.value.int && (a.value.text == b.value.text && true)))
     (ag (bc a.args b.args (fun a0 a1=>rec39 a0 a1)) fun x36 =>
     some x36)
     (some false))
    (some false))
   (some false))
  (some false)
theorem WO_expr_Equal (rec39 : LExpr → LExpr → Option (Bool)) (hrec39 : ∀ a0 a1 r,rec39 a0 a1 = some r → aU Tryz.prog 39 [(.agg (bl a0)),(.agg (bl a1))] (au r)) (a : LExpr) (b : LExpr) (r : Bool) (H : kO rec39 a b = some r) :
  aU Tryz.prog 39 [(.agg (bl a)),(.agg (bl b))] (au r) := by
 unfold kO at H
 refine PH.ay Tryz.func39 Tryz.ntmps39 ?_
 refine ac (aa (aG ?_))
 refine aG ?_
 refine ah tk rfl (ab (ac (aa (af 6 tk rfl ?_))))
 refine aL rfl rfl rfl H (fun H=>?_) (fun H=>?_)
 ·refine af 7 tk rfl ?_
  refine aL rfl rfl rfl H (fun H=>?_) (fun H=>?_)
  ·refine af 7 tk rfl ?_
   refine aL rfl rfl rfl H (fun H=>?_) (fun H=>?_)
   ·refine af 7 tk rfl ?_
    refine aL rfl rfl rfl H (fun H=>?_) (fun H=>?_)
    ·refine af 4 tk rfl ?_
     obtain ⟨x36,h36,H⟩ := av H
     have s36 := cp a.args b.args (fun a0 a1=>rec39 a0 a1) Tryz.call39 (fun a0 a1 r h=>hrec39 a0 a1 r h) _ h36
     refine aq Tryz.call38 (eZ.r) s36 ?_
     refine af 2 tk rfl (ab ?_)
     exact bi tk H rfl
    refine af 7 tk rfl (ab ?_)
    exact bi tk H rfl
   refine af 14 tk rfl (ab ?_)
   exact bi tk H rfl
  refine af 21 tk rfl (ab ?_)
  exact bi tk H rfl
 refine af 28 tk rfl (ab ?_)
 exact bi tk H rfl
def gr : Nat → LExpr → LExpr → Option (Bool)
 | 0,_,_=>none
 | n + 1,v0,v1=>kO (fun b0 b1=>gr n b0 b1) v0 v1
theorem WF_expr_Equal  (n : Nat) : (∀ a0 a1 r,gr n a0 a1 = some r → aU Tryz.prog 39 [(.agg (bl a0)),(.agg (bl a1))] (au r)) := by
 induction n with
 | zero=>exact (by intros; rename_i h; exact absurd (show (none : Option _) = some _ from h) (by simp))
 | succ n ih =>
  exact (fun v0 v1 r h=>WO_expr_Equal (fun b0 b1=>gr n b0 b1) ih v0 v1  r h)
def ie (a : LExpr) (b : LExpr) : Option (Bool) := fe fun n=>gr n a b
theorem pR (a : LExpr) (b : LExpr) (r : Bool) (H : ie a b = some r) :
  aU Tryz.prog 39 [(.agg (bl a)),(.agg (bl b))] (au r) := by
 obtain ⟨n,h⟩ := et H
 exact (WF_expr_Equal  n) a b r h
def eg (t : LTable) : Option (Int) :=
 ag (eA t.name) fun x11 =>
 cond (!x11)
  (some 23)
  (cond ((t.columns.length : Int) == (0 : Int))
   (some 3)
   (cond (decide ((t.columns.length : Int) > (6 : Int)))
    (some 2)
    (ag (aI (σ := Unit) (ρ := (Int)) (fun (j1 : Nat) (x1 : LCol) (_ : Unit) =>
     ag (eA x1.name) fun x31 =>
     cond (!x31)
      (some (.ret 23))
      (ag (eW t x1.name) fun x37 =>
      cond (decide (x37.1 < (j1 : Int)))
       (some (.ret 5))
       (cond (decide (x1.kind < (1 : Int)))
        (some (.ret 7))
        (cond (decide (x1.kind > (3 : Int)))
         (some (.ret 7))
         (some (.next ())))))) 0 t.columns ()) fun fl1=>fl1.thenR fun (_ : Unit) =>
    ag (aI (σ := Unit) (ρ := (Int)) (fun (j2 : Nat) (x2 : Int) (_ : Unit) =>
     cond (decide (x2 < (0 : Int)))
      (some (.ret 9))
      (cond (decide (x2 ≥ (t.columns.length : Int)))
       (some (.ret 9))
       (ag (aR t.columns x2) fun (x73 : LCol) =>
       cond x73.nullable
        (some (.ret 9))
        (cond (decide ((j2 : Int) > (0 : Int)))
         (ag (aR t.primaryKey (IntKind.i64.wrap ((j2 : Int) - (1 : Int)))) fun (x86 : Int) =>
         cond (decide (x2 ≤ x86))
          (some (.ret 9))
          (some (.next ())))
         (some (.next ())))))) 0 t.primaryKey ()) fun fl2=>fl2.thenR fun (_ : Unit) =>
    cond ((t.primaryKey.length : Int) == (0 : Int))
     (some 9)
     (some 0))))
theorem nV (t : LTable) (r : Int) (H : eg t = some r) :
  aU Tryz.prog 53 [(.agg (cU t))] (ae r) := by
 unfold eg at H
 refine PH.ay Tryz.func53 Tryz.ntmps53 ?_
 refine ac (aa (aG ?_))
 refine ah tk rfl (ab (ac (ac (aa (af 2 tk rfl ?_)))))
 obtain ⟨x11,h11,H⟩ := av H
 have s11 := lK t.name _ h11
 refine aq Tryz.call86 (eZ.r) s11 ?_
 refine ah tk rfl (ab ?_)
 refine aN rfl H (fun H=>?_) (fun H=>?_)
 ·refine aw 1 tk rfl ?_
  exact bi tk H rfl
 refine ax (ac (ac (aa (af 2 tk rfl (aB tk (zl _) ?_)))))
 refine ah tk rfl (ab ?_)
 refine aN rfl H (fun H=>?_) (fun H=>?_)
 ·refine aw 1 tk rfl ?_
  exact bi tk H rfl
 refine ax (ac (ac (aa (af 2 tk rfl (aB tk (zl _) ?_)))))
 refine ah tk rfl (ab ?_)
 refine aN rfl H (fun H=>?_) (fun H=>?_)
 ·refine aw 1 tk rfl ?_
  exact bi tk H rfl
 refine ax (ac (ac (aa (af 2 tk rfl (aB tk (zl _) ?_)))))
 refine ah tk rfl (ab ?_)
 refine eQ tk 24 23 22 (fun s1 g1=>upd (fun _=>.any) 1 (.ptr (cU t))) nB nO () H (fun fl1 Hp1 j1 s1 g1 hz1 hl1 x1 fb1 hx1 H hg1=>?_) (fun s1 g1 H=>?_)
 ·refine ac (aE (ac (aa (ah tk rfl ?_))))
  refine aX tk (zn j1) (bj (fun _=>rfl) hx1) ?_
  refine ah tk rfl ?_
  refine aA tk fun b4=>?_
  refine ah tk rfl (ao tk ?_)
  refine ab (ac (ac (aa (ah tk rfl (al tk ?_)))))
  obtain ⟨x31,h31,H⟩ := av H
  have s31 := lK x1.name _ h31
  refine aq Tryz.call86 (eZ.r) s31 ?_
  refine ah tk rfl (ab ?_)
  refine aN rfl H (fun H=>?_) (fun H=>?_)
  ·refine aw 1 tk rfl ?_
   obtain rfl := az H
   have e1 : fl1 = .ret _ := hg1
   subst e1
   obtain rfl := bu Hp1
   refine bd tk rfl (ps := [(ae 23)]) ⟨_,_,rfl,rfl,rfl⟩ (PLe.q rfl)
  refine ax (ac (ac (aa (af 2 tk rfl (al tk ?_)))))
  obtain ⟨x37,h37,H⟩ := av H
  have s37 := pz t x1.name _ h37
  refine aq Tryz.call87 (eZ.r) s37 ?_
  refine af 5 tk rfl (ab (aw 3 tk rfl ?_))
  refine aN rfl H (fun H=>?_) (fun H=>?_)
  ·refine aw 1 tk rfl ?_
   obtain rfl := az H
   have e1 : fl1 = .ret _ := hg1
   subst e1
   obtain rfl := bu Hp1
   refine bd tk rfl (ps := [(ae 5)]) ⟨_,_,rfl,rfl,rfl⟩ (PLe.q rfl)
  refine ax (ac (aa (ah tk rfl (al tk ?_))))
  refine af 2 tk rfl ?_
  refine aL rfl rfl rfl H (fun H=>?_) (fun H=>?_)
  ·refine af 4 tk rfl (ab (cN rfl (aw 1 tk rfl ?_)))
   obtain rfl := az H
   have e1 : fl1 = .ret _ := hg1
   subst e1
   obtain rfl := bu Hp1
   refine bd tk rfl (ps := [(ae 7)]) ⟨_,_,rfl,rfl,rfl⟩ (PLe.q rfl)
  refine ah tk rfl (al tk ?_)
  refine af 2 tk rfl (ab ?_)
  refine aN rfl H (fun H=>?_) (fun H=>?_)
  ·refine aw 1 tk rfl ?_
   obtain rfl := az H
   have e1 : fl1 = .ret _ := hg1
   subst e1
   obtain rfl := bu Hp1
   refine bd tk rfl (ps := [(ae 7)]) ⟨_,_,rfl,rfl,rfl⟩ (PLe.q rfl)
  refine ax (aW (br 2 tk rfl ?_))
  exact bq () H hl1 hg1
 refine ac (ac (aa (af 2 tk rfl (aB tk (zl _) ?_))))
 refine ah tk rfl (ab ?_)
 refine eQ tk 55 54 53 (fun s2 g2=>upd (fun _=>.any) 1 (.ptr (cU t))) nB nO () H (fun fl2 Hp2 j2 s2 g2 hz2 hl2 x2 fb2 hx2 H hg2=>?_) (fun s2 g2 H=>?_)
 ·refine ac (aE (ac (aa (ah tk rfl ?_))))
  refine aX tk (zn j2) (bj (fun _=>rfl) hx2) ?_
  refine af 3 tk rfl (ab (ac (aa (af 3 tk rfl ?_))))
  refine aL rfl rfl rfl H (fun H=>?_) (fun H=>?_)
  ·refine af 28 tk rfl (ab (cN rfl (aw 1 tk rfl ?_)))
   obtain rfl := az H
   have e2 : fl2 = .ret _ := hg2
   subst e2
   obtain rfl := bu Hp2
   refine bd tk rfl (ps := [(ae 9)]) ⟨_,_,rfl,rfl,rfl⟩ (PLe.q rfl)
  refine af 3 tk rfl (aB tk (zl _) ?_)
  refine af 3 tk rfl ?_
  refine aL rfl rfl rfl H (fun H=>?_) (fun H=>?_)
  ·refine af 21 tk rfl (ab (cN rfl (aw 1 tk rfl ?_)))
   obtain rfl := az H
   have e2 : fl2 = .ret _ := hg2
   subst e2
   obtain rfl := bu Hp2
   refine bd tk rfl (ps := [(ae 9)]) ⟨_,_,rfl,rfl,rfl⟩ (PLe.q rfl)
  refine af 3 tk rfl ?_
  obtain ⟨x73,k73,H⟩ := bB H
  refine aX tk k73.1 (aV (fun _=>rfl) k73.2) ?_
  refine af 4 tk rfl ?_
  refine aL rfl rfl rfl H (fun H=>?_) (fun H=>?_)
  ·refine af 13 tk rfl (ab (cN rfl (aw 1 tk rfl ?_)))
   obtain rfl := az H
   have e2 : fl2 = .ret _ := hg2
   subst e2
   obtain rfl := bu Hp2
   refine bd tk rfl (ps := [(ae 9)]) ⟨_,_,rfl,rfl,rfl⟩ (PLe.q rfl)
  refine af 3 tk rfl ?_
  refine aL rfl rfl rfl H (fun H=>?_) (fun H=>?_)
  ·refine af 5 tk rfl ?_
   obtain ⟨x86,k86,H⟩ := bB H
   refine aX tk k86.1 (aV (fun _=>rfl) k86.2) ?_
   refine af 4 tk rfl (ab ?_)
   refine aN rfl H (fun H=>?_) (fun H=>?_)
   ·refine aw 1 tk rfl ?_
    obtain rfl := az H
    have e2 : fl2 = .ret _ := hg2
    subst e2
    obtain rfl := bu Hp2
    refine bd tk rfl (ps := [(ae 9)]) ⟨_,_,rfl,rfl,rfl⟩ (PLe.q rfl)
   refine ax (aW (br 2 tk rfl ?_))
   exact bq () H hl2 hg2
  refine af 10 tk rfl (ab (bW rfl (ax (aW (br 2 tk rfl ?_)))))
  exact bq () H hl2 hg2
 refine ac (ac (aa (af 2 tk rfl (aB tk (zl _) ?_))))
 refine ah tk rfl (ab ?_)
 refine aN rfl H (fun H=>?_) (fun H=>?_)
 ·refine aw 1 tk rfl ?_
  exact bi tk H rfl
 refine ax (aw 1 tk rfl ?_)
 exact bi tk H rfl
def dQ (sA : LSchema) (fk : LForeignKey) : Option (Int) :=
 ag (eB sA fk.table) fun x17 =>
 ag (eB sA fk.refTable) fun x24 =>
 bs (
  cond (!x17.2)
   (true)
   ((!x24.2))) fun (t1 : Bool) =>
 cond t1
  (some 4)
  (ag (aR sA.tables x17.1) fun (x36 : LTable) =>
  ag (aR sA.tables x24.1) fun (x41 : LTable) =>
  cond ((fk.columns.length : Int) != (x41.primaryKey.length : Int))
   (some 3)
   (ag (aI (σ := Unit) (ρ := (Int)) (fun (j2 : Nat) (x2 : Int) (_ : Unit) =>
    bs (
     cond (decide (x2 < (0 : Int)))
      (true)
      ((decide (x2 ≥ (x36.columns.length : Int))))) fun (t4 : Bool) =>
    cond t4
     (some (.ret 3))
     (ag (aR x36.columns x2) fun (x70 : LCol) =>
     ag (aR x41.primaryKey (j2 : Int)) fun (x78 : Int) =>
     ag (aR x41.columns x78) fun (x80 : LCol) =>
     cond (x70.kind != x80.kind)
      (some (.ret 7))
      (some (.next ())))) 0 fk.columns ()) fun fl2=>fl2.thenR fun (_ : Unit) =>
   some 0))
theorem lL (sA : LSchema) (fk : LForeignKey) (r : Int) (H : dQ sA fk = some r) :
  aU Tryz.prog 54 [(.agg (aD sA)),(.agg (iC fk))] (ae r) := by
 unfold dQ at H
 refine PH.ay Tryz.func54 Tryz.ntmps54 ?_
 refine ac (aa (aG ?_))
 refine aG ?_
 refine ah tk rfl (ab (ac (aa (af 3 tk rfl ?_))))
 obtain ⟨x17,h17,H⟩ := av H
 have s17 := jD sA fk.table _ h17
 refine aq Tryz.call88 (eZ.r) s17 ?_
 refine af 5 tk rfl (ab (ac (aa (af 3 tk rfl ?_))))
 obtain ⟨x24,h24,H⟩ := av H
 have s24 := jD sA fk.refTable _ h24
 refine aq Tryz.call88 (eZ.r) s24 ?_
 refine af 5 tk rfl (ab (ac (ac ?_)))
 refine cm (γ := Unit) (fun t1 g1=>⟨85,upd (upd (upd (upd (upd (fun _=>.any) 32 (au t1)) 7 (ae x24.1)) 5 (ae x17.1)) 3 (.ptr (iC fk))) 2 (.ptr (aD sA)),fun _=>none,fun _=>none⟩) H (fun _ H=>?_) (fun t1 g1 H=>?_)
 ·refine aa (af 3 tk rfl ?_)
  refine aL rfl rfl rfl H (fun H=>?_) (fun H=>?_)
  ·refine af 3 tk rfl (ab ?_)
   refine aJ _ () H Gh.d
  refine af 3 tk rfl (ab ?_)
  refine aJ _ () H Gh.d
 refine aN rfl H (fun H=>?_) (fun H=>?_)
 ·refine aw 1 tk rfl ?_
  exact bi tk H rfl
 refine ax (ac (bt tk mok ⟨false,false,[]⟩ [0,1,2,3,4,5,6,7,8,9,10,11,12,13] rfl (by decide +kernel) rfl (bf 3 rfl ?_)))
 obtain ⟨x36,k36,H⟩ := bB H
 refine bF k36.1 (aV (fun _=>rfl) k36.2) ?_
 refine bf 4 rfl ?_
 obtain ⟨x41,k41,H⟩ := bB H
 refine bF k41.1 (aV (fun _=>rfl) k41.2) ?_
 refine bn rfl ?_
 refine oJ rfl rfl rfl rfl rfl rfl rfl rfl fun b9=>?_
 refine oJ rfl rfl rfl rfl rfl rfl rfl rfl fun b10=>?_
 refine bm ?_
 refine bm ?_
 refine bp (ac (ac (aa (af 2 tk rfl (aB tk (zl _) ?_)))))
 refine ah tk rfl (al tk ?_)
 refine aB tk (zl _) ?_
 refine ah tk rfl (ab ?_)
 refine aN rfl H (fun H=>?_) (fun H=>?_)
 ·refine aw 1 tk rfl ?_
  exact bi tk H rfl
 refine ax (ac (ac (aa (af 2 tk rfl (aB tk (zl _) ?_)))))
 refine ah tk rfl (ab ?_)
 obtain ⟨fl2,H2,Hp2⟩ := av H
 refine jj tk 51 rfl rfl (fun hz2 _=>?_)
 rw [zl] at hz2
 refine ke (τ := Unit) (γ := Unit) (fun s2 g2=>⟨85,fun _=>.any,fun _=>none,fun _=>none⟩) (fun t=>fl2 = .next t) ?_ (fun s2 g2 hn2=>?_)
 ·refine aE ?_
  refine lk (fun j2 s2 g2=>⟨85,upd (upd (upd (upd (upd (fun _=>.any) 53 (ae (j2 : Int))) 52 (ae (fk.columns.length : Int))) 51 (.list 3 (fk.columns.map bH))) 10 (.box 10 b10 0)) 9 (.box 9 b9 0),upd (upd (fun _=>none) 10 (some ⟨b10,(cU x41)⟩)) 9 (some ⟨b9,(cU x36)⟩),fun _=>none⟩) () H2 Gh.d (fun j2 s2 g2 hj2 hr2=>?_)
  refine aw 1 tk rfl (ac ?_)
  refine cK rfl (fun h=>?_) (fun h=>?_)
  ·have hl2 := rowsLt h
   obtain ⟨x2,fb2,hx2,H,hg2⟩ := rMc hl2 hr2
   refine ax (ac (aE (ac (aa (ah tk rfl ?_)))))
   refine aX tk (zn j2) (bj (fun _=>rfl) hx2) ?_
   refine af 3 tk rfl (ab (ac (ac ?_)))
   refine cm (γ := Unit) (fun t4 g4=>⟨85,upd (upd (upd (upd (upd (upd (upd (upd (fun _=>.any) 66 (au t4)) 53 (ae (j2 : Int))) 52 (ae (fk.columns.length : Int))) 51 (.list 3 (fk.columns.map bH))) 12 (ae x2)) 11 (ae (j2 : Int))) 10 (.box 10 b10 0)) 9 (.box 9 b9 0),upd (upd (fun _=>none) 10 (some ⟨b10,(cU x41)⟩)) 9 (some ⟨b9,(cU x36)⟩),fun _=>none⟩) H (fun _ H=>?_) (fun t4 g4 H=>?_)
   ·refine aa (af 3 tk rfl ?_)
    refine aL rfl rfl rfl H (fun H=>?_) (fun H=>?_)
    ·refine af 6 tk rfl (ab ?_)
     refine aJ _ () H Gh.d
    refine af 2 tk rfl (al tk ?_)
    refine aB tk (zl _) ?_
    refine af 2 tk rfl (ab ?_)
    refine aJ _ () H Gh.d
   refine aN rfl H (fun H=>?_) (fun H=>?_)
   ·refine aw 1 tk rfl ?_
    obtain rfl := az H
    have e2 : fl2 = .ret _ := hg2
    subst e2
    obtain rfl := bu Hp2
    refine bd tk rfl (ps := [(ae 3)]) ⟨_,_,rfl,rfl,rfl⟩ (PLe.q rfl)
   refine ax (ac (bt tk mok ⟨true,false,[72,79,82]⟩ [0,1,2,3,4,5,6,7,8,9,10,11,12,13,14,15,16] rfl (by decide +kernel) rfl (bn rfl (aY ?_))))
   refine bn rfl ?_
   obtain ⟨x70,k70,H⟩ := bB H
   refine bF k70.1 (aV (fun _=>rfl) k70.2) ?_
   refine bf 3 rfl (aY ?_)
   refine bn rfl (aY ?_)
   refine bn rfl ?_
   obtain ⟨x78,k78,H⟩ := bB H
   refine bF k78.1 (aV (fun _=>rfl) k78.2) ?_
   refine bn rfl ?_
   obtain ⟨x80,k80,H⟩ := bB H
   refine bF k80.1 (aV (fun _=>rfl) k80.2) ?_
   refine bf 3 rfl (bp ?_)
   refine aN rfl H (fun H=>?_) (fun H=>?_)
   ·refine aw 1 tk rfl ?_
    obtain rfl := az H
    have e2 : fl2 = .ret _ := hg2
    subst e2
    obtain rfl := bu Hp2
    refine bd tk rfl (ps := [(ae 7)]) ⟨_,_,rfl,rfl,rfl⟩ (PLe.q rfl)
   refine ax (aW (br 2 tk rfl ?_))
   exact bq () H hl2 hg2
  have hn2 := rMd (rowsGe h) hr2
  refine cW rfl ?_
  refine aJ s2 g2 hn2 Gh.d
 have H := thenR_next hn2 Hp2
 refine aw 1 tk rfl ?_
 exact bi tk H rfl
def eS (other : LForeignKey) (c0 : LForeignKey) : Option (Bool) :=
 ag (fB other c0) fun x6 =>
 some x6
theorem pC (other : LForeignKey) (c0 : LForeignKey) (r : Bool) (H : eS other c0 = some r) :
  aU Tryz.prog 56 [(.agg (iC other)),(.ptr (iC c0))] (au r) := by
 unfold eS at H
 refine PH.ay Tryz.func56 Tryz.ntmps56 ?_
 refine ac (aa (aG ?_))
 refine ah tk rfl (ab (ac (aa (af 2 tk rfl ?_))))
 obtain ⟨x6,h6,H⟩ := av H
 have s6 := mH other c0 _ h6
 refine aq Tryz.call57 (eZ.r) s6 ?_
 refine ah tk rfl (ab ?_)
 exact bi tk H rfl
def jw (a : LVal) (b : LVal) : Int :=
 bs (fZ a.kind b.kind) fun x11 =>
 cond (x11 != (0 : Int))
  (x11)
  (bs (fZ a.int b.int) fun x19 =>
  cond (x19 != (0 : Int))
   (x19)
   (bs (iM a.text b.text) fun x27 =>
   x27))
theorem ra (a : LVal) (b : LVal) :
  aU Tryz.prog 136 [(.agg (gv a)),(.agg (gv b))] (ae (jw a b)) := by
 obtain ⟨r,H⟩ : ∃ r,jw a b = r := ⟨_,rfl⟩
 rw [H]
 unfold jw at H
 refine PH.ay Tryz.func136 Tryz.ntmps136 ?_
 refine ac (aa (aG ?_))
 refine aG ?_
 refine ah tk rfl (ab (ac (ac (aa (af 4 tk rfl ?_)))))
 obtain ⟨x11,h11,H⟩ := dg H
 have s11 := lc a.kind b.kind
 rw [h11] at s11
 refine aq Tryz.call157 (eZ.r) s11 ?_
 refine ah tk rfl (ab (aw 2 tk rfl ?_))
 refine aN rfl H (fun H=>?_) (fun H=>?_)
 ·refine aw 2 tk rfl ?_
  exact dB tk H rfl
 refine ax (ac (ac (aa (af 4 tk rfl ?_))))
 obtain ⟨x19,h19,H⟩ := dg H
 have s19 := lc a.int b.int
 rw [h19] at s19
 refine aq Tryz.call157 (eZ.r) s19 ?_
 refine ah tk rfl (ab (aw 2 tk rfl ?_))
 refine aN rfl H (fun H=>?_) (fun H=>?_)
 ·refine aw 2 tk rfl ?_
  exact dB tk H rfl
 refine ax (ac (aa (af 4 tk rfl ?_)))
 obtain ⟨x27,h27,H⟩ := dg H
 have s27 := qB a.text b.text
 rw [h27] at s27
 refine aq Tryz.call170 (eZ.r) s27 ?_
 refine ah tk rfl (ab ?_)
 exact dB tk H rfl
def cI (kinds : List Int) (c0 : LQuery) : Option (Bool) :=
 ag (ec kinds c0.kind) fun x7 =>
 some x7
theorem eo (kinds : List Int) (c0 : LQuery) (r : Bool) (H : cI kinds c0 = some r) :
  aU Tryz.prog 171 [(.list 3 (kinds.map bH)),(.ptr (am c0))] (au r) := by
 unfold cI at H
 refine PH.ay Tryz.func171 Tryz.ntmps171 ?_
 refine aw 1 tk rfl (ac (aa (af 3 tk rfl ?_)))
 obtain ⟨x7,h7,H⟩ := av H
 have s7 := lX kinds c0.kind _ h7
 refine aq Tryz.call172 (eZ.r) s7 ?_
 refine ah tk rfl (ab ?_)
 exact bi tk H rfl
def fj (l : List LExpr) : Option ((List LExpr)) :=
 ag (aI (σ := List LExpr) (ρ := Empty) (fun (_ : Nat) (x1 : LExpr) (s1 : List LExpr) =>
  ag (dL x1) fun x14 =>
  ag (bS 88 s1 ([x14] : List LExpr)) fun (x16 : List LExpr) =>
  some (.next x16)) 0 l []) fun fl1=>fl1.thenP fun (s1 : List LExpr) =>
 some s1
theorem kl (l : List LExpr) (r : (List LExpr)) (H : fj l = some r) :
  aU Tryz.prog 64 [(.list 94 (l.map ak))] (.list 94 (r.map ak)) := by
 unfold fj at H
 refine PH.ay Tryz.func64 Tryz.ntmps64 ?_
 refine aw 1 tk rfl (aw 1 tk rfl (ac (ac (aa (ah tk rfl (aB tk (zl _) ?_))))))
 refine ah tk rfl (ab (gQ tk 3 16 (e := 94) rfl rfl ?_))
 refine db (γ := OwnRef) tk 8 7 6 (fun s1 g1=>upd (fun _=>.any) 3 (.own 16 g1 (s1.map ak).length)) nB (fun s1 g1=>upd (fun _=>none) 16 (some ⟨g1,94,(s1.map ak),true⟩)) (⟨none,0⟩) H (fun fl1 Hp1 j1 s1 g1 hz1 hl1 x1 fb1 hx1 H hg1=>?_) (fun s1 g1 H=>?_)
 ·refine ac (aE (ac (aa (aX tk (zn j1) (bj aS hx1) ?_))))
  refine ah tk rfl ?_
  refine aA tk fun b5=>?_
  refine ao tk ?_
  refine ab (aa (ah tk rfl (al tk ?_)))
  obtain ⟨x14,h14,H⟩ := av H
  have s14 := gB x1 _ h14
  refine aq Tryz.call63 (eZ.r) s14 ?_
  refine cj tk (rows' := List.map ak ([x14] : List LExpr)) (dH.trans (b := List.map bl [x14]) (dH.refl _) (dH.of_eq (bN aS [x14]))) ?_
  obtain ⟨x16,h16,H⟩ := av H
  have k16 := bE h16
  refine bO (rows2' := List.map ak ([x14] : List LExpr)) (rows' := List.map ak x16) tk rfl rfl rfl rfl rfl rfl rfl rfl rfl rfl rfl rfl rfl (dH.refl _) (ce k16.1) (cb k16.2.1) (ca k16.2.2) fun g16=>?_
  refine ah tk rfl (ab (aW (br 2 tk rfl ?_)))
  exact bq g16 H hl1 hg1
 refine aw 2 tk rfl (dD 2 rfl rfl rfl ?_)
 exact bi tk H rfl
def cL (l : List LExpr) : Option (LExpr) :=
 cond ((l.length : Int) == (0 : Int))
  (bs (boolV true) fun x9 =>
  some (LExpr.mk 1 [] 0 x9 []))
  (ag (aR l 0) fun (x12 : LExpr) =>
  ag (dL x12) fun x14 =>
  ag (kG l 1 (l.length : Int)) fun (x16 : List LExpr) =>
  ag (aI (σ := LExpr) (ρ := Empty) (fun (_ : Nat) (x1 : LExpr) (s1 : LExpr) =>
   ag (dL x1) fun x24 =>
   some (.next (LExpr.mk 5 [97,110,100] 0 (LVal.mk 0 0 []) [s1,x24]))) 0 x16 x14) fun fl1=>fl1.thenP fun (s1 : LExpr) =>
  some s1)
theorem fv (l : List LExpr) (r : LExpr) (H : cL l = some r) :
  aU Tryz.prog 66 [(.list 94 (l.map ak))] (.agg (bl r)) := by
 unfold cL at H
 refine PH.ay Tryz.func66 Tryz.ntmps66 ?_
 refine ac (aa ?_)
 refine aA tk fun b2=>?_
 refine ab (ac (ac (aa (ah tk rfl (aB tk (zl _) ?_)))))
 refine ah tk rfl (ab ?_)
 refine aN rfl H (fun H=>?_) (fun H=>?_)
 ·refine ac (aa ?_)
  obtain ⟨x9,h9,H⟩ := dg H
  have s9 := boolV_spec true
  rw [h9] at s9
  refine aq Tryz.call98 (eZ.r) s9 ?_
  refine ah tk rfl (ao tk ?_)
  refine ab ?_
  obtain rfl := az H
  refine bd tk rfl (ps := [(.agg [(ae 1),(.str []),(ae 0),(ae x9.kind),(ae x9.int),(.str x9.text),(.val (.slice none 0 0))])]) ⟨_,_,rfl,⟨_,_,_,_,_,rfl,rfl,rfl,rfl⟩,rfl⟩ (PLe.of2 (lW.agg (gk.cons (lW.of_eq rfl) (gk.cons (lW.of_eq rfl) (gk.cons (lW.of_eq rfl) (gk.cons (lW.of_eq rfl) (gk.cons (lW.of_eq rfl) (gk.cons (lW.of_eq rfl) (gk.cons (lW.nil tk rfl) gk.nil)))))))))
 refine ax (ac (aa (ah tk rfl ?_)))
 obtain ⟨x12,k12,H⟩ := bB H
 refine aX tk k12.1 (aV aS k12.2) ?_
 refine ah tk rfl ?_
 obtain ⟨x14,h14,H⟩ := av H
 have s14 := gB x12 _ h14
 refine aq Tryz.call63 (eZ.r) s14 ?_
 refine aA tk fun b3=>?_
 refine ao tk ?_
 refine ab (ac (ac (aa (ah tk rfl ?_))))
 obtain ⟨x16,h16,H⟩ := av H
 have k16 := lP h16
 refine rr tk rfl rfl rfl rfl rfl (zl _) rfl rfl k16.1 (mV k16.2) rfl (aB tk (zl _) ?_)
 refine ah tk rfl (ab ?_)
 refine db tk 18 17 16 (fun s1 g1=>upd (upd (fun _=>.any) 3 (.box 3 b3 0)) 2 (.box 2 b2 0)) (fun s1 g1=>upd (upd (fun _=>none) 3 (some ⟨b3,(bl s1)⟩)) 2 (some ⟨b2,[(ae 0),(.str []),(ae 0),(ae 0),(ae 0),(.str []),(.val (.slice none 0 0))]⟩)) nO () H (fun fl1 Hp1 j1 s1 g1 hz1 hl1 x1 fb1 hx1 H hg1=>?_) (fun s1 g1 H=>?_)
 ·refine ac (aE (ac (aa (aX tk (zn j1) (bj aS hx1) ?_))))
  refine ah tk rfl ?_
  refine aA tk fun b5=>?_
  refine ao tk ?_
  refine ab (cg 5 ?_)
  refine bt tk mok ⟨true,false,[23]⟩ [0,1,2,3,4,5] rfl (by decide +kernel) rfl (aY ?_)
  refine bn rfl ?_
  obtain ⟨x24,h24,H⟩ := av H
  have s24 := gB x1 _ h24
  refine be Tryz.call63 (eZ.r) s24 ?_
  refine bf 2 rfl (bm ?_)
  refine bp (aW (br 2 tk rfl ?_))
  exact bq () H hl1 hg1 (Gh.le (aM (aM (ck (PLe.q (eM (by omega))) (aM (aM bU))))) (aO rfl (eZ.r) (aO rfl (eZ.of2 (gk.cons (lW.of_eq rfl) (gk.cons (lW.of_eq rfl) (gk.cons (lW.of_eq rfl) (gk.cons (lW.of_eq rfl) (gk.cons (lW.of_eq rfl) (gk.cons (lW.of_eq rfl) (gk.cons (lW.list (dH.trans (b := List.map bl [s1,x24]) (dH.refl _) (dH.of_eq (bN aS [s1,x24])))) gk.nil)))))))) bw)) bA)
 refine ac (aa (al tk ?_))
 refine ao tk ?_
 refine ab ?_
 exact pI tk H rfl rfl rfl rfl rfl
def ig (rec67 : LExpr → Option ((List LExpr))) (e : LExpr) : Option ((List LExpr)) :=
 bs (
  cond (e.kind == (5 : Int))
   (cond (e.name == ([97,110,100] : List UInt8))
    (((e.args.length : Int) == (2 : Int)))
    (false))
   (false)) fun (t1 : Bool) =>
 cond t1
  (ag (aR e.args 0) fun (x19 : LExpr) =>
  ag (aR e.args 1) fun (x24 : LExpr) =>
  ag (rec67 x19) fun x21 =>
  ag (rec67 x24) fun x26 =>
  ag (bS 88 x21 x26) fun (x27 : List LExpr) =>
  some x27)
  (ag (dL e) fun x29 =>
  some [x29])
theorem qF {m : Nat} (rec67 : LExpr → Option ((List LExpr))) (hrec67 : ∀ m a0 r,rec67 a0 = some r → dY Tryz.prog 67 [(.agg (bl a0))] (jq m 94 (r.map ak))) (e : LExpr) (r : (List LExpr)) (H : ig rec67 e = some r) :
  dY Tryz.prog 67 [(.agg (bl e))] (jq m 94 (r.map ak)) := by
 unfold ig at H
 refine PH.ay Tryz.func67 Tryz.ntmps67 ?_
 refine ac (aa (aG ?_))
 refine ah tk rfl (ab (ac (ac ?_)))
 refine cm (γ := Unit) (fun t1 g1=>⟨31,upd (upd (fun _=>.any) 16 (au t1)) 1 (.ptr (bl e)),fun _=>none,fun _=>none⟩) H (fun _ H=>?_) (fun t1 g1 H=>?_)
 ·refine aa (af 4 tk rfl ?_)
  refine aL rfl rfl rfl H (fun H=>?_) (fun H=>?_)
  ·refine af 5 tk rfl ?_
   refine aL rfl rfl rfl H (fun H=>?_) (fun H=>?_)
   ·refine af 2 tk rfl (aB tk (zl _) ?_)
    refine af 2 tk rfl (ab ?_)
    refine aJ _ () H Gh.d
   refine af 5 tk rfl (ab ?_)
   refine aJ _ () H Gh.d
  refine af 10 tk rfl (ab ?_)
  refine aJ _ () H Gh.d
 refine aN rfl H (fun H=>?_) (fun H=>?_)
 ·refine ac (bt tk mok ⟨false,false,[]⟩ [0,1,2,3,5,6,7,8,4,9,10,11] rfl (by decide +kernel) rfl (bf 2 rfl ?_))
  obtain ⟨x19,k19,H⟩ := bB H
  refine bF k19.1 (aV aS k19.2) ?_
  refine bf 3 rfl ?_
  obtain ⟨x24,k24,H⟩ := bB H
  refine bF k24.1 (aV aS k24.2) ?_
  refine bn rfl ?_
  obtain ⟨x21,h21,H⟩ := av H
  have s21 := hrec67 21 x19 _ h21
  refine jc (g := 67) rfl rfl rfl rfl Tryz.call67 (eZ.r) rfl rfl s21 (fun g21=>?_)
  obtain ⟨x26,h26,H⟩ := av H
  have s26 := hrec67 26 x24 _ h26
  refine be Tryz.call67 (eZ.r) (PFun.eE s26) ?_
  obtain ⟨x27,h27,H⟩ := av H
  have k27 := bE h27
  refine em (rows2' := List.map ak x26) (rows' := List.map ak x27) tk rfl rfl rfl rfl rfl rfl rfl rfl rfl rfl rfl rfl rfl rfl (dH.refl _) (ce k27.1) (cb k27.2.1) (ca k27.2.2) fun g27=>?_
  refine bn rfl (bp ?_)
  obtain rfl := az H
  refine im tk rfl
 refine ax (ac (aa (ah tk rfl ?_)))
 obtain ⟨x29,h29,H⟩ := av H
 have s29 := gB e _ h29
 refine aq Tryz.call63 (eZ.r) s29 ?_
 refine jA (rows' := List.map ak ([x29] : List LExpr)) tk (congrArg (List.map List.length) (bN aS ([x29] : List LExpr))).symm (gk.trans (b := (List.map bl ([x29] : List LExpr)).flatten) (gk.refl _) (gk.of_eq (congrArg List.flatten (bN aS ([x29] : List LExpr))))) fun g30=>?_
 refine ah tk rfl (ab ?_)
 obtain rfl := az H
 refine im tk rfl
def fq : Nat → LExpr → Option ((List LExpr))
 | 0,_=>none
 | n + 1,v0=>ig (fun b0=>fq n b0) v0
theorem qz  (n : Nat) : (∀ m a0 r,fq n a0 = some r → dY Tryz.prog 67 [(.agg (bl a0))] (jq m 94 (r.map ak))) := by
 induction n with
 | zero=>exact (by intros; rename_i h; exact absurd (show (none : Option _) = some _ from h) (by simp))
 | succ n ih =>
  exact (fun m v0 r h=>qF (m := m) (fun b0=>fq n b0) ih v0  r h)
def gd (e : LExpr) : Option ((List LExpr)) := fe fun n=>fq n e
theorem iY {m : Nat} (e : LExpr) (r : (List LExpr)) (H : gd e = some r) :
  dY Tryz.prog 67 [(.agg (bl e))] (jq m 94 (r.map ak)) := by
 obtain ⟨n,h⟩ := et H
 exact (qz  n) m e r h
def fL (rec144 : LExpr → Int → (List (List UInt8)) → Option (List (List UInt8))) (e : LExpr) (kind : Int) (l : List (List UInt8)) : Option (List (List UInt8)) :=
 ag (
  cond (e.kind == kind)
   (ag (cq l e.name) fun x17 =>
   ag (lM (x17.2.length = l.length) ()) fun (_ : Unit) =>
   some (x17.2,(!x17.1)))
   (some (l,false))) fun (t1 : List (List UInt8) × Bool) =>
 ag (
  cond t1.2
   (ag (bS 16 t1.1 ([e.name] : List (List UInt8))) fun (x24 : List (List UInt8)) =>
   some x24)
   (some t1.1)) fun (t2 : List (List UInt8)) =>
 ag (aI (σ := List (List UInt8)) (ρ := Empty) (fun (_ : Nat) (x3 : LExpr) (s3 : List (List UInt8)) =>
  ag (rec144 x3 kind s3) fun x35 =>
  some (.next x35)) 0 e.args t2) fun fl3=>fl3.thenP fun (s3 : List (List UInt8)) =>
 some s3
theorem WO_expr_names (g_l : OwnRef) (rec144 : LExpr → Int → (List (List UInt8)) → Option (List (List UInt8))) (hrec144 : ∀ g2 a0 a1 a2 r,rec144 a0 a1 a2 = some r → PH Tryz.prog 144 [(.agg (bl a0)),(ae a1),(.own 2 g2 (a2.map aF).length)] ⟨fun _=>none,upd (fun _=>none) 2 (some ⟨g2,9,(a2.map aF),true⟩)⟩ (fun u H=>∃ gz : OwnRef,u = .own 2 gz (r.map aF).length ∧ H = ⟨fun _=>none,upd (fun _=>none) 2 (some ⟨gz,9,(r.map aF),true⟩)⟩)) (e : LExpr) (kind : Int) (l : List (List UInt8)) (r : List (List UInt8)) (H : fL rec144 e kind l = some r) :
  PH Tryz.prog 144 [(.agg (bl e)),(ae kind),(.own 2 g_l (l.map aF).length)] ⟨fun _=>none,upd (fun _=>none) 2 (some ⟨g_l,9,(l.map aF),true⟩)⟩ (fun u H=>∃ gz : OwnRef,u = .own 2 gz (r.map aF).length ∧ H = ⟨fun _=>none,upd (fun _=>none) 2 (some ⟨gz,9,(r.map aF),true⟩)⟩) := by
 unfold fL at H
 refine PH.ay Tryz.func144 Tryz.ntmps144 ?_
 refine ac (aa (aG ?_))
 refine ah tk rfl (ab (ac (ac ?_)))
 refine ci (γ := OwnRef) (fun t1 g1=>⟨38,upd (upd (upd (upd (fun _=>.any) 19 (au t1.2)) 3 (.ptr (bl e))) 2 (.own 2 g1 (t1.1.map aF).length)) 1 (ae kind),fun _=>none,upd (fun _=>none) 2 (some ⟨g1,9,(t1.1.map aF),true⟩)⟩) H (fun _ H=>?_) (fun t1 g1 H=>?_)
 ·refine aa (af 5 tk rfl ?_)
  refine aL rfl rfl rfl H (fun H=>?_) (fun H=>?_)
  ·refine af 3 tk rfl ?_
   obtain ⟨x17,h17,H⟩ := av H
   have s17 := jS g_l l e.name _ h17
   obtain ⟨_,q17_0,H⟩ := av H
   have l17_0 := (nU q17_0).1
   have z17_0 : (List.map aF l).length = (List.map aF x17.2).length := by simpa using (l17_0).symm
   refine hM (g := 103) rfl rfl rfl Tryz.call103 [] [(2,0)] rfl rfl rfl rfl (eZ.of2 (gk.cons (lW.own rfl) (gk.cons (lW.of_eq rfl) gk.nil))) (by rw [gD,fI,gC]; rfl) s17 ?_
   rintro u17 H17h ⟨rfl,rfl⟩
   refine ⟨_,rfl,?_⟩
   refine gI (st' := ⟨_,_,fun _=>none,upd (fun _=>none) 2 (some ⟨g_l,9,(x17.2.map aF),true⟩)⟩) (Gh.le (fF _ _) bw (da bA)) ?_
   refine af 2 tk rfl (ab ?_)
   refine aJ _ g_l (az H) (Gh.le (aM (ck (PLe.of2 (lW.of_eq (congrArg (PV.own 2 g_l) z17_0))) (aM (aM bU)))) bw (da bA))
  refine af 6 tk rfl (ab ?_)
  refine aJ _ g_l (az H) Gh.d
 refine ci (γ := OwnRef) (fun t2 g2=>⟨38,upd (upd (upd (fun _=>.any) 3 (.ptr (bl e))) 2 (.own 2 g2 (t2.map aF).length)) 1 (ae kind),fun _=>none,upd (fun _=>none) 2 (some ⟨g2,9,(t2.map aF),true⟩)⟩) H (fun _ H=>?_) (fun t2 g2 H=>?_)
 ·refine aN rfl H (fun H=>?_) (fun H=>?_)
  ·refine aa (af 3 tk rfl (cj tk (rows' := List.map aF ([e.name] : List (List UInt8))) (dH.refl _) ?_))
   obtain ⟨x24,h24,H⟩ := av H
   have k24 := bE h24
   refine bO (rows2' := List.map aF ([e.name] : List (List UInt8))) (rows' := List.map aF x24) tk rfl rfl rfl rfl rfl rfl rfl rfl rfl rfl rfl rfl rfl (dH.refl _) (ce k24.1) (cb k24.2.1) (ca k24.2.2) fun g24=>?_
   refine ah tk rfl (ab ?_)
   refine aJ _ g24 (az H) Gh.d
  refine ax ?_
  refine aJ _ g1 (az H) Gh.d
 refine ac (ac (aa (af 2 tk rfl (aB tk (zl _) ?_))))
 refine ah tk rfl (ab ?_)
 refine db (γ := OwnRef) tk 28 27 26 (fun s3 g3=>upd (upd (fun _=>.any) 2 (.own 2 g3 (s3.map aF).length)) 1 (ae kind)) nB (fun s3 g3=>upd (fun _=>none) 2 (some ⟨g3,9,(s3.map aF),true⟩)) g2 H (fun fl3 Hp3 j3 s3 g3 hz3 hl3 x3 fb3 hx3 H hg3=>?_) (fun s3 g3 H=>?_)
 ·refine ac (aE (ac (aa (aX tk (zn j3) (bj aS hx3) ?_))))
  refine ah tk rfl ?_
  refine aA tk fun b8=>?_
  refine ao tk ?_
  refine ab (aa (al tk ?_))
  refine af 2 tk rfl ?_
  obtain ⟨x35,h35,H⟩ := av H
  have s35 := hrec144 g3 x3 kind s3 _ h35
  refine hM (g := 144) rfl rfl rfl Tryz.call144 [] [(2,2)] rfl rfl rfl rfl (eZ.of2 (gk.cons (lW.of_eq rfl) (gk.cons (lW.of_eq rfl) (gk.cons (lW.own rfl) gk.nil)))) (by rw [gD,fI,gC]; rfl) s35 ?_
  rintro u35 H35h ⟨gw35,rfl,rfl⟩
  refine ⟨_,rfl,?_⟩
  refine gI (st' := ⟨_,_,upd (fun _=>none) 8 (some ⟨b8,(bl x3)⟩),upd (fun _=>none) 2 (some ⟨gw35,9,(x35.map aF),true⟩)⟩) (Gh.le (fF _ _) (aO rfl (eZ.r) bw) (da bA)) ?_
  refine oE 35 (q := (.own 2 gw35 (x35.map aF).length)) rfl (PLe.of2 (lW.own rfl)) (ah tk rfl (ab (aW (br 2 tk rfl ?_))))
  exact bq gw35 H hl3 hg3
 refine aw 2 tk rfl ?_
 obtain rfl := az H
 refine lA (st' := ⟨38,upd (fun _=>.any) 6 (.own 2 g3 (s3.map aF).length),fun _=>none,upd (fun _=>none) 2 (some ⟨g3,9,(s3.map aF),true⟩)⟩) (Gh.le (aM bU) bw (da bA)) ?_
 refine rh tk rfl (ps := [(.own 2 g3 (s3.map aF).length)]) ⟨_,_,rfl,rfl,rfl⟩ (PLe.of2 (lW.own rfl)) ⟨_,rfl,rfl⟩
def gu : Nat → LExpr → Int → (List (List UInt8)) → Option (List (List UInt8))
 | 0,_,_,_=>none
 | n + 1,v0,v1,v2=>fL (fun b0 b1 b2=>gu n b0 b1 b2) v0 v1 v2
theorem WF_expr_names  (n : Nat) : (∀ g2 a0 a1 a2 r,gu n a0 a1 a2 = some r → PH Tryz.prog 144 [(.agg (bl a0)),(ae a1),(.own 2 g2 (a2.map aF).length)] ⟨fun _=>none,upd (fun _=>none) 2 (some ⟨g2,9,(a2.map aF),true⟩)⟩ (fun u H=>∃ gz : OwnRef,u = .own 2 gz (r.map aF).length ∧ H = ⟨fun _=>none,upd (fun _=>none) 2 (some ⟨gz,9,(r.map aF),true⟩)⟩)) := by
 induction n with
 | zero=>exact (by intros; rename_i h; exact absurd (show (none : Option _) = some _ from h) (by simp))
 | succ n ih =>
  exact (fun g2 v0 v1 v2 r h=>WO_expr_names g2 (fun b0 b1 b2=>gu n b0 b1 b2) ih v0 v1 v2  r h)
def eX (e : LExpr) (kind : Int) (l : List (List UInt8)) : Option (List (List UInt8)) := fe fun n=>gu n e kind l
theorem W_expr_names (g_l : OwnRef) (e : LExpr) (kind : Int) (l : List (List UInt8)) (r : List (List UInt8)) (H : eX e kind l = some r) :
  PH Tryz.prog 144 [(.agg (bl e)),(ae kind),(.own 2 g_l (l.map aF).length)] ⟨fun _=>none,upd (fun _=>none) 2 (some ⟨g_l,9,(l.map aF),true⟩)⟩ (fun u H=>∃ gz : OwnRef,u = .own 2 gz (r.map aF).length ∧ H = ⟨fun _=>none,upd (fun _=>none) 2 (some ⟨gz,9,(r.map aF),true⟩)⟩) := by
 obtain ⟨n,h⟩ := et H
 exact (WF_expr_names  n) g_l e kind l r h
def fw (sA : List UInt8) (c0 : List (List UInt8)) : Option (Bool) :=
 ag (cx c0 sA) fun x6 =>
 some (!x6)
theorem pL (sA : List UInt8) (c0 : List (List UInt8)) (r : Bool) (H : fw sA c0 = some r) :
  aU Tryz.prog 102 [(.str sA),(.ptr [(.list 9 (c0.map aF))])] (au r) := by
 unfold fw at H
 refine PH.ay Tryz.func102 Tryz.ntmps102 ?_
 refine aw 1 tk rfl (ac (aa (af 2 tk rfl ?_)))
 obtain ⟨x6,h6,H⟩ := av H
 have s6 := hZ c0 sA _ h6
 refine aq Tryz.call103 (eZ.r) s6 ?_
 refine af 2 tk rfl (ab ?_)
 exact bi tk H rfl
def dR (q : LQuery) (inA : LQuery) : Option (LQuery) :=
 ag (np (q.exprs.length : Int)) fun (n1 : Nat) =>
 ag (aI (σ := List LExpr) (ρ := Empty) (fun (j1 : Nat) (_ : Nat) (s1 : List LExpr) =>
  ag (aR s1 (j1 : Int)) fun (x13 : LExpr) =>
  ag (dF x13 inA.names inA.exprs) fun x23 =>
  ag (aR s1 (j1 : Int)) fun (_ : LExpr) =>
  bs (s1.set ((j1 : Int).toNat) x23) fun (y4 : List LExpr) =>
  some (.next y4)) 0 (List.range n1) q.exprs) fun fl1=>fl1.thenP fun (s1 : List LExpr) =>
 some (LQuery.mk q.kind q.table q.names s1 q.aggregates q.descending q.count q.offset inA.inputs)
theorem nv (g_q : OwnRef) (q : LQuery) (inA : LQuery) (r : LQuery) (H : dR q inA = some r) :
  PH Tryz.prog 35 [(.agg [(ae q.kind),(.str q.table),(.list 9 (q.names.map aF)),(.own 3000 g_q (q.exprs.map ak).length),(.list 91 (q.aggregates.map aQ)),(.list 4 (q.descending.map aP)),(ae q.count),(ae q.offset),(.list 33 (q.inputs.map ap))]),(.agg (am inA))] ⟨fun _=>none,upd (fun _=>none) 3000 (some ⟨g_q,94,(List.map ak q.exprs),true⟩)⟩ (fun u H=>u = (.agg (am r)) ∧ H = Heap.empty) := by
 unfold dR at H
 refine PH.ay Tryz.func35 Tryz.ntmps35 ?_
 refine ac (aa ?_)
 refine iR (d := 2) fun b2=>?_
 refine aG ?_
 refine aA tk fun b4=>?_
 refine ab (ac (ac (aa (ah tk rfl (al tk ?_)))))
 refine iI tk (zl _) ?_
 refine ah tk rfl (ab ?_)
 obtain ⟨n1,hs1,H⟩ := av H
 have hz1 := nY hs1
 obtain ⟨fl1,H1,Hp1⟩ := av H
 refine ke (τ := List LExpr) (γ := OwnRef) (fun s1 g1=>⟨30,upd (upd (upd (fun _=>.any) 4 (.box 4 b4 0)) 3 (.ptr (am inA))) 2 (.box 2 b2 0),upd (upd (fun _=>none) 4 (some ⟨b4,[(ae 0),(.str []),(.val (.slice none 0 0)),(.val (.slice none 0 0)),(.val (.slice none 0 0)),(.val (.slice none 0 0)),(ae 0),(ae 0),(.val (.slice none 0 0))]⟩)) 2 (some ⟨b2,[(ae q.kind),(.str q.table),(.list 9 (q.names.map aF)),(.own 3000 g1 (s1.map ak).length),(.list 91 (q.aggregates.map aQ)),(.list 4 (q.descending.map aP)),(ae q.count),(ae q.offset),(.list 33 (q.inputs.map ap))]⟩),upd (fun _=>none) 3000 (some ⟨g1,94,(s1.map ak),true⟩)⟩) (fun t=>fl1 = .next t) ?_ (fun s1 g1 hn1=>?_)
 ·refine aE ?_
  refine lk (fun j1 s1 g1=>⟨30,upd (upd (upd (upd (upd (upd (fun _=>.any) 10 (ae (j1 : Int))) 9 (ae (q.exprs.length : Int))) 8 (.own 3000 g1 (s1.map ak).length)) 4 (.box 4 b4 0)) 3 (.ptr (am inA))) 2 (.box 2 b2 0),upd (upd (fun _=>none) 4 (some ⟨b4,[(ae 0),(.str []),(.val (.slice none 0 0)),(.val (.slice none 0 0)),(.val (.slice none 0 0)),(.val (.slice none 0 0)),(ae 0),(ae 0),(.val (.slice none 0 0))]⟩)) 2 (some ⟨b2,[(ae q.kind),(.str q.table),(.list 9 (q.names.map aF)),(.own 3000 g1 (s1.map ak).length),(.list 91 (q.aggregates.map aQ)),(.list 4 (q.descending.map aP)),(ae q.count),(ae q.offset),(.list 33 (q.inputs.map ap))]⟩),upd (fun _=>none) 3000 (some ⟨g1,94,(s1.map ak),true⟩)⟩) g_q H1 Gh.d (fun j1 s1 g1 hj1 hr1=>?_)
  refine aw 1 tk rfl (ac ?_)
  refine cK rfl (fun h=>?_) (fun h=>?_)
  ·have hl1 := natLt hz1 h
   obtain ⟨x1,fb1,hx1,H,hg1⟩ := rMc hl1 hr1
   obtain rfl := natX hx1
   refine ax (ac (aE (ac (aa (ah tk rfl ?_)))))
   obtain ⟨x13,k13,H⟩ := bB H
   refine ll (tag := 3000) rfl (fun ho3000=>?_)
   refine lm tk rfl rfl rfl rfl rfl rfl rfl ⟨k13.1,(dZ k13.2)⟩ (ed ho3000 k13.2) rfl (oL tk rfl rfl rfl rfl rfl rfl rfl (aV aS k13.2) rfl rfl ?_)
   refine aA tk fun b6=>?_
   refine ah tk rfl (ao tk ?_)
   refine ab ?_
   refine gp (tag := 3000) rfl (fun ho3000=>?_)
   refine cg 6 ?_
   refine bt tk mok ⟨true,false,[18,20,22]⟩ [0,1,2,3,4,5,6,7,8,9,10] rfl (by decide +kernel) rfl (bn rfl (aY ?_))
   refine bf 6 rfl ?_
   obtain ⟨x23,h23,H⟩ := av H
   have s23 := iN x13 inA.names inA.exprs _ h23
   refine be Tryz.call68 (eZ.r) s23 ?_
   obtain ⟨x24,k24,H⟩ := bB H
   refine ej tk ⟨k24.1,(dZ k24.2)⟩ (ed ho3000 k24.2) ?_
   obtain ⟨y4,hy4,H⟩ := dg H
   refine gV tk rfl rfl rfl rfl rfl rfl rfl rfl rfl (by rw [zl]; exact (zg.1 k24.2).1) (PLe.refl _ _) rfl rfl rfl rfl (by decide) (fm aS k24.2 rfl hy4) ?_
   refine bp (aW (br 2 tk rfl ?_))
   exact bq g1 H hl1 hg1 (Gh.le (aM (aM (aM (ck (PLe.of2 (lW.of_eq (congrArg (PV.own 3000 g1) (gK (f := ak) hy4)))) (aM (ck (PLe.q (me hz1 hl1)) bU)))))) (aO rfl (eZ.of2 (gk.cons (lW.of_eq rfl) (gk.cons (lW.of_eq rfl) (gk.cons (lW.of_eq rfl) (gk.cons (lW.of_eq (congrArg (PV.own 3000 g1) (gK (f := ak) hy4))) (gk.cons (lW.of_eq rfl) (gk.cons (lW.of_eq rfl) (gk.cons (lW.of_eq rfl) (gk.cons (lW.of_eq rfl) (gk.cons (lW.of_eq rfl) gk.nil)))))))))) (aO rfl (eZ.r) bw)) (da bA))
  have hn1 := rMd (natGe hz1 h) hr1
  refine cW rfl ?_
  refine aJ s1 g1 hn1 Gh.d
 have H := jM hn1 Hp1
 refine ac (aa (af 3 tk rfl (ao tk ?_)))
 refine ab (ac (aa (al tk ?_)))
 refine ao tk ?_
 refine ab (bD 4 3 rfl rfl rfl rfl rfl ?_)
 exact pI tk H rfl rfl rfl rfl rfl
def fE (x : LAggregateCall) (y : LAggregateCall) : Option (Bool) :=
 cond (x.name == y.name)
  (cond (x.function == y.function)
   (ag (bc x.args y.args (fun a0 a1=>ie a0 a1)) fun x22 =>
   some x22)
   (some false))
  (some false)
theorem re (x : LAggregateCall) (y : LAggregateCall) (r : Bool) (H : fE x y = some r) :
  aU Tryz.prog 37 [(.agg (aQ x)),(.agg (aQ y))] (au r) := by
 unfold fE at H
 refine PH.ay Tryz.func37 Tryz.ntmps37 ?_
 refine ac (aa (aG ?_))
 refine aG ?_
 refine ah tk rfl (ab (ac (aa (af 6 tk rfl ?_))))
 refine aL rfl rfl rfl H (fun H=>?_) (fun H=>?_)
 ·refine af 7 tk rfl ?_
  refine aL rfl rfl rfl H (fun H=>?_) (fun H=>?_)
  ·refine af 4 tk rfl ?_
   obtain ⟨x22,h22,H⟩ := av H
   have s22 := cp x.args y.args (fun a0 a1=>ie a0 a1) Tryz.call39 (fun a0 a1 r h=>pR a0 a1 r h) _ h22
   refine aq Tryz.call38 (eZ.r) s22 ?_
   refine af 2 tk rfl (ab ?_)
   exact bi tk H rfl
  refine af 7 tk rfl (ab ?_)
  exact bi tk H rfl
 refine af 14 tk rfl (ab ?_)
 exact bi tk H rfl
def fS (a : LVal) (op : List UInt8) (b : LVal) : Bool × Int :=
 bs (
  cond (!(op == ([61] : List UInt8)))
   (cond (!(op == ([60] : List UInt8)))
    ((!(op == ([60,61] : List UInt8))))
    (false))
   (false)) fun (t1 : Bool) =>
 cond t1
  ((false,3))
  (bs (
   cond (a.kind == (0 : Int))
    (true)
    ((b.kind == (0 : Int)))) fun (t2 : Bool) =>
  cond t2
   ((true,0))
   (bs (jw a b) fun x29 =>
   cond (x29 == (0 : Int))
    (cond (!(op == ([60] : List UInt8)))
     ((true,0))
     (cond (decide (x29 < (0 : Int)))
      (((!(op == ([61] : List UInt8))),0))
      ((false,0))))
    (cond (decide (x29 < (0 : Int)))
     (((!(op == ([61] : List UInt8))),0))
     ((false,0)))))
theorem qv (a : LVal) (op : List UInt8) (b : LVal) :
  aU Tryz.prog 91 [(.agg (gv a)),(.str op),(.agg (gv b))] (.tup [(au ((fS a op b).1)),(ae ((fS a op b).2))]) := by
 obtain ⟨r,H⟩ : ∃ r,fS a op b = r := ⟨_,rfl⟩
 rw [H]
 unfold fS at H
 refine PH.ay Tryz.func91 Tryz.ntmps91 ?_
 refine ac (aa (aG ?_))
 refine aG ?_
 refine af 2 tk rfl (ab (ac (ac ?_)))
 refine cm (γ := Unit) (fun t1 g1=>⟨44,upd (upd (upd (upd (fun _=>.any) 18 (au t1)) 5 (.ptr (gv b))) 3 (.ptr (gv a))) 1 (.str op),fun _=>none,fun _=>none⟩) H (fun _ H=>?_) (fun t1 g1 H=>?_)
 ·refine aa (af 3 tk rfl ?_)
  refine aL rfl rfl rfl H (fun H=>?_) (fun H=>?_)
  ·refine af 4 tk rfl ?_
   refine aL rfl rfl rfl H (fun H=>?_) (fun H=>?_)
   ·refine af 3 tk rfl (ab ?_)
    refine aJ _ () H Gh.d
   refine af 3 tk rfl (ab ?_)
   refine aJ _ () H Gh.d
  refine af 7 tk rfl (ab ?_)
  refine aJ _ () H Gh.d
 refine aN rfl H (fun H=>?_) (fun H=>?_)
 ·refine aw 2 tk rfl ?_
  exact dB tk H rfl
 refine ax (ac (ac ?_))
 refine cm (γ := Unit) (fun t2 g2=>⟨44,upd (upd (upd (upd (fun _=>.any) 26 (au t2)) 5 (.ptr (gv b))) 3 (.ptr (gv a))) 1 (.str op),fun _=>none,fun _=>none⟩) H (fun _ H=>?_) (fun t2 g2 H=>?_)
 ·refine aa (af 4 tk rfl ?_)
  refine aL rfl rfl rfl H (fun H=>?_) (fun H=>?_)
  ·refine af 4 tk rfl (ab ?_)
   refine aJ _ () H Gh.d
  refine af 4 tk rfl (ab ?_)
  refine aJ _ () H Gh.d
 refine aN rfl H (fun H=>?_) (fun H=>?_)
 ·refine aw 2 tk rfl ?_
  exact dB tk H rfl
 refine ax (ac (aa (af 2 tk rfl ?_)))
 obtain ⟨x29,h29,H⟩ := dg H
 have s29 := ra a b
 rw [h29] at s29
 refine aq Tryz.call136 (eZ.r) s29 ?_
 refine ah tk rfl (ab (ac (aa (af 3 tk rfl ?_))))
 refine aL rfl rfl rfl H (fun H=>?_) (fun H=>?_)
 ·refine af 4 tk rfl ?_
  refine aL rfl rfl rfl H (fun H=>?_) (fun H=>?_)
  ·refine af 9 tk rfl (ab ?_)
   exact dB tk H rfl
  refine af 3 tk rfl ?_
  refine aL rfl rfl rfl H (fun H=>?_) (fun H=>?_)
  ·refine af 6 tk rfl (ab ?_)
   exact dB tk H rfl
  refine af 6 tk rfl (ab ?_)
  exact dB tk H rfl
 refine af 7 tk rfl ?_
 refine aL rfl rfl rfl H (fun H=>?_) (fun H=>?_)
 ·refine af 6 tk rfl (ab ?_)
  exact dB tk H rfl
 refine af 6 tk rfl (ab ?_)
 exact dB tk H rfl
def jh (q : LQuery) : Option (Bool) :=
 ag (
  cond (decide (q.kind < (1 : Int)))
   (some true)
   (cond (decide (q.kind > (10 : Int)))
    (some true)
    (ag (aR ([(-1),0,1,1,2,2,2,2,1,1,1] : List Int) q.kind) fun (x21 : Int) =>
    some ((q.inputs.length : Int) != x21)))) fun (t1 : Bool) =>
 cond t1
  (some false)
  (ag (
   ag (cI ([1] : List Int) q) fun x29 =>
   cond (!x29)
    (some (!(q.table == ([] : List UInt8))))
    (some false)) fun (t2 : Bool) =>
  ag (
   cond t2
    (some t2)
    (ag (
     ag (cI ([3,8] : List Int) q) fun x38 =>
     cond (!x38)
      (some (decide ((q.names.length : Int) > (0 : Int))))
      (some false)) fun (t7 : Bool) =>
    cond t7
     (some t7)
     (ag (
      ag (cI ([8] : List Int) q) fun x48 =>
      cond (!x48)
       (some (decide ((q.aggregates.length : Int) > (0 : Int))))
       (some false)) fun (t8 : Bool) =>
     cond t8
      (some t8)
      (ag (
       ag (cI ([9] : List Int) q) fun x58 =>
       cond (!x58)
        (some (decide ((q.descending.length : Int) > (0 : Int))))
        (some false)) fun (t9 : Bool) =>
      cond t9
       (some t9)
       (ag (cI ([10] : List Int) q) fun x68 =>
       cond (!x68)
        (cond (q.count != (0 : Int))
         (some true)
         (some (q.offset != (0 : Int))))
        (some false)))))) fun (t6 : Bool) =>
  cond t6
   (some false)
   (ag (cI ([2,4,5] : List Int) q) fun x83 =>
   cond x83
    (some ((q.exprs.length : Int) == (1 : Int)))
    (ag (cI ([3,8] : List Int) q) fun x91 =>
    cond x91
     (cond ((q.exprs.length : Int) == (q.names.length : Int))
      (some (decide ((IntKind.i64.wrap ((q.exprs.length : Int) + (q.aggregates.length : Int))) > (0 : Int))))
      (some false))
     (ag (cI ([9] : List Int) q) fun x112 =>
     cond x112
      (cond ((q.exprs.length : Int) == (q.descending.length : Int))
       (some (decide ((q.exprs.length : Int) > (0 : Int))))
       (some false))
      (ag (cI ([10] : List Int) q) fun x129 =>
      cond x129
       (cond ((q.exprs.length : Int) == (0 : Int))
        (cond (decide (q.count ≥ (0 : Int)))
         (some (decide (q.offset ≥ (0 : Int))))
         (some false))
        (some false))
       (some ((q.exprs.length : Int) == (0 : Int))))))))
theorem W_query_shape (q : LQuery) (r : Bool) (H : jh q = some r) :
  aU Tryz.prog 139 [(.agg (am q))] (au r) := by
 unfold jh at H
 refine PH.ay Tryz.func139 Tryz.ntmps139 ?_
 refine ac (aa (aG ?_))
 refine ah tk rfl (ab (ac (aa (rL (e := 3) (rows := [[(ae (-1))],[(ae 0)],[(ae 1)],[(ae 1)],[(ae 2)],[(ae 2)],[(ae 2)],[(ae 2)],[(ae 1)],[(ae 1)],[(ae 1)]]) tk rfl rfl rfl rfl (rows' := List.map bH ([(-1),0,1,1,2,2,2,2,1,1,1] : List Int)) (by kernel_rfl) (dH.refl _) rfl rfl (ah tk rfl (ab (ac (ac ?_))))))))
 refine ci (γ := Unit) (fun t1 g1=>⟨148,upd (upd (fun _=>.any) 24 (au t1)) 1 (.ptr (am q)),fun _=>none,fun _=>none⟩) H (fun _ H=>?_) (fun t1 g1 H=>?_)
 ·refine bt tk mok ⟨false,false,[]⟩ [0,1,2,3,4,5,6,7,8,9,10,11,12,13,14,15,16,17,18] rfl (by decide +kernel) rfl (bf 4 rfl ?_)
  refine rd rfl rfl rfl rfl H (fun H=>?_) (fun H=>?_)
  ·refine bf 15 rfl (bp ?_)
   refine aJ _ () (az H) Gh.d
  refine bf 5 rfl ?_
  refine rd rfl rfl rfl rfl H (fun H=>?_) (fun H=>?_)
  ·refine bf 10 rfl (bp ?_)
   refine aJ _ () (az H) Gh.d
  refine bf 2 rfl (rl rfl rfl rfl rfl rfl rfl (zl _) rfl (bf 3 rfl ?_))
  obtain ⟨x21,k21,H⟩ := bB H
  refine bF k21.1 (aV (fun _=>rfl) k21.2) ?_
  refine bf 3 rfl (bp ?_)
  refine aJ _ () (az H) Gh.d
 refine aN rfl H (fun H=>?_) (fun H=>?_)
 ·refine aw 1 tk rfl ?_
  exact bi tk H rfl
 refine ax (aw 2 tk rfl (ac (aE (ac (ac ?_)))))
 refine ci (γ := Unit) (fun t2 g2=>⟨148,upd (upd (upd (fun _=>.any) 26 (au t2)) 4 (.fn 171 [(.ptr (am q))])) 1 (.ptr (am q)),fun _=>none,fun _=>none⟩) H (fun _ H=>?_) (fun t2 g2 H=>?_)
 ·refine aa (ah tk rfl (cj tk (rows' := List.map bH ([1] : List Int)) (dH.refl _) ?_))
  obtain ⟨x29,h29,H⟩ := av H
  have s29 := eo ([1] : List Int) q _ h29
  refine aq Tryz.call171 (eZ.r) s29 ?_
  refine af 2 tk rfl ?_
  refine aL rfl rfl rfl H (fun H=>?_) (fun H=>?_)
  ·refine af 5 tk rfl (ab ?_)
   refine aJ _ () (az H) Gh.d
  refine af 5 tk rfl (ab ?_)
  refine aJ _ () (az H) Gh.d
 refine ci (γ := Unit) (fun t6 g6=>⟨148,upd (upd (upd (fun _=>.any) 26 (au t6)) 4 (.fn 171 [(.ptr (am q))])) 1 (.ptr (am q)),fun _=>none,fun _=>none⟩) H (fun _ H=>?_) (fun t6 g6 H=>?_)
 ·refine aN rfl H (fun H=>?_) (fun H=>?_)
  ·refine ax ?_
   refine aJ _ () (az H) Gh.d
  refine ac ?_
  refine ci (γ := Unit) (fun t7 g7=>⟨148,upd (upd (upd (fun _=>.any) 26 (au t7)) 4 (.fn 171 [(.ptr (am q))])) 1 (.ptr (am q)),fun _=>none,fun _=>none⟩) H (fun _ H=>?_) (fun t7 g7 H=>?_)
  ·refine aa (ah tk rfl (cj tk (rows' := List.map bH ([3,8] : List Int)) (dH.refl _) ?_))
   obtain ⟨x38,h38,H⟩ := av H
   have s38 := eo ([3,8] : List Int) q _ h38
   refine aq Tryz.call171 (eZ.r) s38 ?_
   refine af 2 tk rfl ?_
   refine aL rfl rfl rfl H (fun H=>?_) (fun H=>?_)
   ·refine af 2 tk rfl (aB tk (zl _) ?_)
    refine af 3 tk rfl (ab ?_)
    refine aJ _ () (az H) Gh.d
   refine af 6 tk rfl (ab ?_)
   refine aJ _ () (az H) Gh.d
  refine aN rfl H (fun H=>?_) (fun H=>?_)
  ·refine ax ?_
   refine aJ _ () (az H) Gh.d
  refine ac ?_
  refine ci (γ := Unit) (fun t8 g8=>⟨148,upd (upd (upd (fun _=>.any) 26 (au t8)) 4 (.fn 171 [(.ptr (am q))])) 1 (.ptr (am q)),fun _=>none,fun _=>none⟩) H (fun _ H=>?_) (fun t8 g8 H=>?_)
  ·refine aa (ah tk rfl (cj tk (rows' := List.map bH ([8] : List Int)) (dH.refl _) ?_))
   obtain ⟨x48,h48,H⟩ := av H
   have s48 := eo ([8] : List Int) q _ h48
   refine aq Tryz.call171 (eZ.r) s48 ?_
   refine af 2 tk rfl ?_
   refine aL rfl rfl rfl H (fun H=>?_) (fun H=>?_)
   ·refine af 2 tk rfl (aB tk (zl _) ?_)
    refine af 3 tk rfl (ab ?_)
    refine aJ _ () (az H) Gh.d
   refine af 6 tk rfl (ab ?_)
   refine aJ _ () (az H) Gh.d
  refine aN rfl H (fun H=>?_) (fun H=>?_)
  ·refine ax ?_
   refine aJ _ () (az H) Gh.d
  refine ac ?_
  refine ci (γ := Unit) (fun t9 g9=>⟨148,upd (upd (upd (fun _=>.any) 26 (au t9)) 4 (.fn 171 [(.ptr (am q))])) 1 (.ptr (am q)),fun _=>none,fun _=>none⟩) H (fun _ H=>?_) (fun t9 g9 H=>?_)
  ·refine aa (ah tk rfl (cj tk (rows' := List.map bH ([9] : List Int)) (dH.refl _) ?_))
   obtain ⟨x58,h58,H⟩ := av H
   have s58 := eo ([9] : List Int) q _ h58
   refine aq Tryz.call171 (eZ.r) s58 ?_
   refine af 2 tk rfl ?_
   refine aL rfl rfl rfl H (fun H=>?_) (fun H=>?_)
   ·refine af 2 tk rfl (aB tk (zl _) ?_)
    refine af 3 tk rfl (ab ?_)
    refine aJ _ () (az H) Gh.d
   refine af 6 tk rfl (ab ?_)
   refine aJ _ () (az H) Gh.d
  refine aN rfl H (fun H=>?_) (fun H=>?_)
  ·refine ax ?_
   refine aJ _ () (az H) Gh.d
  refine aa (ah tk rfl (cj tk (rows' := List.map bH ([10] : List Int)) (dH.refl _) ?_))
  obtain ⟨x68,h68,H⟩ := av H
  have s68 := eo ([10] : List Int) q _ h68
  refine aq Tryz.call171 (eZ.r) s68 ?_
  refine af 2 tk rfl ?_
  refine aL rfl rfl rfl H (fun H=>?_) (fun H=>?_)
  ·refine af 4 tk rfl ?_
   refine aL rfl rfl rfl H (fun H=>?_) (fun H=>?_)
   ·refine af 6 tk rfl (ab ?_)
    refine aJ _ () (az H) Gh.d
   refine af 6 tk rfl (ab ?_)
   refine aJ _ () (az H) Gh.d
  refine af 10 tk rfl (ab ?_)
  refine aJ _ () (az H) Gh.d
 refine aN rfl H (fun H=>?_) (fun H=>?_)
 ·refine aw 1 tk rfl ?_
  exact bi tk H rfl
 refine ac (aa (ah tk rfl (cj tk (rows' := List.map bH ([2,4,5] : List Int)) (dH.refl _) ?_)))
 obtain ⟨x83,h83,H⟩ := av H
 have s83 := eo ([2,4,5] : List Int) q _ h83
 refine aq Tryz.call171 (eZ.r) s83 ?_
 refine ah tk rfl (ab ?_)
 refine aN rfl H (fun H=>?_) (fun H=>?_)
 ·refine ac (aa (af 2 tk rfl (aB tk (zl _) ?_)))
  refine af 2 tk rfl (ab ?_)
  exact bi tk H rfl
 refine ac (aa (ah tk rfl (cj tk (rows' := List.map bH ([3,8] : List Int)) (dH.refl _) ?_)))
 obtain ⟨x91,h91,H⟩ := av H
 have s91 := eo ([3,8] : List Int) q _ h91
 refine aq Tryz.call171 (eZ.r) s91 ?_
 refine ah tk rfl (ab ?_)
 refine aN rfl H (fun H=>?_) (fun H=>?_)
 ·refine ac (aa (af 2 tk rfl (aB tk (zl _) ?_)))
  refine af 2 tk rfl (aB tk (zl _) ?_)
  refine af 2 tk rfl ?_
  refine aL rfl rfl rfl H (fun H=>?_) (fun H=>?_)
  ·refine af 2 tk rfl (aB tk (zl _) ?_)
   refine af 2 tk rfl (aB tk (zl _) ?_)
   refine af 4 tk rfl (ab ?_)
   exact bi tk H rfl
  refine af 10 tk rfl (ab ?_)
  exact bi tk H rfl
 refine ac (aa (ah tk rfl (cj tk (rows' := List.map bH ([9] : List Int)) (dH.refl _) ?_)))
 obtain ⟨x112,h112,H⟩ := av H
 have s112 := eo ([9] : List Int) q _ h112
 refine aq Tryz.call171 (eZ.r) s112 ?_
 refine ah tk rfl (ab ?_)
 refine aN rfl H (fun H=>?_) (fun H=>?_)
 ·refine ac (aa (af 2 tk rfl (aB tk (zl _) ?_)))
  refine af 2 tk rfl (aB tk (zl _) ?_)
  refine af 2 tk rfl ?_
  refine aL rfl rfl rfl H (fun H=>?_) (fun H=>?_)
  ·refine af 2 tk rfl (aB tk (zl _) ?_)
   refine af 3 tk rfl (ab ?_)
   exact bi tk H rfl
  refine af 6 tk rfl (ab ?_)
  exact bi tk H rfl
 refine ac (aa (ah tk rfl (cj tk (rows' := List.map bH ([10] : List Int)) (dH.refl _) ?_)))
 obtain ⟨x129,h129,H⟩ := av H
 have s129 := eo ([10] : List Int) q _ h129
 refine aq Tryz.call171 (eZ.r) s129 ?_
 refine ah tk rfl (ab ?_)
 refine aN rfl H (fun H=>?_) (fun H=>?_)
 ·refine ac (aa (af 2 tk rfl (aB tk (zl _) ?_)))
  refine af 2 tk rfl ?_
  refine aL rfl rfl rfl H (fun H=>?_) (fun H=>?_)
  ·refine af 5 tk rfl ?_
   refine aL rfl rfl rfl H (fun H=>?_) (fun H=>?_)
   ·refine af 5 tk rfl (ab ?_)
    exact bi tk H rfl
   refine af 5 tk rfl (ab ?_)
   exact bi tk H rfl
  refine af 10 tk rfl (ab ?_)
  exact bi tk H rfl
 refine ax (aW (ac (aa (af 2 tk rfl (aB tk (zl _) ?_)))))
 refine af 2 tk rfl (ab ?_)
 exact bi tk H rfl
def cO (c : LChecker) (l : List LCol) (e : LExpr) : Int :=
 bs (eO l c.vars e) fun x15 =>
 cond (x15.2.2 == (0 : Int))
  (cond (x15.1 != (2 : Int))
   (cond (x15.1 != (0 : Int))
    (7)
    (x15.2.2))
   (x15.2.2))
  (x15.2.2)
theorem jv (c : LChecker) (l : List LCol) (e : LExpr) :
  aU Tryz.prog 174 [(.agg (dt c)),(.list 52 (l.map bh)),(.agg (bl e))] (ae (cO c l e)) := by
 obtain ⟨r,H⟩ : ∃ r,cO c l e = r := ⟨_,rfl⟩
 rw [H]
 unfold cO at H
 refine PH.ay Tryz.func174 Tryz.ntmps174 ?_
 refine ac (aa (aG ?_))
 refine aG ?_
 refine ah tk rfl (ab (ac (aa (af 4 tk rfl ?_))))
 obtain ⟨x15,h15,H⟩ := dg H
 have s15 := lG l c.vars e
 rw [h15] at s15
 refine aq Tryz.call177 (eZ.r) s15 ?_
 refine af 7 tk rfl (ab (ac (ac (aa (af 3 tk rfl ?_)))))
 refine aL rfl rfl rfl H (fun H=>?_) (fun H=>?_)
 ·refine af 4 tk rfl ?_
  refine aL rfl rfl rfl H (fun H=>?_) (fun H=>?_)
  ·refine af 3 tk rfl (ab ?_)
   refine aN rfl H (fun H=>?_) (fun H=>?_)
   ·refine aw 1 tk rfl ?_
    exact dB tk H rfl
   refine ax (aw 2 tk rfl ?_)
   exact dB tk H rfl
  refine af 3 tk rfl (ab (bW rfl (ax (aw 2 tk rfl ?_))))
  exact dB tk H rfl
 refine af 7 tk rfl (ab (bW rfl (ax (aw 2 tk rfl ?_))))
 exact dB tk H rfl
def eV (c : LChecker) (inA : List LCol) (a : LAggregateCall) : Option (Int × Int) :=
 ag (
  bs (dy a.name) fun x13 =>
  cond (!x13)
   (some true)
   (ag (cx ([[99,111,117,110,116],[115,117,109],[109,105,110],[109,97,120]] : List (List UInt8)) a.function) fun x19 =>
   cond (!x19)
    (some true)
    (cond (decide ((a.args.length : Int) > (1 : Int)))
     (some true)
     (cond (decide ((a.args.length : Int) < (1 : Int)))
      (some (!(a.function == ([99,111,117,110,116] : List UInt8))))
      (some false))))) fun (t1 : Bool) =>
 cond t1
  (some (0,3))
  (cond ((a.args.length : Int) == (0 : Int))
   (some (1,0))
   (ag (aR a.args 0) fun (x49 : LExpr) =>
   bs (eO inA c.vars x49) fun x51 =>
   cond (x51.2.2 != (0 : Int))
    (some (0,x51.2.2))
    (bs (
     cond (x51.1 == (0 : Int))
      (true)
      (cond (a.function == ([115,117,109] : List UInt8))
       ((x51.1 != (1 : Int)))
       (false))) fun (t2 : Bool) =>
    cond t2
     (some (0,7))
     (cond (a.function == ([99,111,117,110,116] : List UInt8))
      (some (1,0))
      (some (x51.1,0))))))
theorem pA (c : LChecker) (inA : List LCol) (a : LAggregateCall) (r : Int × Int) (H : eV c inA a = some r) :
  aU Tryz.prog 197 [(.agg (dt c)),(.list 52 (inA.map bh)),(.agg (aQ a))] (.tup [(ae r.1),(ae r.2)]) := by
 unfold eV at H
 refine PH.ay Tryz.func197 Tryz.ntmps197 ?_
 refine ac (aa (aG ?_))
 refine aG ?_
 refine af 2 tk rfl (ab (ac (ac ?_)))
 refine ci (γ := Unit) (fun t1 g1=>⟨76,upd (upd (upd (upd (fun _=>.any) 38 (au t1)) 5 (.ptr (aQ a))) 3 (.ptr (dt c))) 1 (.list 52 (inA.map bh)),fun _=>none,fun _=>none⟩) H (fun _ H=>?_) (fun t1 g1 H=>?_)
 ·refine aa (af 2 tk rfl ?_)
  obtain ⟨x13,h13,H⟩ := dg H
  have s13 := kL a.name
  rw [h13] at s13
  refine aq Tryz.call196 (eZ.r) s13 ?_
  refine af 2 tk rfl ?_
  refine aL rfl rfl rfl H (fun H=>?_) (fun H=>?_)
  ·refine af 23 tk rfl (ab ?_)
   refine aJ _ () (az H) Gh.d
  refine cj tk (rows' := List.map aF ([[99,111,117,110,116],[115,117,109],[109,105,110],[109,97,120]] : List (List UInt8))) (dH.refl _) ?_
  refine af 2 tk rfl ?_
  obtain ⟨x19,h19,H⟩ := av H
  have s19 := hZ ([[99,111,117,110,116],[115,117,109],[109,105,110],[109,97,120]] : List (List UInt8)) a.function _ h19
  refine aq Tryz.call103 (eZ.r) s19 ?_
  refine af 3 tk rfl ?_
  refine aL rfl rfl rfl H (fun H=>?_) (fun H=>?_)
  ·refine af 16 tk rfl (ab ?_)
   refine aJ _ () (az H) Gh.d
  refine af 2 tk rfl (aB tk (zl _) ?_)
  refine af 3 tk rfl ?_
  refine aL rfl rfl rfl H (fun H=>?_) (fun H=>?_)
  ·refine af 10 tk rfl (ab ?_)
   refine aJ _ () (az H) Gh.d
  refine af 2 tk rfl (aB tk (zl _) ?_)
  refine af 2 tk rfl ?_
  refine aL rfl rfl rfl H (fun H=>?_) (fun H=>?_)
  ·refine af 5 tk rfl (ab ?_)
   refine aJ _ () (az H) Gh.d
  refine af 5 tk rfl (ab ?_)
  refine aJ _ () (az H) Gh.d
 refine aN rfl H (fun H=>?_) (fun H=>?_)
 ·refine aw 2 tk rfl ?_
  exact bi tk H rfl
 refine ax (ac (ac (aa (af 2 tk rfl (aB tk (zl _) ?_)))))
 refine ah tk rfl (ab ?_)
 refine aN rfl H (fun H=>?_) (fun H=>?_)
 ·refine aw 2 tk rfl ?_
  exact bi tk H rfl
 refine ax (ac (bt tk mok ⟨false,false,[]⟩ [0,1,2,3,4,5,6,7,8,9,10,11,12,13,14] rfl (by decide +kernel) rfl (bf 5 rfl ?_)))
 obtain ⟨x49,k49,H⟩ := bB H
 refine bF k49.1 (aV aS k49.2) ?_
 refine bn rfl ?_
 obtain ⟨x51,h51,H⟩ := dg H
 have s51 := lG inA c.vars x49
 rw [h51] at s51
 refine be Tryz.call177 (eZ.r) s51 ?_
 refine bf 7 rfl (bp (ac (aE (aw 3 tk rfl ?_))))
 refine aN rfl H (fun H=>?_) (fun H=>?_)
 ·refine aw 3 tk rfl ?_
  exact bi tk H rfl
 refine ac ?_
 refine cm (γ := Unit) (fun t2 g2=>⟨76,upd (upd (upd (fun _=>.any) 59 (au t2)) 8 (ae x51.1)) 5 (.ptr (aQ a)),fun _=>none,fun _=>none⟩) H (fun _ H=>?_) (fun t2 g2 H=>?_)
 ·refine aa (af 3 tk rfl ?_)
  refine aL rfl rfl rfl H (fun H=>?_) (fun H=>?_)
  ·refine af 9 tk rfl (ab ?_)
   refine aJ _ () H Gh.d
  refine af 4 tk rfl ?_
  refine aL rfl rfl rfl H (fun H=>?_) (fun H=>?_)
  ·refine af 5 tk rfl (ab ?_)
   refine aJ _ () H Gh.d
  refine af 5 tk rfl (ab ?_)
  refine aJ _ () H Gh.d
 refine aN rfl H (fun H=>?_) (fun H=>?_)
 ·refine aw 2 tk rfl ?_
  exact bi tk H rfl
 refine aw 4 tk rfl ?_
 refine aN rfl H (fun H=>?_) (fun H=>?_)
 ·refine aw 2 tk rfl ?_
  exact bi tk H rfl
 refine ax (aW (aw 3 tk rfl ?_))
 exact bi tk H rfl
def km (rec30 : LQuery → Option (LQuery)) (q : LQuery) : Option (LQuery) :=
 ag (aI (σ := List LExpr) (ρ := Empty) (fun (_ : Nat) (x1 : LExpr) (s1 : List LExpr) =>
  ag (dL x1) fun x32 =>
  ag (bS 88 s1 ([x32] : List LExpr)) fun (x34 : List LExpr) =>
  some (.next x34)) 0 q.exprs []) fun fl1=>fl1.thenP fun (s1 : List LExpr) =>
 ag (aI (σ := List LAggregateCall) (ρ := Empty) (fun (_ : Nat) (x2 : LAggregateCall) (s2 : List LAggregateCall) =>
  ag (fj x2.args) fun x52 =>
  ag (bS 56 s2 ([(LAggregateCall.mk x2.name x2.function x52)] : List LAggregateCall)) fun (x55 : List LAggregateCall) =>
  some (.next x55)) 0 q.aggregates []) fun fl2=>fl2.thenP fun (s2 : List LAggregateCall) =>
 ag (aI (σ := List LQuery) (ρ := Empty) (fun (_ : Nat) (x3 : LQuery) (s3 : List LQuery) =>
  ag (rec30 x3) fun x68 =>
  ag (bS 160 s3 ([x68] : List LQuery)) fun (x70 : List LQuery) =>
  some (.next x70)) 0 q.inputs []) fun fl3=>fl3.thenP fun (s3 : List LQuery) =>
 some (LQuery.mk q.kind q.table q.names s1 s2 q.descending q.count q.offset s3)
theorem WO_query_Clone (rec30 : LQuery → Option (LQuery)) (hrec30 : ∀ a0 r,rec30 a0 = some r → aU Tryz.prog 30 [(.agg (am a0))] (.agg (am r))) (q : LQuery) (r : LQuery) (H : km rec30 q = some r) :
  aU Tryz.prog 30 [(.agg (am q))] (.agg (am r)) := by
 unfold km at H
 refine PH.ay Tryz.func30 Tryz.ntmps30 ?_
 refine ac (aa (aG ?_))
 refine aA tk fun b2=>?_
 refine ab (ac (aa (ah tk rfl ?_)))
 refine aA tk fun b3=>?_
 refine ao tk ?_
 refine ab (ac (bt tk mok ⟨false,false,[]⟩ [0,1,3,4,2,6,5,7,8,9] rfl (by decide +kernel) rfl (bf 4 rfl ?_)))
 have s13 := pq (m := 13) q.names
 refine jc (g := 61) rfl rfl rfl rfl Tryz.call61 (eZ.r) rfl rfl s13 (fun g13=>?_)
 refine bn rfl ?_
 have s16 := oK (m := 16) q.descending
 refine jc (g := 62) rfl rfl rfl rfl Tryz.call62 (eZ.r) rfl rfl s16 (fun g16=>?_)
 refine bm ?_
 refine bn rfl (bm ?_)
 refine bp (ac (aa (ah tk rfl (ao tk ?_))))
 refine ah tk rfl (ao tk ?_)
 refine ah tk rfl (ao tk ?_)
 refine ab (ac (ac (aa (af 2 tk rfl (aB tk (zl _) ?_)))))
 refine ah tk rfl (ab (gg tk 3 3 34 (e := 94) rfl rfl rfl rfl ?_))
 refine db (γ := OwnRef) tk 25 24 23 (fun s1 g1=>upd (upd (upd (fun _=>.any) 3 (.box 3 b3 0)) 2 (.box 2 b2 0)) 1 (.ptr (am q))) (fun s1 g1=>upd (upd (fun _=>none) 3 (some ⟨b3,[(ae q.kind),(.str q.table),(.own 13 g13 (q.names.map aF).length),(.own 34 g1 (s1.map ak).length),(.val (.slice none 0 0)),(.own 16 g16 (q.descending.map aP).length),(ae q.count),(ae q.offset),(.val (.slice none 0 0))]⟩)) 2 (some ⟨b2,[(ae 0),(.str []),(.val (.slice none 0 0)),(.val (.slice none 0 0)),(.val (.slice none 0 0)),(.val (.slice none 0 0)),(ae 0),(ae 0),(.val (.slice none 0 0))]⟩)) (fun s1 g1=>upd (upd (upd (fun _=>none) 34 (some ⟨g1,94,(s1.map ak),true⟩)) 16 (some ⟨g16,4,(q.descending.map aP),true⟩)) 13 (some ⟨g13,9,(q.names.map aF),true⟩)) (⟨none,0⟩) H (fun fl1 Hp1 j1 s1 g1 hz1 hl1 x1 fb1 hx1 H hg1=>?_) (fun s1 g1 H=>?_)
 ·refine ac (aE (ac (aa (aX tk (zn j1) (bj aS hx1) ?_))))
  refine ah tk rfl ?_
  refine aA tk fun b5=>?_
  refine ao tk ?_
  refine ab (cg 5 ?_)
  refine bt tk mok ⟨true,false,[31]⟩ [0,1,2,3,4,5,6,7] rfl (by decide +kernel) rfl (bn rfl (aY ?_))
  refine bn rfl ?_
  obtain ⟨x32,h32,H⟩ := av H
  have s32 := gB x1 _ h32
  refine be Tryz.call63 (eZ.r) s32 ?_
  refine bn rfl ?_
  obtain ⟨x34,h34,H⟩ := av H
  have k34 := bE h34
  refine em (rows2' := List.map ak ([x32] : List LExpr)) (rows' := List.map ak x34) tk rfl rfl rfl rfl rfl rfl rfl rfl rfl rfl rfl rfl rfl rfl (dH.trans (b := List.map bl [x32]) (dH.refl _) (dH.of_eq (bN aS [x32]))) (ce k34.1) (cb k34.2.1) (ca k34.2.2) fun g34=>?_
  refine bn rfl (bm ?_)
  refine bp (aW (br 2 tk rfl ?_))
  exact bq g34 H hl1 hg1
 refine ac (ac (aa (af 2 tk rfl (aB tk (zl _) ?_))))
 refine ah tk rfl (ab (gg tk 3 4 55 (e := 91) rfl rfl rfl rfl ?_))
 refine db (γ := OwnRef) tk 40 39 38 (fun s2 g2=>upd (upd (upd (fun _=>.any) 3 (.box 3 b3 0)) 2 (.box 2 b2 0)) 1 (.ptr (am q))) (fun s2 g2=>upd (upd (fun _=>none) 3 (some ⟨b3,[(ae q.kind),(.str q.table),(.own 13 g13 (q.names.map aF).length),(.own 34 g1 (s1.map ak).length),(.own 55 g2 (s2.map aQ).length),(.own 16 g16 (q.descending.map aP).length),(ae q.count),(ae q.offset),(.val (.slice none 0 0))]⟩)) 2 (some ⟨b2,[(ae 0),(.str []),(.val (.slice none 0 0)),(.val (.slice none 0 0)),(.val (.slice none 0 0)),(.val (.slice none 0 0)),(ae 0),(ae 0),(.val (.slice none 0 0))]⟩)) (fun s2 g2=>upd (upd (upd (upd (fun _=>none) 55 (some ⟨g2,91,(s2.map aQ),true⟩)) 34 (some ⟨g1,94,(s1.map ak),true⟩)) 16 (some ⟨g16,4,(q.descending.map aP),true⟩)) 13 (some ⟨g13,9,(q.names.map aF),true⟩)) (⟨none,0⟩) H (fun fl2 Hp2 j2 s2 g2 hz2 hl2 x2 fb2 hx2 H hg2=>?_) (fun s2 g2 H=>?_)
 ·refine ac (aE (ac (aa ?_)))
  refine aX tk (zn j2) (bj (fun _=>rfl) hx2) ?_
  refine ah tk rfl ?_
  refine aA tk fun b7=>?_
  refine ao tk ?_
  refine ab (cg 7 ?_)
  refine bt tk mok ⟨true,false,[47,49,51]⟩ [0,1,2,3,4,5,6,7,8,9,10,11,12,13] rfl (by decide +kernel) rfl (bn rfl (aY ?_))
  refine bf 6 rfl ?_
  obtain ⟨x52,h52,H⟩ := av H
  have s52 := kl x2.args _ h52
  refine be Tryz.call64 (eZ.r) s52 ?_
  refine bf 2 rfl ?_
  obtain ⟨x55,h55,H⟩ := av H
  have k55 := bE h55
  refine em (rows2' := List.map aQ ([(LAggregateCall.mk x2.name x2.function x52)] : List LAggregateCall)) (rows' := List.map aQ x55) tk rfl rfl rfl rfl rfl rfl rfl rfl rfl rfl rfl rfl rfl rfl (dH.refl _) (ce k55.1) (cb k55.2.1) (ca k55.2.2) fun g55=>?_
  refine bn rfl (bm ?_)
  refine bp (aW (br 2 tk rfl ?_))
  exact bq g55 H hl2 hg2
 refine ac (ac (aa (af 2 tk rfl (aB tk (zl _) ?_))))
 refine ah tk rfl (ab (gg tk 3 8 70 (e := 33) rfl rfl rfl rfl ?_))
 refine db (γ := OwnRef) tk 61 60 59 (fun s3 g3=>upd (upd (fun _=>.any) 3 (.box 3 b3 0)) 2 (.box 2 b2 0)) (fun s3 g3=>upd (upd (fun _=>none) 3 (some ⟨b3,[(ae q.kind),(.str q.table),(.own 13 g13 (q.names.map aF).length),(.own 34 g1 (s1.map ak).length),(.own 55 g2 (s2.map aQ).length),(.own 16 g16 (q.descending.map aP).length),(ae q.count),(ae q.offset),(.own 70 g3 (s3.map ap).length)]⟩)) 2 (some ⟨b2,[(ae 0),(.str []),(.val (.slice none 0 0)),(.val (.slice none 0 0)),(.val (.slice none 0 0)),(.val (.slice none 0 0)),(ae 0),(ae 0),(.val (.slice none 0 0))]⟩)) (fun s3 g3=>upd (upd (upd (upd (upd (fun _=>none) 70 (some ⟨g3,33,(s3.map ap),true⟩)) 55 (some ⟨g2,91,(s2.map aQ),true⟩)) 34 (some ⟨g1,94,(s1.map ak),true⟩)) 16 (some ⟨g16,4,(q.descending.map aP),true⟩)) 13 (some ⟨g13,9,(q.names.map aF),true⟩)) (⟨none,0⟩) H (fun fl3 Hp3 j3 s3 g3 hz3 hl3 x3 fb3 hx3 H hg3=>?_) (fun s3 g3 H=>?_)
 ·refine ac (aE (ac (aa (aX tk (zn j3) (bj aH hx3) ?_))))
  refine ah tk rfl ?_
  refine aA tk fun b9=>?_
  refine ao tk ?_
  refine ab (cg 9 ?_)
  refine bt tk mok ⟨true,false,[67]⟩ [0,1,2,3,4,5,6,7] rfl (by decide +kernel) rfl (bn rfl (aY ?_))
  refine bn rfl ?_
  obtain ⟨x68,h68,H⟩ := av H
  have s68 := hrec30 x3 _ h68
  refine be Tryz.call30 (eZ.r) s68 ?_
  refine bn rfl ?_
  obtain ⟨x70,h70,H⟩ := av H
  have k70 := bE h70
  refine em (rows2' := List.map ap ([x68] : List LQuery)) (rows' := List.map ap x70) tk rfl rfl rfl rfl rfl rfl rfl rfl rfl rfl rfl rfl rfl rfl (dH.trans (b := List.map am [x68]) (dH.refl _) (dH.of_eq (bN aH [x68]))) (ce k70.1) (cb k70.2.1) (ca k70.2.2) fun g70=>?_
  refine bn rfl (bm ?_)
  refine bp (aW (br 2 tk rfl ?_))
  exact bq g70 H hl3 hg3
 refine ac (aa (al tk ?_))
 refine ao tk ?_
 refine ab (bD 2 2 rfl rfl rfl rfl rfl (bD 2 3 rfl rfl rfl rfl rfl (bD 2 4 rfl rfl rfl rfl rfl (bD 2 5 rfl rfl rfl rfl rfl (bD 2 8 rfl rfl rfl rfl rfl ?_)))))
 exact pI tk H rfl rfl rfl rfl rfl
def gL : Nat → LQuery → Option (LQuery)
 | 0,_=>none
 | n + 1,v0=>km (fun b0=>gL n b0) v0
theorem WF_query_Clone  (n : Nat) : (∀ a0 r,gL n a0 = some r → aU Tryz.prog 30 [(.agg (am a0))] (.agg (am r))) := by
 induction n with
 | zero=>exact (by intros; rename_i h; exact absurd (show (none : Option _) = some _ from h) (by simp))
 | succ n ih =>
  exact (fun v0 r h=>WO_query_Clone (fun b0=>gL n b0) ih v0  r h)
def ip (q : LQuery) : Option (LQuery) := fe fun n=>gL n q
theorem mc (q : LQuery) (r : LQuery) (H : ip q = some r) :
  aU Tryz.prog 30 [(.agg (am q))] (.agg (am r)) := by
 obtain ⟨n,h⟩ := et H
 exact (WF_query_Clone  n) q r h
def eR (q : LQuery) : Option (LQuery) :=
 ag (aI (σ := List LExpr) (ρ := Empty) (fun (_ : Nat) (x1 : LExpr) (s1 : List LExpr) =>
  ag (dL x1) fun x32 =>
  ag (bS 88 s1 ([x32] : List LExpr)) fun (x34 : List LExpr) =>
  some (.next x34)) 0 q.exprs []) fun fl1=>fl1.thenP fun (s1 : List LExpr) =>
 ag (aI (σ := List LAggregateCall) (ρ := Empty) (fun (_ : Nat) (x2 : LAggregateCall) (s2 : List LAggregateCall) =>
  ag (fj x2.args) fun x52 =>
  ag (bS 56 s2 ([(LAggregateCall.mk x2.name x2.function x52)] : List LAggregateCall)) fun (x55 : List LAggregateCall) =>
  some (.next x55)) 0 q.aggregates []) fun fl2=>fl2.thenP fun (s2 : List LAggregateCall) =>
 ag (aI (σ := List LQuery) (ρ := Empty) (fun (_ : Nat) (x3 : LQuery) (s3 : List LQuery) =>
  ag (ip x3) fun x68 =>
  ag (bS 160 s3 ([x68] : List LQuery)) fun (x70 : List LQuery) =>
  some (.next x70)) 0 q.inputs []) fun fl3=>fl3.thenP fun (s3 : List LQuery) =>
 some (LQuery.mk q.kind q.table q.names s1 s2 q.descending q.count q.offset s3)
theorem jr {m : Nat} (q : LQuery) (r : LQuery) (H : eR q = some r) :
  dY Tryz.prog 30 [(.agg (am q))] (OwnG m 33 (List.map ap r.inputs) (fun gz=>(.agg [(ae r.kind),(.str r.table),(.list 9 (r.names.map aF)),(.list 94 (r.exprs.map ak)),(.list 91 (r.aggregates.map aQ)),(.list 4 (r.descending.map aP)),(ae r.count),(ae r.offset),(.own m gz (r.inputs.map ap).length)]))) := by
 unfold eR at H
 refine PH.ay Tryz.func30 Tryz.ntmps30 ?_
 refine ac (aa (aG ?_))
 refine aA tk fun b2=>?_
 refine ab (ac (aa (ah tk rfl ?_)))
 refine aA tk fun b3=>?_
 refine ao tk ?_
 refine ab (ac (bt tk mok ⟨false,false,[]⟩ [0,1,3,4,2,6,5,7,8,9] rfl (by decide +kernel) rfl (bf 4 rfl ?_)))
 have s13 := pq (m := 13) q.names
 refine jc (g := 61) rfl rfl rfl rfl Tryz.call61 (eZ.r) rfl rfl s13 (fun g13=>?_)
 refine bn rfl ?_
 have s16 := oK (m := 16) q.descending
 refine jc (g := 62) rfl rfl rfl rfl Tryz.call62 (eZ.r) rfl rfl s16 (fun g16=>?_)
 refine bm ?_
 refine bn rfl (bm ?_)
 refine bp (ac (aa (ah tk rfl (ao tk ?_))))
 refine ah tk rfl (ao tk ?_)
 refine ah tk rfl (ao tk ?_)
 refine ab (ac (ac (aa (af 2 tk rfl (aB tk (zl _) ?_)))))
 refine ah tk rfl (ab (gg tk 3 3 34 (e := 94) rfl rfl rfl rfl ?_))
 refine db (γ := OwnRef) tk 25 24 23 (fun s1 g1=>upd (upd (upd (fun _=>.any) 3 (.box 3 b3 0)) 2 (.box 2 b2 0)) 1 (.ptr (am q))) (fun s1 g1=>upd (upd (fun _=>none) 3 (some ⟨b3,[(ae q.kind),(.str q.table),(.own 13 g13 (q.names.map aF).length),(.own 34 g1 (s1.map ak).length),(.val (.slice none 0 0)),(.own 16 g16 (q.descending.map aP).length),(ae q.count),(ae q.offset),(.val (.slice none 0 0))]⟩)) 2 (some ⟨b2,[(ae 0),(.str []),(.val (.slice none 0 0)),(.val (.slice none 0 0)),(.val (.slice none 0 0)),(.val (.slice none 0 0)),(ae 0),(ae 0),(.val (.slice none 0 0))]⟩)) (fun s1 g1=>upd (upd (upd (fun _=>none) 34 (some ⟨g1,94,(s1.map ak),true⟩)) 16 (some ⟨g16,4,(q.descending.map aP),true⟩)) 13 (some ⟨g13,9,(q.names.map aF),true⟩)) (⟨none,0⟩) H (fun fl1 Hp1 j1 s1 g1 hz1 hl1 x1 fb1 hx1 H hg1=>?_) (fun s1 g1 H=>?_)
 ·refine ac (aE (ac (aa (aX tk (zn j1) (bj aS hx1) ?_))))
  refine ah tk rfl ?_
  refine aA tk fun b5=>?_
  refine ao tk ?_
  refine ab (cg 5 ?_)
  refine bt tk mok ⟨true,false,[31]⟩ [0,1,2,3,4,5,6,7] rfl (by decide +kernel) rfl (bn rfl (aY ?_))
  refine bn rfl ?_
  obtain ⟨x32,h32,H⟩ := av H
  have s32 := gB x1 _ h32
  refine be Tryz.call63 (eZ.r) s32 ?_
  refine bn rfl ?_
  obtain ⟨x34,h34,H⟩ := av H
  have k34 := bE h34
  refine em (rows2' := List.map ak ([x32] : List LExpr)) (rows' := List.map ak x34) tk rfl rfl rfl rfl rfl rfl rfl rfl rfl rfl rfl rfl rfl rfl (dH.trans (b := List.map bl [x32]) (dH.refl _) (dH.of_eq (bN aS [x32]))) (ce k34.1) (cb k34.2.1) (ca k34.2.2) fun g34=>?_
  refine bn rfl (bm ?_)
  refine bp (aW (br 2 tk rfl ?_))
  exact bq g34 H hl1 hg1
 refine ac (ac (aa (af 2 tk rfl (aB tk (zl _) ?_))))
 refine ah tk rfl (ab (gg tk 3 4 55 (e := 91) rfl rfl rfl rfl ?_))
 refine db (γ := OwnRef) tk 40 39 38 (fun s2 g2=>upd (upd (upd (fun _=>.any) 3 (.box 3 b3 0)) 2 (.box 2 b2 0)) 1 (.ptr (am q))) (fun s2 g2=>upd (upd (fun _=>none) 3 (some ⟨b3,[(ae q.kind),(.str q.table),(.own 13 g13 (q.names.map aF).length),(.own 34 g1 (s1.map ak).length),(.own 55 g2 (s2.map aQ).length),(.own 16 g16 (q.descending.map aP).length),(ae q.count),(ae q.offset),(.val (.slice none 0 0))]⟩)) 2 (some ⟨b2,[(ae 0),(.str []),(.val (.slice none 0 0)),(.val (.slice none 0 0)),(.val (.slice none 0 0)),(.val (.slice none 0 0)),(ae 0),(ae 0),(.val (.slice none 0 0))]⟩)) (fun s2 g2=>upd (upd (upd (upd (fun _=>none) 55 (some ⟨g2,91,(s2.map aQ),true⟩)) 34 (some ⟨g1,94,(s1.map ak),true⟩)) 16 (some ⟨g16,4,(q.descending.map aP),true⟩)) 13 (some ⟨g13,9,(q.names.map aF),true⟩)) (⟨none,0⟩) H (fun fl2 Hp2 j2 s2 g2 hz2 hl2 x2 fb2 hx2 H hg2=>?_) (fun s2 g2 H=>?_)
 ·refine ac (aE (ac (aa ?_)))
  refine aX tk (zn j2) (bj (fun _=>rfl) hx2) ?_
  refine ah tk rfl ?_
  refine aA tk fun b7=>?_
  refine ao tk ?_
  refine ab (cg 7 ?_)
  refine bt tk mok ⟨true,false,[47,49,51]⟩ [0,1,2,3,4,5,6,7,8,9,10,11,12,13] rfl (by decide +kernel) rfl (bn rfl (aY ?_))
  refine bf 6 rfl ?_
  obtain ⟨x52,h52,H⟩ := av H
  have s52 := kl x2.args _ h52
  refine be Tryz.call64 (eZ.r) s52 ?_
  refine bf 2 rfl ?_
  obtain ⟨x55,h55,H⟩ := av H
  have k55 := bE h55
  refine em (rows2' := List.map aQ ([(LAggregateCall.mk x2.name x2.function x52)] : List LAggregateCall)) (rows' := List.map aQ x55) tk rfl rfl rfl rfl rfl rfl rfl rfl rfl rfl rfl rfl rfl rfl (dH.refl _) (ce k55.1) (cb k55.2.1) (ca k55.2.2) fun g55=>?_
  refine bn rfl (bm ?_)
  refine bp (aW (br 2 tk rfl ?_))
  exact bq g55 H hl2 hg2
 refine ac (ac (aa (af 2 tk rfl (aB tk (zl _) ?_))))
 refine ah tk rfl (ab (gg tk 3 8 70 (e := 33) rfl rfl rfl rfl ?_))
 refine db (γ := OwnRef) tk 61 60 59 (fun s3 g3=>upd (upd (fun _=>.any) 3 (.box 3 b3 0)) 2 (.box 2 b2 0)) (fun s3 g3=>upd (upd (fun _=>none) 3 (some ⟨b3,[(ae q.kind),(.str q.table),(.own 13 g13 (q.names.map aF).length),(.own 34 g1 (s1.map ak).length),(.own 55 g2 (s2.map aQ).length),(.own 16 g16 (q.descending.map aP).length),(ae q.count),(ae q.offset),(.own 70 g3 (s3.map ap).length)]⟩)) 2 (some ⟨b2,[(ae 0),(.str []),(.val (.slice none 0 0)),(.val (.slice none 0 0)),(.val (.slice none 0 0)),(.val (.slice none 0 0)),(ae 0),(ae 0),(.val (.slice none 0 0))]⟩)) (fun s3 g3=>upd (upd (upd (upd (upd (fun _=>none) 70 (some ⟨g3,33,(s3.map ap),true⟩)) 55 (some ⟨g2,91,(s2.map aQ),true⟩)) 34 (some ⟨g1,94,(s1.map ak),true⟩)) 16 (some ⟨g16,4,(q.descending.map aP),true⟩)) 13 (some ⟨g13,9,(q.names.map aF),true⟩)) (⟨none,0⟩) H (fun fl3 Hp3 j3 s3 g3 hz3 hl3 x3 fb3 hx3 H hg3=>?_) (fun s3 g3 H=>?_)
 ·refine ac (aE (ac (aa (aX tk (zn j3) (bj aH hx3) ?_))))
  refine ah tk rfl ?_
  refine aA tk fun b9=>?_
  refine ao tk ?_
  refine ab (cg 9 ?_)
  refine bt tk mok ⟨true,false,[67]⟩ [0,1,2,3,4,5,6,7] rfl (by decide +kernel) rfl (bn rfl (aY ?_))
  refine bn rfl ?_
  obtain ⟨x68,h68,H⟩ := av H
  have s68 := mc x3 _ h68
  refine be Tryz.call30 (eZ.r) s68 ?_
  refine bn rfl ?_
  obtain ⟨x70,h70,H⟩ := av H
  have k70 := bE h70
  refine em (rows2' := List.map ap ([x68] : List LQuery)) (rows' := List.map ap x70) tk rfl rfl rfl rfl rfl rfl rfl rfl rfl rfl rfl rfl rfl rfl (dH.trans (b := List.map am [x68]) (dH.refl _) (dH.of_eq (bN aH [x68]))) (ce k70.1) (cb k70.2.1) (ca k70.2.2) fun g70=>?_
  refine bn rfl (bm ?_)
  refine bp (aW (br 2 tk rfl ?_))
  exact bq g70 H hl3 hg3
 refine ac (aa (al tk ?_))
 refine ao tk ?_
 refine ab ?_
 obtain rfl := az H
 refine bD 2 2 rfl rfl rfl rfl rfl (bD 2 3 rfl rfl rfl rfl rfl (bD 2 4 rfl rfl rfl rfl rfl (bD 2 5 rfl rfl rfl rfl rfl ?_)))
 refine ro tk rfl (ps := [(.agg [(ae q.kind),(.str q.table),(.list 9 (q.names.map aF)),(.list 94 (s1.map ak)),(.list 91 (s2.map aQ)),(.list 4 (q.descending.map aP)),(ae q.count),(ae q.offset),(.own 70 g3 (s3.map ap).length)])]) (by exact ⟨_,_,rfl,⟨_,_,_,_,_,rfl,rfl,rfl,rfl⟩,rfl⟩) (tag := 70) rfl rfl (PLe.of2 (lW.agg (gk.cons (lW.of_eq rfl) (gk.cons (lW.of_eq rfl) (gk.cons (lW.of_eq rfl) (gk.cons (lW.of_eq rfl) (gk.cons (lW.of_eq rfl) (gk.cons (lW.of_eq rfl) (gk.cons (lW.of_eq rfl) (gk.cons (lW.of_eq rfl) (gk.cons (lW.own rfl) gk.nil)))))))))))
def iy (q : LQuery) : Option (LQuery) :=
 ag (aI (σ := List LExpr) (ρ := Empty) (fun (_ : Nat) (x1 : LExpr) (s1 : List LExpr) =>
  ag (dL x1) fun x32 =>
  ag (bS 88 s1 ([x32] : List LExpr)) fun (x34 : List LExpr) =>
  some (.next x34)) 0 q.exprs []) fun fl1=>fl1.thenP fun (s1 : List LExpr) =>
 ag (aI (σ := List LAggregateCall) (ρ := Empty) (fun (_ : Nat) (x2 : LAggregateCall) (s2 : List LAggregateCall) =>
  ag (fj x2.args) fun x52 =>
  ag (bS 56 s2 ([(LAggregateCall.mk x2.name x2.function x52)] : List LAggregateCall)) fun (x55 : List LAggregateCall) =>
  some (.next x55)) 0 q.aggregates []) fun fl2=>fl2.thenP fun (s2 : List LAggregateCall) =>
 ag (aI (σ := List LQuery) (ρ := Empty) (fun (_ : Nat) (x3 : LQuery) (s3 : List LQuery) =>
  ag (ip x3) fun x68 =>
  ag (bS 160 s3 ([x68] : List LQuery)) fun (x70 : List LQuery) =>
  some (.next x70)) 0 q.inputs []) fun fl3=>fl3.thenP fun (s3 : List LQuery) =>
 some (LQuery.mk q.kind q.table q.names s1 s2 q.descending q.count q.offset s3)
theorem rj {m : Nat} (q : LQuery) (r : LQuery) (H : iy q = some r) :
  dY Tryz.prog 30 [(.agg (am q))] (OwnG m 94 (List.map ak r.exprs) (fun gz=>(.agg [(ae r.kind),(.str r.table),(.list 9 (r.names.map aF)),(.own m gz (r.exprs.map ak).length),(.list 91 (r.aggregates.map aQ)),(.list 4 (r.descending.map aP)),(ae r.count),(ae r.offset),(.list 33 (r.inputs.map ap))]))) := by
 unfold iy at H
 refine PH.ay Tryz.func30 Tryz.ntmps30 ?_
 refine ac (aa (aG ?_))
 refine aA tk fun b2=>?_
 refine ab (ac (aa (ah tk rfl ?_)))
 refine aA tk fun b3=>?_
 refine ao tk ?_
 refine ab (ac (bt tk mok ⟨false,false,[]⟩ [0,1,3,4,2,6,5,7,8,9] rfl (by decide +kernel) rfl (bf 4 rfl ?_)))
 have s13 := pq (m := 13) q.names
 refine jc (g := 61) rfl rfl rfl rfl Tryz.call61 (eZ.r) rfl rfl s13 (fun g13=>?_)
 refine bn rfl ?_
 have s16 := oK (m := 16) q.descending
 refine jc (g := 62) rfl rfl rfl rfl Tryz.call62 (eZ.r) rfl rfl s16 (fun g16=>?_)
 refine bm ?_
 refine bn rfl (bm ?_)
 refine bp (ac (aa (ah tk rfl (ao tk ?_))))
 refine ah tk rfl (ao tk ?_)
 refine ah tk rfl (ao tk ?_)
 refine ab (ac (ac (aa (af 2 tk rfl (aB tk (zl _) ?_)))))
 refine ah tk rfl (ab (gg tk 3 3 34 (e := 94) rfl rfl rfl rfl ?_))
 refine db (γ := OwnRef) tk 25 24 23 (fun s1 g1=>upd (upd (upd (fun _=>.any) 3 (.box 3 b3 0)) 2 (.box 2 b2 0)) 1 (.ptr (am q))) (fun s1 g1=>upd (upd (fun _=>none) 3 (some ⟨b3,[(ae q.kind),(.str q.table),(.own 13 g13 (q.names.map aF).length),(.own 34 g1 (s1.map ak).length),(.val (.slice none 0 0)),(.own 16 g16 (q.descending.map aP).length),(ae q.count),(ae q.offset),(.val (.slice none 0 0))]⟩)) 2 (some ⟨b2,[(ae 0),(.str []),(.val (.slice none 0 0)),(.val (.slice none 0 0)),(.val (.slice none 0 0)),(.val (.slice none 0 0)),(ae 0),(ae 0),(.val (.slice none 0 0))]⟩)) (fun s1 g1=>upd (upd (upd (fun _=>none) 34 (some ⟨g1,94,(s1.map ak),true⟩)) 16 (some ⟨g16,4,(q.descending.map aP),true⟩)) 13 (some ⟨g13,9,(q.names.map aF),true⟩)) (⟨none,0⟩) H (fun fl1 Hp1 j1 s1 g1 hz1 hl1 x1 fb1 hx1 H hg1=>?_) (fun s1 g1 H=>?_)
 ·refine ac (aE (ac (aa (aX tk (zn j1) (bj aS hx1) ?_))))
  refine ah tk rfl ?_
  refine aA tk fun b5=>?_
  refine ao tk ?_
  refine ab (cg 5 ?_)
  refine bt tk mok ⟨true,false,[31]⟩ [0,1,2,3,4,5,6,7] rfl (by decide +kernel) rfl (bn rfl (aY ?_))
  refine bn rfl ?_
  obtain ⟨x32,h32,H⟩ := av H
  have s32 := gB x1 _ h32
  refine be Tryz.call63 (eZ.r) s32 ?_
  refine bn rfl ?_
  obtain ⟨x34,h34,H⟩ := av H
  have k34 := bE h34
  refine em (rows2' := List.map ak ([x32] : List LExpr)) (rows' := List.map ak x34) tk rfl rfl rfl rfl rfl rfl rfl rfl rfl rfl rfl rfl rfl rfl (dH.trans (b := List.map bl [x32]) (dH.refl _) (dH.of_eq (bN aS [x32]))) (ce k34.1) (cb k34.2.1) (ca k34.2.2) fun g34=>?_
  refine bn rfl (bm ?_)
  refine bp (aW (br 2 tk rfl ?_))
  exact bq g34 H hl1 hg1
 refine ac (ac (aa (af 2 tk rfl (aB tk (zl _) ?_))))
 refine ah tk rfl (ab (gg tk 3 4 55 (e := 91) rfl rfl rfl rfl ?_))
 refine db (γ := OwnRef) tk 40 39 38 (fun s2 g2=>upd (upd (upd (fun _=>.any) 3 (.box 3 b3 0)) 2 (.box 2 b2 0)) 1 (.ptr (am q))) (fun s2 g2=>upd (upd (fun _=>none) 3 (some ⟨b3,[(ae q.kind),(.str q.table),(.own 13 g13 (q.names.map aF).length),(.own 34 g1 (s1.map ak).length),(.own 55 g2 (s2.map aQ).length),(.own 16 g16 (q.descending.map aP).length),(ae q.count),(ae q.offset),(.val (.slice none 0 0))]⟩)) 2 (some ⟨b2,[(ae 0),(.str []),(.val (.slice none 0 0)),(.val (.slice none 0 0)),(.val (.slice none 0 0)),(.val (.slice none 0 0)),(ae 0),(ae 0),(.val (.slice none 0 0))]⟩)) (fun s2 g2=>upd (upd (upd (upd (fun _=>none) 55 (some ⟨g2,91,(s2.map aQ),true⟩)) 34 (some ⟨g1,94,(s1.map ak),true⟩)) 16 (some ⟨g16,4,(q.descending.map aP),true⟩)) 13 (some ⟨g13,9,(q.names.map aF),true⟩)) (⟨none,0⟩) H (fun fl2 Hp2 j2 s2 g2 hz2 hl2 x2 fb2 hx2 H hg2=>?_) (fun s2 g2 H=>?_)
 ·refine ac (aE (ac (aa ?_)))
  refine aX tk (zn j2) (bj (fun _=>rfl) hx2) ?_
  refine ah tk rfl ?_
  refine aA tk fun b7=>?_
  refine ao tk ?_
  refine ab (cg 7 ?_)
  refine bt tk mok ⟨true,false,[47,49,51]⟩ [0,1,2,3,4,5,6,7,8,9,10,11,12,13] rfl (by decide +kernel) rfl (bn rfl (aY ?_))
  refine bf 6 rfl ?_
  obtain ⟨x52,h52,H⟩ := av H
  have s52 := kl x2.args _ h52
  refine be Tryz.call64 (eZ.r) s52 ?_
  refine bf 2 rfl ?_
  obtain ⟨x55,h55,H⟩ := av H
  have k55 := bE h55
  refine em (rows2' := List.map aQ ([(LAggregateCall.mk x2.name x2.function x52)] : List LAggregateCall)) (rows' := List.map aQ x55) tk rfl rfl rfl rfl rfl rfl rfl rfl rfl rfl rfl rfl rfl rfl (dH.refl _) (ce k55.1) (cb k55.2.1) (ca k55.2.2) fun g55=>?_
  refine bn rfl (bm ?_)
  refine bp (aW (br 2 tk rfl ?_))
  exact bq g55 H hl2 hg2
 refine ac (ac (aa (af 2 tk rfl (aB tk (zl _) ?_))))
 refine ah tk rfl (ab (gg tk 3 8 70 (e := 33) rfl rfl rfl rfl ?_))
 refine db (γ := OwnRef) tk 61 60 59 (fun s3 g3=>upd (upd (fun _=>.any) 3 (.box 3 b3 0)) 2 (.box 2 b2 0)) (fun s3 g3=>upd (upd (fun _=>none) 3 (some ⟨b3,[(ae q.kind),(.str q.table),(.own 13 g13 (q.names.map aF).length),(.own 34 g1 (s1.map ak).length),(.own 55 g2 (s2.map aQ).length),(.own 16 g16 (q.descending.map aP).length),(ae q.count),(ae q.offset),(.own 70 g3 (s3.map ap).length)]⟩)) 2 (some ⟨b2,[(ae 0),(.str []),(.val (.slice none 0 0)),(.val (.slice none 0 0)),(.val (.slice none 0 0)),(.val (.slice none 0 0)),(ae 0),(ae 0),(.val (.slice none 0 0))]⟩)) (fun s3 g3=>upd (upd (upd (upd (upd (fun _=>none) 70 (some ⟨g3,33,(s3.map ap),true⟩)) 55 (some ⟨g2,91,(s2.map aQ),true⟩)) 34 (some ⟨g1,94,(s1.map ak),true⟩)) 16 (some ⟨g16,4,(q.descending.map aP),true⟩)) 13 (some ⟨g13,9,(q.names.map aF),true⟩)) (⟨none,0⟩) H (fun fl3 Hp3 j3 s3 g3 hz3 hl3 x3 fb3 hx3 H hg3=>?_) (fun s3 g3 H=>?_)
 ·refine ac (aE (ac (aa (aX tk (zn j3) (bj aH hx3) ?_))))
  refine ah tk rfl ?_
  refine aA tk fun b9=>?_
  refine ao tk ?_
  refine ab (cg 9 ?_)
  refine bt tk mok ⟨true,false,[67]⟩ [0,1,2,3,4,5,6,7] rfl (by decide +kernel) rfl (bn rfl (aY ?_))
  refine bn rfl ?_
  obtain ⟨x68,h68,H⟩ := av H
  have s68 := mc x3 _ h68
  refine be Tryz.call30 (eZ.r) s68 ?_
  refine bn rfl ?_
  obtain ⟨x70,h70,H⟩ := av H
  have k70 := bE h70
  refine em (rows2' := List.map ap ([x68] : List LQuery)) (rows' := List.map ap x70) tk rfl rfl rfl rfl rfl rfl rfl rfl rfl rfl rfl rfl rfl rfl (dH.trans (b := List.map am [x68]) (dH.refl _) (dH.of_eq (bN aH [x68]))) (ce k70.1) (cb k70.2.1) (ca k70.2.2) fun g70=>?_
  refine bn rfl (bm ?_)
  refine bp (aW (br 2 tk rfl ?_))
  exact bq g70 H hl3 hg3
 refine ac (aa (al tk ?_))
 refine ao tk ?_
 refine ab ?_
 obtain rfl := az H
 refine bD 2 2 rfl rfl rfl rfl rfl (bD 2 4 rfl rfl rfl rfl rfl (bD 2 5 rfl rfl rfl rfl rfl (bD 2 8 rfl rfl rfl rfl rfl ?_)))
 refine ro tk rfl (ps := [(.agg [(ae q.kind),(.str q.table),(.list 9 (q.names.map aF)),(.own 34 g1 (s1.map ak).length),(.list 91 (s2.map aQ)),(.list 4 (q.descending.map aP)),(ae q.count),(ae q.offset),(.list 33 (s3.map ap))])]) (by exact ⟨_,_,rfl,⟨_,_,_,_,_,rfl,rfl,rfl,rfl⟩,rfl⟩) (tag := 34) rfl rfl (PLe.of2 (lW.agg (gk.cons (lW.of_eq rfl) (gk.cons (lW.of_eq rfl) (gk.cons (lW.of_eq rfl) (gk.cons (lW.own rfl) (gk.cons (lW.of_eq rfl) (gk.cons (lW.of_eq rfl) (gk.cons (lW.of_eq rfl) (gk.cons (lW.of_eq rfl) (gk.cons (lW.of_eq rfl) gk.nil)))))))))))
def iw (q : LQuery) (qi : LQuery) : Option (LQuery × LQuery) :=
 ag (aI (σ := List LExpr) (ρ := Empty) (fun (_ : Nat) (x1 : LExpr) (s1 : List LExpr) =>
  ag (dL x1) fun x32 =>
  ag (bS 88 s1 ([x32] : List LExpr)) fun (x34 : List LExpr) =>
  some (.next x34)) 0 q.exprs []) fun fl1=>fl1.thenP fun (s1 : List LExpr) =>
 ag (aI (σ := List LAggregateCall) (ρ := Empty) (fun (_ : Nat) (x2 : LAggregateCall) (s2 : List LAggregateCall) =>
  ag (fj x2.args) fun x52 =>
  ag (bS 56 s2 ([(LAggregateCall.mk x2.name x2.function x52)] : List LAggregateCall)) fun (x55 : List LAggregateCall) =>
  some (.next x55)) 0 q.aggregates []) fun fl2=>fl2.thenP fun (s2 : List LAggregateCall) =>
 ag (aR ([qi] : List LQuery) 0) fun (x63 : LQuery) =>
 ag (eR x63) fun x68 =>
 some ((LQuery.mk q.kind q.table q.names s1 s2 q.descending q.count q.offset [x68]),x68)
theorem rg {m : Nat} (q : LQuery) (qi : LQuery) (r : LQuery × LQuery) (H : iw q qi = some r) :
  dY Tryz.prog 30 [(.agg [(ae q.kind),(.str q.table),(.list 9 (q.names.map aF)),(.list 94 (q.exprs.map ak)),(.list 91 (q.aggregates.map aQ)),(.list 4 (q.descending.map aP)),(ae q.count),(ae q.offset),(.list 33 (([qi] : List LQuery).map ap))])] (OwnG m 33 (List.map ap r.2.inputs) (fun gz=>(.agg [(ae r.1.kind),(.str r.1.table),(.list 9 (r.1.names.map aF)),(.list 94 (r.1.exprs.map ak)),(.list 91 (r.1.aggregates.map aQ)),(.list 4 (r.1.descending.map aP)),(ae r.1.count),(ae r.1.offset),(.list 33 [[(ae r.2.kind),(.str r.2.table),(.list 9 (r.2.names.map aF)),(.list 94 (r.2.exprs.map ak)),(.list 91 (r.2.aggregates.map aQ)),(.list 4 (r.2.descending.map aP)),(ae r.2.count),(ae r.2.offset),(.val (OwnRef.val gz (r.2.inputs.map ap).length))]])]))) := by
 unfold iw at H
 refine PH.ay Tryz.func30 Tryz.ntmps30 ?_
 refine ac (aa (aG ?_))
 refine aA tk fun b2=>?_
 refine ab (ac (aa (ah tk rfl ?_)))
 refine aA tk fun b3=>?_
 refine ao tk ?_
 refine ab (ac (bt tk mok ⟨false,false,[]⟩ [0,1,3,4,2,6,5,7,8,9] rfl (by decide +kernel) rfl (bf 4 rfl ?_)))
 have s13 := pq (m := 13) q.names
 refine jc (g := 61) rfl rfl rfl rfl Tryz.call61 (eZ.r) rfl rfl s13 (fun g13=>?_)
 refine bn rfl ?_
 have s16 := oK (m := 16) q.descending
 refine jc (g := 62) rfl rfl rfl rfl Tryz.call62 (eZ.r) rfl rfl s16 (fun g16=>?_)
 refine bm ?_
 refine bn rfl (bm ?_)
 refine bp (ac (aa (ah tk rfl (ao tk ?_))))
 refine ah tk rfl (ao tk ?_)
 refine ah tk rfl (ao tk ?_)
 refine ab (ac (ac (aa (af 2 tk rfl (aB tk (zl _) ?_)))))
 refine ah tk rfl (ab (gg tk 3 3 34 (e := 94) rfl rfl rfl rfl ?_))
 refine db (γ := OwnRef) tk 25 24 23 (fun s1 g1=>upd (upd (upd (fun _=>.any) 3 (.box 3 b3 0)) 2 (.box 2 b2 0)) 1 (.ptr [(ae q.kind),(.str q.table),(.list 9 (q.names.map aF)),(.list 94 (q.exprs.map ak)),(.list 91 (q.aggregates.map aQ)),(.list 4 (q.descending.map aP)),(ae q.count),(ae q.offset),(.list 33 (([qi] : List LQuery).map ap))])) (fun s1 g1=>upd (upd (fun _=>none) 3 (some ⟨b3,[(ae q.kind),(.str q.table),(.own 13 g13 (q.names.map aF).length),(.own 34 g1 (s1.map ak).length),(.val (.slice none 0 0)),(.own 16 g16 (q.descending.map aP).length),(ae q.count),(ae q.offset),(.val (.slice none 0 0))]⟩)) 2 (some ⟨b2,[(ae 0),(.str []),(.val (.slice none 0 0)),(.val (.slice none 0 0)),(.val (.slice none 0 0)),(.val (.slice none 0 0)),(ae 0),(ae 0),(.val (.slice none 0 0))]⟩)) (fun s1 g1=>upd (upd (upd (fun _=>none) 34 (some ⟨g1,94,(s1.map ak),true⟩)) 16 (some ⟨g16,4,(q.descending.map aP),true⟩)) 13 (some ⟨g13,9,(q.names.map aF),true⟩)) (⟨none,0⟩) H (fun fl1 Hp1 j1 s1 g1 hz1 hl1 x1 fb1 hx1 H hg1=>?_) (fun s1 g1 H=>?_)
 ·refine ac (aE (ac (aa (aX tk (zn j1) (bj aS hx1) ?_))))
  refine ah tk rfl ?_
  refine aA tk fun b5=>?_
  refine ao tk ?_
  refine ab (cg 5 ?_)
  refine bt tk mok ⟨true,false,[31]⟩ [0,1,2,3,4,5,6,7] rfl (by decide +kernel) rfl (bn rfl (aY ?_))
  refine bn rfl ?_
  obtain ⟨x32,h32,H⟩ := av H
  have s32 := gB x1 _ h32
  refine be Tryz.call63 (eZ.r) s32 ?_
  refine bn rfl ?_
  obtain ⟨x34,h34,H⟩ := av H
  have k34 := bE h34
  refine em (rows2' := List.map ak ([x32] : List LExpr)) (rows' := List.map ak x34) tk rfl rfl rfl rfl rfl rfl rfl rfl rfl rfl rfl rfl rfl rfl (dH.trans (b := List.map bl [x32]) (dH.refl _) (dH.of_eq (bN aS [x32]))) (ce k34.1) (cb k34.2.1) (ca k34.2.2) fun g34=>?_
  refine bn rfl (bm ?_)
  refine bp (aW (br 2 tk rfl ?_))
  exact bq g34 H hl1 hg1
 refine ac (ac (aa (af 2 tk rfl (aB tk (zl _) ?_))))
 refine ah tk rfl (ab (gg tk 3 4 55 (e := 91) rfl rfl rfl rfl ?_))
 refine db (γ := OwnRef) tk 40 39 38 (fun s2 g2=>upd (upd (upd (fun _=>.any) 3 (.box 3 b3 0)) 2 (.box 2 b2 0)) 1 (.ptr [(ae q.kind),(.str q.table),(.list 9 (q.names.map aF)),(.list 94 (q.exprs.map ak)),(.list 91 (q.aggregates.map aQ)),(.list 4 (q.descending.map aP)),(ae q.count),(ae q.offset),(.list 33 (([qi] : List LQuery).map ap))])) (fun s2 g2=>upd (upd (fun _=>none) 3 (some ⟨b3,[(ae q.kind),(.str q.table),(.own 13 g13 (q.names.map aF).length),(.own 34 g1 (s1.map ak).length),(.own 55 g2 (s2.map aQ).length),(.own 16 g16 (q.descending.map aP).length),(ae q.count),(ae q.offset),(.val (.slice none 0 0))]⟩)) 2 (some ⟨b2,[(ae 0),(.str []),(.val (.slice none 0 0)),(.val (.slice none 0 0)),(.val (.slice none 0 0)),(.val (.slice none 0 0)),(ae 0),(ae 0),(.val (.slice none 0 0))]⟩)) (fun s2 g2=>upd (upd (upd (upd (fun _=>none) 55 (some ⟨g2,91,(s2.map aQ),true⟩)) 34 (some ⟨g1,94,(s1.map ak),true⟩)) 16 (some ⟨g16,4,(q.descending.map aP),true⟩)) 13 (some ⟨g13,9,(q.names.map aF),true⟩)) (⟨none,0⟩) H (fun fl2 Hp2 j2 s2 g2 hz2 hl2 x2 fb2 hx2 H hg2=>?_) (fun s2 g2 H=>?_)
 ·refine ac (aE (ac (aa ?_)))
  refine aX tk (zn j2) (bj (fun _=>rfl) hx2) ?_
  refine ah tk rfl ?_
  refine aA tk fun b7=>?_
  refine ao tk ?_
  refine ab (cg 7 ?_)
  refine bt tk mok ⟨true,false,[47,49,51]⟩ [0,1,2,3,4,5,6,7,8,9,10,11,12,13] rfl (by decide +kernel) rfl (bn rfl (aY ?_))
  refine bf 6 rfl ?_
  obtain ⟨x52,h52,H⟩ := av H
  have s52 := kl x2.args _ h52
  refine be Tryz.call64 (eZ.r) s52 ?_
  refine bf 2 rfl ?_
  obtain ⟨x55,h55,H⟩ := av H
  have k55 := bE h55
  refine em (rows2' := List.map aQ ([(LAggregateCall.mk x2.name x2.function x52)] : List LAggregateCall)) (rows' := List.map aQ x55) tk rfl rfl rfl rfl rfl rfl rfl rfl rfl rfl rfl rfl rfl rfl (dH.refl _) (ce k55.1) (cb k55.2.1) (ca k55.2.2) fun g55=>?_
  refine bn rfl (bm ?_)
  refine bp (aW (br 2 tk rfl ?_))
  exact bq g55 H hl2 hg2
 refine ac (ac (aa (af 2 tk rfl (aB tk (zl _) ?_))))
 refine ah tk rfl (ab (aE (V.twice (aw 1 tk rfl (ac (cN rfl (ax (ac (aE (ac (aa ?_)))))))))))
 obtain ⟨x63,k63,H⟩ := bB H
 refine aX tk k63.1 (aV aH k63.2) ?_
 refine ah tk rfl ?_
 refine aA tk fun b9=>?_
 refine ao tk ?_
 refine ab (cg 9 ?_)
 refine bt tk mok ⟨true,false,[67]⟩ [0,1,2,3,4,5,6,7] rfl (by decide +kernel) rfl (bn rfl (aY ?_))
 refine bn rfl ?_
 obtain ⟨x68,h68,H⟩ := av H
 have s68 := jr (m := 68) x63 _ h68
 refine rJ (g := 30) rfl rfl rfl rfl Tryz.call30 (eZ.r) rfl rfl (OwnG.le (f' := fun gz=>(.agg [(ae x68.kind),(.str x68.table),(.list 9 (x68.names.map aF)),(.list 94 (x68.exprs.map ak)),(.list 91 (x68.aggregates.map aQ)),(.list 4 (x68.descending.map aP)),(ae x68.count),(ae x68.offset),(.val (OwnRef.val gz (x68.inputs.map ap).length))])) s68 (fun _=>PLe.agg (eZ.cons (PLe.refl _ _) <| eZ.cons (PLe.refl _ _) <| eZ.cons (PLe.refl _ _) <| eZ.cons (PLe.refl _ _) <| eZ.cons (PLe.refl _ _) <| eZ.cons (PLe.refl _ _) <| eZ.cons (PLe.refl _ _) <| eZ.cons (PLe.refl _ _) <| eZ.cons (PLe.ownVal _ _ _ _) <| eZ.nil _))) (fun g68=>?_)
 refine bn rfl ?_
 refine rA (rows2' := [[(ae x68.kind),(.str x68.table),(.list 9 (x68.names.map aF)),(.list 94 (x68.exprs.map ak)),(.list 91 (x68.aggregates.map aQ)),(.list 4 (x68.descending.map aP)),(ae x68.count),(ae x68.offset),(.val (OwnRef.val g68 (x68.inputs.map ap).length))]]) tk rfl rfl rfl rfl rfl rfl rfl rfl rfl rfl rfl rfl (dH.refl _) fun g70=>?_
 refine bn rfl (bm ?_)
 refine bp (aW (br 2 tk rfl (rk (aw 1 tk rfl (ac ?_)))))
 refine bW (by show au (decide ((IntKind.i64.wrap ((0 : Int) + (1 : Int))) < (([qi] : List LQuery).length : Int))) = _; rw [fR (by omega) (by omega)]; rfl) ?_
 refine cW rfl (ac (aa (al tk ?_)))
 refine ao tk ?_
 refine ab ?_
 obtain rfl := az H
 refine bD 2 2 rfl rfl rfl rfl rfl (bD 2 3 rfl rfl rfl rfl rfl (bD 2 4 rfl rfl rfl rfl rfl (bD 2 5 rfl rfl rfl rfl rfl (bD 2 8 rfl rfl rfl rfl rfl ?_))))
 refine ro tk rfl (ps := [(.agg [(ae q.kind),(.str q.table),(.list 9 (q.names.map aF)),(.list 94 (s1.map ak)),(.list 91 (s2.map aQ)),(.list 4 (q.descending.map aP)),(ae q.count),(ae q.offset),(.list 33 [[(ae x68.kind),(.str x68.table),(.list 9 (x68.names.map aF)),(.list 94 (x68.exprs.map ak)),(.list 91 (x68.aggregates.map aQ)),(.list 4 (x68.descending.map aP)),(ae x68.count),(ae x68.offset),(.val (OwnRef.val g68 (x68.inputs.map ap).length))]])])]) (by exact ⟨_,_,rfl,⟨_,_,_,_,_,rfl,rfl,rfl,rfl⟩,rfl⟩) (tag := 68) rfl rfl (PLe.of2 (lW.agg (gk.cons (lW.of_eq rfl) (gk.cons (lW.of_eq rfl) (gk.cons (lW.of_eq rfl) (gk.cons (lW.of_eq rfl) (gk.cons (lW.of_eq rfl) (gk.cons (lW.of_eq rfl) (gk.cons (lW.of_eq rfl) (gk.cons (lW.of_eq rfl) (gk.cons (lW.of_eq rfl) gk.nil)))))))))))
def iT (e : LExpr) : Option ((List (List UInt8))) :=
 ag (eX e 2 ([] : List (List UInt8))) fun x4 =>
 some x4
theorem W_expr_Columns (e : LExpr) (r : (List (List UInt8))) (H : iT e = some r) :
  aU Tryz.prog 101 [(.agg (bl e))] (.list 9 (r.map aF)) := by
 unfold iT at H
 refine PH.ay Tryz.func101 Tryz.ntmps101 ?_
 refine ac (aa (aG ?_))
 refine ah tk rfl (ab (ac (aa (ah tk rfl (gI (Gh.nilB tk 2904 (e := 9) rfl) ?_)))))
 obtain ⟨x4,h4,H⟩ := av H
 have s4 := W_expr_names (⟨none,0⟩) e 2 ([] : List (List UInt8)) _ h4
 refine hM (g := 144) rfl rfl rfl Tryz.call144 [] [(2904,2)] rfl rfl rfl rfl (eZ.cons (PLe.refl _ _) <| eZ.cons (PLe.refl _ _) <| eZ.cons (PLe.nilOwn _ _) <| eZ.r) (by rw [gD,fI,gC]; rfl) s4 ?_
 rintro u4 H4h ⟨gw4,rfl,rfl⟩
 refine ⟨_,rfl,?_⟩
 refine gI (st' := ⟨_,_,fun _=>none,upd (fun _=>none) 2904 (some ⟨gw4,9,(x4.map aF),true⟩)⟩) (Gh.le (fF _ _) bw (da bA)) ?_
 refine oE 4 (q := (.own 2904 gw4 (x4.map aF).length)) rfl (PLe.of2 (lW.own rfl)) (ah tk rfl (ab (dD 2 rfl rfl rfl ?_)))
 exact bi tk H rfl
def du (q : LQuery) : Option (LQuery × Bool) :=
 ag (np (q.inputs.length : Int)) fun (n1 : Nat) =>
 ag (aI (σ := List LExpr × List LQuery) (ρ := Empty) (fun (j1 : Nat) (_ : Nat) (s1 : List LExpr × List LQuery) =>
  ag (aR s1.2 (j1 : Int)) fun (x14 : LQuery) =>
  cond (x14.kind == (2 : Int))
   (ag (aR x14.exprs 0) fun (x22 : LExpr) =>
   ag (bS 88 s1.1 ([x22] : List LExpr)) fun (x25 : List LExpr) =>
   ag (aR x14.inputs 0) fun (x31 : LQuery) =>
   ag (aR s1.2 (j1 : Int)) fun (_ : LQuery) =>
   bs (s1.2.set ((j1 : Int).toNat) x31) fun (y4 : List LQuery) =>
   some (.next (x25,y4)))
   (some (.next (s1.1,s1.2)))) 0 (List.range n1) ([],q.inputs)) fun fl1=>fl1.thenP fun (s1 : List LExpr × List LQuery) =>
 ag (aR q.exprs 0) fun (x38 : LExpr) =>
 ag (bS 88 s1.1 ([x38] : List LExpr)) fun (x41 : List LExpr) =>
 ag (cL x41) fun x42 =>
 some ((LQuery.mk q.kind q.table q.names [x42] q.aggregates q.descending q.count q.offset s1.2),(decide ((s1.1.length : Int) > (0 : Int))))
theorem kR (g_q : OwnRef) (q : LQuery) (r : LQuery × Bool) (H : du q = some r) :
  PH Tryz.prog 32 [(.agg [(ae q.kind),(.str q.table),(.list 9 (q.names.map aF)),(.list 94 (q.exprs.map ak)),(.list 91 (q.aggregates.map aQ)),(.list 4 (q.descending.map aP)),(ae q.count),(ae q.offset),(.own 3000 g_q (q.inputs.map ap).length)])] ⟨fun _=>none,upd (fun _=>none) 3000 (some ⟨g_q,33,(List.map ap q.inputs),true⟩)⟩ (fun u H=>u = (.tup [(.agg (am r.1)),(au r.2)]) ∧ H = Heap.empty) := by
 unfold du at H
 refine PH.ay Tryz.func32 Tryz.ntmps32 ?_
 refine ac (aa ?_)
 refine iR (d := 1) fun b1=>?_
 refine aA tk fun b2=>?_
 refine ah tk rfl (ab (ac (aa ?_)))
 refine jA (rows' := List.map ak ([] : List LExpr)) tk (congrArg (List.map List.length) (bN aS ([] : List LExpr))).symm (gk.trans (b := (List.map bl ([] : List LExpr)).flatten) (gk.refl _) (gk.of_eq (congrArg List.flatten (bN aS ([] : List LExpr))))) fun g7=>?_
 refine ah tk rfl (ab (ac (ac (aa (ah tk rfl (al tk ?_))))))
 refine iI tk (zl _) ?_
 refine ah tk rfl (ab ?_)
 obtain ⟨n1,hs1,H⟩ := av H
 have hz1 := nY hs1
 obtain ⟨fl1,H1,Hp1⟩ := av H
 refine ke (τ := List LExpr × List LQuery) (γ := OwnRef × OwnRef) (fun s1 g1=>⟨49,upd (upd (upd (fun _=>.any) 4 (.own 7 g1.1 (s1.1.map ak).length)) 2 (.box 2 b2 0)) 1 (.box 1 b1 0),upd (upd (fun _=>none) 2 (some ⟨b2,[(ae 0),(.str []),(.val (.slice none 0 0)),(.val (.slice none 0 0)),(.val (.slice none 0 0)),(.val (.slice none 0 0)),(ae 0),(ae 0),(.val (.slice none 0 0))]⟩)) 1 (some ⟨b1,[(ae q.kind),(.str q.table),(.list 9 (q.names.map aF)),(.list 94 (q.exprs.map ak)),(.list 91 (q.aggregates.map aQ)),(.list 4 (q.descending.map aP)),(ae q.count),(ae q.offset),(.own 3000 g1.2 (s1.2.map ap).length)]⟩),upd (upd (fun _=>none) 3000 (some ⟨g1.2,33,(s1.2.map ap),true⟩)) 7 (some ⟨g1.1,94,(s1.1.map ak),true⟩)⟩) (fun t=>fl1 = .next t) ?_ (fun s1 g1 hn1=>?_)
 ·refine aE ?_
  refine lk (fun j1 s1 g1=>⟨49,upd (upd (upd (upd (upd (upd (fun _=>.any) 11 (ae (j1 : Int))) 10 (ae (q.inputs.length : Int))) 9 (.own 3000 g1.2 (s1.2.map ap).length)) 4 (.own 7 g1.1 (s1.1.map ak).length)) 2 (.box 2 b2 0)) 1 (.box 1 b1 0),upd (upd (fun _=>none) 2 (some ⟨b2,[(ae 0),(.str []),(.val (.slice none 0 0)),(.val (.slice none 0 0)),(.val (.slice none 0 0)),(.val (.slice none 0 0)),(ae 0),(ae 0),(.val (.slice none 0 0))]⟩)) 1 (some ⟨b1,[(ae q.kind),(.str q.table),(.list 9 (q.names.map aF)),(.list 94 (q.exprs.map ak)),(.list 91 (q.aggregates.map aQ)),(.list 4 (q.descending.map aP)),(ae q.count),(ae q.offset),(.own 3000 g1.2 (s1.2.map ap).length)]⟩),upd (upd (fun _=>none) 3000 (some ⟨g1.2,33,(s1.2.map ap),true⟩)) 7 (some ⟨g1.1,94,(s1.1.map ak),true⟩)⟩) (g7,g_q) H1 Gh.d (fun j1 s1 g1 hj1 hr1=>?_)
  refine aw 1 tk rfl (ac ?_)
  refine cK rfl (fun h=>?_) (fun h=>?_)
  ·have hl1 := natLt hz1 h
   obtain ⟨x1,fb1,hx1,H,hg1⟩ := rMc hl1 hr1
   obtain rfl := natX hx1
   refine ax (ac (aE (ac (aa (ah tk rfl ?_)))))
   obtain ⟨x14,k14,H⟩ := bB H
   refine ll (tag := 3000) rfl (fun ho3000=>?_)
   refine lm tk rfl rfl rfl rfl rfl rfl rfl ⟨k14.1,(dZ k14.2)⟩ (ed ho3000 k14.2) rfl (oL tk rfl rfl rfl rfl rfl rfl rfl (aV aH k14.2) rfl rfl ?_)
   refine aA tk fun b6=>?_
   refine ah tk rfl (ao tk ?_)
   refine ab (ac (aa (ah tk rfl (al tk ?_))))
   refine ah tk rfl (ab ?_)
   refine aN rfl H (fun H=>?_) (fun H=>?_)
   ·refine ac (aa (af 2 tk rfl (al tk ?_)))
    obtain ⟨x22,k22,H⟩ := bB H
    refine aX tk k22.1 (aV aS k22.2) ?_
    refine ah tk rfl (cj tk (rows' := List.map ak ([x22] : List LExpr)) (dH.trans (b := List.map bl [x22]) (dH.refl _) (dH.of_eq (bN aS [x22]))) ?_)
    obtain ⟨x25,h25,H⟩ := av H
    have k25 := bE h25
    refine bO (rows2' := List.map ak ([x22] : List LExpr)) (rows' := List.map ak x25) tk rfl rfl rfl rfl rfl rfl rfl rfl rfl rfl rfl rfl rfl (dH.refl _) (ce k25.1) (cb k25.2.1) (ca k25.2.2) fun g25=>?_
    refine ah tk rfl (ab ?_)
    refine gp (tag := 3000) rfl (fun ho3000=>?_)
    refine gp (tag := 7) rfl (fun ho7=>?_)
    refine cg 6 ?_
    refine bt tk mok ⟨true,true,[30]⟩ [0,1,2,3,4,5,6,7,8] rfl (by decide +kernel) rfl (bn rfl (aY ?_))
    refine bf 3 rfl ?_
    obtain ⟨x31,k31,H⟩ := bB H
    refine bF k31.1 (aV aH k31.2) ?_
    refine bn rfl ?_
    obtain ⟨x33,k33,H⟩ := bB H
    refine ej tk ⟨k33.1,(dZ k33.2)⟩ (ed ho3000 k33.2) ?_
    obtain ⟨y4,hy4,H⟩ := dg H
    refine gV tk rfl rfl rfl rfl rfl rfl rfl rfl rfl (by rw [zl]; exact (zg.1 k33.2).1) (PLe.refl _ _) rfl rfl rfl rfl (by decide) (fm aH k33.2 rfl hy4) ?_
    refine bp (aW (br 2 tk rfl ?_))
    exact bq (g25,g1.2) H hl1 hg1 (Gh.le (aM (aM (aM (ck (PLe.of2 (lW.of_eq (congrArg (PV.own 3000 g1.2) (gK (f := ap) hy4)))) (aM (ck (PLe.q (me hz1 hl1)) bU)))))) (aO rfl (eZ.of2 (gk.cons (lW.of_eq rfl) (gk.cons (lW.of_eq rfl) (gk.cons (lW.of_eq rfl) (gk.cons (lW.of_eq rfl) (gk.cons (lW.of_eq rfl) (gk.cons (lW.of_eq rfl) (gk.cons (lW.of_eq rfl) (gk.cons (lW.of_eq rfl) (gk.cons (lW.of_eq (congrArg (PV.own 3000 g1.2) (gK (f := ap) hy4))) gk.nil)))))))))) (aO rfl (eZ.r) bw)) (da (da bA)))
   refine ax (aW (br 2 tk rfl ?_))
   exact bq (g1.1,g1.2) H hl1 hg1 (Gh.le (aM (aM (aM (aM (aM (ck (PLe.q (me hz1 hl1)) bU)))))) (aO rfl (eZ.r) (aO rfl (eZ.r) bw)) (da (da bA)))
  have hn1 := rMd (natGe hz1 h) hr1
  refine cW rfl ?_
  refine aJ s1 g1 hn1 Gh.d
 have H := jM hn1 Hp1
 refine ac (aa (af 2 tk rfl (al tk ?_)))
 obtain ⟨x38,k38,H⟩ := bB H
 refine aX tk k38.1 (aV aS k38.2) ?_
 refine ah tk rfl (cj tk (rows' := List.map ak ([x38] : List LExpr)) (dH.trans (b := List.map bl [x38]) (dH.refl _) (dH.of_eq (bN aS [x38]))) ?_)
 obtain ⟨x41,h41,H⟩ := av H
 have k41 := bE h41
 refine bO (rows2' := List.map ak ([x38] : List LExpr)) (rows' := List.map ak x41) tk rfl rfl rfl rfl rfl rfl rfl rfl rfl rfl rfl rfl rfl (dH.refl _) (ce k41.1) (cb k41.2.1) (ca k41.2.2) fun g41=>?_
 refine gI (Gh.freezeO 41 rfl rfl rfl) ?_
 obtain ⟨x42,h42,H⟩ := av H
 have s42 := fv x41 _ h42
 refine aq Tryz.call66 (eZ.r) s42 ?_
 refine jA (rows' := List.map ak ([x42] : List LExpr)) tk (congrArg (List.map List.length) (bN aS ([x42] : List LExpr))).symm (gk.trans (b := (List.map bl ([x42] : List LExpr)).flatten) (gk.refl _) (gk.of_eq (congrArg List.flatten (bN aS ([x42] : List LExpr))))) fun g43=>?_
 refine ah tk rfl (ao tk ?_)
 refine ab (ac (aa (al tk ?_)))
 refine ah tk rfl (iI tk (zl _) ?_)
 refine ah tk rfl (ao tk ?_)
 refine ah tk rfl (ab ?_)
 obtain rfl := az H
 refine bD 2 3 rfl rfl rfl rfl rfl (bD 2 8 rfl rfl rfl rfl rfl ?_)
 refine bd tk rfl (ps := [(.agg [(ae q.kind),(.str q.table),(.list 9 (q.names.map aF)),(.list 94 (([x42] : List LExpr).map ak)),(.list 91 (q.aggregates.map aQ)),(.list 4 (q.descending.map aP)),(ae q.count),(ae q.offset),(.list 33 (s1.2.map ap))]),(au (decide ((s1.1.length : Int) > (0 : Int))))]) ⟨_,_,rfl,⟨_,_,_,_,_,rfl,rfl,rfl,rfl⟩,_,_,rfl,rfl,rfl⟩ (PLe.q rfl)
def kg (rec17 : LQuery → LQuery → Option (Bool)) (a : LQuery) (b : LQuery) : Option (Bool) :=
 cond (a.kind == b.kind)
  (cond (a.table == b.table)
   (cond (a.count == b.count)
    (cond (a.offset == b.offset)
     (ag (dA a.names b.names) fun x37 =>
     cond x37
      (ag (en a.descending b.descending) fun x44 =>
      cond x44
       (ag (bc a.exprs b.exprs (fun a0 a1=>ie a0 a1)) fun x51 =>
       cond x51
        (ag (ba a.aggregates b.aggregates (fun a0 a1=>fE a0 a1)) fun x59 =>
        cond x59
         (ag (aT a.inputs b.inputs (fun a0 a1=>rec17 a0 a1)) fun x66 =>
         some x66)
         (some false))
        (some false))
       (some false))
      (some false))
     (some false))
    (some false))
   (some false))
  (some false)
theorem WO_query_Equal (rec17 : LQuery → LQuery → Option (Bool)) (hrec17 : ∀ a0 a1 r,rec17 a0 a1 = some r → aU Tryz.prog 17 [(.agg (am a0)),(.agg (am a1))] (au r)) (a : LQuery) (b : LQuery) (r : Bool) (H : kg rec17 a b = some r) :
  aU Tryz.prog 17 [(.agg (am a)),(.agg (am b))] (au r) := by
 unfold kg at H
 refine PH.ay Tryz.func17 Tryz.ntmps17 ?_
 refine ac (aa (aG ?_))
 refine aG ?_
 refine ah tk rfl (ab (aw 1 tk rfl (ac (aa (af 6 tk rfl ?_)))))
 refine aL rfl rfl rfl H (fun H=>?_) (fun H=>?_)
 ·refine af 7 tk rfl ?_
  refine aL rfl rfl rfl H (fun H=>?_) (fun H=>?_)
  ·refine af 7 tk rfl ?_
   refine aL rfl rfl rfl H (fun H=>?_) (fun H=>?_)
   ·refine af 7 tk rfl ?_
    refine aL rfl rfl rfl H (fun H=>?_) (fun H=>?_)
    ·refine af 4 tk rfl ?_
     obtain ⟨x37,h37,H⟩ := av H
     have s37 := kZ a.names b.names _ h37
     refine aq Tryz.call40 (eZ.r) s37 ?_
     refine af 2 tk rfl ?_
     refine aL rfl rfl rfl H (fun H=>?_) (fun H=>?_)
     ·refine af 4 tk rfl ?_
      obtain ⟨x44,h44,H⟩ := av H
      have s44 := mz a.descending b.descending _ h44
      refine aq Tryz.call41 (eZ.r) s44 ?_
      refine af 2 tk rfl ?_
      refine aL rfl rfl rfl H (fun H=>?_) (fun H=>?_)
      ·refine af 4 tk rfl ?_
       obtain ⟨x51,h51,H⟩ := av H
       have s51 := cp a.exprs b.exprs (fun a0 a1=>ie a0 a1) Tryz.call39 (fun a0 a1 r h=>pR a0 a1 r h) _ h51
       refine aq Tryz.call38 (eZ.r) s51 ?_
       refine af 2 tk rfl ?_
       refine aL rfl rfl rfl H (fun H=>?_) (fun H=>?_)
       ·refine af 5 tk rfl ?_
        obtain ⟨x59,h59,H⟩ := av H
        have s59 := cP a.aggregates b.aggregates (fun a0 a1=>fE a0 a1) Tryz.call37 (fun a0 a1 r h=>re a0 a1 r h) _ h59
        refine aq Tryz.call42 (eZ.r) s59 ?_
        refine af 2 tk rfl ?_
        refine aL rfl rfl rfl H (fun H=>?_) (fun H=>?_)
        ·refine af 4 tk rfl ?_
         obtain ⟨x66,h66,H⟩ := av H
         have s66 := cM a.inputs b.inputs (fun a0 a1=>rec17 a0 a1) Tryz.call17 (fun a0 a1 r h=>hrec17 a0 a1 r h) _ h66
         refine aq Tryz.call16 (eZ.r) s66 ?_
         refine af 2 tk rfl (ab ?_)
         exact bi tk H rfl
        refine af 7 tk rfl (ab ?_)
        exact bi tk H rfl
       refine af 15 tk rfl (ab ?_)
       exact bi tk H rfl
      refine af 22 tk rfl (ab ?_)
      exact bi tk H rfl
     refine af 29 tk rfl (ab ?_)
     exact bi tk H rfl
    refine af 36 tk rfl (ab ?_)
    exact bi tk H rfl
   refine af 43 tk rfl ?_
   refine ab ?_
   exact bi tk H rfl
  refine af 50 tk rfl ?_
  refine ab ?_
  exact bi tk H rfl
 refine af 57 tk rfl ?_
 refine ab ?_
 exact bi tk H rfl
def fV : Nat → LQuery → LQuery → Option (Bool)
 | 0,_,_=>none
 | n + 1,v0,v1=>kg (fun b0 b1=>fV n b0 b1) v0 v1
theorem WF_query_Equal  (n : Nat) : (∀ a0 a1 r,fV n a0 a1 = some r → aU Tryz.prog 17 [(.agg (am a0)),(.agg (am a1))] (au r)) := by
 induction n with
 | zero=>exact (by intros; rename_i h; exact absurd (show (none : Option _) = some _ from h) (by simp))
 | succ n ih =>
  exact (fun v0 v1 r h=>WO_query_Equal (fun b0 b1=>fV n b0 b1) ih v0 v1  r h)
def jk (a : LQuery) (b : LQuery) : Option (Bool) := fe fun n=>fV n a b
theorem W_query_Equal (a : LQuery) (b : LQuery) (r : Bool) (H : jk a b = some r) :
  aU Tryz.prog 17 [(.agg (am a)),(.agg (am b))] (au r) := by
 obtain ⟨n,h⟩ := et H
 exact (WF_query_Equal  n) a b r h
def dP (sA : LSchema) (c : LConstraint) : Option (Int) :=
 ag (eB sA c.table) fun x14 =>
 cond (!x14.2)
  (some 4)
  (ag (aR sA.tables x14.1) fun (x22 : LTable) =>
  bs (fS (LVal.mk 0 0 []) c.op (LVal.mk 0 0 [])) fun x30 =>
  bs (
   cond (decide (c.left < (0 : Int)))
    (true)
    (cond (decide (c.left ≥ (x22.columns.length : Int)))
     (true)
     (cond (x30.2 != (0 : Int))
      (true)
      (cond (decide (c.right < (-1)))
       (true)
       (cond (decide (c.right ≥ (x22.columns.length : Int)))
        (true)
        (cond (decide (c.right ≥ (0 : Int)))
         ((!(c.value.kind == (0 : Int) && (c.value.int == (0 : Int) && (c.value.text == ([] : List UInt8) && true)))))
         (false))))))) fun (t1 : Bool) =>
  cond t1
   (some 3)
   (cond (decide (c.right ≥ (0 : Int)))
    (ag (aR x22.columns c.left) fun (x76 : LCol) =>
    ag (aR x22.columns c.right) fun (x82 : LCol) =>
    cond (x76.kind != x82.kind)
     (some 7)
     (some 0))
    (ag (aR x22.columns c.left) fun (x92 : LCol) =>
    cond (c.value.kind != x92.kind)
     (some 7)
     (bs (ja c.value) fun x98 =>
     some x98))))
theorem lQ (sA : LSchema) (c : LConstraint) (r : Int) (H : dP sA c = some r) :
  aU Tryz.prog 58 [(.agg (aD sA)),(.agg (js c))] (ae r) := by
 unfold dP at H
 refine PH.ay Tryz.func58 Tryz.ntmps58 ?_
 refine ac (aa (aG ?_))
 refine aG ?_
 refine ah tk rfl (ab (ac (aa (af 3 tk rfl ?_))))
 obtain ⟨x14,h14,H⟩ := av H
 have s14 := jD sA c.table _ h14
 refine aq Tryz.call88 (eZ.r) s14 ?_
 refine af 5 tk rfl (ab (ac (aw 2 tk rfl ?_)))
 refine aN rfl H (fun H=>?_) (fun H=>?_)
 ·refine aw 1 tk rfl ?_
  exact bi tk H rfl
 refine ax (ac (aa (af 3 tk rfl ?_)))
 obtain ⟨x22,k22,H⟩ := bB H
 refine aX tk k22.1 (aV (fun _=>rfl) k22.2) ?_
 refine af 3 tk rfl (ab (ac (aa (af 4 tk rfl ?_))))
 obtain ⟨x30,h30,H⟩ := dg H
 have s30 := qv (LVal.mk 0 0 []) c.op (LVal.mk 0 0 [])
 rw [h30] at s30
 refine aq Tryz.call91 (eZ.r) s30 ?_
 refine af 5 tk rfl (ab (ac (ac ?_)))
 refine cm (γ := Unit) (fun t1 g1=>⟨99,upd (upd (upd (fun _=>.any) 69 (au t1)) 7 (.list 52 (x22.columns.map bh))) 3 (.ptr (js c)),fun _=>none,fun _=>none⟩) H (fun _ H=>?_) (fun t1 g1 H=>?_)
 ·refine aa (af 4 tk rfl ?_)
  refine aL rfl rfl rfl H (fun H=>?_) (fun H=>?_)
  ·refine af 33 tk rfl (ab ?_)
   refine aJ _ () H Gh.d
  refine af 3 tk rfl (aB tk (zl _) ?_)
  refine af 3 tk rfl ?_
  refine aL rfl rfl rfl H (fun H=>?_) (fun H=>?_)
  ·refine af 26 tk rfl (ab ?_)
   refine aJ _ () H Gh.d
  refine af 4 tk rfl ?_
  refine aL rfl rfl rfl H (fun H=>?_) (fun H=>?_)
  ·refine af 22 tk rfl (ab ?_)
   refine aJ _ () H Gh.d
  refine af 5 tk rfl ?_
  refine aL rfl rfl rfl H (fun H=>?_) (fun H=>?_)
  ·refine af 17 tk rfl (ab ?_)
   refine aJ _ () H Gh.d
  refine af 3 tk rfl (aB tk (zl _) ?_)
  refine af 3 tk rfl ?_
  refine aL rfl rfl rfl H (fun H=>?_) (fun H=>?_)
  ·refine af 10 tk rfl (ab ?_)
   refine aJ _ () H Gh.d
  refine af 4 tk rfl ?_
  refine aL rfl rfl rfl H (fun H=>?_) (fun H=>?_)
  ·refine af 6 tk rfl (ab ?_)
   refine aJ _ () H Gh.d
  refine af 6 tk rfl (ab ?_)
  refine aJ _ () H Gh.d
 refine aN rfl H (fun H=>?_) (fun H=>?_)
 ·refine aw 1 tk rfl ?_
  exact bi tk H rfl
 refine ax (ac (aw 3 tk rfl ?_))
 refine aN rfl H (fun H=>?_) (fun H=>?_)
 ·refine ac (ac (bt tk mok ⟨false,false,[]⟩ [0,1,2,3,4,5,6,7,8,9,10,11,12] rfl (by decide +kernel) rfl (bf 3 rfl ?_)))
  obtain ⟨x76,k76,H⟩ := bB H
  refine bF k76.1 (aV (fun _=>rfl) k76.2) ?_
  refine bf 5 rfl ?_
  obtain ⟨x82,k82,H⟩ := bB H
  refine bF k82.1 (aV (fun _=>rfl) k82.2) ?_
  refine bf 3 rfl (bp ?_)
  refine aN rfl H (fun H=>?_) (fun H=>?_)
  ·refine aw 1 tk rfl ?_
   exact bi tk H rfl
  refine ax (aw 1 tk rfl ?_)
  exact bi tk H rfl
 refine ax (ac (ac (bt tk mok ⟨false,false,[]⟩ [0,1,2,3,4,5,6,7,8,9] rfl (by decide +kernel) rfl (bf 6 rfl ?_))))
 obtain ⟨x92,k92,H⟩ := bB H
 refine bF k92.1 (aV (fun _=>rfl) k92.2) ?_
 refine bf 3 rfl (bp ?_)
 refine aN rfl H (fun H=>?_) (fun H=>?_)
 ·refine aw 1 tk rfl ?_
  exact bi tk H rfl
 refine ax (ac (aa (af 2 tk rfl ?_)))
 obtain ⟨x98,h98,H⟩ := dg H
 have s98 := qY c.value
 rw [h98] at s98
 refine aq Tryz.call92 (eZ.r) s98 ?_
 refine ah tk rfl (ab ?_)
 exact bi tk H rfl
def dK (c : LChecker) (q : LQuery) (inA : List LCol) : Option ((List LCol) × Int) :=
 ag (aI (σ := List LCol) (ρ := ((List LCol) × Int)) (fun (j1 : Nat) (x1 : LExpr) (s1 : List LCol) =>
  bs (eO inA c.vars x1) fun x31 =>
  ag (aR q.names (j1 : Int)) fun (x39 : List UInt8) =>
  bs (dy x39) fun x41 =>
  cond (!x41)
   (some (.ret ([],3)))
   (cond (x31.2.2 != (0 : Int))
    (some (.ret ([],x31.2.2)))
    (cond (x31.1 == (0 : Int))
     (some (.ret ([],7)))
     (ag (aR q.names (j1 : Int)) fun (x54 : List UInt8) =>
     ag (bS 32 s1 ([(LCol.mk x54 x31.1 x31.2.1)] : List LCol)) fun (x60 : List LCol) =>
     some (.next x60))))) 0 q.exprs []) fun fl1=>fl1.thenR fun (s1 : List LCol) =>
 ag (aI (σ := List LCol) (ρ := ((List LCol) × Int)) (fun (_ : Nat) (x2 : LAggregateCall) (s2 : List LCol) =>
  ag (eV c inA x2) fun x73 =>
  cond (x73.2 != (0 : Int))
   (some (.ret ([],x73.2)))
   (ag (bS 32 s2 ([(LCol.mk x2.name x73.1 (!(x2.function == ([99,111,117,110,116] : List UInt8))))] : List LCol)) fun (x88 : List LCol) =>
   some (.next x88))) 0 q.aggregates s1) fun fl2=>fl2.thenR fun (s2 : List LCol) =>
 some (s2,0)
theorem lf (c : LChecker) (q : LQuery) (inA : List LCol) (r : (List LCol) × Int) (H : dK c q inA = some r) :
  aU Tryz.prog 176 [(.agg (dt c)),(.agg (am q)),(.list 52 (inA.map bh))] (.tup [(.list 52 (r.1.map bh)),(ae r.2)]) := by
 unfold dK at H
 refine PH.ay Tryz.func176 Tryz.ntmps176 ?_
 refine ac (aa (aG ?_))
 refine aG ?_
 refine af 2 tk rfl (ab (aw 1 tk rfl (ac (ac (aa (af 2 tk rfl (aB tk (zl _) ?_)))))))
 refine ah tk rfl (ab (gQ tk 8 60 (e := 52) rfl rfl ?_))
 refine eQ (γ := OwnRef) tk 21 20 19 (fun s1 g1=>upd (upd (upd (upd (fun _=>.any) 8 (.own 60 g1 (s1.map bh).length)) 4 (.ptr (am q))) 3 (.ptr (dt c))) 2 (.list 52 (inA.map bh))) nB (fun s1 g1=>upd (fun _=>none) 60 (some ⟨g1,52,(s1.map bh),true⟩)) (⟨none,0⟩) H (fun fl1 Hp1 j1 s1 g1 hz1 hl1 x1 fb1 hx1 H hg1=>?_) (fun s1 g1 H=>?_)
 ·refine ac (aE (ac (aa (ah tk rfl (aX tk (zn j1) (bj aS hx1) ?_)))))
  refine ah tk rfl ?_
  refine aA tk fun b10=>?_
  refine ah tk rfl (ao tk ?_)
  refine ab (ac (aa (af 3 tk rfl (al tk ?_))))
  obtain ⟨x31,h31,H⟩ := dg H
  have s31 := lG inA c.vars x1
  rw [h31] at s31
  refine aq Tryz.call177 (eZ.r) s31 ?_
  refine af 7 tk rfl (ab (ac (aE (ac (aa (af 3 tk rfl ?_))))))
  obtain ⟨x39,k39,H⟩ := bB H
  refine aX tk k39.1 (aV (fun _=>rfl) k39.2) ?_
  refine ah tk rfl ?_
  obtain ⟨x41,h41,H⟩ := dg H
  have s41 := kL x39
  rw [h41] at s41
  refine aq Tryz.call196 (eZ.r) s41 ?_
  refine af 2 tk rfl (ab ?_)
  refine aN rfl H (fun H=>?_) (fun H=>?_)
  ·refine aw 2 tk rfl ?_
   obtain rfl := az H
   have e1 : fl1 = .ret _ := hg1
   subst e1
   obtain rfl := bu Hp1
   refine bd tk rfl (ps := [(.val (.slice none 0 0)),(ae 3)]) ⟨_,_,rfl,rfl,_,_,rfl,rfl,rfl⟩ (PLe.of2 (lW.tup (gk.cons (lW.nil tk rfl) (gk.cons (lW.of_eq rfl) gk.nil))))
  refine aw 3 tk rfl ?_
  refine aN rfl H (fun H=>?_) (fun H=>?_)
  ·refine aw 3 tk rfl ?_
   obtain rfl := az H
   have e1 : fl1 = .ret _ := hg1
   subst e1
   obtain rfl := bu Hp1
   refine bd tk rfl (ps := [(.val (.slice none 0 0)),(ae x31.2.2)]) ⟨_,_,rfl,rfl,_,_,rfl,rfl,rfl⟩ (PLe.of2 (lW.tup (gk.cons (lW.nil tk rfl) (gk.cons (lW.of_eq rfl) gk.nil))))
  refine aw 3 tk rfl ?_
  refine aN rfl H (fun H=>?_) (fun H=>?_)
  ·refine aw 2 tk rfl ?_
   obtain rfl := az H
   have e1 : fl1 = .ret _ := hg1
   subst e1
   obtain rfl := bu Hp1
   refine bd tk rfl (ps := [(.val (.slice none 0 0)),(ae 7)]) ⟨_,_,rfl,rfl,_,_,rfl,rfl,rfl⟩ (PLe.of2 (lW.tup (gk.cons (lW.nil tk rfl) (gk.cons (lW.of_eq rfl) gk.nil))))
  refine ax (aW (aa (af 4 tk rfl ?_)))
  obtain ⟨x54,k54,H⟩ := bB H
  refine aX tk k54.1 (aV (fun _=>rfl) k54.2) ?_
  refine af 4 tk rfl (cj tk (rows' := List.map bh ([(LCol.mk x54 x31.1 x31.2.1)] : List LCol)) (dH.refl _) ?_)
  obtain ⟨x60,h60,H⟩ := av H
  have k60 := bE h60
  refine bO (rows2' := List.map bh ([(LCol.mk x54 x31.1 x31.2.1)] : List LCol)) (rows' := List.map bh x60) tk rfl rfl rfl rfl rfl rfl rfl rfl rfl rfl rfl rfl rfl (dH.refl _) (ce k60.1) (cb k60.2.1) (ca k60.2.2) fun g60=>?_
  refine ah tk rfl (ab (aW (br 2 tk rfl ?_)))
  exact bq g60 H hl1 hg1
 refine ac (ac (aa (af 2 tk rfl (aB tk (zl _) ?_))))
 refine ah tk rfl (ab ?_)
 refine eQ (γ := OwnRef) tk 65 64 63 (fun s2 g2=>upd (upd (upd (fun _=>.any) 8 (.own 60 g2 (s2.map bh).length)) 3 (.ptr (dt c))) 2 (.list 52 (inA.map bh))) nB (fun s2 g2=>upd (fun _=>none) 60 (some ⟨g2,52,(s2.map bh),true⟩)) g1 H (fun fl2 Hp2 j2 s2 g2 hz2 hl2 x2 fb2 hx2 H hg2=>?_) (fun s2 g2 H=>?_)
 ·refine ac (aE (ac (aa ?_)))
  refine aX tk (zn j2) (bj (fun _=>rfl) hx2) ?_
  refine ah tk rfl ?_
  refine aA tk fun b15=>?_
  refine ao tk ?_
  refine ab (ac (aa (af 2 tk rfl (al tk ?_))))
  obtain ⟨x73,h73,H⟩ := av H
  have s73 := pA c inA x2 _ h73
  refine aq Tryz.call197 (eZ.r) s73 ?_
  refine af 5 tk rfl (ab (ac (aw 2 tk rfl ?_)))
  refine aN rfl H (fun H=>?_) (fun H=>?_)
  ·refine aw 3 tk rfl ?_
   obtain rfl := az H
   have e2 : fl2 = .ret _ := hg2
   subst e2
   obtain rfl := bu Hp2
   refine bd tk rfl (ps := [(.val (.slice none 0 0)),(ae x73.2)]) ⟨_,_,rfl,rfl,_,_,rfl,rfl,rfl⟩ (PLe.of2 (lW.tup (gk.cons (lW.nil tk rfl) (gk.cons (lW.of_eq rfl) gk.nil))))
  refine ax (aa (af 2 tk rfl (al tk ?_)))
  refine af 2 tk rfl (al tk ?_)
  refine af 2 tk rfl ?_
  refine cj tk (rows' := List.map bh ([(LCol.mk x2.name x73.1 (!(x2.function == ([99,111,117,110,116] : List UInt8))))] : List LCol)) (dH.refl _) ?_
  obtain ⟨x88,h88,H⟩ := av H
  have k88 := bE h88
  refine bO (rows2' := List.map bh ([(LCol.mk x2.name x73.1 (!(x2.function == ([99,111,117,110,116] : List UInt8))))] : List LCol)) (rows' := List.map bh x88) tk rfl rfl rfl rfl rfl rfl rfl rfl rfl rfl rfl rfl rfl (dH.refl _) (ce k88.1) (cb k88.2.1) (ca k88.2.2) fun g88=>?_
  refine ah tk rfl (ab (aW (br 2 tk rfl ?_)))
  exact bq g88 H hl2 hg2
 refine aw 3 tk rfl (dD 6 rfl rfl rfl ?_)
 exact bi tk H rfl
def dW (e : LExpr) (l : List (List UInt8)) : Option (Bool) :=
 ag (iT e) fun x6 =>
 ag (cE x6 (fun a0=>fw a0 l)) fun x8 =>
 some (!x8)
theorem jg (e : LExpr) (l : List (List UInt8)) (r : Bool) (H : dW e l = some r) :
  aU Tryz.prog 70 [(.agg (bl e)),(.list 9 (l.map aF))] (au r) := by
 unfold dW at H
 refine PH.ay Tryz.func70 Tryz.ntmps70 ?_
 refine ac (aa (aG ?_))
 refine aG ?_
 refine ah tk rfl (ab (ac (aa (ah tk rfl ?_))))
 obtain ⟨x6,h6,H⟩ := av H
 have s6 := W_expr_Columns e _ h6
 refine aq Tryz.call101 (eZ.r) s6 ?_
 refine ah tk rfl ?_
 obtain ⟨x8,h8,H⟩ := av H
 have s8 := jx x6 (fun a0=>fw a0 l) Tryz.call102 (fun a0 r h=>pL a0 l r h) _ h8
 refine aq Tryz.call100 (eZ.r) s8 ?_
 refine af 2 tk rfl (ab ?_)
 exact bi tk H rfl
def cR (rec28 : LQuery → Int → LQuery → Option (LQuery)) (q : LQuery) (atA : Int) (byA : LQuery) : Option (LQuery) :=
 cond (atA == (0 : Int))
  (ag (eR byA) fun x14 =>
  some x14)
  (ag (eR q) fun x16 =>
  ag (aI (σ := Int × List LQuery) (ρ := Empty) (fun (j1 : Nat) (x1 : LQuery) (s1 : Int × List LQuery) =>
   ag (fU x1) fun x28 =>
   bs (
    cond (decide (s1.1 ≥ (0 : Int)))
     ((decide (s1.1 < (x28.length : Int))))
     (false)) fun (t6 : Bool) =>
   cond t6
    (ag (rec28 x1 s1.1 byA) fun x43 =>
    ag (aR s1.2 (j1 : Int)) fun (_ : LQuery) =>
    bs (s1.2.set ((j1 : Int).toNat) x43) fun (y7 : List LQuery) =>
    some (.next ((IntKind.i64.wrap (s1.1 - (x28.length : Int))),y7)))
    (some (.next ((IntKind.i64.wrap (s1.1 - (x28.length : Int))),s1.2)))) 0 q.inputs ((IntKind.i64.wrap (atA - (1 : Int))),x16.inputs)) fun fl1=>fl1.thenP fun (s1 : Int × List LQuery) =>
  some (LQuery.mk x16.kind x16.table x16.names x16.exprs x16.aggregates x16.descending x16.count x16.offset s1.2))
theorem pF (rec28 : LQuery → Int → LQuery → Option (LQuery)) (hrec28 : ∀ a0 a1 a2 r,rec28 a0 a1 a2 = some r → aU Tryz.prog 28 [(.agg (am a0)),(ae a1),(.agg (am a2))] (.agg (am r))) (q : LQuery) (atA : Int) (byA : LQuery) (r : LQuery) (H : cR rec28 q atA byA = some r) :
  aU Tryz.prog 28 [(.agg (am q)),(ae atA),(.agg (am byA))] (.agg (am r)) := by
 unfold cR at H
 refine PH.ay Tryz.func28 Tryz.ntmps28 ?_
 refine ac (aa (aG ?_))
 refine aG ?_
 refine aA tk fun b6=>?_
 refine ab (ac (aw 2 tk rfl ?_))
 refine aN rfl H (fun H=>?_) (fun H=>?_)
 ·refine ac (aa (ah tk rfl ?_))
  obtain ⟨x14,h14,H⟩ := av H
  have s14 := jr (m := 14) byA _ h14
  refine lS (g := 30) rfl rfl rfl Tryz.call30 (eZ.r) rfl rfl s14 (fun g14=>?_)
  refine ao tk ?_
  refine ab (bD 6 8 rfl rfl rfl rfl rfl ?_)
  exact pI tk H rfl rfl rfl rfl rfl
 refine ax (ac (aa (ah tk rfl ?_)))
 obtain ⟨x16,h16,H⟩ := av H
 have s16 := jr (m := 16) q _ h16
 refine lS (g := 30) rfl rfl rfl Tryz.call30 (eZ.r) rfl rfl s16 (fun g16=>?_)
 refine aA tk fun b7=>?_
 refine ao tk ?_
 refine ab (aw 3 tk rfl (ac (ac (aa (af 2 tk rfl (aB tk (zl _) ?_))))))
 refine ah tk rfl (ab ?_)
 refine ru (γ := OwnRef) tk 20 rfl rfl (fun s1 g1=>upd (upd (upd (fun _=>.any) 7 (.box 7 b7 0)) 6 (.box 6 b6 0)) 5 (.ptr (am byA))) (fun s1 g1=>upd (upd (fun _=>none) 7 (some ⟨b7,[(ae x16.kind),(.str x16.table),(.list 9 (x16.names.map aF)),(.list 94 (x16.exprs.map ak)),(.list 91 (x16.aggregates.map aQ)),(.list 4 (x16.descending.map aP)),(ae x16.count),(ae x16.offset),(.own 16 g1 (s1.2.map ap).length)]⟩)) 6 (some ⟨b6,[(ae 0),(.str []),(.val (.slice none 0 0)),(.val (.slice none 0 0)),(.val (.slice none 0 0)),(.val (.slice none 0 0)),(ae 0),(ae 0),(.val (.slice none 0 0))]⟩)) (fun s1 g1=>upd (fun _=>none) 16 (some ⟨g1,33,(s1.2.map ap),true⟩)) (fun e j1 s1 g1=>upd (upd (upd (upd e 22 (ae (j1 : Int))) 21 (ae (q.inputs.length : Int))) 20 (.list 33 (q.inputs.map ap))) 1 (ae s1.1)) g16 H rfl Gh.d (fun _ _ _=>rfl) (fun _ _ _=>rfl) (fun _ _ _=>Gh.d) (fun fl1 Hp1 j1 s1 g1 hz1 hl1 x1 fb1 hx1 H hg1=>?_) (fun s1 g1 H=>?_)
 ·refine ac (aE (ac (aa (ah tk rfl (aX tk (zn j1) (bj aH hx1) ?_)))))
  refine ah tk rfl ?_
  refine aA tk fun b9=>?_
  refine ah tk rfl (ao tk ?_)
  refine ab (ac (aa (al tk ?_)))
  obtain ⟨x28,h28,H⟩ := av H
  have s28 := kh (m := 28) x1 _ h28
  refine aq Tryz.call8 (eZ.r) (PFun.eE s28) ?_
  refine aB tk (zl _) ?_
  refine ah tk rfl (ab (ac (ac ?_)))
  refine cm (γ := Unit) (fun t6 g6=>⟨50,upd (upd (upd (upd (upd (upd (upd (upd (upd (upd (upd (fun _=>.any) 36 (au t6)) 22 (ae (j1 : Int))) 21 (ae (q.inputs.length : Int))) 20 (.list 33 (q.inputs.map ap))) 10 (ae (x28.length : Int))) 9 (.box 9 b9 0)) 8 (ae (j1 : Int))) 7 (.box 7 b7 0)) 6 (.box 6 b6 0)) 5 (.ptr (am byA))) 1 (ae s1.1),upd (upd (upd (fun _=>none) 9 (some ⟨b9,(am x1)⟩)) 7 (some ⟨b7,[(ae x16.kind),(.str x16.table),(.list 9 (x16.names.map aF)),(.list 94 (x16.exprs.map ak)),(.list 91 (x16.aggregates.map aQ)),(.list 4 (x16.descending.map aP)),(ae x16.count),(ae x16.offset),(.own 16 g1 (s1.2.map ap).length)]⟩)) 6 (some ⟨b6,[(ae 0),(.str []),(.val (.slice none 0 0)),(.val (.slice none 0 0)),(.val (.slice none 0 0)),(.val (.slice none 0 0)),(ae 0),(ae 0),(.val (.slice none 0 0))]⟩),upd (fun _=>none) 16 (some ⟨g1,33,(s1.2.map ap),true⟩)⟩) H (fun _ H=>?_) (fun t6 g6 H=>?_)
  ·refine aa (af 3 tk rfl ?_)
   refine aL rfl rfl rfl H (fun H=>?_) (fun H=>?_)
   ·refine af 4 tk rfl (ab ?_)
    refine aJ _ () H Gh.d
   refine af 4 tk rfl (ab ?_)
   refine aJ _ () H Gh.d
  refine aN rfl H (fun H=>?_) (fun H=>?_)
  ·refine gp (tag := 16) rfl (fun ho16=>?_)
   refine cg 9 ?_
   refine bt tk mok ⟨true,false,[40,42]⟩ [0,1,2,3,4,5,6,7,8] rfl (by decide +kernel) rfl (bn rfl (aY ?_))
   refine bf 4 rfl ?_
   obtain ⟨x43,h43,H⟩ := av H
   have s43 := hrec28 x1 s1.1 byA _ h43
   refine be Tryz.call28 (eZ.r) s43 ?_
   obtain ⟨x44,k44,H⟩ := bB H
   refine ej tk ⟨k44.1,(dZ k44.2)⟩ (ed ho16 k44.2) ?_
   obtain ⟨y7,hy7,H⟩ := dg H
   refine gV tk rfl rfl rfl rfl rfl rfl rfl rfl rfl (by rw [zl]; exact (zg.1 k44.2).1) (PLe.refl _ _) rfl rfl rfl rfl (by decide) (fm aH k44.2 rfl hy7) ?_
   refine bp (br 4 tk rfl (aW (br 2 tk rfl ?_)))
   exact bq g1 H hl1 hg1 (Gh.le (aM (aM (aM (ck (PLe.q (eM (by omega))) (aM (aM (aM bU))))))) (aO rfl (eZ.r) (aO rfl (eZ.of2 (gk.cons (lW.of_eq rfl) (gk.cons (lW.of_eq rfl) (gk.cons (lW.of_eq rfl) (gk.cons (lW.of_eq rfl) (gk.cons (lW.of_eq rfl) (gk.cons (lW.of_eq rfl) (gk.cons (lW.of_eq rfl) (gk.cons (lW.of_eq rfl) (gk.cons (lW.of_eq (congrArg (PV.own 16 g1) (gK (f := ap) hy7))) gk.nil)))))))))) bw)) (da bA))
  refine ax (br 4 tk rfl (aW (br 2 tk rfl ?_)))
  exact bq g1 H hl1 hg1
 refine ac (aa (al tk ?_))
 refine ao tk ?_
 refine ab (bD 6 8 rfl rfl rfl rfl rfl ?_)
 exact pI tk H rfl rfl rfl rfl rfl
def dO : Nat → LQuery → Int → LQuery → Option (LQuery)
 | 0,_,_,_=>none
 | n + 1,v0,v1,v2=>cR (fun b0 b1 b2=>dO n b0 b1 b2) v0 v1 v2
theorem pE  (n : Nat) : (∀ a0 a1 a2 r,dO n a0 a1 a2 = some r → aU Tryz.prog 28 [(.agg (am a0)),(ae a1),(.agg (am a2))] (.agg (am r))) := by
 induction n with
 | zero=>exact (by intros; rename_i h; exact absurd (show (none : Option _) = some _ from h) (by simp))
 | succ n ih =>
  exact (fun v0 v1 v2 r h=>pF (fun b0 b1 b2=>dO n b0 b1 b2) ih v0 v1 v2  r h)
def ct (q : LQuery) (atA : Int) (byA : LQuery) : Option (LQuery) := fe fun n=>dO n q atA byA
theorem qe (q : LQuery) (atA : Int) (byA : LQuery) (r : LQuery) (H : ct q atA byA = some r) :
  aU Tryz.prog 28 [(.agg (am q)),(ae atA),(.agg (am byA))] (.agg (am r)) := by
 obtain ⟨n,h⟩ := et H
 exact (pE  n) q atA byA r h
def gP (sA : LSchema) : Option (Int) :=
 bs (
  cond (decide ((sA.tables.length : Int) > (6 : Int)))
   (true)
   (cond (decide ((sA.foreignKeys.length : Int) > (8 : Int)))
    (true)
    ((decide ((sA.constraints.length : Int) > (8 : Int)))))) fun (t1 : Bool) =>
 cond t1
  (some 2)
  (ag (aI (σ := Unit) (ρ := (Int)) (fun (j2 : Nat) (x2 : LTable) (_ : Unit) =>
   ag (eg x2) fun x37 =>
   cond (x37 != (0 : Int))
    (some (.ret x37))
    (cond (decide ((j2 : Int) > (0 : Int)))
     (ag (aR sA.tables (IntKind.i64.wrap ((j2 : Int) - (1 : Int)))) fun (x50 : LTable) =>
     cond (Op.bytesLess x2.name x50.name || x2.name == x50.name)
      (some (.ret 6))
      (some (.next ())))
     (some (.next ())))) 0 sA.tables ()) fun fl2=>fl2.thenR fun (_ : Unit) =>
  ag (aI (σ := Unit) (ρ := (Int)) (fun (j3 : Nat) (x3 : LForeignKey) (_ : Unit) =>
   ag (dQ sA x3) fun x66 =>
   cond (x66 != (0 : Int))
    (some (.ret x66))
    (ag (kG sA.foreignKeys 0 (j3 : Int)) fun (x73 : List LForeignKey) =>
    ag (bK x73 (fun a0=>eS a0 x3)) fun x75 =>
    cond x75
     (some (.ret 5))
     (some (.next ())))) 0 sA.foreignKeys ()) fun fl3=>fl3.thenR fun (_ : Unit) =>
  ag (aI (σ := Unit) (ρ := (Int)) (fun (j4 : Nat) (x4 : LConstraint) (_ : Unit) =>
   ag (dP sA x4) fun x87 =>
   cond (x87 != (0 : Int))
    (some (.ret x87))
    (ag (kG sA.constraints 0 (j4 : Int)) fun (x94 : List LConstraint) =>
    ag (bT x94 x4) fun x96 =>
    cond x96
     (some (.ret 5))
     (some (.next ())))) 0 sA.constraints ()) fun fl4=>fl4.thenR fun (_ : Unit) =>
  some 0)
theorem qy (sA : LSchema) (r : Int) (H : gP sA = some r) :
  aU Tryz.prog 23 [(.agg (aD sA))] (ae r) := by
 unfold gP at H
 refine PH.ay Tryz.func23 Tryz.ntmps23 ?_
 refine ac (aa (aG ?_))
 refine ah tk rfl (ab (ac (ac ?_)))
 refine cm (γ := Unit) (fun t1 g1=>⟨98,upd (upd (fun _=>.any) 27 (au t1)) 1 (.ptr (aD sA)),fun _=>none,fun _=>none⟩) H (fun _ H=>?_) (fun t1 g1 H=>?_)
 ·refine aa (af 2 tk rfl (aB tk (zl _) ?_))
  refine af 2 tk rfl ?_
  refine aL rfl rfl rfl H (fun H=>?_) (fun H=>?_)
  ·refine af 11 tk rfl (ab ?_)
   refine aJ _ () H Gh.d
  refine af 2 tk rfl (aB tk (zl _) ?_)
  refine af 3 tk rfl ?_
  refine aL rfl rfl rfl H (fun H=>?_) (fun H=>?_)
  ·refine af 5 tk rfl (ab ?_)
   refine aJ _ () H Gh.d
  refine af 2 tk rfl (aB tk (zl _) ?_)
  refine af 2 tk rfl (ab ?_)
  refine aJ _ () H Gh.d
 refine aN rfl H (fun H=>?_) (fun H=>?_)
 ·refine aw 1 tk rfl ?_
  exact bi tk H rfl
 refine ax (ac (ac (aa (af 2 tk rfl (aB tk (zl _) ?_)))))
 refine ah tk rfl (ab ?_)
 refine eQ tk 31 30 29 (fun s2 g2=>upd (fun _=>.any) 1 (.ptr (aD sA))) nB nO () H (fun fl2 Hp2 j2 s2 g2 hz2 hl2 x2 fb2 hx2 H hg2=>?_) (fun s2 g2 H=>?_)
 ·refine ac (aE (ac (aa (ah tk rfl ?_))))
  refine aX tk (zn j2) (bj (fun _=>rfl) hx2) ?_
  refine ah tk rfl ?_
  refine aA tk fun b4=>?_
  refine ah tk rfl (ao tk ?_)
  refine ab (ac (ac (aa (al tk ?_))))
  obtain ⟨x37,h37,H⟩ := av H
  have s37 := nV x2 _ h37
  refine aq Tryz.call53 (eZ.r) s37 ?_
  refine ah tk rfl (ab (aw 2 tk rfl ?_))
  refine aN rfl H (fun H=>?_) (fun H=>?_)
  ·refine aw 2 tk rfl ?_
   obtain rfl := az H
   have e2 : fl2 = .ret _ := hg2
   subst e2
   obtain rfl := bu Hp2
   refine bd tk rfl (ps := [(ae x37)]) ⟨_,_,rfl,rfl,rfl⟩ (PLe.q rfl)
  refine ax (ac (bt tk mok ⟨true,false,[47,52]⟩ [0,1,2,3,4,5,6,7,8,9,10,11,12,13] rfl (by decide +kernel) rfl (bf 3 rfl ?_)))
  refine rd rfl rfl rfl rfl H (fun H=>?_) (fun H=>?_)
  ·refine bn rfl (aY ?_)
   refine bf 4 rfl ?_
   obtain ⟨x50,k50,H⟩ := bB H
   refine bF k50.1 (aV (fun _=>rfl) k50.2) ?_
   refine bf 4 rfl (bp ?_)
   refine aN rfl H (fun H=>?_) (fun H=>?_)
   ·refine aw 1 tk rfl ?_
    obtain rfl := az H
    have e2 : fl2 = .ret _ := hg2
    subst e2
    obtain rfl := bu Hp2
    refine bd tk rfl (ps := [(ae 6)]) ⟨_,_,rfl,rfl,rfl⟩ (PLe.q rfl)
   refine ax (aW (br 2 tk rfl ?_))
   exact bq () H hl2 hg2
  refine bf 11 rfl (bp (bW rfl (ax (aW (br 2 tk rfl ?_)))))
  exact bq () H hl2 hg2
 refine ac (ac (aa (af 2 tk rfl (aB tk (zl _) ?_))))
 refine ah tk rfl (ab ?_)
 refine eQ tk 59 58 57 (fun s3 g3=>upd (fun _=>.any) 1 (.ptr (aD sA))) nB nO () H (fun fl3 Hp3 j3 s3 g3 hz3 hl3 x3 fb3 hx3 H hg3=>?_) (fun s3 g3 H=>?_)
 ·refine ac (aE (ac (aa (ah tk rfl ?_))))
  refine aX tk (zn j3) (bj (fun _=>rfl) hx3) ?_
  refine ah tk rfl ?_
  refine aA tk fun b7=>?_
  refine ah tk rfl (ao tk ?_)
  refine ab (ac (ac (aa (ah tk rfl (al tk ?_)))))
  obtain ⟨x66,h66,H⟩ := av H
  have s66 := lL sA x3 _ h66
  refine aq Tryz.call54 (eZ.r) s66 ?_
  refine ah tk rfl (ab (aw 2 tk rfl ?_))
  refine aN rfl H (fun H=>?_) (fun H=>?_)
  ·refine aw 2 tk rfl ?_
   obtain rfl := az H
   have e3 : fl3 = .ret _ := hg3
   subst e3
   obtain rfl := bu Hp3
   refine bd tk rfl (ps := [(ae x66)]) ⟨_,_,rfl,rfl,rfl⟩ (PLe.q rfl)
  refine ax (ac (aa (af 3 tk rfl ?_)))
  obtain ⟨x73,h73,H⟩ := av H
  have k73 := lP h73
  refine rr tk rfl rfl rfl rfl rfl (zl _) rfl rfl k73.1 (mV k73.2) rfl (gI (Gh.freezeB 7 rfl rfl rfl rfl) (ah tk rfl ?_))
  obtain ⟨x75,h75,H⟩ := av H
  have s75 := gM x73 (fun a0=>eS a0 x3) Tryz.call56 (fun a0 r h=>pC a0 x3 r h) _ h75
  refine aq Tryz.call55 (eZ.r) s75 ?_
  refine ab ?_
  refine aN rfl H (fun H=>?_) (fun H=>?_)
  ·refine aw 1 tk rfl ?_
   obtain rfl := az H
   have e3 : fl3 = .ret _ := hg3
   subst e3
   obtain rfl := bu Hp3
   refine bd tk rfl (ps := [(ae 5)]) ⟨_,_,rfl,rfl,rfl⟩ (PLe.q rfl)
  refine ax (aW (br 2 tk rfl ?_))
  exact bq () H hl3 hg3
 refine ac (ac (aa (af 2 tk rfl (aB tk (zl _) ?_))))
 refine ah tk rfl (ab ?_)
 refine eQ tk 80 79 78 (fun s4 g4=>upd (fun _=>.any) 1 (.ptr (aD sA))) nB nO () H (fun fl4 Hp4 j4 s4 g4 hz4 hl4 x4 fb4 hx4 H hg4=>?_) (fun s4 g4 H=>?_)
 ·refine ac (aE (ac (aa (ah tk rfl ?_))))
  refine aX tk (zn j4) (bj (fun _=>rfl) hx4) ?_
  refine ah tk rfl ?_
  refine aA tk fun b10=>?_
  refine ah tk rfl (ao tk ?_)
  refine ab (ac (ac (aa (ah tk rfl (al tk ?_)))))
  obtain ⟨x87,h87,H⟩ := av H
  have s87 := lQ sA x4 _ h87
  refine aq Tryz.call58 (eZ.r) s87 ?_
  refine ah tk rfl (ab (aw 2 tk rfl ?_))
  refine aN rfl H (fun H=>?_) (fun H=>?_)
  ·refine aw 2 tk rfl ?_
   obtain rfl := az H
   have e4 : fl4 = .ret _ := hg4
   subst e4
   obtain rfl := bu Hp4
   refine bd tk rfl (ps := [(ae x87)]) ⟨_,_,rfl,rfl,rfl⟩ (PLe.q rfl)
  refine ax (ac (bt tk mok ⟨true,false,[92]⟩ [0,1,2,3,4,5] rfl (by decide +kernel) rfl (bf 3 rfl ?_)))
  obtain ⟨x94,h94,H⟩ := av H
  have k94 := lP h94
  refine rD rfl rfl rfl rfl rfl rfl (zl _) rfl rfl k94.1 (mV k94.2) rfl (aY ?_)
  obtain ⟨x96,h96,H⟩ := av H
  have s96 := hC x94 x4 _ h96
  refine be Tryz.call59 (eZ.r) s96 ?_
  refine bp ?_
  refine aN rfl H (fun H=>?_) (fun H=>?_)
  ·refine aw 1 tk rfl ?_
   obtain rfl := az H
   have e4 : fl4 = .ret _ := hg4
   subst e4
   obtain rfl := bu Hp4
   refine bd tk rfl (ps := [(ae 5)]) ⟨_,_,rfl,rfl,rfl⟩ (PLe.q rfl)
  refine ax (aW (br 2 tk rfl ?_))
  exact bq () H hl4 hg4
 refine aw 1 tk rfl ?_
 exact bi tk H rfl
def gc (c : LChecker) (q : LQuery) (inA : List (List LCol)) : Option ((List LCol) × Int) :=
 cond (q.kind == (1 : Int))
  (ag (cr c.s.tables (fun a0=>some (dI a0 q))) fun x25 =>
  cond (decide (x25 < (0 : Int)))
   (some ([],4))
   (ag (aR c.s.tables x25) fun (x32 : LTable) =>
   some (x32.columns,0)))
  (cond (q.kind == (2 : Int))
   (ag (aR inA 0) fun (x39 : List LCol) =>
   ag (aR inA 0) fun (x43 : List LCol) =>
   ag (aR q.exprs 0) fun (x47 : LExpr) =>
   bs (cO c x43 x47) fun x49 =>
   some (x39,x49))
   (bs (
    cond (q.kind == (4 : Int))
     ((q.kind == (4 : Int)))
     ((q.kind == (5 : Int)))) fun (t1 : Bool) =>
   cond t1
    (ag (aR inA 0) fun (x54 : List LCol) =>
    ag (aR inA 1) fun (x58 : List LCol) =>
    ag (aI (σ := List LCol) (ρ := Empty) (fun (_ : Nat) (x2 : LCol) (s2 : List LCol) =>
     cond x2.nullable
      (ag (bS 32 s2 ([(LCol.mk x2.name x2.kind true)] : List LCol)) fun (x76 : List LCol) =>
      some (.next x76))
      (ag (bS 32 s2 ([(LCol.mk x2.name x2.kind (q.kind == (5 : Int)))] : List LCol)) fun (x76 : List LCol) =>
      some (.next x76))) 0 x58 x54) fun fl2=>fl2.thenP fun (s2 : List LCol) =>
    ag (aR q.exprs 0) fun (x83 : LExpr) =>
    bs (cO c s2 x83) fun x85 =>
    some (s2,x85))
    (bs (
     cond (q.kind == (6 : Int))
      ((q.kind == (6 : Int)))
      ((q.kind == (7 : Int)))) fun (t3 : Bool) =>
    cond t3
     (ag (aR inA 0) fun (x92 : List LCol) =>
     ag (aR inA 1) fun (x95 : List LCol) =>
     ag (gE q.kind x92 x95) fun x97 =>
     some (x97.1,x97.2))
     (bs (
      cond (q.kind == (3 : Int))
       ((q.kind == (3 : Int)))
       ((q.kind == (8 : Int)))) fun (t4 : Bool) =>
     cond t4
      (ag (aR inA 0) fun (x106 : List LCol) =>
      ag (dK c q x106) fun x108 =>
      some (x108.1,x108.2))
      (cond (q.kind == (9 : Int))
       (ag (aI (σ := Unit) (ρ := ((List LCol) × Int)) (fun (_ : Nat) (x5 : LExpr) (_ : Unit) =>
        ag (aR inA 0) fun (x122 : List LCol) =>
        bs (eO x122 c.vars x5) fun x127 =>
        cond (x127.2.2 != (0 : Int))
         (some (.ret ([],x127.2.2)))
         (some (.next ()))) 0 q.exprs ()) fun fl5=>fl5.thenR fun (_ : Unit) =>
       ag (aR inA 0) fun (x136 : List LCol) =>
       some (x136,0))
       (ag (aR inA 0) fun (x136 : List LCol) =>
       some (x136,0)))))))
theorem pB (c : LChecker) (q : LQuery) (inA : List (List LCol)) (r : (List LCol) × Int) (H : gc c q inA = some r) :
  aU Tryz.prog 140 [(.agg (dt c)),(.agg (am q)),(.list 53 (inA.map (jt 52 bh)))] (.tup [(.list 52 (r.1.map bh)),(ae r.2)]) := by
 unfold gc at H
 refine PH.ay Tryz.func140 Tryz.ntmps140 ?_
 refine ac (aa (aG ?_))
 refine aG ?_
 refine af 2 tk rfl (ab (ac (aw 2 tk rfl (aE (aw 2 tk rfl ?_)))))
 refine aN rfl H (fun H=>?_) (fun H=>?_)
 ·refine ac (aa (af 4 tk rfl ?_))
  obtain ⟨x25,h25,H⟩ := av H
  have s25 := fW c.s.tables (fun a0=>some (dI a0 q)) Tryz.call173 (fun a0 r h=>(az h) ▸ oD a0 q) _ h25
  refine aq Tryz.call134 (eZ.r) s25 ?_
  refine ah tk rfl (ab (ac (aw 2 tk rfl ?_)))
  refine aN rfl H (fun H=>?_) (fun H=>?_)
  ·refine aw 2 tk rfl ?_
   obtain rfl := az H
   refine bd tk rfl (ps := [(.val (.slice none 0 0)),(ae 4)]) ⟨_,_,rfl,rfl,_,_,rfl,rfl,rfl⟩ (PLe.of2 (lW.tup (gk.cons (lW.nil tk rfl) (gk.cons (lW.of_eq rfl) gk.nil))))
  refine ax (ac (aa (af 4 tk rfl ?_)))
  obtain ⟨x32,k32,H⟩ := bB H
  refine aX tk k32.1 (aV (fun _=>rfl) k32.2) ?_
  refine af 2 tk rfl ?_
  have s35 := pV (m := 35) x32.columns
  refine aq Tryz.call158 (eZ.r) (PFun.eE s35) ?_
  refine af 2 tk rfl (ab ?_)
  exact bi tk H rfl
 refine aw 2 tk rfl ?_
 refine aN rfl H (fun H=>?_) (fun H=>?_)
 ·refine ac (bt tk mok ⟨false,false,[]⟩ [0,1,2,3,4,5,6,7,8,9,10,11,12,13] rfl (by decide +kernel) rfl (bn rfl ?_))
  obtain ⟨x39,k39,H⟩ := bB H
  refine bF k39.1 (aV (fun _=>rfl) k39.2) ?_
  refine bf 3 rfl ?_
  obtain ⟨x43,k43,H⟩ := bB H
  refine bF k43.1 (aV (fun _=>rfl) k43.2) ?_
  refine bf 3 rfl ?_
  obtain ⟨x47,k47,H⟩ := bB H
  refine bF k47.1 (aV aS k47.2) ?_
  refine bn rfl ?_
  obtain ⟨x49,h49,H⟩ := dg H
  have s49 := jv c x43 x47
  rw [h49] at s49
  refine be Tryz.call174 (eZ.r) s49 ?_
  refine bf 2 rfl (bp ?_)
  exact bi tk H rfl
 refine ac (aw 2 tk rfl ?_)
 refine cm (γ := Unit) (fun t1 g1=>⟨138,upd (upd (upd (upd (upd (fun _=>.any) 50 (au t1)) 18 (ae q.kind)) 4 (.ptr (am q))) 3 (.ptr (dt c))) 2 (.list 53 (inA.map (jt 52 bh))),fun _=>none,fun _=>none⟩) H (fun _ H=>?_) (fun t1 g1 H=>?_)
 ·refine aN rfl H (fun H=>?_) (fun H=>?_)
  ·refine ax ?_
   refine aJ _ () H Gh.d
  refine br 2 tk rfl ?_
  refine aJ _ () H Gh.d
 refine aN rfl H (fun H=>?_) (fun H=>?_)
 ·refine ac (aa (ah tk rfl ?_))
  obtain ⟨x54,k54,H⟩ := bB H
  refine aX tk k54.1 (aV (fun _=>rfl) k54.2) ?_
  refine ah tk rfl ?_
  have s56 := pV (m := 56) x54
  refine qX (g := 158) rfl rfl rfl Tryz.call158 (eZ.r) rfl rfl s56 (fun g56=>?_)
  refine ah tk rfl (ab (ac (ac (aa (ah tk rfl ?_)))))
  obtain ⟨x58,k58,H⟩ := bB H
  refine aX tk k58.1 (aV (fun _=>rfl) k58.2) ?_
  refine ah tk rfl (aB tk (zl _) ?_)
  refine ah tk rfl (ab ?_)
  refine db (γ := OwnRef) tk 61 60 59 (fun s2 g2=>upd (upd (upd (fun _=>.any) 9 (.own 56 g2 (s2.map bh).length)) 4 (.ptr (am q))) 3 (.ptr (dt c))) nB (fun s2 g2=>upd (fun _=>none) 56 (some ⟨g2,52,(s2.map bh),true⟩)) g56 H (fun fl2 Hp2 j2 s2 g2 hz2 hl2 x2 fb2 hx2 H hg2=>?_) (fun s2 g2 H=>?_)
  ·refine ac (aE (ac (aa ?_)))
   refine aX tk (zn j2) (bj (fun _=>rfl) hx2) ?_
   refine ah tk rfl ?_
   refine aA tk fun b11=>?_
   refine ao tk ?_
   refine ab (ac (aa (ah tk rfl (al tk ?_))))
   refine ah tk rfl ?_
   refine aL rfl rfl rfl H (fun H=>?_) (fun H=>?_)
   ·refine af 5 tk rfl (ao tk ?_)
    refine ab (aa (ah tk rfl (al tk ?_)))
    refine cj tk (rows' := List.map bh ([(LCol.mk x2.name x2.kind true)] : List LCol)) (dH.refl _) ?_
    obtain ⟨x76,h76,H⟩ := av H
    have k76 := bE h76
    refine bO (rows2' := List.map bh ([(LCol.mk x2.name x2.kind true)] : List LCol)) (rows' := List.map bh x76) tk rfl rfl rfl rfl rfl rfl rfl rfl rfl rfl rfl rfl rfl (dH.refl _) (ce k76.1) (cb k76.2.1) (ca k76.2.2) fun g76=>?_
    refine ah tk rfl (ab (aW (br 2 tk rfl ?_)))
    exact bq g76 H hl2 hg2
   refine af 5 tk rfl (ao tk ?_)
   refine ab (aa (ah tk rfl (al tk ?_)))
   refine cj tk (rows' := List.map bh ([(LCol.mk x2.name x2.kind (q.kind == (5 : Int)))] : List LCol)) (dH.refl _) ?_
   obtain ⟨x76,h76,H⟩ := av H
   have k76 := bE h76
   refine bO (rows2' := List.map bh ([(LCol.mk x2.name x2.kind (q.kind == (5 : Int)))] : List LCol)) (rows' := List.map bh x76) tk rfl rfl rfl rfl rfl rfl rfl rfl rfl rfl rfl rfl rfl (dH.refl _) (ce k76.1) (cb k76.2.1) (ca k76.2.2) fun g76=>?_
   refine ah tk rfl (ab (aW (br 2 tk rfl ?_)))
   exact bq g76 H hl2 hg2
  refine ac (dD 9 rfl rfl rfl (bt tk mok ⟨false,false,[]⟩ [0,1,2,3,4,5,6,7,8,9] rfl (by decide +kernel) rfl (bf 5 rfl ?_)))
  obtain ⟨x83,k83,H⟩ := bB H
  refine bF k83.1 (aV aS k83.2) ?_
  refine bn rfl ?_
  obtain ⟨x85,h85,H⟩ := dg H
  have s85 := jv c s2 x83
  rw [h85] at s85
  refine be Tryz.call174 (eZ.r) s85 ?_
  refine bf 2 rfl (bp ?_)
  exact bi tk H rfl
 refine ac (aw 2 tk rfl ?_)
 refine cm (γ := Unit) (fun t3 g3=>⟨138,upd (upd (upd (upd (upd (fun _=>.any) 86 (au t3)) 18 (ae q.kind)) 4 (.ptr (am q))) 3 (.ptr (dt c))) 2 (.list 53 (inA.map (jt 52 bh))),fun _=>none,fun _=>none⟩) H (fun _ H=>?_) (fun t3 g3 H=>?_)
 ·refine aN rfl H (fun H=>?_) (fun H=>?_)
  ·refine ax ?_
   refine aJ _ () H Gh.d
  refine br 2 tk rfl ?_
  refine aJ _ () H Gh.d
 refine aN rfl H (fun H=>?_) (fun H=>?_)
 ·refine ac (bt tk mok ⟨false,false,[]⟩ [0,1,2,3,4,5,6,7,8,9,10,11,12] rfl (by decide +kernel) rfl (bf 3 rfl ?_))
  obtain ⟨x92,k92,H⟩ := bB H
  refine bF k92.1 (aV (fun _=>rfl) k92.2) ?_
  refine bf 2 rfl ?_
  obtain ⟨x95,k95,H⟩ := bB H
  refine bF k95.1 (aV (fun _=>rfl) k95.2) ?_
  refine bn rfl ?_
  obtain ⟨x97,h97,H⟩ := av H
  have s97 := pT q.kind x92 x95 _ h97
  refine be Tryz.call175 (eZ.r) s97 ?_
  refine bf 4 rfl (bp ?_)
  exact bi tk H rfl
 refine ac (aw 2 tk rfl ?_)
 refine cm (γ := Unit) (fun t4 g4=>⟨138,upd (upd (upd (upd (upd (fun _=>.any) 100 (au t4)) 18 (ae q.kind)) 4 (.ptr (am q))) 3 (.ptr (dt c))) 2 (.list 53 (inA.map (jt 52 bh))),fun _=>none,fun _=>none⟩) H (fun _ H=>?_) (fun t4 g4 H=>?_)
 ·refine aN rfl H (fun H=>?_) (fun H=>?_)
  ·refine ax ?_
   refine aJ _ () H Gh.d
  refine br 2 tk rfl ?_
  refine aJ _ () H Gh.d
 refine aN rfl H (fun H=>?_) (fun H=>?_)
 ·refine ac (bt tk mok ⟨false,false,[]⟩ [0,1,2,3,4,5,6,7,8,9] rfl (by decide +kernel) rfl (bf 3 rfl ?_))
  obtain ⟨x106,k106,H⟩ := bB H
  refine bF k106.1 (aV (fun _=>rfl) k106.2) ?_
  refine bn rfl ?_
  obtain ⟨x108,h108,H⟩ := av H
  have s108 := lf c q x106 _ h108
  refine be Tryz.call176 (eZ.r) s108 ?_
  refine bf 4 rfl (bp ?_)
  exact bi tk H rfl
 refine aw 2 tk rfl ?_
 refine aN rfl H (fun H=>?_) (fun H=>?_)
 ·refine ac (aa (af 2 tk rfl (aB tk (zl _) ?_)))
  refine ah tk rfl (ab ?_)
  refine eQ tk 116 115 114 (fun s5 g5=>upd (upd (fun _=>.any) 3 (.ptr (dt c))) 2 (.list 53 (inA.map (jt 52 bh)))) nB nO () H (fun fl5 Hp5 j5 s5 g5 hz5 hl5 x5 fb5 hx5 H hg5=>?_) (fun s5 g5 H=>?_)
  ·refine ac (aE (ac (aa (aX tk (zn j5) (bj aS hx5) ?_))))
   refine ah tk rfl ?_
   refine aA tk fun b13=>?_
   refine ao tk ?_
   refine ab (ac (bt tk mok ⟨true,false,[123,125]⟩ [0,1,2,3,4,5,6,7,8,9,10,11,12,13] rfl (by decide +kernel) rfl (bn rfl ?_)))
   obtain ⟨x122,k122,H⟩ := bB H
   refine bF k122.1 (aV (fun _=>rfl) k122.2) ?_
   refine bf 3 rfl (aY ?_)
   obtain ⟨x127,h127,H⟩ := dg H
   have s127 := lG x122 c.vars x5
   rw [h127] at s127
   refine be Tryz.call177 (eZ.r) s127 ?_
   refine bf 7 rfl (bp (aw 2 tk rfl ?_))
   refine aN rfl H (fun H=>?_) (fun H=>?_)
   ·refine aw 3 tk rfl ?_
    obtain rfl := az H
    have e5 : fl5 = .ret _ := hg5
    subst e5
    obtain rfl := bu Hp5
    refine bd tk rfl (ps := [(.val (.slice none 0 0)),(ae x127.2.2)]) ⟨_,_,rfl,rfl,_,_,rfl,rfl,rfl⟩ (PLe.of2 (lW.tup (gk.cons (lW.nil tk rfl) (gk.cons (lW.of_eq rfl) gk.nil))))
   refine ax (aW (br 2 tk rfl ?_))
   exact bq () H hl5 hg5
  refine aW (ac (aa (ah tk rfl ?_)))
  obtain ⟨x136,k136,H⟩ := bB H
  refine aX tk k136.1 (aV (fun _=>rfl) k136.2) ?_
  refine af 3 tk rfl (ab ?_)
  exact bi tk H rfl
 refine ax (aW (ac (aa (ah tk rfl ?_))))
 obtain ⟨x136,k136,H⟩ := bB H
 refine aX tk k136.1 (aV (fun _=>rfl) k136.2) ?_
 refine af 3 tk rfl (ab ?_)
 exact bi tk H rfl
def dU (rec97 : LChecker → LQuery → Option ((List LCol) × Int)) (c : LChecker) (q : LQuery) : Option ((List LCol) × Int) :=
 ag (jh q) fun x16 =>
 cond (!x16)
  (some ([],3))
  (ag (aI (σ := List (List LCol)) (ρ := ((List LCol) × Int)) (fun (_ : Nat) (x1 : LQuery) (s1 : List (List LCol)) =>
   ag (rec97 c x1) fun x28 =>
   cond (x28.2 != (0 : Int))
    (some (.ret ([],x28.2)))
    (ag (bS 24 s1 ([x28.1] : List (List LCol))) fun (x37 : List (List LCol)) =>
    some (.next x37))) 0 q.inputs []) fun fl1=>fl1.thenR fun (s1 : List (List LCol)) =>
  ag (gc c q s1) fun x43 =>
  cond (x43.2 != (0 : Int))
   (some ([],x43.2))
   (cond (decide ((x43.1.length : Int) > (20 : Int)))
    (some ([],2))
    (ag (aI (σ := Unit) (ρ := ((List LCol) × Int)) (fun (j2 : Nat) (x2 : LCol) (_ : Unit) =>
     ag (kG x43.1 0 (j2 : Int)) fun (x61 : List LCol) =>
     ag (bM x61 (fun a0=>some (bZ a0 x2))) fun x63 =>
     cond x63
      (some (.ret ([],23)))
      (some (.next ()))) 0 x43.1 ()) fun fl2=>fl2.thenR fun (_ : Unit) =>
    some (x43.1,0))))
theorem mR (rec97 : LChecker → LQuery → Option ((List LCol) × Int)) (hrec97 : ∀ a0 a1 r,rec97 a0 a1 = some r → aU Tryz.prog 97 [(.agg (dt a0)),(.agg (am a1))] (.tup [(.list 52 (r.1.map bh)),(ae r.2)])) (c : LChecker) (q : LQuery) (r : (List LCol) × Int) (H : dU rec97 c q = some r) :
  aU Tryz.prog 97 [(.agg (dt c)),(.agg (am q))] (.tup [(.list 52 (r.1.map bh)),(ae r.2)]) := by
 unfold dU at H
 refine PH.ay Tryz.func97 Tryz.ntmps97 ?_
 refine ac (aa (aG ?_))
 refine aG ?_
 refine af 2 tk rfl (ab (ac (ac (aa (ah tk rfl ?_)))))
 obtain ⟨x16,h16,H⟩ := av H
 have s16 := W_query_shape q _ h16
 refine aq Tryz.call139 (eZ.r) s16 ?_
 refine ah tk rfl (ab ?_)
 refine aN rfl H (fun H=>?_) (fun H=>?_)
 ·refine aw 2 tk rfl ?_
  obtain rfl := az H
  refine bd tk rfl (ps := [(.val (.slice none 0 0)),(ae 3)]) ⟨_,_,rfl,rfl,_,_,rfl,rfl,rfl⟩ (PLe.of2 (lW.tup (gk.cons (lW.nil tk rfl) (gk.cons (lW.of_eq rfl) gk.nil))))
 refine ax (aw 1 tk rfl (ac (ac (aa (af 2 tk rfl (aB tk (zl _) ?_))))))
 refine ah tk rfl (ab (gQ tk 6 37 (e := 53) rfl rfl ?_))
 refine eQ (γ := OwnRef) tk 21 20 19 (fun s1 g1=>upd (upd (upd (fun _=>.any) 6 (.own 37 g1 (s1.map (jt 52 bh)).length)) 3 (.ptr (am q))) 2 (.ptr (dt c))) nB (fun s1 g1=>upd (fun _=>none) 37 (some ⟨g1,53,(s1.map (jt 52 bh)),true⟩)) (⟨none,0⟩) H (fun fl1 Hp1 j1 s1 g1 hz1 hl1 x1 fb1 hx1 H hg1=>?_) (fun s1 g1 H=>?_)
 ·refine ac (aE (ac (aa (aX tk (zn j1) (bj aH hx1) ?_))))
  refine ah tk rfl ?_
  refine aA tk fun b8=>?_
  refine ao tk ?_
  refine ab (ac (aa (ah tk rfl (al tk ?_))))
  obtain ⟨x28,h28,H⟩ := av H
  have s28 := hrec97 c x1 _ h28
  refine aq Tryz.call97 (eZ.r) s28 ?_
  refine af 5 tk rfl (ab (ac (aw 2 tk rfl ?_)))
  refine aN rfl H (fun H=>?_) (fun H=>?_)
  ·refine aw 3 tk rfl ?_
   obtain rfl := az H
   have e1 : fl1 = .ret _ := hg1
   subst e1
   obtain rfl := bu Hp1
   refine bd tk rfl (ps := [(.val (.slice none 0 0)),(ae x28.2)]) ⟨_,_,rfl,rfl,_,_,rfl,rfl,rfl⟩ (PLe.of2 (lW.tup (gk.cons (lW.nil tk rfl) (gk.cons (lW.of_eq rfl) gk.nil))))
  refine ax (aa (af 2 tk rfl (cj tk (rows' := List.map (jt 52 bh) ([x28.1] : List (List LCol))) (dH.refl _) ?_)))
  obtain ⟨x37,h37,H⟩ := av H
  have k37 := bE h37
  refine bO (rows2' := List.map (jt 52 bh) ([x28.1] : List (List LCol))) (rows' := List.map (jt 52 bh) x37) tk rfl rfl rfl rfl rfl rfl rfl rfl rfl rfl rfl rfl rfl (dH.refl _) (ce k37.1) (cb k37.2.1) (ca k37.2.2) fun g37=>?_
  refine ah tk rfl (ab (aW (br 2 tk rfl ?_)))
  exact bq g37 H hl1 hg1
 refine ac (dD 6 rfl rfl rfl (aa (af 3 tk rfl ?_)))
 obtain ⟨x43,h43,H⟩ := av H
 have s43 := pB c q s1 _ h43
 refine aq Tryz.call140 (eZ.r) s43 ?_
 refine af 5 tk rfl (ab (ac (aw 2 tk rfl ?_)))
 refine aN rfl H (fun H=>?_) (fun H=>?_)
 ·refine aw 3 tk rfl ?_
  obtain rfl := az H
  refine bd tk rfl (ps := [(.val (.slice none 0 0)),(ae x43.2)]) ⟨_,_,rfl,rfl,_,_,rfl,rfl,rfl⟩ (PLe.of2 (lW.tup (gk.cons (lW.nil tk rfl) (gk.cons (lW.of_eq rfl) gk.nil))))
 refine ax (ac (ac (aa (ah tk rfl (aB tk (zl _) ?_)))))
 refine ah tk rfl (ab ?_)
 refine aN rfl H (fun H=>?_) (fun H=>?_)
 ·refine aw 2 tk rfl ?_
  obtain rfl := az H
  refine bd tk rfl (ps := [(.val (.slice none 0 0)),(ae 2)]) ⟨_,_,rfl,rfl,_,_,rfl,rfl,rfl⟩ (PLe.of2 (lW.tup (gk.cons (lW.nil tk rfl) (gk.cons (lW.of_eq rfl) gk.nil))))
 refine ax (ac (ac (aa (ah tk rfl (aB tk (zl _) ?_)))))
 refine ah tk rfl (ab ?_)
 refine eQ tk 54 53 52 (fun s2 g2=>upd (fun _=>.any) 11 (.list 52 (x43.1.map bh))) nB nO () H (fun fl2 Hp2 j2 s2 g2 hz2 hl2 x2 fb2 hx2 H hg2=>?_) (fun s2 g2 H=>?_)
 ·refine ac (aE (ac (aa (ah tk rfl ?_))))
  refine aX tk (zn j2) (bj (fun _=>rfl) hx2) ?_
  refine ah tk rfl ?_
  refine aA tk fun b14=>?_
  refine ah tk rfl (ao tk ?_)
  refine ab (ac (aa (af 2 tk rfl ?_)))
  obtain ⟨x61,h61,H⟩ := av H
  have k61 := lP h61
  refine rr tk rfl rfl rfl rfl rfl (zl _) rfl rfl k61.1 (mV k61.2) rfl (gI (Gh.freezeB 14 rfl rfl rfl rfl) (ah tk rfl ?_))
  obtain ⟨x63,h63,H⟩ := av H
  have s63 := iH x61 (fun a0=>some (bZ a0 x2)) Tryz.call142 (fun a0 r h=>(az h) ▸ mB a0 x2) _ h63
  refine aq Tryz.call141 (eZ.r) s63 ?_
  refine ab ?_
  refine aN rfl H (fun H=>?_) (fun H=>?_)
  ·refine aw 2 tk rfl ?_
   obtain rfl := az H
   have e2 : fl2 = .ret _ := hg2
   subst e2
   obtain rfl := bu Hp2
   refine bd tk rfl (ps := [(.val (.slice none 0 0)),(ae 23)]) ⟨_,_,rfl,rfl,_,_,rfl,rfl,rfl⟩ (PLe.of2 (lW.tup (gk.cons (lW.nil tk rfl) (gk.cons (lW.of_eq rfl) gk.nil))))
  refine ax (aW (br 2 tk rfl ?_))
  exact bq () H hl2 hg2
 refine aw 3 tk rfl ?_
 exact bi tk H rfl
def dS : Nat → LChecker → LQuery → Option ((List LCol) × Int)
 | 0,_,_=>none
 | n + 1,v0,v1=>dU (fun b0 b1=>dS n b0 b1) v0 v1
theorem mP  (n : Nat) : (∀ a0 a1 r,dS n a0 a1 = some r → aU Tryz.prog 97 [(.agg (dt a0)),(.agg (am a1))] (.tup [(.list 52 (r.1.map bh)),(ae r.2)])) := by
 induction n with
 | zero=>exact (by intros; rename_i h; exact absurd (show (none : Option _) = some _ from h) (by simp))
 | succ n ih =>
  exact (fun v0 v1 r h=>mR (fun b0 b1=>dS n b0 b1) ih v0 v1  r h)
def eG (c : LChecker) (q : LQuery) : Option ((List LCol) × Int) := fe fun n=>dS n c q
theorem nC (c : LChecker) (q : LQuery) (r : (List LCol) × Int) (H : eG c q = some r) :
  aU Tryz.prog 97 [(.agg (dt c)),(.agg (am q))] (.tup [(.list 52 (r.1.map bh)),(ae r.2)]) := by
 obtain ⟨n,h⟩ := et H
 exact (mP  n) c q r h
end
end Go.Proofs.YtlojdffmcdaheaaGreatDoor
