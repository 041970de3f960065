/- The sample, asQ the lifted functions take it. -/
import Derived.Test.YtjnpnakcmjndiaaGreatDoorCxS
import Derived.Test.YtjnpnakcmjndiaaGreatDoorMgg
import Derived.Test.YtjnpnakcmjndiaaGreatDoorMgj
namespace Go.Proofs.YtjnpnakcmjndiaaGreatDoor
open Go Go.Ab
def sampleV : Bool := true
theorem sampleV_spec : PFun Tryz.prog 12 [] (.val (.bool sampleV)) := Go.Cx.sample_spec
end Go.Proofs.YtjnpnakcmjndiaaGreatDoor
/- Lifted functions: printed by lift.py. -/
namespace Go.Proofs.YtjnpnakcmjndiaaGreatDoor
open Go Go.Ab
attribute [local irreducible] V AOps DOps Gh Eff PCallsH IntKind.wrap
set_option maxRecDepth 4000

noncomputable def L_joinalgo_Validate_1 (rA : List LVal) (c0 : Int) : Bool :=
  (decide (c0 ≥ (rA.length : Int)))

set_option maxHeartbeats 4000000 in
theorem W_joinalgo_Validate_1 (rA : List LVal) (c0 : Int) :
    PFun Tryz.prog 109 [(.list 47 (rA.map encVal)), (.ptr [(pint c0)])] (pbool (L_joinalgo_Validate_1 rA c0)) := by
  obtain ⟨r, H⟩ : ∃ r, L_joinalgo_Validate_1 rA c0 = r := ⟨_, rfl⟩
  rw [H]
  unfold L_joinalgo_Validate_1 at H
  refine PCallsH.intro Tryz.func109 rfl Tryz.ntmps109 rfl ?_
  refine V.seq ?_
  refine V.region ?_
  refine AOps.q tt_ok rfl ?_
  refine AOps.nil ?_
  refine V.seq ?_
  refine V.region ?_
  iterate 2 refine AOps.q tt_ok rfl ?_
  refine AOps.lenL tt_ok rfl rfl rfl rfl rfl (List.length_map _) rfl ?_
  iterate 2 refine AOps.q tt_ok rfl ?_
  refine AOps.nil ?_
  subst H
  refine V.retP tt_ok rfl (ps := [(pbool (decide (c0 ≥ (rA.length : Int))))]) ⟨_, _, rfl, rfl, rfl⟩ (PLe.of_eq rfl)

noncomputable def L_slices_IndexFunc_Lapi_Row_api_Row (sA : List (List LVal)) (f : (List LVal) → Option (Bool)) : Option (Int) :=
  bindP (rangeM (σ := Unit) (ρ := (Int)) (fun (j1 : Nat) (x1 : List LVal) (_ : Unit) =>
    bindP (f x1) fun x16 =>
    cond x16
      (some (.ret (j1 : Int)))
      (some (.next ()))) 0 sA ()) fun fl1 => fl1.thenR fun (_ : Unit) =>
  some (-1)

set_option maxHeartbeats 4000000 in
theorem W_slices_IndexFunc_Lapi_Row_api_Row {g_f : FuncId} {caps_f : List PV} (sA : List (List LVal)) (f : (List LVal) → Option (Bool)) (hg_f : ∀ (vs : Array Value) (w : World), (callFunc g_f vs).run Tryz.prog w = .ok (.enter g_f vs) w) (hp_f : ∀ a0 r, f a0 = some r → PFun Tryz.prog g_f ((.list 47 (a0.map encVal)) :: caps_f) (pbool r)) (r : Int) (H : L_slices_IndexFunc_Lapi_Row_api_Row sA f = some r) :
    PFun Tryz.prog 123 [(.list 44 (sA.map (rList 47 encVal))), (.fn g_f caps_f)] (pint r) := by
  unfold L_slices_IndexFunc_Lapi_Row_api_Row at H
  refine PCallsH.intro Tryz.func123 rfl Tryz.ntmps123 rfl ?_
  refine V.seq ?_
  refine V.region ?_
  refine AOps.q tt_ok rfl ?_
  refine AOps.nil ?_
  iterate 2 refine V.seq ?_
  refine V.region ?_
  refine AOps.q tt_ok rfl ?_
  refine AOps.lenL tt_ok rfl rfl rfl rfl rfl (List.length_map _) rfl ?_
  refine AOps.q tt_ok rfl ?_
  refine AOps.nil ?_
  obtain ⟨fl1, H1, Hp1⟩ := bindE H
  refine V.lenF tt_ok 0 rfl rfl (fun hz1 _ => ?_)
  rw [List.length_map] at hz1
  refine V.cut (τ := Unit) (γ := Unit) (fun s1 g1 => ⟨19, fun _ => .any, fun _ => none, fun _ => none⟩) (fun t => fl1 = .next t) ?_ (fun s1 g1 hn1 => ?_)
  · refine V.block ?_
    refine V.rangeL (fun j1 s1 g1 => ⟨19, upd (upd (upd (upd (fun _ => .any) 8 (pint (j1 : Int))) 7 (pint (sA.length : Int))) 1 (.fn g_f caps_f)) 0 (.list 44 (sA.map (rList 47 encVal))), fun _ => none, fun _ => none⟩) () H1 (Gh.le (SLe.cons (PLe.of_eq rfl) (SLe.cons (PLe.of_eq rfl) (SLe.cons (PLe.of_eq rfl) (SLe.cons (PLe.of_eq rfl) SLe.nil)))) BLe.nil OLe.nil) (fun j1 s1 g1 hj1 hr1 => ?_)
    refine V.seq ?_
    refine V.region ?_
    refine AOps.q tt_ok rfl ?_
    refine AOps.nil ?_
    refine V.seq ?_
    refine V.cond rfl (fun h => ?_) (fun h => ?_)
    · have hl1 := rowsLt h
      obtain ⟨x1, fb1, hx1, H, hg1⟩ := rangeM_cons hl1 hr1
      refine V.skip ?_
      refine V.seq ?_
      refine V.block ?_
      refine V.seq ?_
      refine V.region ?_
      iterate 2 refine AOps.q tt_ok rfl ?_
      refine AOps.nil ?_
      refine V.seq ?_
      refine V.region ?_
      iterate 3 refine AOps.q tt_ok rfl ?_
      refine AOps.idx tt_ok rfl rfl rfl rfl rfl rfl (Int.natCast_nonneg j1) (rowsGet (fun _ => rfl) hx1) rfl ?_
      refine AOps.q tt_ok rfl ?_
      obtain ⟨x16, h16, H⟩ := bindE H
      refine AOps.callP rfl rfl rfl hg_f (PLeAll.refl _ _) (hp_f _ _ h16) rfl ?_
      refine AOps.nil ?_
      refine V.cH rfl H (fun H => ?_) (fun H => ?_)
      · refine V.seq ?_
        refine V.region ?_
        iterate 2 refine AOps.q tt_ok rfl ?_
        refine AOps.nil ?_
        obtain rfl := someE H
        have e1 : fl1 = .ret _ := hg1
        subst e1
        obtain rfl := thenR_ret Hp1
        refine V.retP tt_ok rfl (ps := [(pint (j1 : Int))]) ⟨_, _, rfl, rfl, rfl⟩ (PLe.of_eq rfl)
      refine V.skip ?_
      refine V.blk ?_
      refine V.region ?_
      iterate 2 refine AOps.q tt_ok rfl ?_
      refine AOps.nil ?_
      obtain rfl := someE H
      refine V.againL () () ⟨hl1, hg1⟩ (Gh.le (SLe.cons (PLe.of_eq rfl) (SLe.cons (PLe.of_eq rfl) (SLe.cons (PLe.of_eq rfl) (SLe.cons (PLe.of_eq (pint_succ (by omega))) SLe.nil)))) BLe.nil OLe.nil)
    have hn1 := rangeM_done (rowsGe h) hr1
    refine V.exit rfl ?_
    refine V.at s1 g1 hn1 (Gh.le SLe.nil BLe.nil OLe.nil)
  have H := thenR_next hn1 Hp1
  refine V.seq ?_
  refine V.region ?_
  refine AOps.q tt_ok rfl ?_
  refine AOps.nil ?_
  obtain rfl := someE H
  refine V.retP tt_ok rfl (ps := [(pint (-1))]) ⟨_, _, rfl, rfl, rfl⟩ (PLe.of_eq rfl)
theorem N_L_slices_IndexFunc_Lapi_Row_api_Row (xs : List (List LVal)) (q : (List LVal) → Bool) : L_slices_IndexFunc_Lapi_Row_api_Row xs (fun a => some (q a)) = some (idxOf q xs) := by
  unfold L_slices_IndexFunc_Lapi_Row_api_Row
  rw [rangeM_find q (fun j _ => (j : Int)) xs 0 (fun k x hk => by simp only [bindP_some]; cases q x <;> simp)]
  simp only [idxOf, Nat.zero_add]
  cases h : xs.findIdx? q with
  | none => rfl
  | some i =>
    obtain ⟨hi, _⟩ := List.findIdx?_eq_some_iff_getElem.1 h
    simp [hi]
noncomputable def L_slices_IndexFunc_Lapi_Row_api_Row_O (sA : List (List LVal)) (f : (List LVal) → Option (Bool)) : Option (Int × (List (List LVal))) :=
  bindP (smallI (sA.length : Int)) fun (n1 : Nat) =>
  bindP (rangeM (σ := List (List LVal)) (ρ := (Int × (List (List LVal)))) (fun (j1 : Nat) (_ : Nat) (s1 : List (List LVal)) =>
    bindP (getI s1 (j1 : Int)) fun (x14 : List LVal) =>
    bindP (f x14) fun x16 =>
    cond x16
      (some (.ret ((j1 : Int), s1)))
      (some (.next s1))) 0 (List.range n1) sA) fun fl1 => fl1.thenR fun (s1 : List (List LVal)) =>
  some ((-1), s1)

set_option maxHeartbeats 4000000 in
theorem W_slices_IndexFunc_Lapi_Row_api_Row_O (g_sA : OwnRef) {g_f : FuncId} {caps_f : List PV} (sA : List (List LVal)) (f : (List LVal) → Option (Bool)) (hg_f : ∀ (vs : Array Value) (w : World), (callFunc g_f vs).run Tryz.prog w = .ok (.enter g_f vs) w) (hp_f : ∀ a0 r, f a0 = some r → PFun Tryz.prog g_f ((.list 47 (a0.map encVal)) :: caps_f) (pbool r)) (r : Int × (List (List LVal))) (H : L_slices_IndexFunc_Lapi_Row_api_Row_O sA f = some r) :
    PCallsH Tryz.prog 123 [(.own 0 g_sA (sA.map (rList 47 encVal)).length), (.fn g_f caps_f)] ⟨fun _ => none, upd (fun _ => none) 0 (some ⟨g_sA, 44, (sA.map (rList 47 encVal)), true⟩)⟩ (fun u H => u = (pint r.1) ∧ H = ⟨fun _ => none, upd (fun _ => none) 0 (some ⟨g_sA, 44, (r.2.map (rList 47 encVal)), true⟩)⟩) := by
  unfold L_slices_IndexFunc_Lapi_Row_api_Row_O at H
  refine PCallsH.intro Tryz.func123 rfl Tryz.ntmps123 rfl ?_
  refine V.seq ?_
  refine V.region ?_
  refine AOps.q tt_ok rfl ?_
  refine AOps.nil ?_
  iterate 2 refine V.seq ?_
  refine V.region ?_
  refine AOps.q tt_ok rfl ?_
  refine AOps.lenO tt_ok rfl rfl rfl rfl rfl (List.length_map _) rfl ?_
  refine AOps.q tt_ok rfl ?_
  refine AOps.nil ?_
  obtain ⟨n1, hs1, H⟩ := bindE H
  have hz1 := smallI_some hs1
  obtain ⟨fl1, H1, Hp1⟩ := bindE H
  refine V.cut (τ := List (List LVal)) (γ := Unit) (fun s1 g1 => ⟨19, upd (fun _ => .any) 0 (.own 0 g_sA (s1.map (rList 47 encVal)).length), fun _ => none, upd (fun _ => none) 0 (some ⟨g_sA, 44, (s1.map (rList 47 encVal)), true⟩)⟩) (fun t => fl1 = .next t) ?_ (fun s1 g1 hn1 => ?_)
  · refine V.block ?_
    refine V.rangeL (fun j1 s1 g1 => ⟨19, upd (upd (upd (upd (fun _ => .any) 8 (pint (j1 : Int))) 7 (pint (sA.length : Int))) 1 (.fn g_f caps_f)) 0 (.own 0 g_sA (s1.map (rList 47 encVal)).length), fun _ => none, upd (fun _ => none) 0 (some ⟨g_sA, 44, (s1.map (rList 47 encVal)), true⟩)⟩) () H1 (Gh.le (SLe.cons (PLe.of_eq rfl) (SLe.cons (PLe.of_eq rfl) (SLe.cons (PLe.of_eq rfl) (SLe.cons (PLe.of_eq rfl) SLe.nil)))) BLe.nil (OLe.cons rfl OLe.nil)) (fun j1 s1 g1 hj1 hr1 => ?_)
    refine V.seq ?_
    refine V.region ?_
    refine AOps.q tt_ok rfl ?_
    refine AOps.nil ?_
    refine V.seq ?_
    refine V.cond rfl (fun h => ?_) (fun h => ?_)
    · have hl1 := natLt hz1 h
      obtain ⟨x1, fb1, hx1, H, hg1⟩ := rangeM_cons hl1 hr1
      obtain rfl := natX hx1
      refine V.skip ?_
      refine V.seq ?_
      refine V.block ?_
      refine V.seq ?_
      refine V.region ?_
      iterate 2 refine AOps.q tt_ok rfl ?_
      refine AOps.nil ?_
      refine V.seq ?_
      refine V.region ?_
      iterate 3 refine AOps.q tt_ok rfl ?_
      obtain ⟨x14, k14, H⟩ := getE H
      refine AOps.ownF (tag := 0) rfl (fun ho0 => ?_)
      refine AOps.idxO tt_ok rfl rfl rfl rfl rfl rfl rfl ⟨k14.1, (idxLen k14.2)⟩ (idxBlk ho0 k14.2) rfl ?_
      refine AOps.loadO tt_ok rfl rfl rfl rfl rfl rfl rfl (rowsGetI (fun _ => rfl) k14.2) rfl rfl ?_
      obtain ⟨x16, h16, H⟩ := bindE H
      refine AOps.callP rfl rfl rfl hg_f (PLeAll.refl _ _) (hp_f _ _ h16) rfl ?_
      refine AOps.nil ?_
      refine V.cH rfl H (fun H => ?_) (fun H => ?_)
      · refine V.seq ?_
        refine V.region ?_
        iterate 2 refine AOps.q tt_ok rfl ?_
        refine AOps.nil ?_
        obtain rfl := someE H
        have e1 : fl1 = .ret _ := hg1
        subst e1
        obtain rfl := thenR_ret Hp1
        refine V.gh (st' := ⟨19, upd (fun _ => .any) 4 (pint (j1 : Int)), fun _ => none, upd (fun _ => none) 0 (some ⟨g_sA, 44, (s1.map (rList 47 encVal)), true⟩)⟩) (Gh.le (SLe.cons (PLe.of_eq rfl) SLe.nil) BLe.nil (OLe.cons rfl OLe.nil)) ?_
        refine V.retH tt_ok rfl (ps := [(pint (j1 : Int))]) ⟨_, _, rfl, rfl, rfl⟩ (PLe.of_eq rfl) ⟨rfl, rfl⟩
      refine V.skip ?_
      refine V.blk ?_
      refine V.region ?_
      iterate 2 refine AOps.q tt_ok rfl ?_
      refine AOps.nil ?_
      obtain rfl := someE H
      refine V.againL s1 () ⟨hl1, hg1⟩ (Gh.le (SLe.cons (PLe.of_eq rfl) (SLe.cons (PLe.of_eq rfl) (SLe.cons (PLe.of_eq rfl) (SLe.cons (PLe.of_eq (pint_succN hz1 hl1)) SLe.nil)))) BLe.nil (OLe.cons rfl OLe.nil))
    have hn1 := rangeM_done (natGe hz1 h) hr1
    refine V.exit rfl ?_
    refine V.at s1 g1 hn1 (Gh.le (SLe.cons (PLe.of_eq rfl) SLe.nil) BLe.nil (OLe.cons rfl OLe.nil))
  have H := thenR_next hn1 Hp1
  refine V.seq ?_
  refine V.region ?_
  refine AOps.q tt_ok rfl ?_
  refine AOps.nil ?_
  obtain rfl := someE H
  refine V.gh (st' := ⟨19, upd (fun _ => .any) 4 (pint (-1)), fun _ => none, upd (fun _ => none) 0 (some ⟨g_sA, 44, (s1.map (rList 47 encVal)), true⟩)⟩) (Gh.le (SLe.cons (PLe.of_eq rfl) SLe.nil) BLe.nil (OLe.cons rfl OLe.nil)) ?_
  refine V.retH tt_ok rfl (ps := [(pint (-1))]) ⟨_, _, rfl, rfl, rfl⟩ (PLe.of_eq rfl) ⟨rfl, rfl⟩

noncomputable def L_joinalgo_Validate_2 (rA : List LVal) (c0 : LJoinalgoCondition) : Bool :=
  ((rA.length : Int) != c0.rightWidth)

set_option maxHeartbeats 4000000 in
theorem W_joinalgo_Validate_2 (rA : List LVal) (c0 : LJoinalgoCondition) :
    PFun Tryz.prog 110 [(.list 47 (rA.map encVal)), (.ptr (encJoinalgoCondition c0))] (pbool (L_joinalgo_Validate_2 rA c0)) := by
  obtain ⟨r, H⟩ : ∃ r, L_joinalgo_Validate_2 rA c0 = r := ⟨_, rfl⟩
  rw [H]
  unfold L_joinalgo_Validate_2 at H
  refine PCallsH.intro Tryz.func110 rfl Tryz.ntmps110 rfl ?_
  refine V.seq ?_
  refine V.region ?_
  refine AOps.q tt_ok rfl ?_
  refine AOps.nil ?_
  refine V.seq ?_
  refine V.region ?_
  refine AOps.q tt_ok rfl ?_
  refine AOps.lenL tt_ok rfl rfl rfl rfl rfl (List.length_map _) rfl ?_
  iterate 4 refine AOps.q tt_ok rfl ?_
  refine AOps.nil ?_
  subst H
  refine V.retP tt_ok rfl (ps := [(pbool ((rA.length : Int) != c0.rightWidth))]) ⟨_, _, rfl, rfl, rfl⟩ (PLe.of_eq rfl)

noncomputable def L_joinalgo_key (rA : List LVal) (atA : List Int) : Option ((List LVal) × Bool) :=
  bindP (rangeM (σ := List LVal) (ρ := ((List LVal) × Bool)) (fun (_ : Nat) (x1 : Int) (s1 : List LVal) =>
    bindP (getI rA x1) fun (x17 : LVal) =>
    cond (x17.kind == (0 : Int))
      (some (.ret ([], false)))
      (bindP (getI rA x1) fun (x24 : LVal) =>
      bindP (appI 32 s1 ([x24] : List LVal)) fun (x27 : List LVal) =>
      some (.next x27))) 0 atA []) fun fl1 => fl1.thenR fun (s1 : List LVal) =>
  some (s1, true)

set_option maxHeartbeats 4000000 in
theorem W_joinalgo_key (rA : List LVal) (atA : List Int) (r : (List LVal) × Bool) (H : L_joinalgo_key rA atA = some r) :
    PFun Tryz.prog 45 [(.list 47 (rA.map encVal)), (.list 3 (atA.map rInt))] (.tup [(.list 47 (r.1.map encVal)), (pbool r.2)]) := by
  unfold L_joinalgo_key at H
  refine PCallsH.intro Tryz.func45 rfl Tryz.ntmps45 rfl ?_
  refine V.seq ?_
  refine V.region ?_
  iterate 2 refine AOps.q tt_ok rfl ?_
  refine AOps.nil ?_
  refine V.seq ?_
  refine V.region ?_
  refine AOps.q tt_ok rfl ?_
  refine AOps.nil ?_
  iterate 2 refine V.seq ?_
  refine V.region ?_
  refine AOps.q tt_ok rfl ?_
  refine AOps.lenL tt_ok rfl rfl rfl rfl rfl (List.length_map _) rfl ?_
  refine AOps.q tt_ok rfl ?_
  refine AOps.nil ?_
  obtain ⟨fl1, H1, Hp1⟩ := bindE H
  refine V.lenF tt_ok 9 rfl rfl (fun hz1 _ => ?_)
  rw [List.length_map] at hz1
  refine V.cut (τ := List LVal) (γ := OwnRef) (fun s1 g1 => ⟨30, upd (fun _ => .any) 6 (.own 27 g1 (s1.map encVal).length), fun _ => none, upd (fun _ => none) 27 (some ⟨g1, 47, (s1.map encVal), true⟩)⟩) (fun t => fl1 = .next t) ?_ (fun s1 g1 hn1 => ?_)
  · refine V.block ?_
    refine V.nilO tt_ok 6 27 (e := 47) rfl rfl ?_
    refine V.rangeL (fun j1 s1 g1 => ⟨30, upd (upd (upd (upd (upd (fun _ => .any) 11 (pint (j1 : Int))) 10 (pint (atA.length : Int))) 9 (.list 3 (atA.map rInt))) 6 (.own 27 g1 (s1.map encVal).length)) 0 (.list 47 (rA.map encVal)), fun _ => none, upd (fun _ => none) 27 (some ⟨g1, 47, (s1.map encVal), true⟩)⟩) (⟨none, 0⟩) H1 (Gh.le (SLe.cons (PLe.of_eq rfl) (SLe.cons (PLe.of_eq rfl) (SLe.cons (PLe.of_eq rfl) (SLe.cons (PLe.of_eq rfl) (SLe.cons (PLe.of_eq rfl) SLe.nil))))) BLe.nil (OLe.cons rfl OLe.nil)) (fun j1 s1 g1 hj1 hr1 => ?_)
    refine V.seq ?_
    refine V.region ?_
    refine AOps.q tt_ok rfl ?_
    refine AOps.nil ?_
    refine V.seq ?_
    refine V.cond rfl (fun h => ?_) (fun h => ?_)
    · have hl1 := rowsLt h
      obtain ⟨x1, fb1, hx1, H, hg1⟩ := rangeM_cons hl1 hr1
      refine V.skip ?_
      refine V.seq ?_
      refine V.block ?_
      refine V.seq ?_
      refine V.region ?_
      refine AOps.idx tt_ok rfl rfl rfl rfl rfl rfl (Int.natCast_nonneg j1) (rowsGet (fun _ => rfl) hx1) rfl ?_
      iterate 2 refine AOps.q tt_ok rfl ?_
      refine AOps.nil ?_
      iterate 2 refine V.seq ?_
      refine V.region ?_
      iterate 2 refine AOps.q tt_ok rfl ?_
      obtain ⟨x17, k17, H⟩ := getE H
      refine AOps.idx tt_ok rfl rfl rfl rfl rfl rfl k17.1 (rowsGetI (fun _ => rfl) k17.2) rfl ?_
      iterate 3 refine AOps.q tt_ok rfl ?_
      refine AOps.nil ?_
      refine V.cH rfl H (fun H => ?_) (fun H => ?_)
      · refine V.seq ?_
        refine V.region ?_
        iterate 2 refine AOps.q tt_ok rfl ?_
        refine AOps.nil ?_
        obtain rfl := someE H
        have e1 : fl1 = .ret _ := hg1
        subst e1
        obtain rfl := thenR_ret Hp1
        refine V.retP tt_ok rfl (ps := [(.val (.slice none 0 0)), (pbool false)]) ⟨_, _, rfl, rfl, _, _, rfl, rfl, rfl⟩ (PLe.of2 (PLe2.tup (PLe2All.cons (PLe2.nil tt_ok rfl) (PLe2All.cons (PLe2.of_eq rfl) PLe2All.nil))))
      refine V.skip ?_
      refine V.region ?_
      iterate 3 refine AOps.q tt_ok rfl ?_
      obtain ⟨x24, k24, H⟩ := getE H
      refine AOps.idx tt_ok rfl rfl rfl rfl rfl rfl k24.1 (rowsGetI (fun _ => rfl) k24.2) rfl ?_
      refine AOps.q tt_ok rfl ?_
      refine AOps.bsC tt_ok rfl rfl rfl rfl (rows' := List.map encVal ([x24] : List LVal)) rfl (PLe2Rows.refl _) rfl rfl ?_
      obtain ⟨x27, h27, H⟩ := bindE H
      have k27 := appI_some h27
      refine AOps.appendC (rows2' := List.map encVal ([x24] : List LVal)) (rows' := List.map encVal x27) tt_ok rfl rfl rfl rfl rfl rfl rfl rfl rfl rfl rfl rfl rfl (PLe2Rows.refl _) (appI_by k27.1) (appI_mx k27.2.1) (appI_eq k27.2.2) fun g27 => ?_
      refine AOps.q tt_ok rfl ?_
      refine AOps.nil ?_
      refine V.blk ?_
      refine V.region ?_
      iterate 2 refine AOps.q tt_ok rfl ?_
      refine AOps.nil ?_
      obtain rfl := someE H
      refine V.againL x27 g27 ⟨hl1, hg1⟩ (Gh.le (SLe.cons (PLe.of_eq rfl) (SLe.cons (PLe.of_eq rfl) (SLe.cons (PLe.of_eq rfl) (SLe.cons (PLe.of_eq rfl) (SLe.cons (PLe.of_eq (pint_succ (by omega))) SLe.nil))))) BLe.nil (OLe.cons rfl OLe.nil))
    have hn1 := rangeM_done (rowsGe h) hr1
    refine V.exit rfl ?_
    refine V.at s1 g1 hn1 (Gh.le (SLe.cons (PLe.of_eq rfl) SLe.nil) BLe.nil (OLe.cons rfl OLe.nil))
  have H := thenR_next hn1 Hp1
  refine V.seq ?_
  refine V.region ?_
  iterate 3 refine AOps.q tt_ok rfl ?_
  refine AOps.nil ?_
  obtain rfl := someE H
  refine V.freezeO 4 rfl rfl rfl ?_
  refine V.retP tt_ok rfl (ps := [(.list 47 (s1.map encVal)), (pbool true)]) ⟨_, _, rfl, rfl, _, _, rfl, rfl, rfl⟩ (PLe.of_eq rfl)

noncomputable def L_slices_insertionSortCmpFunc_joinalgo_one (data : List LJoinalgoOne) (a : Int) (b : Int) (cmp : LJoinalgoOne → LJoinalgoOne → Option (Int)) : Option ((List LJoinalgoOne)) :=
  bindP (whileM (σ := List LJoinalgoOne × Int) (ρ := Empty) (fun (s1 : List LJoinalgoOne × Int) =>
    cond (decide (s1.2 < b))
      (bindP (whileM (σ := List LJoinalgoOne × Int) (ρ := Empty) (fun (s22 : List LJoinalgoOne × Int) =>
        bindP (
          cond (decide (s22.2 > a))
            (bindP (getI s22.1 s22.2) fun (x25 : LJoinalgoOne) =>
            bindP (getI s22.1 (IntKind.i64.wrap (s22.2 - (1 : Int)))) fun (x30 : LJoinalgoOne) =>
            bindP (cmp x25 x30) fun x32 =>
            some (s22.1, (decide (x32 < (0 : Int)))))
            (some (s22.1, false))) fun (t29 : List LJoinalgoOne × Bool) =>
        cond t29.2
          (bindP (getI t29.1 (IntKind.i64.wrap (s22.2 - (1 : Int)))) fun (x45 : LJoinalgoOne) =>
          bindP (getI t29.1 s22.2) fun (x49 : LJoinalgoOne) =>
          bindP (getI t29.1 s22.2) fun (_ : LJoinalgoOne) =>
          letP (t29.1.set s22.2.toNat x45) fun (y30 : List LJoinalgoOne) =>
          bindP (getI y30 (IntKind.i64.wrap (s22.2 - (1 : Int)))) fun (_ : LJoinalgoOne) =>
          letP (y30.set ((IntKind.i64.wrap (s22.2 - (1 : Int))).toNat) x49) fun (y31 : List LJoinalgoOne) =>
          some (.next (y31, (IntKind.i64.wrap (s22.2 - (1 : Int))))))
          (some (.brk (t29.1, s22.2)))) (s1.1, s1.2)) fun fl22 => fl22.thenP fun (s22 : List LJoinalgoOne × Int) =>
      some (.next (s22.1, (IntKind.i64.wrap (s1.2 + (1 : Int))))))
      (some (.brk (s1.1, s1.2)))) (data, (IntKind.i64.wrap (a + (1 : Int))))) fun fl1 => fl1.thenP fun (s1 : List LJoinalgoOne × Int) =>
  some s1.1

set_option maxHeartbeats 4000000 in
theorem W_slices_insertionSortCmpFunc_joinalgo_one (g_data : OwnRef) {g_cmp : FuncId} {caps_cmp : List PV} (data : List LJoinalgoOne) (a : Int) (b : Int) (cmp : LJoinalgoOne → LJoinalgoOne → Option (Int)) (hg_cmp : ∀ (vs : Array Value) (w : World), (callFunc g_cmp vs).run Tryz.prog w = .ok (.enter g_cmp vs) w) (hp_cmp : ∀ a0 a1 r, cmp a0 a1 = some r → PFun Tryz.prog g_cmp ((.agg (encJoinalgoOne a0)) :: (.agg (encJoinalgoOne a1)) :: caps_cmp) (pint r)) (r : (List LJoinalgoOne)) (H : L_slices_insertionSortCmpFunc_joinalgo_one data a b cmp = some r) :
    PCallsH Tryz.prog 217 [(.own 0 g_data (data.map encJoinalgoOne).length), (pint a), (pint b), (.fn g_cmp caps_cmp)] ⟨fun _ => none, upd (fun _ => none) 0 (some ⟨g_data, 119, (data.map encJoinalgoOne), true⟩)⟩ (fun u H => u = (.tup []) ∧ H = ⟨fun _ => none, upd (fun _ => none) 0 (some ⟨g_data, 119, (r.map encJoinalgoOne), true⟩)⟩) := by
  unfold L_slices_insertionSortCmpFunc_joinalgo_one at H
  refine PCallsH.intro Tryz.func217 rfl Tryz.ntmps217 rfl ?_
  refine V.seq ?_
  refine V.region ?_
  iterate 3 refine AOps.q tt_ok rfl ?_
  refine AOps.nil ?_
  obtain ⟨fl1, H1, Hp1⟩ := bindE H
  refine V.cut (τ := List LJoinalgoOne × Int) (γ := Unit) (fun s1 g1 => ⟨53, upd (fun _ => .any) 0 (.own 0 g_data (s1.1.map encJoinalgoOne).length), fun _ => none, upd (fun _ => none) 0 (some ⟨g_data, 119, (s1.1.map encJoinalgoOne), true⟩)⟩) (fun t => fl1 = .next t) ?_ (fun s1 g1 hn1 => ?_)
  · refine V.block ?_
    refine V.whileL (fun s1 g1 => ⟨53, upd (upd (upd (upd (upd (fun _ => .any) 8 (pint s1.2)) 3 (.fn g_cmp caps_cmp)) 2 (pint b)) 1 (pint a)) 0 (.own 0 g_data (s1.1.map encJoinalgoOne).length), fun _ => none, upd (fun _ => none) 0 (some ⟨g_data, 119, (s1.1.map encJoinalgoOne), true⟩)⟩) () H1 (Gh.le (SLe.cons (PLe.of_eq rfl) (SLe.cons (PLe.of_eq rfl) (SLe.cons (PLe.of_eq rfl) (SLe.cons (PLe.of_eq rfl) (SLe.cons (PLe.of_eq rfl) SLe.nil))))) BLe.nil (OLe.cons rfl OLe.nil)) (fun m1 s1 g1 hr1 => ?_)
    obtain ⟨fb1, H, hg1⟩ := iterM_cons hr1
    iterate 2 refine V.seq ?_
    refine V.region ?_
    iterate 3 refine AOps.q tt_ok rfl ?_
    refine AOps.nil ?_
    refine V.cH rfl H (fun H => ?_) (fun H => ?_)
    · refine V.skip ?_
      refine V.seq ?_
      refine V.block ?_
      refine V.seq ?_
      refine V.region ?_
      iterate 2 refine AOps.q tt_ok rfl ?_
      refine AOps.nil ?_
      obtain ⟨fl22, H22, Hp22⟩ := bindE H
      refine V.cut (τ := List LJoinalgoOne × Int) (γ := Unit) (fun s22 g22 => ⟨53, upd (upd (upd (upd (upd (fun _ => .any) 8 (pint s1.2)) 3 (.fn g_cmp caps_cmp)) 2 (pint b)) 1 (pint a)) 0 (.own 0 g_data (s22.1.map encJoinalgoOne).length), fun _ => none, upd (fun _ => none) 0 (some ⟨g_data, 119, (s22.1.map encJoinalgoOne), true⟩)⟩) (fun t => fl22 = .next t) ?_ (fun s22 g22 hn22 => ?_)
      · refine V.block ?_
        refine V.whileL (fun s22 g22 => ⟨53, upd (upd (upd (upd (upd (upd (fun _ => .any) 9 (pint s22.2)) 8 (pint s1.2)) 3 (.fn g_cmp caps_cmp)) 2 (pint b)) 1 (pint a)) 0 (.own 0 g_data (s22.1.map encJoinalgoOne).length), fun _ => none, upd (fun _ => none) 0 (some ⟨g_data, 119, (s22.1.map encJoinalgoOne), true⟩)⟩) () H22 (Gh.le (SLe.cons (PLe.of_eq rfl) (SLe.cons (PLe.of_eq rfl) (SLe.cons (PLe.of_eq rfl) (SLe.cons (PLe.of_eq rfl) (SLe.cons (PLe.of_eq rfl) (SLe.cons (PLe.of_eq rfl) SLe.nil)))))) BLe.nil (OLe.cons rfl OLe.nil)) (fun m22 s22 g22 hr22 => ?_)
        obtain ⟨fb22, H, hg22⟩ := iterM_cons hr22
        iterate 2 refine V.seq ?_
        obtain ⟨fl29, H29, Hp29⟩ := bindE H
        refine V.cut (τ := List LJoinalgoOne × Bool) (γ := Unit) (fun t29 g29 => ⟨53, upd (upd (upd (upd (upd (upd (upd (fun _ => .any) 34 (pbool t29.2)) 9 (pint s22.2)) 8 (pint s1.2)) 3 (.fn g_cmp caps_cmp)) 2 (pint b)) 1 (pint a)) 0 (.own 0 g_data (t29.1.map encJoinalgoOne).length), fun _ => none, upd (fun _ => none) 0 (some ⟨g_data, 119, (t29.1.map encJoinalgoOne), true⟩)⟩) (fun t => t = fl29) ?_ (fun t29 g29 hn29 => ?_)
        · have H := H29
          refine V.ownF (tag := 0) rfl (fun ho0 => ?_)
          refine V.draw tt_ok mixed_ok ⟨false, true, []⟩ [0, 1, 2, 3, 4, 5, 6, 7, 8, 9, 10, 11, 12, 13, 14, 15, 16] rfl (by decide +kernel) rfl ?_
          iterate 4 refine DOps.q rfl ?_
          refine DOps.sH rfl rfl rfl rfl H (fun H => ?_) (fun H => ?_)
          · refine DOps.q rfl ?_
            iterate 2 refine DOps.q rfl ?_
            obtain ⟨x25, k25, H⟩ := getE H
            refine DOps.idxO tt_ok rfl rfl rfl rfl rfl rfl rfl rfl ⟨k25.1, (idxLen k25.2)⟩ (idxBlk ho0 k25.2) rfl ?_
            refine DOps.loadO tt_ok rfl rfl rfl rfl rfl rfl rfl rfl rfl (rowsGetI (fun _ => rfl) k25.2) rfl rfl ?_
            iterate 3 refine DOps.q rfl ?_
            obtain ⟨x30, k30, H⟩ := getE H
            refine DOps.idxO tt_ok rfl rfl rfl rfl rfl rfl rfl rfl ⟨k30.1, (idxLen k30.2)⟩ (idxBlk ho0 k30.2) rfl ?_
            refine DOps.loadO tt_ok rfl rfl rfl rfl rfl rfl rfl rfl rfl (rowsGetI (fun _ => rfl) k30.2) rfl rfl ?_
            obtain ⟨x32, h32, H⟩ := bindE H
            refine DOps.callP rfl rfl rfl rfl hg_cmp (PLeAll.refl _ _) (hp_cmp _ _ _ h32) rfl ?_
            iterate 2 refine DOps.q rfl ?_
            refine DOps.nil ?_
            obtain rfl := someE H
            refine V.at (s22.1, (decide (x32 < (0 : Int)))) () rfl (Gh.le (SLe.cons (PLe.of_eq rfl) (SLe.cons (PLe.of_eq rfl) (SLe.cons (PLe.of_eq rfl) (SLe.cons (PLe.of_eq rfl) (SLe.cons (PLe.of_eq rfl) (SLe.cons (PLe.of_eq rfl) (SLe.cons (PLe.of_eq rfl) SLe.nil))))))) BLe.nil (OLe.cons rfl OLe.nil))
          iterate 13 refine DOps.q rfl ?_
          refine DOps.nil ?_
          obtain rfl := someE H
          refine V.at (s22.1, false) () rfl (Gh.le (SLe.cons (PLe.of_eq rfl) (SLe.cons (PLe.of_eq rfl) (SLe.cons (PLe.of_eq rfl) (SLe.cons (PLe.of_eq rfl) (SLe.cons (PLe.of_eq rfl) (SLe.cons (PLe.of_eq rfl) (SLe.cons (PLe.of_eq rfl) SLe.nil))))))) BLe.nil (OLe.cons rfl OLe.nil))
        subst hn29
        have H := Hp29
        refine V.cH rfl H (fun H => ?_) (fun H => ?_)
        · refine V.skip ?_
          refine V.seq ?_
          refine V.block ?_
          refine V.ownF (tag := 0) rfl (fun ho0 => ?_)
          refine V.draw tt_ok mixed_ok ⟨false, true, []⟩ [0, 1, 2, 3, 4, 5, 6, 7, 8, 9, 10, 11, 12, 13, 14, 15, 16, 17] rfl (by decide +kernel) rfl ?_
          iterate 8 refine DOps.q rfl ?_
          obtain ⟨x45, k45, H⟩ := getE H
          refine DOps.idxO tt_ok rfl rfl rfl rfl rfl rfl rfl rfl ⟨k45.1, (idxLen k45.2)⟩ (idxBlk ho0 k45.2) rfl ?_
          refine DOps.loadO tt_ok rfl rfl rfl rfl rfl rfl rfl rfl rfl (rowsGetI (fun _ => rfl) k45.2) rfl rfl ?_
          iterate 2 refine DOps.q rfl ?_
          obtain ⟨x49, k49, H⟩ := getE H
          refine DOps.idxO tt_ok rfl rfl rfl rfl rfl rfl rfl rfl ⟨k49.1, (idxLen k49.2)⟩ (idxBlk ho0 k49.2) rfl ?_
          refine DOps.loadO tt_ok rfl rfl rfl rfl rfl rfl rfl rfl rfl (rowsGetI (fun _ => rfl) k49.2) rfl rfl ?_
          obtain ⟨x51, k51, H⟩ := getE H
          refine DOps.idxO tt_ok rfl rfl rfl rfl rfl rfl rfl rfl ⟨k51.1, (idxLen k51.2)⟩ (idxBlk ho0 k51.2) rfl ?_
          obtain ⟨y30, hy30, H⟩ := letE H
          refine DOps.storeO tt_ok rfl rfl rfl rfl rfl rfl rfl rfl rfl (by rw [List.length_map]; exact (List.getElem?_eq_some_iff.1 k51.2).1) (PLe.refl _ _) rfl rfl rfl rfl (by decide) (setRow_map (fun _ => rfl) k51.2 rfl hy30) ?_
          obtain ⟨x52, k52, H⟩ := getE H
          refine DOps.idxO tt_ok rfl rfl rfl rfl rfl rfl rfl rfl ⟨k52.1, (idxLenE (set_len (f := encJoinalgoOne) hy30) k52.2)⟩ (idxBlkE ho0 (set_len (f := encJoinalgoOne) hy30) k52.2) rfl ?_
          obtain ⟨y31, hy31, H⟩ := letE H
          refine DOps.storeO tt_ok rfl rfl rfl rfl rfl rfl rfl rfl rfl (by rw [List.length_map]; exact (List.getElem?_eq_some_iff.1 k52.2).1) (PLe.refl _ _) rfl rfl rfl rfl (by decide) (setRow_map (fun _ => rfl) k52.2 rfl hy31) ?_
          refine DOps.nil ?_
          refine V.blk ?_
          refine V.region ?_
          iterate 3 refine AOps.q tt_ok rfl ?_
          refine AOps.nil ?_
          obtain rfl := someE H
          refine V.againL (y31, (IntKind.i64.wrap (s22.2 - (1 : Int)))) () hg22 (Gh.le (SLe.cons (PLe.of2 (PLe2.of_eq (congrArg (PV.own 0 g_data) ((set_len (f := encJoinalgoOne) hy30).trans (set_len (f := encJoinalgoOne) hy31))))) (SLe.cons (PLe.of_eq rfl) (SLe.cons (PLe.of_eq rfl) (SLe.cons (PLe.of_eq rfl) (SLe.cons (PLe.of_eq rfl) (SLe.cons (PLe.of_eq rfl) SLe.nil)))))) BLe.nil (OLe.cons rfl OLe.nil))
        refine V.exit rfl ?_
        obtain rfl := someE H
        refine V.at (t29.1, s22.2) () hg22 (Gh.le (SLe.cons (PLe.of_eq rfl) (SLe.cons (PLe.of_eq rfl) (SLe.cons (PLe.of_eq rfl) (SLe.cons (PLe.of_eq rfl) (SLe.cons (PLe.of_eq rfl) SLe.nil))))) BLe.nil (OLe.cons rfl OLe.nil))
      have H := thenP_next hn22 Hp22
      refine V.blk ?_
      refine V.region ?_
      iterate 3 refine AOps.q tt_ok rfl ?_
      refine AOps.nil ?_
      obtain rfl := someE H
      refine V.againL (s22.1, (IntKind.i64.wrap (s1.2 + (1 : Int)))) () hg1 (Gh.le (SLe.cons (PLe.of_eq rfl) (SLe.cons (PLe.of_eq rfl) (SLe.cons (PLe.of_eq rfl) (SLe.cons (PLe.of_eq rfl) (SLe.cons (PLe.of_eq rfl) SLe.nil))))) BLe.nil (OLe.cons rfl OLe.nil))
    refine V.exit rfl ?_
    obtain rfl := someE H
    refine V.at (s1.1, s1.2) () hg1 (Gh.le (SLe.cons (PLe.of_eq rfl) SLe.nil) BLe.nil (OLe.cons rfl OLe.nil))
  have H := thenP_next hn1 Hp1
  obtain rfl := someE H
  refine V.gh (st' := ⟨53, fun _ => .any, fun _ => none, upd (fun _ => none) 0 (some ⟨g_data, 119, (s1.1.map encJoinalgoOne), true⟩)⟩) (Gh.le SLe.nil BLe.nil (OLe.cons rfl OLe.nil)) ?_
  refine V.endH rfl (PLe.of_eq rfl) ⟨rfl, rfl⟩

noncomputable def L_slices_swapRangeCmpFunc_joinalgo_one (data : List LJoinalgoOne) (a : Int) (b : Int) (n : Int) (_cmp : LJoinalgoOne → LJoinalgoOne → Option (Int)) : Option ((List LJoinalgoOne)) :=
  bindP (whileM (σ := List LJoinalgoOne × Int) (ρ := Empty) (fun (s1 : List LJoinalgoOne × Int) =>
    cond (decide (s1.2 < n))
      (bindP (getI s1.1 (IntKind.i64.wrap (b + s1.2))) fun (x28 : LJoinalgoOne) =>
      bindP (getI s1.1 (IntKind.i64.wrap (a + s1.2))) fun (x34 : LJoinalgoOne) =>
      bindP (getI s1.1 (IntKind.i64.wrap (a + s1.2))) fun (_ : LJoinalgoOne) =>
      letP (s1.1.set ((IntKind.i64.wrap (a + s1.2)).toNat) x28) fun (y6 : List LJoinalgoOne) =>
      bindP (getI y6 (IntKind.i64.wrap (b + s1.2))) fun (_ : LJoinalgoOne) =>
      letP (y6.set ((IntKind.i64.wrap (b + s1.2)).toNat) x34) fun (y7 : List LJoinalgoOne) =>
      some (.next (y7, (IntKind.i64.wrap (s1.2 + (1 : Int))))))
      (some (.brk (s1.1, s1.2)))) (data, 0)) fun fl1 => fl1.thenP fun (s1 : List LJoinalgoOne × Int) =>
  some s1.1

set_option maxHeartbeats 4000000 in
theorem W_slices_swapRangeCmpFunc_joinalgo_one (g_data : OwnRef) {g_cmp : FuncId} {caps_cmp : List PV} (data : List LJoinalgoOne) (a : Int) (b : Int) (n : Int) (cmp : LJoinalgoOne → LJoinalgoOne → Option (Int)) (_hg_cmp : ∀ (vs : Array Value) (w : World), (callFunc g_cmp vs).run Tryz.prog w = .ok (.enter g_cmp vs) w) (_hp_cmp : ∀ a0 a1 r, cmp a0 a1 = some r → PFun Tryz.prog g_cmp ((.agg (encJoinalgoOne a0)) :: (.agg (encJoinalgoOne a1)) :: caps_cmp) (pint r)) (r : (List LJoinalgoOne)) (H : L_slices_swapRangeCmpFunc_joinalgo_one data a b n cmp = some r) :
    PCallsH Tryz.prog 291 [(.own 0 g_data (data.map encJoinalgoOne).length), (pint a), (pint b), (pint n), (.fn g_cmp caps_cmp)] ⟨fun _ => none, upd (fun _ => none) 0 (some ⟨g_data, 119, (data.map encJoinalgoOne), true⟩)⟩ (fun u H => u = (.tup []) ∧ H = ⟨fun _ => none, upd (fun _ => none) 0 (some ⟨g_data, 119, (r.map encJoinalgoOne), true⟩)⟩) := by
  unfold L_slices_swapRangeCmpFunc_joinalgo_one at H
  refine PCallsH.intro Tryz.func291 rfl Tryz.ntmps291 rfl ?_
  refine V.seq ?_
  refine V.region ?_
  refine AOps.q tt_ok rfl ?_
  refine AOps.nil ?_
  obtain ⟨fl1, H1, Hp1⟩ := bindE H
  refine V.cut (τ := List LJoinalgoOne × Int) (γ := Unit) (fun s1 g1 => ⟨38, upd (fun _ => .any) 0 (.own 0 g_data (s1.1.map encJoinalgoOne).length), fun _ => none, upd (fun _ => none) 0 (some ⟨g_data, 119, (s1.1.map encJoinalgoOne), true⟩)⟩) (fun t => fl1 = .next t) ?_ (fun s1 g1 hn1 => ?_)
  · refine V.block ?_
    refine V.whileL (fun s1 g1 => ⟨38, upd (upd (upd (upd (upd (fun _ => .any) 10 (pint s1.2)) 3 (pint n)) 2 (pint b)) 1 (pint a)) 0 (.own 0 g_data (s1.1.map encJoinalgoOne).length), fun _ => none, upd (fun _ => none) 0 (some ⟨g_data, 119, (s1.1.map encJoinalgoOne), true⟩)⟩) () H1 (Gh.le (SLe.cons (PLe.of_eq rfl) (SLe.cons (PLe.of_eq rfl) (SLe.cons (PLe.of_eq rfl) (SLe.cons (PLe.of_eq rfl) (SLe.cons (PLe.of_eq rfl) SLe.nil))))) BLe.nil (OLe.cons rfl OLe.nil)) (fun m1 s1 g1 hr1 => ?_)
    obtain ⟨fb1, H, hg1⟩ := iterM_cons hr1
    iterate 2 refine V.seq ?_
    refine V.region ?_
    iterate 3 refine AOps.q tt_ok rfl ?_
    refine AOps.nil ?_
    refine V.cH rfl H (fun H => ?_) (fun H => ?_)
    · refine V.skip ?_
      refine V.seq ?_
      refine V.block ?_
      refine V.ownF (tag := 0) rfl (fun ho0 => ?_)
      refine V.draw tt_ok mixed_ok ⟨false, true, []⟩ [0, 1, 2, 3, 4, 5, 6, 7, 8, 9, 10, 11, 12, 13, 14, 15, 16, 17, 18, 19, 20, 21, 22, 23] rfl (by decide +kernel) rfl ?_
      iterate 12 refine DOps.q rfl ?_
      obtain ⟨x28, k28, H⟩ := getE H
      refine DOps.idxO tt_ok rfl rfl rfl rfl rfl rfl rfl rfl ⟨k28.1, (idxLen k28.2)⟩ (idxBlk ho0 k28.2) rfl ?_
      refine DOps.loadO tt_ok rfl rfl rfl rfl rfl rfl rfl rfl rfl (rowsGetI (fun _ => rfl) k28.2) rfl rfl ?_
      iterate 4 refine DOps.q rfl ?_
      obtain ⟨x34, k34, H⟩ := getE H
      refine DOps.idxO tt_ok rfl rfl rfl rfl rfl rfl rfl rfl ⟨k34.1, (idxLen k34.2)⟩ (idxBlk ho0 k34.2) rfl ?_
      refine DOps.loadO tt_ok rfl rfl rfl rfl rfl rfl rfl rfl rfl (rowsGetI (fun _ => rfl) k34.2) rfl rfl ?_
      obtain ⟨x36, k36, H⟩ := getE H
      refine DOps.idxO tt_ok rfl rfl rfl rfl rfl rfl rfl rfl ⟨k36.1, (idxLen k36.2)⟩ (idxBlk ho0 k36.2) rfl ?_
      obtain ⟨y6, hy6, H⟩ := letE H
      refine DOps.storeO tt_ok rfl rfl rfl rfl rfl rfl rfl rfl rfl (by rw [List.length_map]; exact (List.getElem?_eq_some_iff.1 k36.2).1) (PLe.refl _ _) rfl rfl rfl rfl (by decide) (setRow_map (fun _ => rfl) k36.2 rfl hy6) ?_
      obtain ⟨x37, k37, H⟩ := getE H
      refine DOps.idxO tt_ok rfl rfl rfl rfl rfl rfl rfl rfl ⟨k37.1, (idxLenE (set_len (f := encJoinalgoOne) hy6) k37.2)⟩ (idxBlkE ho0 (set_len (f := encJoinalgoOne) hy6) k37.2) rfl ?_
      obtain ⟨y7, hy7, H⟩ := letE H
      refine DOps.storeO tt_ok rfl rfl rfl rfl rfl rfl rfl rfl rfl (by rw [List.length_map]; exact (List.getElem?_eq_some_iff.1 k37.2).1) (PLe.refl _ _) rfl rfl rfl rfl (by decide) (setRow_map (fun _ => rfl) k37.2 rfl hy7) ?_
      refine DOps.nil ?_
      refine V.blk ?_
      refine V.region ?_
      iterate 3 refine AOps.q tt_ok rfl ?_
      refine AOps.nil ?_
      obtain rfl := someE H
      refine V.againL (y7, (IntKind.i64.wrap (s1.2 + (1 : Int)))) () hg1 (Gh.le (SLe.cons (PLe.of2 (PLe2.of_eq (congrArg (PV.own 0 g_data) ((set_len (f := encJoinalgoOne) hy6).trans (set_len (f := encJoinalgoOne) hy7))))) (SLe.cons (PLe.of_eq rfl) (SLe.cons (PLe.of_eq rfl) (SLe.cons (PLe.of_eq rfl) (SLe.cons (PLe.of_eq rfl) SLe.nil))))) BLe.nil (OLe.cons rfl OLe.nil))
    refine V.exit rfl ?_
    obtain rfl := someE H
    refine V.at (s1.1, s1.2) () hg1 (Gh.le (SLe.cons (PLe.of_eq rfl) SLe.nil) BLe.nil (OLe.cons rfl OLe.nil))
  have H := thenP_next hn1 Hp1
  obtain rfl := someE H
  refine V.gh (st' := ⟨38, fun _ => .any, fun _ => none, upd (fun _ => none) 0 (some ⟨g_data, 119, (s1.1.map encJoinalgoOne), true⟩)⟩) (Gh.le SLe.nil BLe.nil (OLe.cons rfl OLe.nil)) ?_
  refine V.endH rfl (PLe.of_eq rfl) ⟨rfl, rfl⟩

noncomputable def L_expr_Less (a : LVal) (b : LVal) : Bool :=
  cond (a.kind != b.kind)
    ((decide (a.kind < b.kind)))
    (cond (a.int != b.int)
      ((decide (a.int < b.int)))
      ((Op.bytesLess a.text b.text)))

set_option maxHeartbeats 4000000 in
theorem W_expr_Less (a : LVal) (b : LVal) :
    PFun Tryz.prog 51 [(.agg (encVal a)), (.agg (encVal b))] (pbool (L_expr_Less a b)) := by
  obtain ⟨r, H⟩ : ∃ r, L_expr_Less a b = r := ⟨_, rfl⟩
  rw [H]
  unfold L_expr_Less at H
  refine PCallsH.intro Tryz.func51 rfl Tryz.ntmps51 rfl ?_
  refine V.seq ?_
  refine V.region ?_
  refine AOps.boxF rfl rfl rfl rfl rfl rfl ?_
  refine AOps.boxF rfl rfl rfl rfl rfl rfl ?_
  refine AOps.q tt_ok rfl ?_
  refine AOps.nil ?_
  refine V.seq ?_
  refine V.block ?_
  refine V.seq ?_
  refine V.region ?_
  iterate 6 refine AOps.q tt_ok rfl ?_
  refine AOps.nil ?_
  refine V.cH rfl H (fun H => ?_) (fun H => ?_)
  · refine V.seq ?_
    refine V.region ?_
    iterate 6 refine AOps.q tt_ok rfl ?_
    refine AOps.nil ?_
    subst H
    refine V.retP tt_ok rfl (ps := [(pbool (decide (a.kind < b.kind)))]) ⟨_, _, rfl, rfl, rfl⟩ (PLe.of_eq rfl)
  refine V.seq ?_
  refine V.region ?_
  iterate 6 refine AOps.q tt_ok rfl ?_
  refine AOps.nil ?_
  refine V.cH rfl H (fun H => ?_) (fun H => ?_)
  · refine V.seq ?_
    refine V.region ?_
    iterate 6 refine AOps.q tt_ok rfl ?_
    refine AOps.nil ?_
    subst H
    refine V.retP tt_ok rfl (ps := [(pbool (decide (a.int < b.int)))]) ⟨_, _, rfl, rfl, rfl⟩ (PLe.of_eq rfl)
  refine V.skip ?_
  refine V.blk ?_
  refine V.seq ?_
  refine V.region ?_
  iterate 6 refine AOps.q tt_ok rfl ?_
  refine AOps.nil ?_
  subst H
  refine V.retP tt_ok rfl (ps := [(pbool (Op.bytesLess a.text b.text))]) ⟨_, _, rfl, rfl, rfl⟩ (PLe.of_eq rfl)

noncomputable def L_slices_Equal_api_Row_api_Value (s1A : List LVal) (s2A : List LVal) : Option (Bool) :=
  cond ((s1A.length : Int) != (s2A.length : Int))
    (some false)
    (bindP (rangeM (σ := Unit) (ρ := (Bool)) (fun (j1 : Nat) (x1 : LVal) (_ : Unit) =>
      bindP (getI s2A (j1 : Int)) fun (x22 : LVal) =>
      cond (!(x1.kind == x22.kind && (x1.int == x22.int && (x1.text == x22.text && true))))
        (some (.ret false))
        (some (.next ()))) 0 s1A ()) fun fl1 => fl1.thenR fun (_ : Unit) =>
    some true)

set_option maxHeartbeats 4000000 in
theorem W_slices_Equal_api_Row_api_Value (s1A : List LVal) (s2A : List LVal) (r : Bool) (H : L_slices_Equal_api_Row_api_Value s1A s2A = some r) :
    PFun Tryz.prog 16 [(.list 47 (s1A.map encVal)), (.list 47 (s2A.map encVal))] (pbool r) := by
  unfold L_slices_Equal_api_Row_api_Value at H
  refine PCallsH.intro Tryz.func16 rfl Tryz.ntmps16 rfl ?_
  refine V.seq ?_
  refine V.region ?_
  refine AOps.q tt_ok rfl ?_
  refine AOps.nil ?_
  iterate 2 refine V.seq ?_
  refine V.region ?_
  refine AOps.q tt_ok rfl ?_
  refine AOps.lenL tt_ok rfl rfl rfl rfl rfl (List.length_map _) rfl ?_
  refine AOps.q tt_ok rfl ?_
  refine AOps.lenL tt_ok rfl rfl rfl rfl rfl (List.length_map _) rfl ?_
  refine AOps.q tt_ok rfl ?_
  refine AOps.nil ?_
  refine V.cH rfl H (fun H => ?_) (fun H => ?_)
  · refine V.seq ?_
    refine V.region ?_
    refine AOps.q tt_ok rfl ?_
    refine AOps.nil ?_
    obtain rfl := someE H
    refine V.retP tt_ok rfl (ps := [(pbool false)]) ⟨_, _, rfl, rfl, rfl⟩ (PLe.of_eq rfl)
  refine V.skip ?_
  iterate 2 refine V.seq ?_
  refine V.region ?_
  refine AOps.q tt_ok rfl ?_
  refine AOps.lenL tt_ok rfl rfl rfl rfl rfl (List.length_map _) rfl ?_
  refine AOps.q tt_ok rfl ?_
  refine AOps.nil ?_
  obtain ⟨fl1, H1, Hp1⟩ := bindE H
  refine V.lenF tt_ok 0 rfl rfl (fun hz1 _ => ?_)
  rw [List.length_map] at hz1
  refine V.cut (τ := Unit) (γ := Unit) (fun s1 g1 => ⟨26, fun _ => .any, fun _ => none, fun _ => none⟩) (fun t => fl1 = .next t) ?_ (fun s1 g1 hn1 => ?_)
  · refine V.block ?_
    refine V.rangeL (fun j1 s1 g1 => ⟨26, upd (upd (upd (upd (fun _ => .any) 13 (pint (j1 : Int))) 12 (pint (s1A.length : Int))) 1 (.list 47 (s2A.map encVal))) 0 (.list 47 (s1A.map encVal)), fun _ => none, fun _ => none⟩) () H1 (Gh.le (SLe.cons (PLe.of_eq rfl) (SLe.cons (PLe.of_eq rfl) (SLe.cons (PLe.of_eq rfl) (SLe.cons (PLe.of_eq rfl) SLe.nil)))) BLe.nil OLe.nil) (fun j1 s1 g1 hj1 hr1 => ?_)
    refine V.seq ?_
    refine V.region ?_
    refine AOps.q tt_ok rfl ?_
    refine AOps.nil ?_
    refine V.seq ?_
    refine V.cond rfl (fun h => ?_) (fun h => ?_)
    · have hl1 := rowsLt h
      obtain ⟨x1, fb1, hx1, H, hg1⟩ := rangeM_cons hl1 hr1
      refine V.skip ?_
      refine V.seq ?_
      refine V.block ?_
      refine V.seq ?_
      refine V.region ?_
      iterate 2 refine AOps.q tt_ok rfl ?_
      refine AOps.nil ?_
      refine V.seq ?_
      refine V.draw tt_ok mixed_ok ⟨false, false, []⟩ [0, 1, 2, 3, 4, 5, 6, 7, 8] rfl (by decide +kernel) rfl ?_
      iterate 2 refine DOps.q rfl ?_
      refine DOps.idx rfl rfl rfl rfl rfl rfl rfl (Int.natCast_nonneg j1) (rowsGet (fun _ => rfl) hx1) rfl ?_
      iterate 3 refine DOps.q rfl ?_
      obtain ⟨x22, k22, H⟩ := getE H
      refine DOps.idx rfl rfl rfl rfl rfl rfl rfl k22.1 (rowsGetI (fun _ => rfl) k22.2) rfl ?_
      iterate 2 refine DOps.q rfl ?_
      refine DOps.nil ?_
      refine V.cH rfl H (fun H => ?_) (fun H => ?_)
      · refine V.seq ?_
        refine V.region ?_
        refine AOps.q tt_ok rfl ?_
        refine AOps.nil ?_
        obtain rfl := someE H
        have e1 : fl1 = .ret _ := hg1
        subst e1
        obtain rfl := thenR_ret Hp1
        refine V.retP tt_ok rfl (ps := [(pbool false)]) ⟨_, _, rfl, rfl, rfl⟩ (PLe.of_eq rfl)
      refine V.skip ?_
      refine V.blk ?_
      refine V.region ?_
      iterate 2 refine AOps.q tt_ok rfl ?_
      refine AOps.nil ?_
      obtain rfl := someE H
      refine V.againL () () ⟨hl1, hg1⟩ (Gh.le (SLe.cons (PLe.of_eq rfl) (SLe.cons (PLe.of_eq rfl) (SLe.cons (PLe.of_eq rfl) (SLe.cons (PLe.of_eq (pint_succ (by omega))) SLe.nil)))) BLe.nil OLe.nil)
    have hn1 := rangeM_done (rowsGe h) hr1
    refine V.exit rfl ?_
    refine V.at s1 g1 hn1 (Gh.le SLe.nil BLe.nil OLe.nil)
  have H := thenR_next hn1 Hp1
  refine V.seq ?_
  refine V.region ?_
  refine AOps.q tt_ok rfl ?_
  refine AOps.nil ?_
  obtain rfl := someE H
  refine V.retP tt_ok rfl (ps := [(pbool true)]) ⟨_, _, rfl, rfl, rfl⟩ (PLe.of_eq rfl)

theorem grow_163 {m : Nat} {u : Unit} (n : Int) (h : growI 32 n = some u) : PCalls Tryz.prog 163 [.val (.slice none 0 0), pint n] (OwnR m 47 []) := by
  have hn := growI_some h
  have hw : IntKind.i64.wrap (n - IntKind.i64.wrap ((0 : Int) - 0)) = n := by
    have e0 : IntKind.i64.wrap ((0 : Int) - 0) = 0 := wrap_id (by omega) (by omega)
    rw [e0, Int.sub_zero, wrap_id (by omega) (by unfold maxLen at hn; omega)]
  refine PCallsH.intro Tryz.func163 rfl Tryz.ntmps163 rfl ?_
  refine V.seq ?_
  refine V.region ?_
  refine AOps.q tt_ok rfl ?_
  refine AOps.nil ?_
  iterate 2 refine V.seq ?_
  refine V.region ?_
  iterate 2 refine AOps.q tt_ok rfl ?_
  refine AOps.nil ?_
  refine V.cond rfl (fun h => ?_) (fun h => ?_)
  · exfalso; have := of_decide_eq_true h; omega
  refine V.skip ?_
  iterate 2 refine V.seq ?_
  refine V.region ?_
  iterate 2 refine AOps.q tt_ok rfl ?_
  refine AOps.capN tt_ok rfl rfl rfl rfl rfl rfl ?_
  iterate 4 refine AOps.q tt_ok rfl ?_
  refine AOps.cast 14 (q := pint n) rfl (PLe.of_eq (congrArg pint hw)) ?_
  refine AOps.q tt_ok rfl ?_
  refine AOps.nil ?_
  refine V.seq ?_
  refine V.region ?_
  iterate 2 refine AOps.q tt_ok rfl ?_
  refine AOps.nil ?_
  refine V.cond rfl (fun h => ?_) (fun h => ?_)
  · refine V.region ?_
    iterate 2 refine AOps.q tt_ok rfl ?_
    refine AOps.capN tt_ok rfl rfl rfl rfl rfl rfl ?_
    refine AOps.subN tt_ok rfl rfl rfl rfl rfl rfl rfl rfl ?_
    refine AOps.q tt_ok rfl ?_
    refine AOps.appendMakeN tt_ok rfl rfl rfl rfl rfl rfl rfl rfl rfl rfl rfl rfl rfl rfl rfl (of_decide_eq_true h) hn.2.1 hn.2.2 fun g => ?_
    iterate 2 refine AOps.q tt_ok rfl ?_
    refine AOps.cutO tt_ok rfl rfl rfl rfl rfl rfl rfl rfl rfl ⟨Int.le_refl 0, Nat.zero_le _⟩ rfl rfl rfl ?_
    refine AOps.q tt_ok rfl ?_
    refine AOps.nil ?_
    refine V.seq ?_
    refine V.region ?_
    iterate 2 refine AOps.q tt_ok rfl ?_
    refine AOps.nil ?_
    refine V.retO tt_ok rfl rfl rfl rfl rfl
  · refine V.skip ?_
    refine V.seq ?_
    refine V.region ?_
    iterate 2 refine AOps.q tt_ok rfl ?_
    refine AOps.nil ?_
    refine V.nilO tt_ok 4 904 (e := 47) rfl rfl ?_
    refine V.retO tt_ok rfl rfl rfl rfl rfl

end Go.Proofs.YtjnpnakcmjndiaaGreatDoor
/- Lifted functions: printed by lift.py. -/
namespace Go.Proofs.YtjnpnakcmjndiaaGreatDoor
open Go Go.Ab
attribute [local irreducible] V AOps DOps Gh Eff PCallsH IntKind.wrap
set_option maxRecDepth 4000

noncomputable def L_stemkeep3_JoinMergeOrder_1 (rA : List LVal) (c0 : LJoinalgoCondition) : Option ((List LVal) × Bool) :=
  bindP (rangeM (σ := List LVal) (ρ := ((List LVal) × Bool)) (fun (_ : Nat) (x1 : Int) (s1 : List LVal) =>
    bindP (
      cond (decide (x1 ≥ (rA.length : Int)))
        (some true)
        (bindP (getI rA x1) fun (x22 : LVal) =>
        some (x22.kind == (0 : Int)))) fun (t4 : Bool) =>
    cond t4
      (some (.ret ([], false)))
      (bindP (getI rA x1) fun (x30 : LVal) =>
      bindP (appI 32 s1 ([x30] : List LVal)) fun (x33 : List LVal) =>
      some (.next x33))) 0 c0.left []) fun fl1 => fl1.thenR fun (s1 : List LVal) =>
  some (s1, true)

set_option maxHeartbeats 4000000 in
theorem W_stemkeep3_JoinMergeOrder_1 (rA : List LVal) (c0 : LJoinalgoCondition) (r : (List LVal) × Bool) (H : L_stemkeep3_JoinMergeOrder_1 rA c0 = some r) :
    PFun Tryz.prog 18 [(.list 47 (rA.map encVal)), (.ptr (encJoinalgoCondition c0))] (.tup [(.list 47 (r.1.map encVal)), (pbool r.2)]) := by
  unfold L_stemkeep3_JoinMergeOrder_1 at H
  refine PCallsH.intro Tryz.func18 rfl Tryz.ntmps18 rfl ?_
  refine V.seq ?_
  refine V.region ?_
  iterate 2 refine AOps.q tt_ok rfl ?_
  refine AOps.nil ?_
  refine V.seq ?_
  refine V.region ?_
  refine AOps.q tt_ok rfl ?_
  refine AOps.nil ?_
  iterate 2 refine V.seq ?_
  refine V.region ?_
  iterate 2 refine AOps.q tt_ok rfl ?_
  refine AOps.lenL tt_ok rfl rfl rfl rfl rfl (List.length_map _) rfl ?_
  refine AOps.q tt_ok rfl ?_
  refine AOps.nil ?_
  obtain ⟨fl1, H1, Hp1⟩ := bindE H
  refine V.lenF tt_ok 9 rfl rfl (fun hz1 _ => ?_)
  rw [List.length_map] at hz1
  refine V.cut (τ := List LVal) (γ := OwnRef) (fun s1 g1 => ⟨36, upd (fun _ => .any) 5 (.own 33 g1 (s1.map encVal).length), fun _ => none, upd (fun _ => none) 33 (some ⟨g1, 47, (s1.map encVal), true⟩)⟩) (fun t => fl1 = .next t) ?_ (fun s1 g1 hn1 => ?_)
  · refine V.block ?_
    refine V.nilO tt_ok 5 33 (e := 47) rfl rfl ?_
    refine V.rangeL (fun j1 s1 g1 => ⟨36, upd (upd (upd (upd (upd (fun _ => .any) 11 (pint (j1 : Int))) 10 (pint (c0.left.length : Int))) 9 (.list 3 (c0.left.map rInt))) 5 (.own 33 g1 (s1.map encVal).length)) 0 (.list 47 (rA.map encVal)), fun _ => none, upd (fun _ => none) 33 (some ⟨g1, 47, (s1.map encVal), true⟩)⟩) (⟨none, 0⟩) H1 (Gh.le (SLe.cons (PLe.of_eq rfl) (SLe.cons (PLe.of_eq rfl) (SLe.cons (PLe.of_eq rfl) (SLe.cons (PLe.of_eq rfl) (SLe.cons (PLe.of_eq rfl) SLe.nil))))) BLe.nil (OLe.cons rfl OLe.nil)) (fun j1 s1 g1 hj1 hr1 => ?_)
    refine V.seq ?_
    refine V.region ?_
    refine AOps.q tt_ok rfl ?_
    refine AOps.nil ?_
    refine V.seq ?_
    refine V.cond rfl (fun h => ?_) (fun h => ?_)
    · have hl1 := rowsLt h
      obtain ⟨x1, fb1, hx1, H, hg1⟩ := rangeM_cons hl1 hr1
      refine V.skip ?_
      refine V.seq ?_
      refine V.block ?_
      refine V.seq ?_
      refine V.region ?_
      refine AOps.idx tt_ok rfl rfl rfl rfl rfl rfl (Int.natCast_nonneg j1) (rowsGet (fun _ => rfl) hx1) rfl ?_
      iterate 2 refine AOps.q tt_ok rfl ?_
      refine AOps.nil ?_
      iterate 2 refine V.seq ?_
      obtain ⟨fl4, H4, Hp4⟩ := bindE H
      refine V.cut (τ := Bool) (γ := Unit) (fun t4 g4 => ⟨36, upd (upd (upd (upd (upd (upd (upd (fun _ => .any) 26 (pbool t4)) 11 (pint (j1 : Int))) 10 (pint (c0.left.length : Int))) 9 (.list 3 (c0.left.map rInt))) 7 (pint x1)) 5 (.own 33 g1 (s1.map encVal).length)) 0 (.list 47 (rA.map encVal)), fun _ => none, upd (fun _ => none) 33 (some ⟨g1, 47, (s1.map encVal), true⟩)⟩) (fun t => t = fl4) ?_ (fun t4 g4 hn4 => ?_)
      · have H := H4
        refine V.region ?_
        iterate 2 refine AOps.q tt_ok rfl ?_
        refine AOps.lenL tt_ok rfl rfl rfl rfl rfl (List.length_map _) rfl ?_
        iterate 2 refine AOps.q tt_ok rfl ?_
        refine AOps.sH rfl rfl rfl H (fun H => ?_) (fun H => ?_)
        · refine AOps.q tt_ok rfl ?_
          iterate 6 refine AOps.q tt_ok rfl ?_
          refine AOps.nil ?_
          obtain rfl := someE H
          refine V.at true () rfl (Gh.le (SLe.cons (PLe.of_eq rfl) (SLe.cons (PLe.of_eq rfl) (SLe.cons (PLe.of_eq rfl) (SLe.cons (PLe.of_eq rfl) (SLe.cons (PLe.of_eq rfl) (SLe.cons (PLe.of_eq rfl) (SLe.cons (PLe.of_eq rfl) SLe.nil))))))) BLe.nil (OLe.cons rfl OLe.nil))
        iterate 2 refine AOps.q tt_ok rfl ?_
        obtain ⟨x22, k22, H⟩ := getE H
        refine AOps.idx tt_ok rfl rfl rfl rfl rfl rfl k22.1 (rowsGetI (fun _ => rfl) k22.2) rfl ?_
        iterate 4 refine AOps.q tt_ok rfl ?_
        refine AOps.nil ?_
        obtain rfl := someE H
        refine V.at (x22.kind == (0 : Int)) () rfl (Gh.le (SLe.cons (PLe.of_eq rfl) (SLe.cons (PLe.of_eq rfl) (SLe.cons (PLe.of_eq rfl) (SLe.cons (PLe.of_eq rfl) (SLe.cons (PLe.of_eq rfl) (SLe.cons (PLe.of_eq rfl) (SLe.cons (PLe.of_eq rfl) SLe.nil))))))) BLe.nil (OLe.cons rfl OLe.nil))
      subst hn4
      have H := Hp4
      refine V.cH rfl H (fun H => ?_) (fun H => ?_)
      · refine V.seq ?_
        refine V.region ?_
        iterate 2 refine AOps.q tt_ok rfl ?_
        refine AOps.nil ?_
        obtain rfl := someE H
        have e1 : fl1 = .ret _ := hg1
        subst e1
        obtain rfl := thenR_ret Hp1
        refine V.retP tt_ok rfl (ps := [(.val (.slice none 0 0)), (pbool false)]) ⟨_, _, rfl, rfl, _, _, rfl, rfl, rfl⟩ (PLe.of2 (PLe2.tup (PLe2All.cons (PLe2.nil tt_ok rfl) (PLe2All.cons (PLe2.of_eq rfl) PLe2All.nil))))
      refine V.skip ?_
      refine V.region ?_
      iterate 3 refine AOps.q tt_ok rfl ?_
      obtain ⟨x30, k30, H⟩ := getE H
      refine AOps.idx tt_ok rfl rfl rfl rfl rfl rfl k30.1 (rowsGetI (fun _ => rfl) k30.2) rfl ?_
      refine AOps.q tt_ok rfl ?_
      refine AOps.bsC tt_ok rfl rfl rfl rfl (rows' := List.map encVal ([x30] : List LVal)) rfl (PLe2Rows.refl _) rfl rfl ?_
      obtain ⟨x33, h33, H⟩ := bindE H
      have k33 := appI_some h33
      refine AOps.appendC (rows2' := List.map encVal ([x30] : List LVal)) (rows' := List.map encVal x33) tt_ok rfl rfl rfl rfl rfl rfl rfl rfl rfl rfl rfl rfl rfl (PLe2Rows.refl _) (appI_by k33.1) (appI_mx k33.2.1) (appI_eq k33.2.2) fun g33 => ?_
      refine AOps.q tt_ok rfl ?_
      refine AOps.nil ?_
      refine V.blk ?_
      refine V.region ?_
      iterate 2 refine AOps.q tt_ok rfl ?_
      refine AOps.nil ?_
      obtain rfl := someE H
      refine V.againL x33 g33 ⟨hl1, hg1⟩ (Gh.le (SLe.cons (PLe.of_eq rfl) (SLe.cons (PLe.of_eq rfl) (SLe.cons (PLe.of_eq rfl) (SLe.cons (PLe.of_eq rfl) (SLe.cons (PLe.of_eq (pint_succ (by omega))) SLe.nil))))) BLe.nil (OLe.cons rfl OLe.nil))
    have hn1 := rangeM_done (rowsGe h) hr1
    refine V.exit rfl ?_
    refine V.at s1 g1 hn1 (Gh.le (SLe.cons (PLe.of_eq rfl) SLe.nil) BLe.nil (OLe.cons rfl OLe.nil))
  have H := thenR_next hn1 Hp1
  refine V.seq ?_
  refine V.region ?_
  iterate 3 refine AOps.q tt_ok rfl ?_
  refine AOps.nil ?_
  obtain rfl := someE H
  refine V.freezeO 3 rfl rfl rfl ?_
  refine V.retP tt_ok rfl (ps := [(.list 47 (s1.map encVal)), (pbool true)]) ⟨_, _, rfl, rfl, _, _, rfl, rfl, rfl⟩ (PLe.of_eq rfl)

end Go.Proofs.YtjnpnakcmjndiaaGreatDoor
