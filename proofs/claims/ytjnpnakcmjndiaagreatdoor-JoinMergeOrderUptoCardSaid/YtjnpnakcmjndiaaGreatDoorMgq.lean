/- Lifted functions: printed by lift.py. -/
import Derived.Test.YtjnpnakcmjndiaaGreatDoorMgg
import Derived.Test.YtjnpnakcmjndiaaGreatDoorMgj
import Derived.Test.YtjnpnakcmjndiaaGreatDoorMgp
namespace Go.Proofs.YtjnpnakcmjndiaaGreatDoor
open Go Go.Ab
attribute [local irreducible] V AOps DOps Gh Eff PCallsH IntKind.wrap
set_option maxRecDepth 4000

noncomputable def L_slices_ContainsFunc_Lapi_Row_api_Row (sA : List (List LVal)) (f : (List LVal) → Option (Bool)) : Option (Bool) :=
  bindP (L_slices_IndexFunc_Lapi_Row_api_Row sA f) fun x7 =>
  some (decide (x7 ≥ (0 : Int)))

set_option maxHeartbeats 4000000 in
theorem W_slices_ContainsFunc_Lapi_Row_api_Row {g_f : FuncId} {caps_f : List PV} (sA : List (List LVal)) (f : (List LVal) → Option (Bool)) (hg_f : ∀ (vs : Array Value) (w : World), (callFunc g_f vs).run Tryz.prog w = .ok (.enter g_f vs) w) (hp_f : ∀ a0 r, f a0 = some r → PFun Tryz.prog g_f ((.list 47 (a0.map encVal)) :: caps_f) (pbool r)) (r : Bool) (H : L_slices_ContainsFunc_Lapi_Row_api_Row sA f = some r) :
    PFun Tryz.prog 61 [(.list 44 (sA.map (rList 47 encVal))), (.fn g_f caps_f)] (pbool r) := by
  unfold L_slices_ContainsFunc_Lapi_Row_api_Row at H
  refine PCallsH.intro Tryz.func61 rfl Tryz.ntmps61 rfl ?_
  refine V.seq ?_
  refine V.region ?_
  refine AOps.q tt_ok rfl ?_
  refine AOps.nil ?_
  refine V.seq ?_
  refine V.region ?_
  iterate 2 refine AOps.q tt_ok rfl ?_
  obtain ⟨x7, h7, H⟩ := bindE H
  have s7 := W_slices_IndexFunc_Lapi_Row_api_Row sA f hg_f hp_f _ h7
  refine AOps.callP (g := 123) rfl rfl rfl Tryz.call123 (PLeAll.refl _ _) s7 rfl ?_
  iterate 2 refine AOps.q tt_ok rfl ?_
  refine AOps.nil ?_
  obtain rfl := someE H
  refine V.retP tt_ok rfl (ps := [(pbool (decide (x7 ≥ (0 : Int))))]) ⟨_, _, rfl, rfl, rfl⟩ (PLe.of_eq rfl)
theorem N_L_slices_ContainsFunc_Lapi_Row_api_Row (xs : List (List LVal)) (q : (List LVal) → Bool) : L_slices_ContainsFunc_Lapi_Row_api_Row xs (fun a => some (q a)) = some (xs.any q) := by
  unfold L_slices_ContainsFunc_Lapi_Row_api_Row
  rw [N_L_slices_IndexFunc_Lapi_Row_api_Row, bindP_some, idxOf_any]

noncomputable def L_slices_rotateCmpFunc_joinalgo_one (data : List LJoinalgoOne) (a : Int) (m : Int) (b : Int) (cmp : LJoinalgoOne → LJoinalgoOne → Option (Int)) : Option ((List LJoinalgoOne)) :=
  bindP (whileM (σ := List LJoinalgoOne × Int × Int) (ρ := Empty) (fun (s1 : List LJoinalgoOne × Int × Int) =>
    cond (s1.2.1 != s1.2.2)
      (cond (decide (s1.2.1 > s1.2.2))
        (bindP (L_slices_swapRangeCmpFunc_joinalgo_one s1.1 (IntKind.i64.wrap (m - s1.2.1)) m s1.2.2 cmp) fun x31 =>
        bindP (guardO (x31.length = s1.1.length) ()) fun (_ : Unit) =>
        some (.next (x31, (IntKind.i64.wrap (s1.2.1 - s1.2.2)), s1.2.2)))
        (bindP (L_slices_swapRangeCmpFunc_joinalgo_one s1.1 (IntKind.i64.wrap (m - s1.2.1)) (IntKind.i64.wrap ((IntKind.i64.wrap (m + s1.2.2)) - s1.2.1)) s1.2.1 cmp) fun x46 =>
        bindP (guardO (x46.length = s1.1.length) ()) fun (_ : Unit) =>
        some (.next (x46, s1.2.1, (IntKind.i64.wrap (s1.2.2 - s1.2.1))))))
      (some (.brk (s1.1, s1.2.1, s1.2.2)))) (data, (IntKind.i64.wrap (m - a)), (IntKind.i64.wrap (b - m)))) fun fl1 => fl1.thenP fun (s1 : List LJoinalgoOne × Int × Int) =>
  bindP (L_slices_swapRangeCmpFunc_joinalgo_one s1.1 (IntKind.i64.wrap (m - s1.2.1)) m s1.2.1 cmp) fun x57 =>
  bindP (guardO (x57.length = s1.1.length) ()) fun (_ : Unit) =>
  some x57

set_option maxHeartbeats 4000000 in
theorem W_slices_rotateCmpFunc_joinalgo_one (g_data : OwnRef) {g_cmp : FuncId} {caps_cmp : List PV} (data : List LJoinalgoOne) (a : Int) (m : Int) (b : Int) (cmp : LJoinalgoOne → LJoinalgoOne → Option (Int)) (hg_cmp : ∀ (vs : Array Value) (w : World), (callFunc g_cmp vs).run Tryz.prog w = .ok (.enter g_cmp vs) w) (hp_cmp : ∀ a0 a1 r, cmp a0 a1 = some r → PFun Tryz.prog g_cmp ((.agg (encJoinalgoOne a0)) :: (.agg (encJoinalgoOne a1)) :: caps_cmp) (pint r)) (r : (List LJoinalgoOne)) (H : L_slices_rotateCmpFunc_joinalgo_one data a m b cmp = some r) :
    PCallsH Tryz.prog 262 [(.own 0 g_data (data.map encJoinalgoOne).length), (pint a), (pint m), (pint b), (.fn g_cmp caps_cmp)] ⟨fun _ => none, upd (fun _ => none) 0 (some ⟨g_data, 119, (data.map encJoinalgoOne), true⟩)⟩ (fun u H => u = (.tup []) ∧ H = ⟨fun _ => none, upd (fun _ => none) 0 (some ⟨g_data, 119, (r.map encJoinalgoOne), true⟩)⟩) := by
  unfold L_slices_rotateCmpFunc_joinalgo_one at H
  refine PCallsH.intro Tryz.func262 rfl Tryz.ntmps262 rfl ?_
  refine V.seq ?_
  refine V.region ?_
  iterate 4 refine AOps.q tt_ok rfl ?_
  refine AOps.nil ?_
  refine V.seq ?_
  refine V.region ?_
  iterate 4 refine AOps.q tt_ok rfl ?_
  refine AOps.nil ?_
  refine V.seq ?_
  obtain ⟨fl1, H1, Hp1⟩ := bindE H
  refine V.cut (τ := List LJoinalgoOne × Int × Int) (γ := Unit) (fun s1 g1 => ⟨58, upd (upd (upd (upd (fun _ => .any) 10 (pint s1.2.1)) 4 (.fn g_cmp caps_cmp)) 2 (pint m)) 0 (.own 0 g_data (s1.1.map encJoinalgoOne).length), fun _ => none, upd (fun _ => none) 0 (some ⟨g_data, 119, (s1.1.map encJoinalgoOne), true⟩)⟩) (fun t => fl1 = .next t) ?_ (fun s1 g1 hn1 => ?_)
  · refine V.block ?_
    refine V.whileL (fun s1 g1 => ⟨58, upd (upd (upd (upd (upd (fun _ => .any) 11 (pint s1.2.2)) 10 (pint s1.2.1)) 4 (.fn g_cmp caps_cmp)) 2 (pint m)) 0 (.own 0 g_data (s1.1.map encJoinalgoOne).length), fun _ => none, upd (fun _ => none) 0 (some ⟨g_data, 119, (s1.1.map encJoinalgoOne), true⟩)⟩) () H1 (Gh.le (SLe.cons (PLe.of_eq rfl) (SLe.cons (PLe.of_eq rfl) (SLe.cons (PLe.of_eq rfl) (SLe.cons (PLe.of_eq rfl) (SLe.cons (PLe.of_eq rfl) SLe.nil))))) BLe.nil (OLe.cons rfl OLe.nil)) (fun m1 s1 g1 hr1 => ?_)
    obtain ⟨fb1, H, hg1⟩ := iterM_cons hr1
    iterate 2 refine V.seq ?_
    refine V.region ?_
    iterate 3 refine AOps.q tt_ok rfl ?_
    refine AOps.nil ?_
    refine V.cH rfl H (fun H => ?_) (fun H => ?_)
    · refine V.skip ?_
      refine V.block ?_
      refine V.seq ?_
      refine V.region ?_
      iterate 3 refine AOps.q tt_ok rfl ?_
      refine AOps.nil ?_
      refine V.cH rfl H (fun H => ?_) (fun H => ?_)
      · refine V.seq ?_
        refine V.region ?_
        iterate 7 refine AOps.q tt_ok rfl ?_
        obtain ⟨x31, h31, H⟩ := bindE H
        have s31 := W_slices_swapRangeCmpFunc_joinalgo_one g_data s1.1 (IntKind.i64.wrap (m - s1.2.1)) m s1.2.2 cmp hg_cmp hp_cmp _ h31
        obtain ⟨_, q31_0, H⟩ := bindE H
        have l31_0 := (guardO_some q31_0).1
        have z31_0 : (List.map encJoinalgoOne s1.1).length = (List.map encJoinalgoOne x31).length := by simpa using (l31_0).symm
        refine AOps.callH (g := 291) rfl rfl rfl Tryz.call291 [] [(0, 0)] rfl rfl rfl rfl (PLeAll.of2 (PLe2All.cons (PLe2.own rfl) (PLe2All.cons (PLe2.of_eq rfl) (PLe2All.cons (PLe2.of_eq rfl) (PLe2All.cons (PLe2.of_eq rfl) (PLe2All.cons (PLe2.of_eq rfl) PLe2All.nil)))))) (by rw [giveB_nil, giveO_cons, giveO_nil]; rfl) s31 ?_
        rintro u31 H31h ⟨rfl, rfl⟩
        refine ⟨_, rfl, ?_⟩
        refine AOps.gh (st' := ⟨_, _, fun _ => none, upd (fun _ => none) 0 (some ⟨g_data, 119, (x31.map encJoinalgoOne), true⟩)⟩) (Gh.le (SLe.refl _ _) BLe.nil (OLe.cons rfl OLe.nil)) ?_
        refine AOps.nil ?_
        refine V.region ?_
        iterate 4 refine AOps.q tt_ok rfl ?_
        refine AOps.nil ?_
        refine V.blk ?_
        obtain rfl := someE H
        refine V.againL (x31, (IntKind.i64.wrap (s1.2.1 - s1.2.2)), s1.2.2) () hg1 (Gh.le (SLe.cons (PLe.of2 (PLe2.of_eq (congrArg (PV.own 0 g_data) z31_0))) (SLe.cons (PLe.of_eq rfl) (SLe.cons (PLe.of_eq rfl) (SLe.cons (PLe.of_eq rfl) (SLe.cons (PLe.of_eq rfl) SLe.nil))))) BLe.nil (OLe.cons rfl OLe.nil))
      refine V.seq ?_
      refine V.region ?_
      iterate 11 refine AOps.q tt_ok rfl ?_
      obtain ⟨x46, h46, H⟩ := bindE H
      have s46 := W_slices_swapRangeCmpFunc_joinalgo_one g_data s1.1 (IntKind.i64.wrap (m - s1.2.1)) (IntKind.i64.wrap ((IntKind.i64.wrap (m + s1.2.2)) - s1.2.1)) s1.2.1 cmp hg_cmp hp_cmp _ h46
      obtain ⟨_, q46_0, H⟩ := bindE H
      have l46_0 := (guardO_some q46_0).1
      have z46_0 : (List.map encJoinalgoOne s1.1).length = (List.map encJoinalgoOne x46).length := by simpa using (l46_0).symm
      refine AOps.callH (g := 291) rfl rfl rfl Tryz.call291 [] [(0, 0)] rfl rfl rfl rfl (PLeAll.of2 (PLe2All.cons (PLe2.own rfl) (PLe2All.cons (PLe2.of_eq rfl) (PLe2All.cons (PLe2.of_eq rfl) (PLe2All.cons (PLe2.of_eq rfl) (PLe2All.cons (PLe2.of_eq rfl) PLe2All.nil)))))) (by rw [giveB_nil, giveO_cons, giveO_nil]; rfl) s46 ?_
      rintro u46 H46h ⟨rfl, rfl⟩
      refine ⟨_, rfl, ?_⟩
      refine AOps.gh (st' := ⟨_, _, fun _ => none, upd (fun _ => none) 0 (some ⟨g_data, 119, (x46.map encJoinalgoOne), true⟩)⟩) (Gh.le (SLe.refl _ _) BLe.nil (OLe.cons rfl OLe.nil)) ?_
      refine AOps.nil ?_
      refine V.region ?_
      iterate 4 refine AOps.q tt_ok rfl ?_
      refine AOps.nil ?_
      refine V.blk ?_
      obtain rfl := someE H
      refine V.againL (x46, s1.2.1, (IntKind.i64.wrap (s1.2.2 - s1.2.1))) () hg1 (Gh.le (SLe.cons (PLe.of2 (PLe2.of_eq (congrArg (PV.own 0 g_data) z46_0))) (SLe.cons (PLe.of_eq rfl) (SLe.cons (PLe.of_eq rfl) (SLe.cons (PLe.of_eq rfl) (SLe.cons (PLe.of_eq rfl) SLe.nil))))) BLe.nil (OLe.cons rfl OLe.nil))
    refine V.exit rfl ?_
    obtain rfl := someE H
    refine V.at (s1.1, s1.2.1, s1.2.2) () hg1 (Gh.le (SLe.cons (PLe.of_eq rfl) (SLe.cons (PLe.of_eq rfl) (SLe.cons (PLe.of_eq rfl) (SLe.cons (PLe.of_eq rfl) SLe.nil)))) BLe.nil (OLe.cons rfl OLe.nil))
  have H := thenP_next hn1 Hp1
  refine V.region ?_
  iterate 7 refine AOps.q tt_ok rfl ?_
  obtain ⟨x57, h57, H⟩ := bindE H
  have s57 := W_slices_swapRangeCmpFunc_joinalgo_one g_data s1.1 (IntKind.i64.wrap (m - s1.2.1)) m s1.2.1 cmp hg_cmp hp_cmp _ h57
  obtain ⟨_, q57_0, H⟩ := bindE H
  have l57_0 := (guardO_some q57_0).1
  have z57_0 : (List.map encJoinalgoOne s1.1).length = (List.map encJoinalgoOne x57).length := by simpa using (l57_0).symm
  refine AOps.callH (g := 291) rfl rfl rfl Tryz.call291 [] [(0, 0)] rfl rfl rfl rfl (PLeAll.of2 (PLe2All.cons (PLe2.own rfl) (PLe2All.cons (PLe2.of_eq rfl) (PLe2All.cons (PLe2.of_eq rfl) (PLe2All.cons (PLe2.of_eq rfl) (PLe2All.cons (PLe2.of_eq rfl) PLe2All.nil)))))) (by rw [giveB_nil, giveO_cons, giveO_nil]; rfl) s57 ?_
  rintro u57 H57h ⟨rfl, rfl⟩
  refine ⟨_, rfl, ?_⟩
  refine AOps.gh (st' := ⟨_, _, fun _ => none, upd (fun _ => none) 0 (some ⟨g_data, 119, (x57.map encJoinalgoOne), true⟩)⟩) (Gh.le (SLe.refl _ _) BLe.nil (OLe.cons rfl OLe.nil)) ?_
  refine AOps.nil ?_
  obtain rfl := someE H
  refine V.gh (st' := ⟨58, fun _ => .any, fun _ => none, upd (fun _ => none) 0 (some ⟨g_data, 119, (x57.map encJoinalgoOne), true⟩)⟩) (Gh.le SLe.nil BLe.nil (OLe.cons rfl OLe.nil)) ?_
  refine V.endH rfl (PLe.of_eq rfl) ⟨rfl, rfl⟩

noncomputable def L_query_CompareRows (a : List LVal) (b : List LVal) (downs : List Bool) : Option (Int) :=
  bindP (rangeM (σ := Unit) (ρ := (Int)) (fun (j1 : Nat) (x1 : LVal) (_ : Unit) =>
    bindP (
      cond (decide ((j1 : Int) ≥ (b.length : Int)))
        (some true)
        (bindP (getI b (j1 : Int)) fun (x25 : LVal) =>
        some (x1.kind == x25.kind && (x1.int == x25.int && (x1.text == x25.text && true))))) fun (t3 : Bool) =>
    cond t3
      (some (.next ()))
      (bindP (getI b (j1 : Int)) fun (x35 : LVal) =>
      letP (L_expr_Less x1 x35) fun x37 =>
      cond (decide ((j1 : Int) < (downs.length : Int)))
        (bindP (getI downs (j1 : Int)) fun (x45 : Bool) =>
        cond x45
          (cond (!x37)
            (some (.ret (-1)))
            (some (.ret 1)))
          (cond x37
            (some (.ret (-1)))
            (some (.ret 1))))
        (cond x37
          (some (.ret (-1)))
          (some (.ret 1))))) 0 a ()) fun fl1 => fl1.thenR fun (_ : Unit) =>
  some 0

set_option maxHeartbeats 4000000 in
theorem W_query_CompareRows (a : List LVal) (b : List LVal) (downs : List Bool) (r : Int) (H : L_query_CompareRows a b downs = some r) :
    PFun Tryz.prog 19 [(.list 47 (a.map encVal)), (.list 47 (b.map encVal)), (.list 4 (downs.map rBool))] (pint r) := by
  unfold L_query_CompareRows at H
  refine PCallsH.intro Tryz.func19 rfl Tryz.ntmps19 rfl ?_
  refine V.seq ?_
  refine V.region ?_
  refine AOps.q tt_ok rfl ?_
  refine AOps.nil ?_
  iterate 2 refine V.seq ?_
  refine V.region ?_
  refine AOps.q tt_ok rfl ?_
  refine AOps.lenL tt_ok rfl rfl rfl rfl rfl (List.length_map _) rfl ?_
  refine AOps.q tt_ok rfl ?_
  refine AOps.nil ?_
  obtain ⟨fl1, H1, Hp1⟩ := bindE H
  refine V.lenF tt_ok 0 rfl rfl (fun hz1 _ => ?_)
  rw [List.length_map] at hz1
  refine V.cut (τ := Unit) (γ := Unit) (fun s1 g1 => ⟨52, fun _ => .any, fun _ => none, fun _ => none⟩) (fun t => fl1 = .next t) ?_ (fun s1 g1 hn1 => ?_)
  · refine V.block ?_
    refine V.rangeL (fun j1 s1 g1 => ⟨52, upd (upd (upd (upd (upd (fun _ => .any) 11 (pint (j1 : Int))) 10 (pint (a.length : Int))) 2 (.list 4 (downs.map rBool))) 1 (.list 47 (b.map encVal))) 0 (.list 47 (a.map encVal)), fun _ => none, fun _ => none⟩) () H1 (Gh.le (SLe.cons (PLe.of_eq rfl) (SLe.cons (PLe.of_eq rfl) (SLe.cons (PLe.of_eq rfl) (SLe.cons (PLe.of_eq rfl) (SLe.cons (PLe.of_eq rfl) SLe.nil))))) BLe.nil OLe.nil) (fun j1 s1 g1 hj1 hr1 => ?_)
    refine V.seq ?_
    refine V.region ?_
    refine AOps.q tt_ok rfl ?_
    refine AOps.nil ?_
    refine V.seq ?_
    refine V.cond rfl (fun h => ?_) (fun h => ?_)
    · have hl1 := rowsLt h
      obtain ⟨x1, fb1, hx1, H, hg1⟩ := rangeM_cons hl1 hr1
      refine V.skip ?_
      refine V.seq ?_
      refine V.block ?_
      refine V.seq ?_
      refine V.region ?_
      iterate 2 refine AOps.q tt_ok rfl ?_
      refine AOps.nil ?_
      iterate 2 refine V.seq ?_
      obtain ⟨fl3, H3, Hp3⟩ := bindE H
      refine V.cut (τ := Bool) (γ := Unit) (fun t3 g3 => ⟨52, upd (upd (upd (upd (upd (upd (upd (fun _ => .any) 28 (pbool t3)) 11 (pint (j1 : Int))) 10 (pint (a.length : Int))) 7 (pint (j1 : Int))) 2 (.list 4 (downs.map rBool))) 1 (.list 47 (b.map encVal))) 0 (.list 47 (a.map encVal)), fun _ => none, fun _ => none⟩) (fun t => t = fl3) ?_ (fun t3 g3 hn3 => ?_)
      · have H := H3
        refine V.draw tt_ok mixed_ok ⟨false, false, []⟩ [0, 1, 2, 3, 4, 5, 6, 7, 8, 9, 10, 11, 12, 13, 14] rfl (by decide +kernel) rfl ?_
        iterate 2 refine DOps.q rfl ?_
        refine DOps.lenL rfl rfl rfl rfl rfl rfl (List.length_map _) rfl ?_
        iterate 2 refine DOps.q rfl ?_
        refine DOps.sH rfl rfl rfl rfl H (fun H => ?_) (fun H => ?_)
        · refine DOps.q rfl ?_
          iterate 9 refine DOps.q rfl ?_
          refine DOps.nil ?_
          obtain rfl := someE H
          refine V.at true () rfl (Gh.le (SLe.cons (PLe.of_eq rfl) (SLe.cons (PLe.of_eq rfl) (SLe.cons (PLe.of_eq rfl) (SLe.cons (PLe.of_eq rfl) (SLe.cons (PLe.of_eq rfl) (SLe.cons (PLe.of_eq rfl) (SLe.cons (PLe.of_eq rfl) SLe.nil))))))) BLe.nil OLe.nil)
        iterate 2 refine DOps.q rfl ?_
        refine DOps.idx rfl rfl rfl rfl rfl rfl rfl (Int.natCast_nonneg j1) (rowsGet (fun _ => rfl) hx1) rfl ?_
        iterate 3 refine DOps.q rfl ?_
        obtain ⟨x25, k25, H⟩ := getE H
        refine DOps.idx rfl rfl rfl rfl rfl rfl rfl k25.1 (rowsGetI (fun _ => rfl) k25.2) rfl ?_
        iterate 3 refine DOps.q rfl ?_
        refine DOps.nil ?_
        obtain rfl := someE H
        refine V.at (x1.kind == x25.kind && (x1.int == x25.int && (x1.text == x25.text && true))) () rfl (Gh.le (SLe.cons (PLe.of_eq rfl) (SLe.cons (PLe.of_eq rfl) (SLe.cons (PLe.of_eq rfl) (SLe.cons (PLe.of_eq rfl) (SLe.cons (PLe.of_eq rfl) (SLe.cons (PLe.of_eq rfl) (SLe.cons (PLe.of_eq rfl) SLe.nil))))))) BLe.nil OLe.nil)
      subst hn3
      have H := Hp3
      refine V.cH rfl H (fun H => ?_) (fun H => ?_)
      · refine V.exit rfl ?_
        refine V.region ?_
        iterate 2 refine AOps.q tt_ok rfl ?_
        refine AOps.nil ?_
        obtain rfl := someE H
        refine V.againL () () ⟨hl1, hg1⟩ (Gh.le (SLe.cons (PLe.of_eq rfl) (SLe.cons (PLe.of_eq rfl) (SLe.cons (PLe.of_eq rfl) (SLe.cons (PLe.of_eq rfl) (SLe.cons (PLe.of_eq (pint_succ (by omega))) SLe.nil))))) BLe.nil OLe.nil)
      refine V.skip ?_
      refine V.seq ?_
      refine V.draw tt_ok mixed_ok ⟨false, false, []⟩ [0, 1, 2, 3, 4, 5, 6, 7, 8, 9] rfl (by decide +kernel) rfl ?_
      iterate 2 refine DOps.q rfl ?_
      refine DOps.idx rfl rfl rfl rfl rfl rfl rfl (Int.natCast_nonneg j1) (rowsGet (fun _ => rfl) hx1) rfl ?_
      iterate 3 refine DOps.q rfl ?_
      obtain ⟨x35, k35, H⟩ := getE H
      refine DOps.idx rfl rfl rfl rfl rfl rfl rfl k35.1 (rowsGetI (fun _ => rfl) k35.2) rfl ?_
      refine DOps.q rfl ?_
      obtain ⟨x37, h37, H⟩ := letE H
      have s37 := W_expr_Less x1 x35
      rw [h37] at s37
      refine DOps.callP (g := 51) rfl rfl rfl rfl Tryz.call51 (PLeAll.refl _ _) s37 rfl ?_
      refine DOps.q rfl ?_
      refine DOps.nil ?_
      iterate 2 refine V.seq ?_
      refine V.region ?_
      iterate 2 refine AOps.q tt_ok rfl ?_
      refine AOps.lenL tt_ok rfl rfl rfl rfl rfl (List.length_map _) rfl ?_
      iterate 2 refine AOps.q tt_ok rfl ?_
      refine AOps.sH rfl rfl rfl H (fun H => ?_) (fun H => ?_)
      · refine AOps.q tt_ok rfl ?_
        refine AOps.q tt_ok rfl ?_
        obtain ⟨x45, k45, H⟩ := getE H
        refine AOps.idx tt_ok rfl rfl rfl rfl rfl rfl k45.1 (rowsGetI (fun _ => rfl) k45.2) rfl ?_
        iterate 2 refine AOps.q tt_ok rfl ?_
        refine AOps.nil ?_
        refine V.cH rfl H (fun H => ?_) (fun H => ?_)
        · refine V.region ?_
          iterate 3 refine AOps.q tt_ok rfl ?_
          refine AOps.nil ?_
          iterate 2 refine V.seq ?_
          refine V.region ?_
          refine AOps.q tt_ok rfl ?_
          refine AOps.nil ?_
          refine V.cH rfl H (fun H => ?_) (fun H => ?_)
          · refine V.seq ?_
            refine V.region ?_
            refine AOps.q tt_ok rfl ?_
            refine AOps.nil ?_
            obtain rfl := someE H
            have e1 : fl1 = .ret _ := hg1
            subst e1
            obtain rfl := thenR_ret Hp1
            refine V.retP tt_ok rfl (ps := [(pint (-1))]) ⟨_, _, rfl, rfl, rfl⟩ (PLe.of_eq rfl)
          refine V.skip ?_
          refine V.seq ?_
          refine V.region ?_
          refine AOps.q tt_ok rfl ?_
          refine AOps.nil ?_
          obtain rfl := someE H
          have e1 : fl1 = .ret _ := hg1
          subst e1
          obtain rfl := thenR_ret Hp1
          refine V.retP tt_ok rfl (ps := [(pint 1)]) ⟨_, _, rfl, rfl, rfl⟩ (PLe.of_eq rfl)
        refine V.skip ?_
        iterate 2 refine V.seq ?_
        refine V.region ?_
        refine AOps.q tt_ok rfl ?_
        refine AOps.nil ?_
        refine V.cH rfl H (fun H => ?_) (fun H => ?_)
        · refine V.seq ?_
          refine V.region ?_
          refine AOps.q tt_ok rfl ?_
          refine AOps.nil ?_
          obtain rfl := someE H
          have e1 : fl1 = .ret _ := hg1
          subst e1
          obtain rfl := thenR_ret Hp1
          refine V.retP tt_ok rfl (ps := [(pint (-1))]) ⟨_, _, rfl, rfl, rfl⟩ (PLe.of_eq rfl)
        refine V.skip ?_
        refine V.seq ?_
        refine V.region ?_
        refine AOps.q tt_ok rfl ?_
        refine AOps.nil ?_
        obtain rfl := someE H
        have e1 : fl1 = .ret _ := hg1
        subst e1
        obtain rfl := thenR_ret Hp1
        refine V.retP tt_ok rfl (ps := [(pint 1)]) ⟨_, _, rfl, rfl, rfl⟩ (PLe.of_eq rfl)
      iterate 5 refine AOps.q tt_ok rfl ?_
      refine AOps.nil ?_
      refine V.condF rfl ?_
      refine V.skip ?_
      iterate 2 refine V.seq ?_
      refine V.region ?_
      refine AOps.q tt_ok rfl ?_
      refine AOps.nil ?_
      refine V.cH rfl H (fun H => ?_) (fun H => ?_)
      · refine V.seq ?_
        refine V.region ?_
        refine AOps.q tt_ok rfl ?_
        refine AOps.nil ?_
        obtain rfl := someE H
        have e1 : fl1 = .ret _ := hg1
        subst e1
        obtain rfl := thenR_ret Hp1
        refine V.retP tt_ok rfl (ps := [(pint (-1))]) ⟨_, _, rfl, rfl, rfl⟩ (PLe.of_eq rfl)
      refine V.skip ?_
      refine V.seq ?_
      refine V.region ?_
      refine AOps.q tt_ok rfl ?_
      refine AOps.nil ?_
      obtain rfl := someE H
      have e1 : fl1 = .ret _ := hg1
      subst e1
      obtain rfl := thenR_ret Hp1
      refine V.retP tt_ok rfl (ps := [(pint 1)]) ⟨_, _, rfl, rfl, rfl⟩ (PLe.of_eq rfl)
    have hn1 := rangeM_done (rowsGe h) hr1
    refine V.exit rfl ?_
    refine V.at s1 g1 hn1 (Gh.le SLe.nil BLe.nil OLe.nil)
  have H := thenR_next hn1 Hp1
  refine V.seq ?_
  refine V.region ?_
  refine AOps.q tt_ok rfl ?_
  refine AOps.nil ?_
  obtain rfl := someE H
  refine V.retP tt_ok rfl (ps := [(pint 0)]) ⟨_, _, rfl, rfl, rfl⟩ (PLe.of_eq rfl)

noncomputable def L_slices_Concat_api_Row_api_Value (slices : List (List LVal)) : Option ((List LVal)) :=
  bindP (rangeM (σ := Int) (ρ := Empty) (fun (_ : Nat) (x1 : List LVal) (s1 : Int) =>
    cond (decide ((IntKind.i64.wrap (s1 + (x1.length : Int))) < (0 : Int)))
      (none)
      (some (.next (IntKind.i64.wrap (s1 + (x1.length : Int)))))) 0 slices 0) fun fl1 => fl1.thenP fun (s1 : Int) =>
  bindP (growI 32 s1) fun (_ : Unit) =>
  bindP (rangeM (σ := List LVal) (ρ := Empty) (fun (_ : Nat) (x2 : List LVal) (s2 : List LVal) =>
    bindP (appI 32 s2 x2) fun (x33 : List LVal) =>
    some (.next x33)) 0 slices []) fun fl2 => fl2.thenP fun (s2 : List LVal) =>
  some s2

set_option maxHeartbeats 4000000 in
theorem W_slices_Concat_api_Row_api_Value {m : Nat} (slices : List (List LVal)) (r : (List LVal)) (H : L_slices_Concat_api_Row_api_Value slices = some r) :
    PCalls Tryz.prog 113 [(.list 44 (slices.map (rList 47 encVal)))] (OwnR m 47 (r.map encVal)) := by
  unfold L_slices_Concat_api_Row_api_Value at H
  refine PCallsH.intro Tryz.func113 rfl Tryz.ntmps113 rfl ?_
  refine V.seq ?_
  refine V.region ?_
  refine AOps.q tt_ok rfl ?_
  refine AOps.nil ?_
  refine V.seq ?_
  refine V.region ?_
  refine AOps.q tt_ok rfl ?_
  refine AOps.nil ?_
  iterate 2 refine V.seq ?_
  refine V.region ?_
  refine AOps.q tt_ok rfl ?_
  refine AOps.lenL tt_ok rfl rfl rfl rfl rfl (List.length_map _) rfl ?_
  refine AOps.q tt_ok rfl ?_
  refine AOps.nil ?_
  obtain ⟨fl1, H1, Hp1⟩ := bindE H
  refine V.lenF tt_ok 9 rfl rfl (fun hz1 _ => ?_)
  rw [List.length_map] at hz1
  refine V.cut (τ := Int) (γ := Unit) (fun s1 g1 => ⟨36, upd (upd (fun _ => .any) 3 (pint s1)) 0 (.list 44 (slices.map (rList 47 encVal))), fun _ => none, fun _ => none⟩) (fun t => fl1 = .next t) ?_ (fun s1 g1 hn1 => ?_)
  · refine V.block ?_
    refine V.rangeL (fun j1 s1 g1 => ⟨36, upd (upd (upd (upd (upd (fun _ => .any) 11 (pint (j1 : Int))) 10 (pint (slices.length : Int))) 9 (.list 44 (slices.map (rList 47 encVal)))) 3 (pint s1)) 0 (.list 44 (slices.map (rList 47 encVal))), fun _ => none, fun _ => none⟩) () H1 (Gh.le (SLe.cons (PLe.of_eq rfl) (SLe.cons (PLe.of_eq rfl) (SLe.cons (PLe.of_eq rfl) (SLe.cons (PLe.of_eq rfl) (SLe.cons (PLe.of_eq rfl) SLe.nil))))) BLe.nil OLe.nil) (fun j1 s1 g1 hj1 hr1 => ?_)
    refine V.seq ?_
    refine V.region ?_
    refine AOps.q tt_ok rfl ?_
    refine AOps.nil ?_
    refine V.seq ?_
    refine V.cond rfl (fun h => ?_) (fun h => ?_)
    · have hl1 := rowsLt h
      obtain ⟨x1, fb1, hx1, H, hg1⟩ := rangeM_cons hl1 hr1
      refine V.skip ?_
      refine V.seq ?_
      refine V.block ?_
      refine V.seq ?_
      refine V.region ?_
      refine AOps.idx tt_ok rfl rfl rfl rfl rfl rfl (Int.natCast_nonneg j1) (rowsGet (fun _ => rfl) hx1) rfl ?_
      iterate 2 refine AOps.q tt_ok rfl ?_
      refine AOps.nil ?_
      refine V.seq ?_
      refine V.region ?_
      iterate 2 refine AOps.q tt_ok rfl ?_
      refine AOps.lenL tt_ok rfl rfl rfl rfl rfl (List.length_map _) rfl ?_
      iterate 2 refine AOps.q tt_ok rfl ?_
      refine AOps.nil ?_
      refine V.seq ?_
      refine V.region ?_
      iterate 2 refine AOps.q tt_ok rfl ?_
      refine AOps.nil ?_
      refine V.cH rfl H (fun H => ?_) (fun H => ?_)
      · cases H
      refine V.skip ?_
      refine V.blk ?_
      refine V.region ?_
      iterate 2 refine AOps.q tt_ok rfl ?_
      refine AOps.nil ?_
      obtain rfl := someE H
      refine V.againL (IntKind.i64.wrap (s1 + (x1.length : Int))) () ⟨hl1, hg1⟩ (Gh.le (SLe.cons (PLe.of_eq rfl) (SLe.cons (PLe.of_eq rfl) (SLe.cons (PLe.of_eq rfl) (SLe.cons (PLe.of_eq rfl) (SLe.cons (PLe.of_eq (pint_succ (by omega))) SLe.nil))))) BLe.nil OLe.nil)
    have hn1 := rangeM_done (rowsGe h) hr1
    refine V.exit rfl ?_
    refine V.at s1 g1 hn1 (Gh.le (SLe.cons (PLe.of_eq rfl) (SLe.cons (PLe.of_eq rfl) SLe.nil)) BLe.nil OLe.nil)
  have H := thenP_next hn1 Hp1
  refine V.seq ?_
  refine V.region ?_
  refine AOps.q tt_ok rfl ?_
  obtain ⟨_, h24, H⟩ := bindE H
  have s24 := grow_163 (m := 24) s1 h24
  refine AOps.callO (g := 163) rfl rfl rfl Tryz.call163 (PLeAll.refl _ _) rfl rfl s24 (fun g24 => ?_)
  refine AOps.q tt_ok rfl ?_
  refine AOps.nil ?_
  iterate 2 refine V.seq ?_
  refine V.region ?_
  refine AOps.q tt_ok rfl ?_
  refine AOps.lenL tt_ok rfl rfl rfl rfl rfl (List.length_map _) rfl ?_
  refine AOps.q tt_ok rfl ?_
  refine AOps.nil ?_
  obtain ⟨fl2, H2, Hp2⟩ := bindE H
  refine V.lenF tt_ok 25 rfl rfl (fun hz2 _ => ?_)
  rw [List.length_map] at hz2
  refine V.cut (τ := List LVal) (γ := OwnRef) (fun s2 g2 => ⟨36, upd (fun _ => .any) 6 (.own 24 g2 (s2.map encVal).length), fun _ => none, upd (fun _ => none) 24 (some ⟨g2, 47, (s2.map encVal), true⟩)⟩) (fun t => fl2 = .next t) ?_ (fun s2 g2 hn2 => ?_)
  · refine V.block ?_
    refine V.rangeL (fun j2 s2 g2 => ⟨36, upd (upd (upd (upd (fun _ => .any) 27 (pint (j2 : Int))) 26 (pint (slices.length : Int))) 25 (.list 44 (slices.map (rList 47 encVal)))) 6 (.own 24 g2 (s2.map encVal).length), fun _ => none, upd (fun _ => none) 24 (some ⟨g2, 47, (s2.map encVal), true⟩)⟩) g24 H2 (Gh.le (SLe.cons (PLe.of_eq rfl) (SLe.cons (PLe.of_eq rfl) (SLe.cons (PLe.of_eq rfl) (SLe.cons (PLe.of_eq rfl) SLe.nil)))) BLe.nil (OLe.cons rfl OLe.nil)) (fun j2 s2 g2 hj2 hr2 => ?_)
    refine V.seq ?_
    refine V.region ?_
    refine AOps.q tt_ok rfl ?_
    refine AOps.nil ?_
    refine V.seq ?_
    refine V.cond rfl (fun h => ?_) (fun h => ?_)
    · have hl2 := rowsLt h
      obtain ⟨x2, fb2, hx2, H, hg2⟩ := rangeM_cons hl2 hr2
      refine V.skip ?_
      refine V.seq ?_
      refine V.block ?_
      refine V.seq ?_
      refine V.region ?_
      refine AOps.idx tt_ok rfl rfl rfl rfl rfl rfl (Int.natCast_nonneg j2) (rowsGet (fun _ => rfl) hx2) rfl ?_
      iterate 2 refine AOps.q tt_ok rfl ?_
      refine AOps.nil ?_
      refine V.region ?_
      iterate 2 refine AOps.q tt_ok rfl ?_
      obtain ⟨x33, h33, H⟩ := bindE H
      have k33 := appI_some h33
      refine AOps.appendC (rows2' := List.map encVal x2) (rows' := List.map encVal x33) tt_ok rfl rfl rfl rfl rfl rfl rfl rfl rfl rfl rfl rfl rfl (PLe2Rows.refl _) (appI_by k33.1) (appI_mx k33.2.1) (appI_eq k33.2.2) fun g33 => ?_
      refine AOps.q tt_ok rfl ?_
      refine AOps.nil ?_
      refine V.blk ?_
      refine V.region ?_
      iterate 2 refine AOps.q tt_ok rfl ?_
      refine AOps.nil ?_
      obtain rfl := someE H
      refine V.againL x33 g33 ⟨hl2, hg2⟩ (Gh.le (SLe.cons (PLe.of_eq rfl) (SLe.cons (PLe.of_eq rfl) (SLe.cons (PLe.of_eq rfl) (SLe.cons (PLe.of_eq (pint_succ (by omega))) SLe.nil)))) BLe.nil (OLe.cons rfl OLe.nil))
    have hn2 := rangeM_done (rowsGe h) hr2
    refine V.exit rfl ?_
    refine V.at s2 g2 hn2 (Gh.le (SLe.cons (PLe.of_eq rfl) SLe.nil) BLe.nil (OLe.cons rfl OLe.nil))
  have H := thenP_next hn2 Hp2
  refine V.seq ?_
  refine V.region ?_
  iterate 2 refine AOps.q tt_ok rfl ?_
  refine AOps.nil ?_
  obtain rfl := someE H
  refine V.retO tt_ok rfl rfl rfl rfl rfl
theorem N_L_slices_Concat_api_Row_api_Value (xss : List (List LVal)) (h1 : xss.flatten.length * 32 ≤ 2 ^ 47) (h2 : xss.flatten.length ≤ maxLen) : L_slices_Concat_api_Row_api_Value xss = some xss.flatten := by
  have hle : ∀ k x, xss[k]? = some x → (xss.take k).flatten.length + x.length ≤ xss.flatten.length := by
    intro k x hk
    have e1 : (xss.take (k + 1)).flatten.length = (xss.take k).flatten.length + x.length := by rw [List.take_add_one, hk]; simp
    have e2 : xss.flatten = (xss.take (k + 1)).flatten ++ (xss.drop (k + 1)).flatten := by rw [← List.flatten_append, List.take_append_drop]
    have e3 := congrArg List.length e2
    rw [List.length_append] at e3
    omega
  unfold L_slices_Concat_api_Row_api_Value
  rw [rangeM_all (fun k => ((xss.take k).flatten.length : Int)) (by simp) (fun k x hk => by
    have h3 := hle k x hk
    have e : IntKind.i64.wrap (((xss.take k).flatten.length : Int) + (x.length : Int)) = (((xss.take k).flatten.length + x.length : Nat) : Int) := by
      rw [wrap_id (by omega) (by unfold maxLen at h2; omega)]; simp
    have e1 : (xss.take (k + 1)).flatten.length = (xss.take k).flatten.length + x.length := by rw [List.take_add_one, hk]; simp
    have hn : decide (((((xss.take k).flatten.length + x.length : Nat) : Int)) < 0) = false := by simp; omega
    rw [e, hn, e1]
    rfl)]
  simp only [bindP_some, thenP_nextS, List.take_length]
  rw [growI_ok ⟨by omega, by simpa using h1, by simpa using h2⟩]
  simp only [bindP_some]
  rw [rangeM_all (fun k => (xss.take k).flatten) (by simp) (fun k x hk => by
    have h3 := hle k x hk
    rw [appI_ok (Nat.le_trans (Nat.mul_le_mul_right _ h3) h1) (Nat.le_trans h3 h2)]
    simp [List.take_add_one, hk])]
  simp

end Go.Proofs.YtjnpnakcmjndiaaGreatDoor
/- Lifted functions: printed by lift.py. -/
namespace Go.Proofs.YtjnpnakcmjndiaaGreatDoor
open Go Go.Ab
attribute [local irreducible] V AOps DOps Gh Eff PCallsH IntKind.wrap
set_option maxRecDepth 4000

noncomputable def L_joinalgo_Validate (a : List (List LVal)) (b : List (List LVal)) (on : LJoinalgoCondition) : Option (Int) :=
  letP (
    cond (decide ((a.length : Int) > (400 : Int)))
      (true)
      (cond (decide ((b.length : Int) > (400 : Int)))
        (true)
        ((decide (on.rightWidth > (20 : Int)))))) fun (t1 : Bool) =>
  cond t1
    (some 2)
    (letP (
      cond ((on.left.length : Int) != (on.right.length : Int))
        (true)
        ((decide (on.rightWidth < (0 : Int))))) fun (t2 : Bool) =>
    cond t2
      (some 3)
      (bindP (smallI (([(LAnon181.mk a on.left), (LAnon181.mk b on.right)] : List LAnon181).length : Int)) fun (n3 : Nat) =>
      bindP (rangeM (σ := Unit) (ρ := (Int)) (fun (j3 : Nat) (_ : Nat) (_ : Unit) =>
        bindP (getI ([(LAnon181.mk a on.left), (LAnon181.mk b on.right)] : List LAnon181) (j3 : Int)) fun (x48 : LAnon181) =>
        bindP (rangeM (σ := Unit) (ρ := (Int)) (fun (_ : Nat) (x5 : Int) (_ : Unit) =>
          cond (decide (x5 < (0 : Int)))
            (some (.ret 3))
            (bindP (L_slices_ContainsFunc_Lapi_Row_api_Row x48.rows (fun a0 => some (L_joinalgo_Validate_1 a0 x5))) fun x63 =>
            cond x63
              (some (.ret 3))
              (some (.next ())))) 0 x48.atF ()) fun fl5 => fl5.thenF fun (_ : Unit) =>
        some (.next ())) 0 (List.range n3) ()) fun fl3 => fl3.thenR fun (_ : Unit) =>
      bindP (L_slices_ContainsFunc_Lapi_Row_api_Row b (fun a0 => some (L_joinalgo_Validate_2 a0 on))) fun x69 =>
      cond x69
        (some 3)
        (some 0)))

set_option maxHeartbeats 4000000 in
theorem W_joinalgo_Validate (a : List (List LVal)) (b : List (List LVal)) (on : LJoinalgoCondition) (r : Int) (H : L_joinalgo_Validate a b on = some r) :
    PFun Tryz.prog 44 [(.list 44 (a.map (rList 47 encVal))), (.list 44 (b.map (rList 47 encVal))), (.agg (encJoinalgoCondition on))] (pint r) := by
  unfold L_joinalgo_Validate at H
  refine PCallsH.intro Tryz.func44 rfl Tryz.ntmps44 rfl ?_
  refine V.seq ?_
  refine V.region ?_
  refine AOps.boxF rfl rfl rfl rfl rfl rfl ?_
  refine AOps.q tt_ok rfl ?_
  refine AOps.nil ?_
  iterate 2 refine V.seq ?_
  obtain ⟨fl1, H1, Hp1⟩ := letE H
  refine V.cut (τ := Bool) (γ := Unit) (fun t1 g1 => ⟨70, upd (upd (upd (upd (fun _ => .any) 23 (pbool t1)) 5 (.ptr [(.list 3 (on.left.map rInt)), (.list 3 (on.right.map rInt)), (pbool on.outer), (pint on.rightWidth)])) 1 (.list 44 (b.map (rList 47 encVal)))) 0 (.list 44 (a.map (rList 47 encVal))), fun _ => none, fun _ => none⟩) (fun t => t = fl1) ?_ (fun t1 g1 hn1 => ?_)
  · have H := H1
    refine V.region ?_
    refine AOps.q tt_ok rfl ?_
    refine AOps.lenL tt_ok rfl rfl rfl rfl rfl (List.length_map _) rfl ?_
    iterate 2 refine AOps.q tt_ok rfl ?_
    refine AOps.sH rfl rfl rfl H (fun H => ?_) (fun H => ?_)
    · refine AOps.q tt_ok rfl ?_
      iterate 8 refine AOps.q tt_ok rfl ?_
      refine AOps.nil ?_
      subst H
      refine V.at true () rfl (Gh.le (SLe.cons (PLe.of_eq rfl) (SLe.cons (PLe.of_eq rfl) (SLe.cons (PLe.of_eq rfl) (SLe.cons (PLe.of_eq rfl) SLe.nil)))) BLe.nil OLe.nil)
    refine AOps.q tt_ok rfl ?_
    refine AOps.lenL tt_ok rfl rfl rfl rfl rfl (List.length_map _) rfl ?_
    iterate 3 refine AOps.q tt_ok rfl ?_
    refine AOps.sH rfl rfl rfl H (fun H => ?_) (fun H => ?_)
    · refine AOps.q tt_ok rfl ?_
      iterate 3 refine AOps.q tt_ok rfl ?_
      refine AOps.nil ?_
      subst H
      refine V.at true () rfl (Gh.le (SLe.cons (PLe.of_eq rfl) (SLe.cons (PLe.of_eq rfl) (SLe.cons (PLe.of_eq rfl) (SLe.cons (PLe.of_eq rfl) SLe.nil)))) BLe.nil OLe.nil)
    iterate 4 refine AOps.q tt_ok rfl ?_
    refine AOps.nil ?_
    subst H
    refine V.at (decide (on.rightWidth > (20 : Int))) () rfl (Gh.le (SLe.cons (PLe.of_eq rfl) (SLe.cons (PLe.of_eq rfl) (SLe.cons (PLe.of_eq rfl) (SLe.cons (PLe.of_eq rfl) SLe.nil)))) BLe.nil OLe.nil)
  subst hn1
  have H := Hp1
  refine V.cH rfl H (fun H => ?_) (fun H => ?_)
  · refine V.seq ?_
    refine V.region ?_
    refine AOps.q tt_ok rfl ?_
    refine AOps.nil ?_
    obtain rfl := someE H
    refine V.retP tt_ok rfl (ps := [(pint 2)]) ⟨_, _, rfl, rfl, rfl⟩ (PLe.of_eq rfl)
  refine V.skip ?_
  iterate 2 refine V.seq ?_
  obtain ⟨fl2, H2, Hp2⟩ := letE H
  refine V.cut (τ := Bool) (γ := Unit) (fun t2 g2 => ⟨70, upd (upd (upd (upd (fun _ => .any) 35 (pbool t2)) 5 (.ptr [(.list 3 (on.left.map rInt)), (.list 3 (on.right.map rInt)), (pbool on.outer), (pint on.rightWidth)])) 1 (.list 44 (b.map (rList 47 encVal)))) 0 (.list 44 (a.map (rList 47 encVal))), fun _ => none, fun _ => none⟩) (fun t => t = fl2) ?_ (fun t2 g2 hn2 => ?_)
  · have H := H2
    refine V.region ?_
    iterate 2 refine AOps.q tt_ok rfl ?_
    refine AOps.lenL tt_ok rfl rfl rfl rfl rfl (List.length_map _) rfl ?_
    iterate 2 refine AOps.q tt_ok rfl ?_
    refine AOps.lenL tt_ok rfl rfl rfl rfl rfl (List.length_map _) rfl ?_
    iterate 2 refine AOps.q tt_ok rfl ?_
    refine AOps.sH rfl rfl rfl H (fun H => ?_) (fun H => ?_)
    · refine AOps.q tt_ok rfl ?_
      iterate 3 refine AOps.q tt_ok rfl ?_
      refine AOps.nil ?_
      subst H
      refine V.at true () rfl (Gh.le (SLe.cons (PLe.of_eq rfl) (SLe.cons (PLe.of_eq rfl) (SLe.cons (PLe.of_eq rfl) (SLe.cons (PLe.of_eq rfl) SLe.nil)))) BLe.nil OLe.nil)
    iterate 4 refine AOps.q tt_ok rfl ?_
    refine AOps.nil ?_
    subst H
    refine V.at (decide (on.rightWidth < (0 : Int))) () rfl (Gh.le (SLe.cons (PLe.of_eq rfl) (SLe.cons (PLe.of_eq rfl) (SLe.cons (PLe.of_eq rfl) (SLe.cons (PLe.of_eq rfl) SLe.nil)))) BLe.nil OLe.nil)
  subst hn2
  have H := Hp2
  refine V.cH rfl H (fun H => ?_) (fun H => ?_)
  · refine V.seq ?_
    refine V.region ?_
    refine AOps.q tt_ok rfl ?_
    refine AOps.nil ?_
    obtain rfl := someE H
    refine V.retP tt_ok rfl (ps := [(pint 3)]) ⟨_, _, rfl, rfl, rfl⟩ (PLe.of_eq rfl)
  refine V.skip ?_
  iterate 2 refine V.seq ?_
  refine V.region ?_
  iterate 8 refine AOps.q tt_ok rfl ?_
  refine AOps.bsC tt_ok rfl rfl rfl rfl (rows' := List.map encAnon181 ([(LAnon181.mk a on.left), (LAnon181.mk b on.right)] : List LAnon181)) rfl (PLe2Rows.refl _) rfl rfl ?_
  refine AOps.lenL tt_ok rfl rfl rfl rfl rfl (List.length_map _) rfl ?_
  refine AOps.q tt_ok rfl ?_
  refine AOps.nil ?_
  obtain ⟨n3, hs3, H⟩ := bindE H
  have hz3 := smallI_some hs3
  obtain ⟨fl3, H3, Hp3⟩ := bindE H
  refine V.cut (τ := Unit) (γ := Unit) (fun s3 g3 => ⟨70, upd (upd (fun _ => .any) 5 (.ptr [(.list 3 (on.left.map rInt)), (.list 3 (on.right.map rInt)), (pbool on.outer), (pint on.rightWidth)])) 1 (.list 44 (b.map (rList 47 encVal))), fun _ => none, fun _ => none⟩) (fun t => fl3 = .next t) ?_ (fun s3 g3 hn3 => ?_)
  · refine V.block ?_
    refine V.rangeL (fun j3 s3 g3 => ⟨70, upd (upd (upd (upd (upd (fun _ => .any) 46 (pint (j3 : Int))) 45 (pint (([(LAnon181.mk a on.left), (LAnon181.mk b on.right)] : List LAnon181).length : Int))) 44 (.list 181 (([(LAnon181.mk a on.left), (LAnon181.mk b on.right)] : List LAnon181).map encAnon181))) 5 (.ptr [(.list 3 (on.left.map rInt)), (.list 3 (on.right.map rInt)), (pbool on.outer), (pint on.rightWidth)])) 1 (.list 44 (b.map (rList 47 encVal))), fun _ => none, fun _ => none⟩) () H3 (Gh.le (SLe.cons (PLe.of_eq rfl) (SLe.cons (PLe.of_eq rfl) (SLe.cons (PLe.of_eq rfl) (SLe.cons (PLe.of_eq rfl) (SLe.cons (PLe.of_eq rfl) SLe.nil))))) BLe.nil OLe.nil) (fun j3 s3 g3 hj3 hr3 => ?_)
    refine V.seq ?_
    refine V.region ?_
    refine AOps.q tt_ok rfl ?_
    refine AOps.nil ?_
    refine V.seq ?_
    refine V.cond rfl (fun h => ?_) (fun h => ?_)
    · have hl3 := natLt hz3 h
      obtain ⟨x3, fb3, hx3, H, hg3⟩ := rangeM_cons hl3 hr3
      obtain rfl := natX hx3
      refine V.skip ?_
      refine V.seq ?_
      refine V.block ?_
      refine V.seq ?_
      refine V.region ?_
      obtain ⟨x48, k48, H⟩ := getE H
      refine AOps.idx tt_ok rfl rfl rfl rfl rfl rfl k48.1 (rowsGetI (fun _ => rfl) k48.2) rfl ?_
      refine AOps.q tt_ok rfl ?_
      refine AOps.alloc tt_ok rfl rfl rfl rfl rfl rfl fun b8 => ?_
      refine AOps.storeBox tt_ok rfl rfl rfl rfl rfl rfl rfl rfl rfl rfl rfl ?_
      refine AOps.nil ?_
      refine V.seq ?_
      refine V.region ?_
      refine AOps.q tt_ok rfl ?_
      refine AOps.loadBox tt_ok rfl rfl rfl rfl rfl rfl rfl ?_
      refine AOps.lenL tt_ok rfl rfl rfl rfl rfl (List.length_map _) rfl ?_
      refine AOps.q tt_ok rfl ?_
      refine AOps.nil ?_
      obtain ⟨fl5, H5, Hp5⟩ := bindE H
      refine V.lenF tt_ok 51 rfl rfl (fun hz5 _ => ?_)
      rw [List.length_map] at hz5
      refine V.cut (τ := Unit) (γ := Unit) (fun s5 g5 => ⟨70, upd (upd (upd (upd (upd (fun _ => .any) 46 (pint (j3 : Int))) 45 (pint (([(LAnon181.mk a on.left), (LAnon181.mk b on.right)] : List LAnon181).length : Int))) 44 (.list 181 (([(LAnon181.mk a on.left), (LAnon181.mk b on.right)] : List LAnon181).map encAnon181))) 5 (.ptr [(.list 3 (on.left.map rInt)), (.list 3 (on.right.map rInt)), (pbool on.outer), (pint on.rightWidth)])) 1 (.list 44 (b.map (rList 47 encVal))), fun _ => none, fun _ => none⟩) (fun t => fl5 = .next t) ?_ (fun s5 g5 hn5 => ?_)
      · refine V.block ?_
        refine V.rangeL (fun j5 s5 g5 => ⟨70, upd (upd (upd (upd (upd (upd (upd (upd (upd (fun _ => .any) 53 (pint (j5 : Int))) 52 (pint (x48.atF.length : Int))) 51 (.list 3 (x48.atF.map rInt))) 46 (pint (j3 : Int))) 45 (pint (([(LAnon181.mk a on.left), (LAnon181.mk b on.right)] : List LAnon181).length : Int))) 44 (.list 181 (([(LAnon181.mk a on.left), (LAnon181.mk b on.right)] : List LAnon181).map encAnon181))) 8 (.box 8 b8 0)) 5 (.ptr [(.list 3 (on.left.map rInt)), (.list 3 (on.right.map rInt)), (pbool on.outer), (pint on.rightWidth)])) 1 (.list 44 (b.map (rList 47 encVal))), upd (fun _ => none) 8 (some ⟨b8, [(.list 44 (x48.rows.map (rList 47 encVal))), (.list 3 (x48.atF.map rInt))]⟩), fun _ => none⟩) () H5 (Gh.le (SLe.cons (PLe.of_eq rfl) (SLe.cons (PLe.of_eq rfl) (SLe.cons (PLe.of_eq rfl) (SLe.cons (PLe.of_eq rfl) (SLe.cons (PLe.of_eq rfl) (SLe.cons (PLe.of_eq rfl) (SLe.cons (PLe.of_eq rfl) (SLe.cons (PLe.of_eq rfl) (SLe.cons (PLe.of_eq rfl) SLe.nil))))))))) (BLe.cons rfl (PLeAll.refl _ _) BLe.nil) OLe.nil) (fun j5 s5 g5 hj5 hr5 => ?_)
        refine V.seq ?_
        refine V.region ?_
        refine AOps.q tt_ok rfl ?_
        refine AOps.nil ?_
        refine V.seq ?_
        refine V.cond rfl (fun h => ?_) (fun h => ?_)
        · have hl5 := rowsLt h
          obtain ⟨x5, fb5, hx5, H, hg5⟩ := rangeM_cons hl5 hr5
          refine V.skip ?_
          refine V.seq ?_
          refine V.block ?_
          refine V.seq ?_
          refine V.region ?_
          refine AOps.idx tt_ok rfl rfl rfl rfl rfl rfl (Int.natCast_nonneg j5) (rowsGet (fun _ => rfl) hx5) rfl ?_
          refine AOps.q tt_ok rfl ?_
          refine AOps.alloc tt_ok rfl rfl rfl rfl rfl rfl fun b10 => ?_
          refine AOps.storeBox tt_ok rfl rfl rfl rfl rfl rfl rfl rfl rfl rfl rfl ?_
          refine AOps.nil ?_
          refine V.seq ?_
          refine V.freezeB 10 rfl rfl rfl rfl ?_
          refine V.region ?_
          iterate 3 refine AOps.q tt_ok rfl ?_
          refine AOps.sH rfl rfl rfl H (fun H => ?_) (fun H => ?_)
          · refine AOps.q tt_ok rfl ?_
            iterate 4 refine AOps.q tt_ok rfl ?_
            refine AOps.nil ?_
            refine V.condT rfl ?_
            refine V.seq ?_
            refine V.region ?_
            refine AOps.q tt_ok rfl ?_
            refine AOps.nil ?_
            obtain rfl := someE H
            have e5 : fl5 = .ret _ := hg5
            subst e5
            have q5 := thenF_ret Hp5
            subst q5
            have e3 : fl3 = .ret _ := hg3
            subst e3
            obtain rfl := thenR_ret Hp3
            refine V.retP tt_ok rfl (ps := [(pint 3)]) ⟨_, _, rfl, rfl, rfl⟩ (PLe.of_eq rfl)
          refine AOps.q tt_ok rfl ?_
          refine AOps.loadBox tt_ok rfl rfl rfl rfl rfl rfl rfl ?_
          refine AOps.q tt_ok rfl ?_
          obtain ⟨x63, h63, H⟩ := bindE H
          have s63 := W_slices_ContainsFunc_Lapi_Row_api_Row x48.rows (fun a0 => some (L_joinalgo_Validate_1 a0 x5)) Tryz.call109 (fun a0 r h => (someE h) ▸ W_joinalgo_Validate_1 a0 x5) _ h63
          refine AOps.callP (g := 61) rfl rfl rfl Tryz.call61 (PLeAll.refl _ _) s63 rfl ?_
          refine AOps.q tt_ok rfl ?_
          refine AOps.nil ?_
          refine V.cH rfl H (fun H => ?_) (fun H => ?_)
          · refine V.seq ?_
            refine V.region ?_
            refine AOps.q tt_ok rfl ?_
            refine AOps.nil ?_
            obtain rfl := someE H
            have e5 : fl5 = .ret _ := hg5
            subst e5
            have q5 := thenF_ret Hp5
            subst q5
            have e3 : fl3 = .ret _ := hg3
            subst e3
            obtain rfl := thenR_ret Hp3
            refine V.retP tt_ok rfl (ps := [(pint 3)]) ⟨_, _, rfl, rfl, rfl⟩ (PLe.of_eq rfl)
          refine V.skip ?_
          refine V.blk ?_
          refine V.region ?_
          iterate 2 refine AOps.q tt_ok rfl ?_
          refine AOps.nil ?_
          obtain rfl := someE H
          refine V.againL () () ⟨hl5, hg5⟩ (Gh.le (SLe.cons (PLe.of_eq rfl) (SLe.cons (PLe.of_eq rfl) (SLe.cons (PLe.of_eq rfl) (SLe.cons (PLe.of_eq rfl) (SLe.cons (PLe.of_eq rfl) (SLe.cons (PLe.of_eq rfl) (SLe.cons (PLe.of_eq rfl) (SLe.cons (PLe.of_eq rfl) (SLe.cons (PLe.of_eq (pint_succ (by omega))) SLe.nil))))))))) (BLe.cons rfl (PLeAll.refl _ _) BLe.nil) OLe.nil)
        have hn5 := rangeM_done (rowsGe h) hr5
        refine V.exit rfl ?_
        refine V.at s5 g5 hn5 (Gh.le (SLe.cons (PLe.of_eq rfl) (SLe.cons (PLe.of_eq rfl) (SLe.cons (PLe.of_eq rfl) (SLe.cons (PLe.of_eq rfl) (SLe.cons (PLe.of_eq rfl) SLe.nil))))) BLe.nil OLe.nil)
      have H := thenF_next hn5 Hp5
      refine V.blk ?_
      refine V.region ?_
      iterate 2 refine AOps.q tt_ok rfl ?_
      refine AOps.nil ?_
      obtain rfl := someE H
      refine V.againL () () ⟨hl3, hg3⟩ (Gh.le (SLe.cons (PLe.of_eq rfl) (SLe.cons (PLe.of_eq rfl) (SLe.cons (PLe.of_eq rfl) (SLe.cons (PLe.of_eq rfl) (SLe.cons (PLe.of_eq (pint_succN hz3 hl3)) SLe.nil))))) BLe.nil OLe.nil)
    have hn3 := rangeM_done (natGe hz3 h) hr3
    refine V.exit rfl ?_
    refine V.at s3 g3 hn3 (Gh.le (SLe.cons (PLe.of_eq rfl) (SLe.cons (PLe.of_eq rfl) SLe.nil)) BLe.nil OLe.nil)
  have H := thenR_next hn3 Hp3
  iterate 2 refine V.seq ?_
  refine V.region ?_
  iterate 2 refine AOps.q tt_ok rfl ?_
  obtain ⟨x69, h69, H⟩ := bindE H
  have s69 := W_slices_ContainsFunc_Lapi_Row_api_Row b (fun a0 => some (L_joinalgo_Validate_2 a0 on)) Tryz.call110 (fun a0 r h => (someE h) ▸ W_joinalgo_Validate_2 a0 on) _ h69
  refine AOps.callP (g := 61) rfl rfl rfl Tryz.call61 (PLeAll.refl _ _) s69 rfl ?_
  refine AOps.nil ?_
  refine V.cH rfl H (fun H => ?_) (fun H => ?_)
  · refine V.seq ?_
    refine V.region ?_
    refine AOps.q tt_ok rfl ?_
    refine AOps.nil ?_
    obtain rfl := someE H
    refine V.retP tt_ok rfl (ps := [(pint 3)]) ⟨_, _, rfl, rfl, rfl⟩ (PLe.of_eq rfl)
  refine V.skip ?_
  refine V.seq ?_
  refine V.region ?_
  refine AOps.q tt_ok rfl ?_
  refine AOps.nil ?_
  obtain rfl := someE H
  refine V.retP tt_ok rfl (ps := [(pint 0)]) ⟨_, _, rfl, rfl, rfl⟩ (PLe.of_eq rfl)

end Go.Proofs.YtjnpnakcmjndiaaGreatDoor
