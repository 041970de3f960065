/- Lifted functions: printed by lift.py. -/
import Derived.Test.YtjnpnakcmjndiaaGreatDoorMgg
import Derived.Test.YtjnpnakcmjndiaaGreatDoorMgj
import Derived.Test.YtjnpnakcmjndiaaGreatDoorMgp
import Derived.Test.YtjnpnakcmjndiaaGreatDoorMgr
import Derived.Test.YtjnpnakcmjndiaaGreatDoorMgq
import Derived.Sort.AssemblyPlain
namespace Go.Proofs.YtjnpnakcmjndiaaGreatDoor
open Go Go.Ab
attribute [local irreducible] V AOps DOps Gh Eff PCallsH IntKind.wrap
set_option maxRecDepth 4000

noncomputable def L_joinalgo_sorted (l : List (List LVal)) (atA : List Int) : Option ((List LJoinalgoOne)) :=
  bindP (rangeM (σ := List LJoinalgoOne) (ρ := Empty) (fun (_ : Nat) (x1 : List LVal) (s1 : List LJoinalgoOne) =>
    bindP (L_joinalgo_key x1 atA) fun x19 =>
    bindP (appI 56 s1 ([(LJoinalgoOne.mk x19.1 x1 x19.2)] : List LJoinalgoOne)) fun (x28 : List LJoinalgoOne) =>
    some (.next x28)) 0 l []) fun fl1 => fl1.thenP fun (s1 : List LJoinalgoOne) =>
  bindP (L_slices_SortStableFunc_Ljoinalgo_one_joinalgo_one s1 (fun a0 a1 => L_joinalgo_sorted_1 a0 a1)) fun x31 =>
  bindP (guardO (x31.length = s1.length) ()) fun (_ : Unit) =>
  some x31

set_option maxHeartbeats 4000000 in
theorem W_joinalgo_sorted (l : List (List LVal)) (atA : List Int) (r : (List LJoinalgoOne)) (H : L_joinalgo_sorted l atA = some r) :
    PFun Tryz.prog 48 [(.list 44 (l.map (rList 47 encVal))), (.list 3 (atA.map rInt))] (.list 119 (r.map encJoinalgoOne)) := by
  unfold L_joinalgo_sorted at H
  refine PCallsH.intro Tryz.func48 rfl Tryz.ntmps48 rfl ?_
  refine V.seq ?_
  refine V.region ?_
  refine AOps.q tt_ok rfl ?_
  refine AOps.nil ?_
  refine V.seq ?_
  refine V.region ?_
  refine AOps.q tt_ok rfl ?_
  refine AOps.nil ?_
  iterate 2 refine V.seq ?_
  refine V.region ?_
  refine AOps.q tt_ok rfl ?_
  refine AOps.lenL tt_ok rfl rfl rfl rfl rfl (List.length_map _) rfl ?_
  refine AOps.q tt_ok rfl ?_
  refine AOps.nil ?_
  obtain ⟨fl1, H1, Hp1⟩ := bindE H
  refine V.lenF tt_ok 10 rfl rfl (fun hz1 _ => ?_)
  rw [List.length_map] at hz1
  refine V.cut (τ := List LJoinalgoOne) (γ := OwnRef) (fun s1 g1 => ⟨33, upd (fun _ => .any) 5 (.own 28 g1 (s1.map encJoinalgoOne).length), fun _ => none, upd (fun _ => none) 28 (some ⟨g1, 119, (s1.map encJoinalgoOne), true⟩)⟩) (fun t => fl1 = .next t) ?_ (fun s1 g1 hn1 => ?_)
  · refine V.block ?_
    refine V.nilO tt_ok 5 28 (e := 119) rfl rfl ?_
    refine V.rangeL (fun j1 s1 g1 => ⟨33, upd (upd (upd (upd (upd (fun _ => .any) 12 (pint (j1 : Int))) 11 (pint (l.length : Int))) 10 (.list 44 (l.map (rList 47 encVal)))) 5 (.own 28 g1 (s1.map encJoinalgoOne).length)) 1 (.list 3 (atA.map rInt)), fun _ => none, upd (fun _ => none) 28 (some ⟨g1, 119, (s1.map encJoinalgoOne), true⟩)⟩) (⟨none, 0⟩) H1 (Gh.le (SLe.cons (PLe.of_eq rfl) (SLe.cons (PLe.of_eq rfl) (SLe.cons (PLe.of_eq rfl) (SLe.cons (PLe.of_eq rfl) (SLe.cons (PLe.of_eq rfl) SLe.nil))))) BLe.nil (OLe.cons rfl OLe.nil)) (fun j1 s1 g1 hj1 hr1 => ?_)
    refine V.seq ?_
    refine V.region ?_
    refine AOps.q tt_ok rfl ?_
    refine AOps.nil ?_
    refine V.seq ?_
    refine V.cond rfl (fun h => ?_) (fun h => ?_)
    · have hl1 := rowsLt h
      obtain ⟨x1, fb1, hx1, H, hg1⟩ := rangeM_cons hl1 hr1
      refine V.skip ?_
      refine V.seq ?_
      refine V.block ?_
      refine V.seq ?_
      refine V.region ?_
      refine AOps.idx tt_ok rfl rfl rfl rfl rfl rfl (Int.natCast_nonneg j1) (rowsGet (fun _ => rfl) hx1) rfl ?_
      iterate 2 refine AOps.q tt_ok rfl ?_
      refine AOps.nil ?_
      refine V.seq ?_
      refine V.region ?_
      iterate 2 refine AOps.q tt_ok rfl ?_
      obtain ⟨x19, h19, H⟩ := bindE H
      have s19 := W_joinalgo_key x1 atA _ h19
      refine AOps.callP (g := 45) rfl rfl rfl Tryz.call45 (PLeAll.refl _ _) s19 rfl ?_
      iterate 5 refine AOps.q tt_ok rfl ?_
      refine AOps.nil ?_
      refine V.region ?_
      iterate 5 refine AOps.q tt_ok rfl ?_
      refine AOps.bsC tt_ok rfl rfl rfl rfl (rows' := List.map encJoinalgoOne ([(LJoinalgoOne.mk x19.1 x1 x19.2)] : List LJoinalgoOne)) rfl (PLe2Rows.refl _) rfl rfl ?_
      obtain ⟨x28, h28, H⟩ := bindE H
      have k28 := appI_some h28
      refine AOps.appendC (rows2' := List.map encJoinalgoOne ([(LJoinalgoOne.mk x19.1 x1 x19.2)] : List LJoinalgoOne)) (rows' := List.map encJoinalgoOne x28) tt_ok rfl rfl rfl rfl rfl rfl rfl rfl rfl rfl rfl rfl rfl (PLe2Rows.refl _) (appI_by k28.1) (appI_mx k28.2.1) (appI_eq k28.2.2) fun g28 => ?_
      refine AOps.q tt_ok rfl ?_
      refine AOps.nil ?_
      refine V.blk ?_
      refine V.region ?_
      iterate 2 refine AOps.q tt_ok rfl ?_
      refine AOps.nil ?_
      obtain rfl := someE H
      refine V.againL x28 g28 ⟨hl1, hg1⟩ (Gh.le (SLe.cons (PLe.of_eq rfl) (SLe.cons (PLe.of_eq rfl) (SLe.cons (PLe.of_eq rfl) (SLe.cons (PLe.of_eq rfl) (SLe.cons (PLe.of_eq (pint_succ (by omega))) SLe.nil))))) BLe.nil (OLe.cons rfl OLe.nil))
    have hn1 := rangeM_done (rowsGe h) hr1
    refine V.exit rfl ?_
    refine V.at s1 g1 hn1 (Gh.le (SLe.cons (PLe.of_eq rfl) SLe.nil) BLe.nil (OLe.cons rfl OLe.nil))
  have H := thenP_next hn1 Hp1
  refine V.seq ?_
  refine V.region ?_
  refine AOps.q tt_ok rfl ?_
  obtain ⟨x31, h31, H⟩ := bindE H
  have s31 := W_slices_SortStableFunc_Ljoinalgo_one_joinalgo_one g1 s1 (fun a0 a1 => L_joinalgo_sorted_1 a0 a1) Tryz.call112 (fun a0 a1 r h => W_joinalgo_sorted_1 a0 a1 r h) _ h31
  obtain ⟨_, q31_0, H⟩ := bindE H
  have l31_0 := (guardO_some q31_0).1
  have z31_0 : (List.map encJoinalgoOne s1).length = (List.map encJoinalgoOne x31).length := by simpa using (l31_0).symm
  refine AOps.callH (g := 111) rfl rfl rfl Tryz.call111 [] [(28, 0)] rfl rfl rfl rfl (PLeAll.of2 (PLe2All.cons (PLe2.own rfl) (PLe2All.cons (PLe2.of_eq rfl) PLe2All.nil))) (by rw [giveB_nil, giveO_cons, giveO_nil]; rfl) s31 ?_
  rintro u31 H31h ⟨rfl, rfl⟩
  refine ⟨_, rfl, ?_⟩
  refine AOps.gh (st' := ⟨_, _, fun _ => none, upd (fun _ => none) 28 (some ⟨g1, 119, (x31.map encJoinalgoOne), true⟩)⟩) (Gh.le (SLe.refl _ _) BLe.nil (OLe.cons rfl OLe.nil)) ?_
  refine AOps.nil ?_
  refine V.seq ?_
  refine V.region ?_
  iterate 2 refine AOps.q tt_ok rfl ?_
  refine AOps.nil ?_
  obtain rfl := someE H
  refine V.freezeO 4 rfl rfl z31_0 ?_
  refine V.retP tt_ok rfl (ps := [(.list 119 (x31.map encJoinalgoOne))]) ⟨_, _, rfl, rfl, rfl⟩ (PLe.of_eq rfl)

end Go.Proofs.YtjnpnakcmjndiaaGreatDoor
/- Lifted functions: printed by lift.py. -/
namespace Go.Proofs.YtjnpnakcmjndiaaGreatDoor
open Go Go.Ab
attribute [local irreducible] V AOps DOps Gh Eff PCallsH IntKind.wrap
set_option maxRecDepth 4000

noncomputable def L_joinalgo_SortMergeJoin (a : List (List LVal)) (b : List (List LVal)) (on : LJoinalgoCondition) : Option ((List (List LVal)) × Int) :=
  bindP (L_joinalgo_Validate a b on) fun x20 =>
  cond (x20 != (0 : Int))
    (some ([], x20))
    (bindP (L_joinalgo_sorted a on.left) fun x27 =>
    bindP (L_joinalgo_sorted b on.right) fun x31 =>
    bindP (whileM (σ := List LJoinalgoOne) (ρ := Empty) (fun (s1 : List LJoinalgoOne) =>
      cond (decide ((s1.length : Int) > (0 : Int)))
        (bindP (getI s1 0) fun (x37 : LJoinalgoOne) =>
        cond (!x37.ok)
          (bindP (subI s1 1 (s1.length : Int)) fun (x43 : List LJoinalgoOne) =>
          some (.next x43))
          (some (.brk s1)))
        (some (.brk s1))) x31) fun fl1 => fl1.thenP fun (s1 : List LJoinalgoOne) =>
    bindP (rangeM (σ := List (List LVal) × Int) (ρ := Empty) (fun (_ : Nat) (x2 : LJoinalgoOne) (s2 : List (List LVal) × Int) =>
      bindP (whileM (σ := Int) (ρ := Empty) (fun (s15 : Int) =>
        cond x2.ok
          (cond (decide (s15 < (s1.length : Int)))
            (bindP (getI s1 s15) fun (x61 : LJoinalgoOne) =>
            bindP (L_query_CompareRows x61.key x2.key ([] : List Bool)) fun x66 =>
            cond (decide (x66 < (0 : Int)))
              (some (.next (IntKind.i64.wrap (s15 + (1 : Int)))))
              (some (.brk s15)))
            (some (.brk s15)))
          (some (.brk s15))) s2.2) fun fl15 => fl15.thenP fun (s15 : Int) =>
      bindP (whileM (σ := List (List LVal) × Bool × Int) (ρ := Empty) (fun (s16 : List (List LVal) × Bool × Int) =>
        bindP (
          cond x2.ok
            (cond (decide (s16.2.2 < (s1.length : Int)))
              (bindP (getI s1 s16.2.2) fun (x83 : LJoinalgoOne) =>
              bindP (L_slices_Equal_api_Row_api_Value x83.key x2.key) fun x88 =>
              some x88)
              (some false))
            (some false)) fun (t19 : Bool) =>
        cond t19
          (bindP (getI s1 s16.2.2) fun (x97 : LJoinalgoOne) =>
          bindP (L_joinalgo_pair x2.row x97.row) fun x100 =>
          bindP (appI 24 s16.1 ([x100] : List (List LVal))) fun (x102 : List (List LVal)) =>
          some (.next (x102, true, (IntKind.i64.wrap (s16.2.2 + (1 : Int))))))
          (some (.brk (s16.1, s16.2.1, s16.2.2)))) (s2.1, false, s15)) fun fl16 => fl16.thenP fun (s16 : List (List LVal) × Bool × Int) =>
      letP (
        cond (!s16.2.1)
          (on.outer)
          (false)) fun (t20 : Bool) =>
      cond t20
        (bindP (L_joinalgo_alone x2.row on) fun x113 =>
        bindP (appI 24 s16.1 ([x113] : List (List LVal))) fun (x115 : List (List LVal)) =>
        some (.next (x115, s15)))
        (some (.next (s16.1, s15)))) 0 x27 ([], 0)) fun fl2 => fl2.thenP fun (s2 : List (List LVal) × Int) =>
    some (s2.1, 0))

set_option maxHeartbeats 4000000 in
theorem W_joinalgo_SortMergeJoin (a : List (List LVal)) (b : List (List LVal)) (on : LJoinalgoCondition) (r : (List (List LVal)) × Int) (H : L_joinalgo_SortMergeJoin a b on = some r) :
    PFun Tryz.prog 17 [(.list 44 (a.map (rList 47 encVal))), (.list 44 (b.map (rList 47 encVal))), (.agg (encJoinalgoCondition on))] (.tup [(.list 44 (r.1.map (rList 47 encVal))), (pint r.2)]) := by
  unfold L_joinalgo_SortMergeJoin at H
  refine PCallsH.intro Tryz.func17 rfl Tryz.ntmps17 rfl ?_
  refine V.seq ?_
  refine V.region ?_
  refine AOps.boxF rfl rfl rfl rfl rfl rfl ?_
  iterate 2 refine AOps.q tt_ok rfl ?_
  refine AOps.nil ?_
  iterate 2 refine V.seq ?_
  refine V.region ?_
  iterate 3 refine AOps.q tt_ok rfl ?_
  obtain ⟨x20, h20, H⟩ := bindE H
  have s20 := W_joinalgo_Validate a b on _ h20
  refine AOps.callP (g := 44) rfl rfl rfl Tryz.call44 (PLeAll.refl _ _) s20 rfl ?_
  refine AOps.q tt_ok rfl ?_
  refine AOps.nil ?_
  refine V.seq ?_
  refine V.region ?_
  iterate 2 refine AOps.q tt_ok rfl ?_
  refine AOps.nil ?_
  refine V.cH rfl H (fun H => ?_) (fun H => ?_)
  · refine V.seq ?_
    refine V.region ?_
    iterate 3 refine AOps.q tt_ok rfl ?_
    refine AOps.nil ?_
    obtain rfl := someE H
    refine V.retP tt_ok rfl (ps := [(.val (.slice none 0 0)), (pint x20)]) ⟨_, _, rfl, rfl, _, _, rfl, rfl, rfl⟩ (PLe.of2 (PLe2.tup (PLe2All.cons (PLe2.nil tt_ok rfl) (PLe2All.cons (PLe2.of_eq rfl) PLe2All.nil))))
  refine V.skip ?_
  refine V.seq ?_
  refine V.draw tt_ok mixed_ok ⟨false, false, []⟩ [0, 1, 2, 4, 5, 6, 3, 7, 8, 9] rfl (by decide +kernel) rfl ?_
  iterate 6 refine DOps.q rfl ?_
  obtain ⟨x27, h27, H⟩ := bindE H
  have s27 := W_joinalgo_sorted a on.left _ h27
  refine DOps.callP (g := 48) rfl rfl rfl rfl Tryz.call48 (PLeAll.refl _ _) s27 rfl ?_
  obtain ⟨x31, h31, H⟩ := bindE H
  have s31 := W_joinalgo_sorted b on.right _ h31
  refine DOps.callP (g := 48) rfl rfl rfl rfl Tryz.call48 (PLeAll.refl _ _) s31 rfl ?_
  iterate 2 refine DOps.q rfl ?_
  refine DOps.nil ?_
  refine V.seq ?_
  obtain ⟨fl1, H1, Hp1⟩ := bindE H
  refine V.cut (τ := List LJoinalgoOne) (γ := Unit) (fun s1 g1 => ⟨118, upd (upd (upd (fun _ => .any) 10 (.list 119 (s1.map encJoinalgoOne))) 9 (.list 119 (x27.map encJoinalgoOne))) 5 (.ptr [(.list 3 (on.left.map rInt)), (.list 3 (on.right.map rInt)), (pbool on.outer), (pint on.rightWidth)]), fun _ => none, fun _ => none⟩) (fun t => fl1 = .next t) ?_ (fun s1 g1 hn1 => ?_)
  · refine V.block ?_
    refine V.whileL (fun s1 g1 => ⟨118, upd (upd (upd (fun _ => .any) 10 (.list 119 (s1.map encJoinalgoOne))) 9 (.list 119 (x27.map encJoinalgoOne))) 5 (.ptr [(.list 3 (on.left.map rInt)), (.list 3 (on.right.map rInt)), (pbool on.outer), (pint on.rightWidth)]), fun _ => none, fun _ => none⟩) () H1 (Gh.le (SLe.cons (PLe.of_eq rfl) (SLe.cons (PLe.of_eq rfl) (SLe.cons (PLe.of_eq rfl) SLe.nil))) BLe.nil OLe.nil) (fun m1 s1 g1 hr1 => ?_)
    obtain ⟨fb1, H, hg1⟩ := iterM_cons hr1
    iterate 2 refine V.seq ?_
    refine V.region ?_
    refine AOps.q tt_ok rfl ?_
    refine AOps.lenL tt_ok rfl rfl rfl rfl rfl (List.length_map _) rfl ?_
    iterate 2 refine AOps.q tt_ok rfl ?_
    refine AOps.sH rfl rfl rfl H (fun H => ?_) (fun H => ?_)
    · refine AOps.q tt_ok rfl ?_
      obtain ⟨x37, k37, H⟩ := getE H
      refine AOps.idx tt_ok rfl rfl rfl rfl rfl rfl k37.1 (rowsGetI (fun _ => rfl) k37.2) rfl ?_
      iterate 4 refine AOps.q tt_ok rfl ?_
      refine AOps.nil ?_
      refine V.cH rfl H (fun H => ?_) (fun H => ?_)
      · refine V.skip ?_
        refine V.block ?_
        refine V.region ?_
        refine AOps.q tt_ok rfl ?_
        obtain ⟨x43, h43, H⟩ := bindE H
        have k43 := subI_some h43
        refine AOps.subL tt_ok rfl rfl rfl rfl rfl (List.length_map _) rfl rfl k43.1 (rowsSubE k43.2) rfl ?_
        refine AOps.q tt_ok rfl ?_
        refine AOps.nil ?_
        refine V.blk ?_
        obtain rfl := someE H
        refine V.againL x43 () hg1 (Gh.le (SLe.cons (PLe.of_eq rfl) (SLe.cons (PLe.of_eq rfl) (SLe.cons (PLe.of_eq rfl) SLe.nil))) BLe.nil OLe.nil)
      refine V.exit rfl ?_
      obtain rfl := someE H
      refine V.at s1 () hg1 (Gh.le (SLe.cons (PLe.of_eq rfl) (SLe.cons (PLe.of_eq rfl) (SLe.cons (PLe.of_eq rfl) SLe.nil))) BLe.nil OLe.nil)
    iterate 6 refine AOps.q tt_ok rfl ?_
    refine AOps.nil ?_
    refine V.condF rfl ?_
    refine V.exit rfl ?_
    obtain rfl := someE H
    refine V.at s1 () hg1 (Gh.le (SLe.cons (PLe.of_eq rfl) (SLe.cons (PLe.of_eq rfl) (SLe.cons (PLe.of_eq rfl) SLe.nil))) BLe.nil OLe.nil)
  have H := thenP_next hn1 Hp1
  refine V.seq ?_
  refine V.region ?_
  refine AOps.q tt_ok rfl ?_
  refine AOps.nil ?_
  refine V.seq ?_
  refine V.region ?_
  refine AOps.q tt_ok rfl ?_
  refine AOps.nil ?_
  iterate 2 refine V.seq ?_
  refine V.region ?_
  refine AOps.q tt_ok rfl ?_
  refine AOps.lenL tt_ok rfl rfl rfl rfl rfl (List.length_map _) rfl ?_
  refine AOps.q tt_ok rfl ?_
  refine AOps.nil ?_
  obtain ⟨fl2, H2, Hp2⟩ := bindE H
  refine V.lenF tt_ok 44 rfl rfl (fun hz2 _ => ?_)
  rw [List.length_map] at hz2
  refine V.cut (τ := List (List LVal) × Int) (γ := OwnRef) (fun s2 g2 => ⟨118, upd (fun _ => .any) 11 (.own 102 g2 (s2.1.map (rList 47 encVal)).length), fun _ => none, upd (fun _ => none) 102 (some ⟨g2, 44, (s2.1.map (rList 47 encVal)), true⟩)⟩) (fun t => fl2 = .next t) ?_ (fun s2 g2 hn2 => ?_)
  · refine V.block ?_
    refine V.nilO tt_ok 11 102 (e := 44) rfl rfl ?_
    refine V.rangeL (fun j2 s2 g2 => ⟨118, upd (upd (upd (upd (upd (upd (upd (fun _ => .any) 46 (pint (j2 : Int))) 45 (pint (x27.length : Int))) 44 (.list 119 (x27.map encJoinalgoOne))) 12 (pint s2.2)) 11 (.own 102 g2 (s2.1.map (rList 47 encVal)).length)) 10 (.list 119 (s1.map encJoinalgoOne))) 5 (.ptr [(.list 3 (on.left.map rInt)), (.list 3 (on.right.map rInt)), (pbool on.outer), (pint on.rightWidth)]), fun _ => none, upd (fun _ => none) 102 (some ⟨g2, 44, (s2.1.map (rList 47 encVal)), true⟩)⟩) (⟨none, 0⟩) H2 (Gh.le (SLe.cons (PLe.of_eq rfl) (SLe.cons (PLe.of_eq rfl) (SLe.cons (PLe.of_eq rfl) (SLe.cons (PLe.of_eq rfl) (SLe.cons (PLe.of_eq rfl) (SLe.cons (PLe.of_eq rfl) (SLe.cons (PLe.of_eq rfl) SLe.nil))))))) BLe.nil (OLe.cons rfl OLe.nil)) (fun j2 s2 g2 hj2 hr2 => ?_)
    refine V.seq ?_
    refine V.region ?_
    refine AOps.q tt_ok rfl ?_
    refine AOps.nil ?_
    refine V.seq ?_
    refine V.cond rfl (fun h => ?_) (fun h => ?_)
    · have hl2 := rowsLt h
      obtain ⟨x2, fb2, hx2, H, hg2⟩ := rangeM_cons hl2 hr2
      refine V.skip ?_
      refine V.seq ?_
      refine V.block ?_
      refine V.seq ?_
      refine V.region ?_
      refine AOps.idx tt_ok rfl rfl rfl rfl rfl rfl (Int.natCast_nonneg j2) (rowsGet (fun _ => rfl) hx2) rfl ?_
      refine AOps.q tt_ok rfl ?_
      refine AOps.alloc tt_ok rfl rfl rfl rfl rfl rfl fun b14 => ?_
      refine AOps.storeBox tt_ok rfl rfl rfl rfl rfl rfl rfl rfl rfl rfl rfl ?_
      refine AOps.nil ?_
      refine V.seq ?_
      obtain ⟨fl15, H15, Hp15⟩ := bindE H
      refine V.cut (τ := Int) (γ := Unit) (fun s15 g15 => ⟨118, upd (upd (upd (upd (upd (upd (upd (upd (fun _ => .any) 46 (pint (j2 : Int))) 45 (pint (x27.length : Int))) 44 (.list 119 (x27.map encJoinalgoOne))) 14 (.box 14 b14 0)) 12 (pint s15)) 11 (.own 102 g2 (s2.1.map (rList 47 encVal)).length)) 10 (.list 119 (s1.map encJoinalgoOne))) 5 (.ptr [(.list 3 (on.left.map rInt)), (.list 3 (on.right.map rInt)), (pbool on.outer), (pint on.rightWidth)]), upd (fun _ => none) 14 (some ⟨b14, [(.list 47 (x2.key.map encVal)), (.list 47 (x2.row.map encVal)), (pbool x2.ok)]⟩), upd (fun _ => none) 102 (some ⟨g2, 44, (s2.1.map (rList 47 encVal)), true⟩)⟩) (fun t => fl15 = .next t) ?_ (fun s15 g15 hn15 => ?_)
      · refine V.block ?_
        refine V.whileL (fun s15 g15 => ⟨118, upd (upd (upd (upd (upd (upd (upd (upd (fun _ => .any) 46 (pint (j2 : Int))) 45 (pint (x27.length : Int))) 44 (.list 119 (x27.map encJoinalgoOne))) 14 (.box 14 b14 0)) 12 (pint s15)) 11 (.own 102 g2 (s2.1.map (rList 47 encVal)).length)) 10 (.list 119 (s1.map encJoinalgoOne))) 5 (.ptr [(.list 3 (on.left.map rInt)), (.list 3 (on.right.map rInt)), (pbool on.outer), (pint on.rightWidth)]), upd (fun _ => none) 14 (some ⟨b14, [(.list 47 (x2.key.map encVal)), (.list 47 (x2.row.map encVal)), (pbool x2.ok)]⟩), upd (fun _ => none) 102 (some ⟨g2, 44, (s2.1.map (rList 47 encVal)), true⟩)⟩) () H15 (Gh.le (SLe.cons (PLe.of_eq rfl) (SLe.cons (PLe.of_eq rfl) (SLe.cons (PLe.of_eq rfl) (SLe.cons (PLe.of_eq rfl) (SLe.cons (PLe.of_eq rfl) (SLe.cons (PLe.of_eq rfl) (SLe.cons (PLe.of_eq rfl) (SLe.cons (PLe.of_eq rfl) SLe.nil)))))))) (BLe.cons rfl (PLeAll.refl _ _) BLe.nil) (OLe.cons rfl OLe.nil)) (fun m15 s15 g15 hr15 => ?_)
        obtain ⟨fb15, H, hg15⟩ := iterM_cons hr15
        iterate 2 refine V.seq ?_
        refine V.draw tt_ok mixed_ok ⟨true, false, [63]⟩ [0, 1, 2, 3, 4, 5, 6, 7, 8, 9, 10, 11, 12, 13, 14, 15, 16, 17, 18] rfl (by decide +kernel) rfl ?_
        refine DOps.q rfl ?_
        refine DOps.loadBox rfl rfl rfl rfl rfl rfl rfl rfl rfl ?_
        refine DOps.q rfl ?_
        refine DOps.sH rfl rfl rfl rfl H (fun H => ?_) (fun H => ?_)
        · refine DOps.q rfl ?_
          refine DOps.q rfl ?_
          refine DOps.lenL rfl rfl rfl rfl rfl rfl (List.length_map _) rfl ?_
          iterate 3 refine DOps.q rfl ?_
          refine DOps.sH rfl rfl rfl rfl H (fun H => ?_) (fun H => ?_)
          · refine DOps.q rfl ?_
            refine DOps.q rfl ?_
            obtain ⟨x61, k61, H⟩ := getE H
            refine DOps.idx rfl rfl rfl rfl rfl rfl rfl k61.1 (rowsGetI (fun _ => rfl) k61.2) rfl ?_
            iterate 3 refine DOps.q rfl ?_
            refine DOps.loadBox rfl rfl rfl rfl rfl rfl rfl rfl rfl ?_
            obtain ⟨x66, h66, H⟩ := bindE H
            have s66 := W_query_CompareRows x61.key x2.key ([] : List Bool) _ h66
            refine DOps.callP (g := 19) rfl rfl rfl rfl Tryz.call19 (PLeAll.of2 (PLe2All.cons (PLe2.of_eq rfl) (PLe2All.cons (PLe2.of_eq rfl) (PLe2All.cons (PLe2.nil tt_ok rfl) PLe2All.nil)))) s66 rfl ?_
            iterate 2 refine DOps.q rfl ?_
            refine DOps.nil ?_
            refine V.cH rfl H (fun H => ?_) (fun H => ?_)
            · refine V.skip ?_
              refine V.block ?_
              refine V.region ?_
              iterate 3 refine AOps.q tt_ok rfl ?_
              refine AOps.nil ?_
              refine V.blk ?_
              obtain rfl := someE H
              refine V.againL (IntKind.i64.wrap (s15 + (1 : Int))) () hg15 (Gh.le (SLe.cons (PLe.of_eq rfl) (SLe.cons (PLe.of_eq rfl) (SLe.cons (PLe.of_eq rfl) (SLe.cons (PLe.of_eq rfl) (SLe.cons (PLe.of_eq rfl) (SLe.cons (PLe.of_eq rfl) (SLe.cons (PLe.of_eq rfl) (SLe.cons (PLe.of_eq rfl) SLe.nil)))))))) (BLe.cons rfl (PLeAll.refl _ _) BLe.nil) (OLe.cons rfl OLe.nil))
            refine V.exit rfl ?_
            obtain rfl := someE H
            refine V.at s15 () hg15 (Gh.le (SLe.cons (PLe.of_eq rfl) (SLe.cons (PLe.of_eq rfl) (SLe.cons (PLe.of_eq rfl) (SLe.cons (PLe.of_eq rfl) (SLe.cons (PLe.of_eq rfl) (SLe.cons (PLe.of_eq rfl) (SLe.cons (PLe.of_eq rfl) (SLe.cons (PLe.of_eq rfl) SLe.nil)))))))) (BLe.cons rfl (PLeAll.refl _ _) BLe.nil) (OLe.cons rfl OLe.nil))
          iterate 10 refine DOps.q rfl ?_
          refine DOps.nil ?_
          refine V.condF rfl ?_
          refine V.exit rfl ?_
          obtain rfl := someE H
          refine V.at s15 () hg15 (Gh.le (SLe.cons (PLe.of_eq rfl) (SLe.cons (PLe.of_eq rfl) (SLe.cons (PLe.of_eq rfl) (SLe.cons (PLe.of_eq rfl) (SLe.cons (PLe.of_eq rfl) (SLe.cons (PLe.of_eq rfl) (SLe.cons (PLe.of_eq rfl) (SLe.cons (PLe.of_eq rfl) SLe.nil)))))))) (BLe.cons rfl (PLeAll.refl _ _) BLe.nil) (OLe.cons rfl OLe.nil))
        iterate 16 refine DOps.q rfl ?_
        refine DOps.nil ?_
        refine V.condF rfl ?_
        refine V.exit rfl ?_
        obtain rfl := someE H
        refine V.at s15 () hg15 (Gh.le (SLe.cons (PLe.of_eq rfl) (SLe.cons (PLe.of_eq rfl) (SLe.cons (PLe.of_eq rfl) (SLe.cons (PLe.of_eq rfl) (SLe.cons (PLe.of_eq rfl) (SLe.cons (PLe.of_eq rfl) (SLe.cons (PLe.of_eq rfl) (SLe.cons (PLe.of_eq rfl) SLe.nil)))))))) (BLe.cons rfl (PLeAll.refl _ _) BLe.nil) (OLe.cons rfl OLe.nil))
      have H := thenP_next hn15 Hp15
      refine V.seq ?_
      refine V.region ?_
      refine AOps.q tt_ok rfl ?_
      refine AOps.nil ?_
      iterate 2 refine V.seq ?_
      refine V.region ?_
      iterate 2 refine AOps.q tt_ok rfl ?_
      refine AOps.nil ?_
      obtain ⟨fl16, H16, Hp16⟩ := bindE H
      refine V.cut (τ := List (List LVal) × Bool × Int) (γ := OwnRef) (fun s16 g16 => ⟨118, upd (upd (upd (upd (upd (upd (upd (upd (upd (fun _ => .any) 46 (pint (j2 : Int))) 45 (pint (x27.length : Int))) 44 (.list 119 (x27.map encJoinalgoOne))) 15 (pbool s16.2.1)) 14 (.box 14 b14 0)) 12 (pint s15)) 11 (.own 102 g16 (s16.1.map (rList 47 encVal)).length)) 10 (.list 119 (s1.map encJoinalgoOne))) 5 (.ptr [(.list 3 (on.left.map rInt)), (.list 3 (on.right.map rInt)), (pbool on.outer), (pint on.rightWidth)]), upd (fun _ => none) 14 (some ⟨b14, [(.list 47 (x2.key.map encVal)), (.list 47 (x2.row.map encVal)), (pbool x2.ok)]⟩), upd (fun _ => none) 102 (some ⟨g16, 44, (s16.1.map (rList 47 encVal)), true⟩)⟩) (fun t => fl16 = .next t) ?_ (fun s16 g16 hn16 => ?_)
      · refine V.block ?_
        refine V.whileL (fun s16 g16 => ⟨118, upd (upd (upd (upd (upd (upd (upd (upd (upd (upd (fun _ => .any) 46 (pint (j2 : Int))) 45 (pint (x27.length : Int))) 44 (.list 119 (x27.map encJoinalgoOne))) 16 (pint s16.2.2)) 15 (pbool s16.2.1)) 14 (.box 14 b14 0)) 12 (pint s15)) 11 (.own 102 g16 (s16.1.map (rList 47 encVal)).length)) 10 (.list 119 (s1.map encJoinalgoOne))) 5 (.ptr [(.list 3 (on.left.map rInt)), (.list 3 (on.right.map rInt)), (pbool on.outer), (pint on.rightWidth)]), upd (fun _ => none) 14 (some ⟨b14, [(.list 47 (x2.key.map encVal)), (.list 47 (x2.row.map encVal)), (pbool x2.ok)]⟩), upd (fun _ => none) 102 (some ⟨g16, 44, (s16.1.map (rList 47 encVal)), true⟩)⟩) g2 H16 (Gh.le (SLe.cons (PLe.of_eq rfl) (SLe.cons (PLe.of_eq rfl) (SLe.cons (PLe.of_eq rfl) (SLe.cons (PLe.of_eq rfl) (SLe.cons (PLe.of_eq rfl) (SLe.cons (PLe.of_eq rfl) (SLe.cons (PLe.of_eq rfl) (SLe.cons (PLe.of_eq rfl) (SLe.cons (PLe.of_eq rfl) (SLe.cons (PLe.of_eq rfl) SLe.nil)))))))))) (BLe.cons rfl (PLeAll.refl _ _) BLe.nil) (OLe.cons rfl OLe.nil)) (fun m16 s16 g16 hr16 => ?_)
        obtain ⟨fb16, H, hg16⟩ := iterM_cons hr16
        iterate 2 refine V.seq ?_
        obtain ⟨fl19, H19, Hp19⟩ := bindE H
        refine V.cut (τ := Bool) (γ := Unit) (fun t19 g19 => ⟨118, upd (upd (upd (upd (upd (upd (upd (upd (upd (upd (upd (fun _ => .any) 89 (pbool t19)) 46 (pint (j2 : Int))) 45 (pint (x27.length : Int))) 44 (.list 119 (x27.map encJoinalgoOne))) 16 (pint s16.2.2)) 15 (pbool s16.2.1)) 14 (.box 14 b14 0)) 12 (pint s15)) 11 (.own 102 g16 (s16.1.map (rList 47 encVal)).length)) 10 (.list 119 (s1.map encJoinalgoOne))) 5 (.ptr [(.list 3 (on.left.map rInt)), (.list 3 (on.right.map rInt)), (pbool on.outer), (pint on.rightWidth)]), upd (fun _ => none) 14 (some ⟨b14, [(.list 47 (x2.key.map encVal)), (.list 47 (x2.row.map encVal)), (pbool x2.ok)]⟩), upd (fun _ => none) 102 (some ⟨g16, 44, (s16.1.map (rList 47 encVal)), true⟩)⟩) (fun t => t = fl19) ?_ (fun t19 g19 hn19 => ?_)
        · have H := H19
          refine V.draw tt_ok mixed_ok ⟨true, false, [85]⟩ [0, 1, 2, 3, 4, 5, 6, 7, 8, 9, 10, 11, 12, 13, 14, 15, 16, 17] rfl (by decide +kernel) rfl ?_
          refine DOps.q rfl ?_
          refine DOps.loadBox rfl rfl rfl rfl rfl rfl rfl rfl rfl ?_
          refine DOps.q rfl ?_
          refine DOps.sH rfl rfl rfl rfl H (fun H => ?_) (fun H => ?_)
          · refine DOps.q rfl ?_
            refine DOps.q rfl ?_
            refine DOps.lenL rfl rfl rfl rfl rfl rfl (List.length_map _) rfl ?_
            iterate 3 refine DOps.q rfl ?_
            refine DOps.sH rfl rfl rfl rfl H (fun H => ?_) (fun H => ?_)
            · refine DOps.q rfl ?_
              refine DOps.q rfl ?_
              obtain ⟨x83, k83, H⟩ := getE H
              refine DOps.idx rfl rfl rfl rfl rfl rfl rfl k83.1 (rowsGetI (fun _ => rfl) k83.2) rfl ?_
              iterate 3 refine DOps.q rfl ?_
              refine DOps.loadBox rfl rfl rfl rfl rfl rfl rfl rfl rfl ?_
              obtain ⟨x88, h88, H⟩ := bindE H
              have s88 := W_slices_Equal_api_Row_api_Value x83.key x2.key _ h88
              refine DOps.callP (g := 16) rfl rfl rfl rfl Tryz.call16 (PLeAll.refl _ _) s88 rfl ?_
              refine DOps.q rfl ?_
              refine DOps.nil ?_
              obtain rfl := someE H
              refine V.at x88 () rfl (Gh.le (SLe.cons (PLe.of_eq rfl) (SLe.cons (PLe.of_eq rfl) (SLe.cons (PLe.of_eq rfl) (SLe.cons (PLe.of_eq rfl) (SLe.cons (PLe.of_eq rfl) (SLe.cons (PLe.of_eq rfl) (SLe.cons (PLe.of_eq rfl) (SLe.cons (PLe.of_eq rfl) (SLe.cons (PLe.of_eq rfl) (SLe.cons (PLe.of_eq rfl) (SLe.cons (PLe.of_eq rfl) SLe.nil))))))))))) (BLe.cons rfl (PLeAll.refl _ _) BLe.nil) (OLe.cons rfl OLe.nil))
            iterate 9 refine DOps.q rfl ?_
            refine DOps.nil ?_
            obtain rfl := someE H
            refine V.at false () rfl (Gh.le (SLe.cons (PLe.of_eq rfl) (SLe.cons (PLe.of_eq rfl) (SLe.cons (PLe.of_eq rfl) (SLe.cons (PLe.of_eq rfl) (SLe.cons (PLe.of_eq rfl) (SLe.cons (PLe.of_eq rfl) (SLe.cons (PLe.of_eq rfl) (SLe.cons (PLe.of_eq rfl) (SLe.cons (PLe.of_eq rfl) (SLe.cons (PLe.of_eq rfl) (SLe.cons (PLe.of_eq rfl) SLe.nil))))))))))) (BLe.cons rfl (PLeAll.refl _ _) BLe.nil) (OLe.cons rfl OLe.nil))
          iterate 15 refine DOps.q rfl ?_
          refine DOps.nil ?_
          obtain rfl := someE H
          refine V.at false () rfl (Gh.le (SLe.cons (PLe.of_eq rfl) (SLe.cons (PLe.of_eq rfl) (SLe.cons (PLe.of_eq rfl) (SLe.cons (PLe.of_eq rfl) (SLe.cons (PLe.of_eq rfl) (SLe.cons (PLe.of_eq rfl) (SLe.cons (PLe.of_eq rfl) (SLe.cons (PLe.of_eq rfl) (SLe.cons (PLe.of_eq rfl) (SLe.cons (PLe.of_eq rfl) (SLe.cons (PLe.of_eq rfl) SLe.nil))))))))))) (BLe.cons rfl (PLeAll.refl _ _) BLe.nil) (OLe.cons rfl OLe.nil))
        subst hn19
        have H := Hp19
        refine V.cH rfl H (fun H => ?_) (fun H => ?_)
        · refine V.skip ?_
          refine V.seq ?_
          refine V.block ?_
          refine V.seq ?_
          refine V.draw tt_ok mixed_ok ⟨true, false, [99]⟩ [0, 1, 2, 3, 4, 5, 6, 7, 8, 9, 10, 11] rfl (by decide +kernel) rfl ?_
          iterate 2 refine DOps.q rfl ?_
          refine DOps.loadBox rfl rfl rfl rfl rfl rfl rfl rfl rfl ?_
          iterate 2 refine DOps.q rfl ?_
          obtain ⟨x97, k97, H⟩ := getE H
          refine DOps.idx rfl rfl rfl rfl rfl rfl rfl k97.1 (rowsGetI (fun _ => rfl) k97.2) rfl ?_
          iterate 2 refine DOps.q rfl ?_
          obtain ⟨x100, h100, H⟩ := bindE H
          have s100 := W_joinalgo_pair x2.row x97.row _ h100
          refine DOps.callP (g := 49) rfl rfl rfl rfl Tryz.call49 (PLeAll.refl _ _) s100 rfl ?_
          refine DOps.q rfl ?_
          obtain ⟨x102, h102, H⟩ := bindE H
          have k102 := appI_some h102
          refine DOps.appendC (rows2' := List.map (rList 47 encVal) ([x100] : List (List LVal))) (rows' := List.map (rList 47 encVal) x102) tt_ok rfl rfl rfl rfl rfl rfl rfl rfl rfl rfl rfl rfl rfl rfl (PLe2Rows.refl _) (appI_by k102.1) (appI_mx k102.2.1) (appI_eq k102.2.2) fun g102 => ?_
          refine DOps.q rfl ?_
          refine DOps.nil ?_
          refine V.region ?_
          refine AOps.q tt_ok rfl ?_
          refine AOps.nil ?_
          refine V.blk ?_
          refine V.region ?_
          iterate 3 refine AOps.q tt_ok rfl ?_
          refine AOps.nil ?_
          obtain rfl := someE H
          refine V.againL (x102, true, (IntKind.i64.wrap (s16.2.2 + (1 : Int)))) g102 hg16 (Gh.le (SLe.cons (PLe.of_eq rfl) (SLe.cons (PLe.of_eq rfl) (SLe.cons (PLe.of_eq rfl) (SLe.cons (PLe.of_eq rfl) (SLe.cons (PLe.of_eq rfl) (SLe.cons (PLe.of_eq rfl) (SLe.cons (PLe.of_eq rfl) (SLe.cons (PLe.of_eq rfl) (SLe.cons (PLe.of_eq rfl) (SLe.cons (PLe.of_eq rfl) SLe.nil)))))))))) (BLe.cons rfl (PLeAll.refl _ _) BLe.nil) (OLe.cons rfl OLe.nil))
        refine V.exit rfl ?_
        obtain rfl := someE H
        refine V.at (s16.1, s16.2.1, s16.2.2) g16 hg16 (Gh.le (SLe.cons (PLe.of_eq rfl) (SLe.cons (PLe.of_eq rfl) (SLe.cons (PLe.of_eq rfl) (SLe.cons (PLe.of_eq rfl) (SLe.cons (PLe.of_eq rfl) (SLe.cons (PLe.of_eq rfl) (SLe.cons (PLe.of_eq rfl) (SLe.cons (PLe.of_eq rfl) (SLe.cons (PLe.of_eq rfl) SLe.nil))))))))) (BLe.cons rfl (PLeAll.refl _ _) BLe.nil) (OLe.cons rfl OLe.nil))
      have H := thenP_next hn16 Hp16
      refine V.seq ?_
      obtain ⟨fl20, H20, Hp20⟩ := letE H
      refine V.cut (τ := Bool) (γ := Unit) (fun t20 g20 => ⟨118, upd (upd (upd (upd (upd (upd (upd (upd (upd (fun _ => .any) 108 (pbool t20)) 46 (pint (j2 : Int))) 45 (pint (x27.length : Int))) 44 (.list 119 (x27.map encJoinalgoOne))) 14 (.box 14 b14 0)) 12 (pint s15)) 11 (.own 102 g16 (s16.1.map (rList 47 encVal)).length)) 10 (.list 119 (s1.map encJoinalgoOne))) 5 (.ptr [(.list 3 (on.left.map rInt)), (.list 3 (on.right.map rInt)), (pbool on.outer), (pint on.rightWidth)]), upd (fun _ => none) 14 (some ⟨b14, [(.list 47 (x2.key.map encVal)), (.list 47 (x2.row.map encVal)), (pbool x2.ok)]⟩), upd (fun _ => none) 102 (some ⟨g16, 44, (s16.1.map (rList 47 encVal)), true⟩)⟩) (fun t => t = fl20) ?_ (fun t20 g20 hn20 => ?_)
      · have H := H20
        refine V.region ?_
        iterate 3 refine AOps.q tt_ok rfl ?_
        refine AOps.sH rfl rfl rfl H (fun H => ?_) (fun H => ?_)
        · refine AOps.q tt_ok rfl ?_
          iterate 2 refine AOps.q tt_ok rfl ?_
          refine AOps.nil ?_
          subst H
          refine V.at on.outer () rfl (Gh.le (SLe.cons (PLe.of_eq rfl) (SLe.cons (PLe.of_eq rfl) (SLe.cons (PLe.of_eq rfl) (SLe.cons (PLe.of_eq rfl) (SLe.cons (PLe.of_eq rfl) (SLe.cons (PLe.of_eq rfl) (SLe.cons (PLe.of_eq rfl) (SLe.cons (PLe.of_eq rfl) (SLe.cons (PLe.of_eq rfl) SLe.nil))))))))) (BLe.cons rfl (PLeAll.refl _ _) BLe.nil) (OLe.cons rfl OLe.nil))
        iterate 3 refine AOps.q tt_ok rfl ?_
        refine AOps.nil ?_
        subst H
        refine V.at false () rfl (Gh.le (SLe.cons (PLe.of_eq rfl) (SLe.cons (PLe.of_eq rfl) (SLe.cons (PLe.of_eq rfl) (SLe.cons (PLe.of_eq rfl) (SLe.cons (PLe.of_eq rfl) (SLe.cons (PLe.of_eq rfl) (SLe.cons (PLe.of_eq rfl) (SLe.cons (PLe.of_eq rfl) (SLe.cons (PLe.of_eq rfl) SLe.nil))))))))) (BLe.cons rfl (PLeAll.refl _ _) BLe.nil) (OLe.cons rfl OLe.nil))
      subst hn20
      have H := Hp20
      refine V.cH rfl H (fun H => ?_) (fun H => ?_)
      · refine V.region ?_
        iterate 2 refine AOps.q tt_ok rfl ?_
        refine AOps.loadBox tt_ok rfl rfl rfl rfl rfl rfl rfl ?_
        refine AOps.q tt_ok rfl ?_
        obtain ⟨x113, h113, H⟩ := bindE H
        have s113 := W_joinalgo_alone x2.row on _ h113
        refine AOps.callP (g := 50) rfl rfl rfl Tryz.call50 (PLeAll.refl _ _) s113 rfl ?_
        refine AOps.bsC tt_ok rfl rfl rfl rfl (rows' := List.map (rList 47 encVal) ([x113] : List (List LVal))) rfl (PLe2Rows.refl _) rfl rfl ?_
        obtain ⟨x115, h115, H⟩ := bindE H
        have k115 := appI_some h115
        refine AOps.appendC (rows2' := List.map (rList 47 encVal) ([x113] : List (List LVal))) (rows' := List.map (rList 47 encVal) x115) tt_ok rfl rfl rfl rfl rfl rfl rfl rfl rfl rfl rfl rfl rfl (PLe2Rows.refl _) (appI_by k115.1) (appI_mx k115.2.1) (appI_eq k115.2.2) fun g115 => ?_
        refine AOps.q tt_ok rfl ?_
        refine AOps.nil ?_
        refine V.blk ?_
        refine V.region ?_
        iterate 2 refine AOps.q tt_ok rfl ?_
        refine AOps.nil ?_
        obtain rfl := someE H
        refine V.againL (x115, s15) g115 ⟨hl2, hg2⟩ (Gh.le (SLe.cons (PLe.of_eq rfl) (SLe.cons (PLe.of_eq rfl) (SLe.cons (PLe.of_eq rfl) (SLe.cons (PLe.of_eq rfl) (SLe.cons (PLe.of_eq rfl) (SLe.cons (PLe.of_eq rfl) (SLe.cons (PLe.of_eq (pint_succ (by omega))) SLe.nil))))))) BLe.nil (OLe.cons rfl OLe.nil))
      refine V.skip ?_
      refine V.blk ?_
      refine V.region ?_
      iterate 2 refine AOps.q tt_ok rfl ?_
      refine AOps.nil ?_
      obtain rfl := someE H
      refine V.againL (s16.1, s15) g16 ⟨hl2, hg2⟩ (Gh.le (SLe.cons (PLe.of_eq rfl) (SLe.cons (PLe.of_eq rfl) (SLe.cons (PLe.of_eq rfl) (SLe.cons (PLe.of_eq rfl) (SLe.cons (PLe.of_eq rfl) (SLe.cons (PLe.of_eq rfl) (SLe.cons (PLe.of_eq (pint_succ (by omega))) SLe.nil))))))) BLe.nil (OLe.cons rfl OLe.nil))
    have hn2 := rangeM_done (rowsGe h) hr2
    refine V.exit rfl ?_
    refine V.at s2 g2 hn2 (Gh.le (SLe.cons (PLe.of_eq rfl) SLe.nil) BLe.nil (OLe.cons rfl OLe.nil))
  have H := thenP_next hn2 Hp2
  refine V.seq ?_
  refine V.region ?_
  iterate 3 refine AOps.q tt_ok rfl ?_
  refine AOps.nil ?_
  obtain rfl := someE H
  refine V.freezeO 6 rfl rfl rfl ?_
  refine V.retP tt_ok rfl (ps := [(.list 44 (s2.1.map (rList 47 encVal))), (pint 0)]) ⟨_, _, rfl, rfl, _, _, rfl, rfl, rfl⟩ (PLe.of_eq rfl)

end Go.Proofs.YtjnpnakcmjndiaaGreatDoor
/- Lifted functions: printed by lift.py. -/
namespace Go.Proofs.YtjnpnakcmjndiaaGreatDoor
open Go Go.Ab
attribute [local irreducible] V AOps DOps Gh Eff PCallsH IntKind.wrap
set_option maxRecDepth 4000

noncomputable def L_stemkeep3_JoinMergeOrder (a : List (List LVal)) (b : List (List LVal)) (on : LJoinalgoCondition) : Option (Bool) :=
  letP (sampleV) fun x15 =>
  cond (!x15)
    (some false)
    (letP (
      cond (decide ((a.length : Int) > (80 : Int)))
        (true)
        (cond (decide ((b.length : Int) > (80 : Int)))
          (true)
          ((decide ((IntKind.i64.wrap ((on.left.length : Int) + (on.right.length : Int))) > (20 : Int)))))) fun (t1 : Bool) =>
    cond t1
      (some true)
      (bindP (L_joinalgo_SortMergeJoin a b on) fun x39 =>
      cond (x39.2 != (0 : Int))
        (some ((x39.1.length : Int) == (0 : Int)))
        (bindP (whileM (σ := Int) (ρ := (Bool)) (fun (s2 : Int) =>
          cond (decide (s2 < (x39.1.length : Int)))
            (bindP (getI x39.1 (IntKind.i64.wrap (s2 - (1 : Int)))) fun (x59 : List LVal) =>
            bindP (L_stemkeep3_JoinMergeOrder_1 x59 on) fun x61 =>
            bindP (getI x39.1 s2) fun (x68 : List LVal) =>
            bindP (L_stemkeep3_JoinMergeOrder_1 x68 on) fun x70 =>
            cond x61.2
              (cond (!x70.2)
                (some (.ret false))
                (cond x61.2
                  (cond x70.2
                    (bindP (L_query_CompareRows x61.1 x70.1 ([] : List Bool)) fun x86 =>
                    cond (decide (x86 > (0 : Int)))
                      (some (.ret false))
                      (some (.next (IntKind.i64.wrap (s2 + (1 : Int))))))
                    (some (.next (IntKind.i64.wrap (s2 + (1 : Int))))))
                  (some (.next (IntKind.i64.wrap (s2 + (1 : Int)))))))
              (cond x61.2
                (cond x70.2
                  (bindP (L_query_CompareRows x61.1 x70.1 ([] : List Bool)) fun x86 =>
                  cond (decide (x86 > (0 : Int)))
                    (some (.ret false))
                    (some (.next (IntKind.i64.wrap (s2 + (1 : Int))))))
                  (some (.next (IntKind.i64.wrap (s2 + (1 : Int))))))
                (some (.next (IntKind.i64.wrap (s2 + (1 : Int)))))))
            (some (.brk s2))) 1) fun fl2 => fl2.thenR fun (_s2 : Int) =>
        some true)))

set_option maxHeartbeats 4000000 in
theorem W_stemkeep3_JoinMergeOrder (a : List (List LVal)) (b : List (List LVal)) (on : LJoinalgoCondition) (r : Bool) (H : L_stemkeep3_JoinMergeOrder a b on = some r) :
    PFun Tryz.prog 5 [(.list 44 (a.map (rList 47 encVal))), (.list 44 (b.map (rList 47 encVal))), (.agg (encJoinalgoCondition on))] (pbool r) := by
  unfold L_stemkeep3_JoinMergeOrder at H
  refine PCallsH.intro Tryz.func5 rfl Tryz.ntmps5 rfl ?_
  refine V.seq ?_
  refine V.region ?_
  refine AOps.boxF rfl rfl rfl rfl rfl rfl ?_
  refine AOps.q tt_ok rfl ?_
  refine AOps.nil ?_
  iterate 2 refine V.seq ?_
  refine V.region ?_
  obtain ⟨x15, h15, H⟩ := letE H
  have s15 := sampleV_spec
  rw [h15] at s15
  refine AOps.callP (g := 12) rfl rfl rfl Tryz.call12 (PLeAll.refl _ _) s15 rfl ?_
  refine AOps.q tt_ok rfl ?_
  refine AOps.nil ?_
  refine V.cH rfl H (fun H => ?_) (fun H => ?_)
  · refine V.seq ?_
    refine V.region ?_
    refine AOps.q tt_ok rfl ?_
    refine AOps.nil ?_
    obtain rfl := someE H
    refine V.retP tt_ok rfl (ps := [(pbool false)]) ⟨_, _, rfl, rfl, rfl⟩ (PLe.of_eq rfl)
  refine V.skip ?_
  iterate 2 refine V.seq ?_
  obtain ⟨fl1, H1, Hp1⟩ := letE H
  refine V.cut (τ := Bool) (γ := Unit) (fun t1 g1 => ⟨90, upd (upd (upd (upd (fun _ => .any) 34 (pbool t1)) 5 (.ptr [(.list 3 (on.left.map rInt)), (.list 3 (on.right.map rInt)), (pbool on.outer), (pint on.rightWidth)])) 1 (.list 44 (b.map (rList 47 encVal)))) 0 (.list 44 (a.map (rList 47 encVal))), fun _ => none, fun _ => none⟩) (fun t => t = fl1) ?_ (fun t1 g1 hn1 => ?_)
  · have H := H1
    refine V.region ?_
    refine AOps.q tt_ok rfl ?_
    refine AOps.lenL tt_ok rfl rfl rfl rfl rfl (List.length_map _) rfl ?_
    iterate 2 refine AOps.q tt_ok rfl ?_
    refine AOps.sH rfl rfl rfl H (fun H => ?_) (fun H => ?_)
    · refine AOps.q tt_ok rfl ?_
      iterate 13 refine AOps.q tt_ok rfl ?_
      refine AOps.nil ?_
      subst H
      refine V.at true () rfl (Gh.le (SLe.cons (PLe.of_eq rfl) (SLe.cons (PLe.of_eq rfl) (SLe.cons (PLe.of_eq rfl) (SLe.cons (PLe.of_eq rfl) SLe.nil)))) BLe.nil OLe.nil)
    refine AOps.q tt_ok rfl ?_
    refine AOps.lenL tt_ok rfl rfl rfl rfl rfl (List.length_map _) rfl ?_
    iterate 3 refine AOps.q tt_ok rfl ?_
    refine AOps.sH rfl rfl rfl H (fun H => ?_) (fun H => ?_)
    · refine AOps.q tt_ok rfl ?_
      iterate 8 refine AOps.q tt_ok rfl ?_
      refine AOps.nil ?_
      subst H
      refine V.at true () rfl (Gh.le (SLe.cons (PLe.of_eq rfl) (SLe.cons (PLe.of_eq rfl) (SLe.cons (PLe.of_eq rfl) (SLe.cons (PLe.of_eq rfl) SLe.nil)))) BLe.nil OLe.nil)
    iterate 2 refine AOps.q tt_ok rfl ?_
    refine AOps.lenL tt_ok rfl rfl rfl rfl rfl (List.length_map _) rfl ?_
    iterate 2 refine AOps.q tt_ok rfl ?_
    refine AOps.lenL tt_ok rfl rfl rfl rfl rfl (List.length_map _) rfl ?_
    iterate 3 refine AOps.q tt_ok rfl ?_
    refine AOps.nil ?_
    subst H
    refine V.at (decide ((IntKind.i64.wrap ((on.left.length : Int) + (on.right.length : Int))) > (20 : Int))) () rfl (Gh.le (SLe.cons (PLe.of_eq rfl) (SLe.cons (PLe.of_eq rfl) (SLe.cons (PLe.of_eq rfl) (SLe.cons (PLe.of_eq rfl) SLe.nil)))) BLe.nil OLe.nil)
  subst hn1
  have H := Hp1
  refine V.cH rfl H (fun H => ?_) (fun H => ?_)
  · refine V.seq ?_
    refine V.region ?_
    refine AOps.q tt_ok rfl ?_
    refine AOps.nil ?_
    obtain rfl := someE H
    refine V.retP tt_ok rfl (ps := [(pbool true)]) ⟨_, _, rfl, rfl, rfl⟩ (PLe.of_eq rfl)
  refine V.skip ?_
  refine V.seq ?_
  refine V.region ?_
  iterate 3 refine AOps.q tt_ok rfl ?_
  obtain ⟨x39, h39, H⟩ := bindE H
  have s39 := W_joinalgo_SortMergeJoin a b on _ h39
  refine AOps.callP (g := 17) rfl rfl rfl Tryz.call17 (PLeAll.refl _ _) s39 rfl ?_
  iterate 5 refine AOps.q tt_ok rfl ?_
  refine AOps.nil ?_
  iterate 2 refine V.seq ?_
  refine V.region ?_
  iterate 2 refine AOps.q tt_ok rfl ?_
  refine AOps.nil ?_
  refine V.cH rfl H (fun H => ?_) (fun H => ?_)
  · refine V.seq ?_
    refine V.region ?_
    refine AOps.q tt_ok rfl ?_
    refine AOps.lenL tt_ok rfl rfl rfl rfl rfl (List.length_map _) rfl ?_
    iterate 2 refine AOps.q tt_ok rfl ?_
    refine AOps.nil ?_
    obtain rfl := someE H
    refine V.retP tt_ok rfl (ps := [(pbool ((x39.1.length : Int) == (0 : Int)))]) ⟨_, _, rfl, rfl, rfl⟩ (PLe.of_eq rfl)
  refine V.skip ?_
  refine V.seq ?_
  refine V.region ?_
  iterate 2 refine AOps.q tt_ok rfl ?_
  refine AOps.nil ?_
  iterate 2 refine V.seq ?_
  refine V.region ?_
  refine AOps.q tt_ok rfl ?_
  refine AOps.nil ?_
  obtain ⟨fl2, H2, Hp2⟩ := bindE H
  refine V.cut (τ := Int) (γ := Unit) (fun s2 g2 => ⟨90, fun _ => .any, fun _ => none, fun _ => none⟩) (fun t => fl2 = .next t) ?_ (fun s2 g2 hn2 => ?_)
  · refine V.block ?_
    refine V.whileL (fun s2 g2 => ⟨90, upd (upd (upd (fun _ => .any) 10 (pint s2)) 9 (.fn 18 [(.ptr [(.list 3 (on.left.map rInt)), (.list 3 (on.right.map rInt)), (pbool on.outer), (pint on.rightWidth)])])) 7 (.list 44 (x39.1.map (rList 47 encVal))), fun _ => none, fun _ => none⟩) () H2 (Gh.le (SLe.cons (PLe.of_eq rfl) (SLe.cons (PLe.of_eq rfl) (SLe.cons (PLe.of_eq rfl) SLe.nil))) BLe.nil OLe.nil) (fun m2 s2 g2 hr2 => ?_)
    obtain ⟨fb2, H, hg2⟩ := iterM_cons hr2
    iterate 2 refine V.seq ?_
    refine V.region ?_
    iterate 2 refine AOps.q tt_ok rfl ?_
    refine AOps.lenL tt_ok rfl rfl rfl rfl rfl (List.length_map _) rfl ?_
    refine AOps.q tt_ok rfl ?_
    refine AOps.nil ?_
    refine V.cH rfl H (fun H => ?_) (fun H => ?_)
    · refine V.skip ?_
      refine V.seq ?_
      refine V.block ?_
      refine V.seq ?_
      refine V.region ?_
      iterate 4 refine AOps.q tt_ok rfl ?_
      obtain ⟨x59, k59, H⟩ := getE H
      refine AOps.idx tt_ok rfl rfl rfl rfl rfl rfl k59.1 (rowsGetI (fun _ => rfl) k59.2) rfl ?_
      refine AOps.q tt_ok rfl ?_
      obtain ⟨x61, h61, H⟩ := bindE H
      have s61 := W_stemkeep3_JoinMergeOrder_1 x59 on _ h61
      refine AOps.callP (g := 18) rfl rfl rfl Tryz.call18 (PLeAll.refl _ _) s61 rfl ?_
      iterate 5 refine AOps.q tt_ok rfl ?_
      refine AOps.nil ?_
      refine V.seq ?_
      refine V.region ?_
      iterate 3 refine AOps.q tt_ok rfl ?_
      obtain ⟨x68, k68, H⟩ := getE H
      refine AOps.idx tt_ok rfl rfl rfl rfl rfl rfl k68.1 (rowsGetI (fun _ => rfl) k68.2) rfl ?_
      refine AOps.q tt_ok rfl ?_
      obtain ⟨x70, h70, H⟩ := bindE H
      have s70 := W_stemkeep3_JoinMergeOrder_1 x68 on _ h70
      refine AOps.callP (g := 18) rfl rfl rfl Tryz.call18 (PLeAll.refl _ _) s70 rfl ?_
      iterate 5 refine AOps.q tt_ok rfl ?_
      refine AOps.nil ?_
      refine V.seq ?_
      refine V.region ?_
      iterate 2 refine AOps.q tt_ok rfl ?_
      refine AOps.sH rfl rfl rfl H (fun H => ?_) (fun H => ?_)
      · refine AOps.q tt_ok rfl ?_
        iterate 3 refine AOps.q tt_ok rfl ?_
        refine AOps.sH rfl rfl rfl H (fun H => ?_) (fun H => ?_)
        · refine AOps.q tt_ok rfl ?_
          iterate 10 refine AOps.q tt_ok rfl ?_
          refine AOps.nil ?_
          refine V.condT rfl ?_
          refine V.seq ?_
          refine V.region ?_
          refine AOps.q tt_ok rfl ?_
          refine AOps.nil ?_
          obtain rfl := someE H
          have e2 : fl2 = .ret _ := hg2
          subst e2
          obtain rfl := thenR_ret Hp2
          refine V.retP tt_ok rfl (ps := [(pbool false)]) ⟨_, _, rfl, rfl, rfl⟩ (PLe.of_eq rfl)
        iterate 2 refine AOps.q tt_ok rfl ?_
        refine AOps.sH rfl rfl rfl H (fun H => ?_) (fun H => ?_)
        · refine AOps.q tt_ok rfl ?_
          iterate 2 refine AOps.q tt_ok rfl ?_
          refine AOps.sH rfl rfl rfl H (fun H => ?_) (fun H => ?_)
          · refine AOps.q tt_ok rfl ?_
            refine AOps.q tt_ok rfl ?_
            obtain ⟨x86, h86, H⟩ := bindE H
            have s86 := W_query_CompareRows x61.1 x70.1 ([] : List Bool) _ h86
            refine AOps.callP (g := 19) rfl rfl rfl Tryz.call19 (PLeAll.of2 (PLe2All.cons (PLe2.of_eq rfl) (PLe2All.cons (PLe2.of_eq rfl) (PLe2All.cons (PLe2.nil tt_ok rfl) PLe2All.nil)))) s86 rfl ?_
            iterate 3 refine AOps.q tt_ok rfl ?_
            refine AOps.nil ?_
            refine V.cH rfl H (fun H => ?_) (fun H => ?_)
            · refine V.seq ?_
              refine V.region ?_
              refine AOps.q tt_ok rfl ?_
              refine AOps.nil ?_
              obtain rfl := someE H
              have e2 : fl2 = .ret _ := hg2
              subst e2
              obtain rfl := thenR_ret Hp2
              refine V.retP tt_ok rfl (ps := [(pbool false)]) ⟨_, _, rfl, rfl, rfl⟩ (PLe.of_eq rfl)
            refine V.skip ?_
            refine V.blk ?_
            refine V.region ?_
            iterate 3 refine AOps.q tt_ok rfl ?_
            refine AOps.nil ?_
            obtain rfl := someE H
            refine V.againL (IntKind.i64.wrap (s2 + (1 : Int))) () hg2 (Gh.le (SLe.cons (PLe.of_eq rfl) (SLe.cons (PLe.of_eq rfl) (SLe.cons (PLe.of_eq rfl) SLe.nil))) BLe.nil OLe.nil)
          iterate 6 refine AOps.q tt_ok rfl ?_
          refine AOps.nil ?_
          refine V.condF rfl ?_
          refine V.skip ?_
          refine V.blk ?_
          refine V.region ?_
          iterate 3 refine AOps.q tt_ok rfl ?_
          refine AOps.nil ?_
          obtain rfl := someE H
          refine V.againL (IntKind.i64.wrap (s2 + (1 : Int))) () hg2 (Gh.le (SLe.cons (PLe.of_eq rfl) (SLe.cons (PLe.of_eq rfl) (SLe.cons (PLe.of_eq rfl) SLe.nil))) BLe.nil OLe.nil)
        iterate 9 refine AOps.q tt_ok rfl ?_
        refine AOps.nil ?_
        refine V.condF rfl ?_
        refine V.skip ?_
        refine V.blk ?_
        refine V.region ?_
        iterate 3 refine AOps.q tt_ok rfl ?_
        refine AOps.nil ?_
        obtain rfl := someE H
        refine V.againL (IntKind.i64.wrap (s2 + (1 : Int))) () hg2 (Gh.le (SLe.cons (PLe.of_eq rfl) (SLe.cons (PLe.of_eq rfl) (SLe.cons (PLe.of_eq rfl) SLe.nil))) BLe.nil OLe.nil)
      iterate 6 refine AOps.q tt_ok rfl ?_
      refine AOps.sH rfl rfl rfl H (fun H => ?_) (fun H => ?_)
      · refine AOps.q tt_ok rfl ?_
        iterate 2 refine AOps.q tt_ok rfl ?_
        refine AOps.sH rfl rfl rfl H (fun H => ?_) (fun H => ?_)
        · refine AOps.q tt_ok rfl ?_
          refine AOps.q tt_ok rfl ?_
          obtain ⟨x86, h86, H⟩ := bindE H
          have s86 := W_query_CompareRows x61.1 x70.1 ([] : List Bool) _ h86
          refine AOps.callP (g := 19) rfl rfl rfl Tryz.call19 (PLeAll.of2 (PLe2All.cons (PLe2.of_eq rfl) (PLe2All.cons (PLe2.of_eq rfl) (PLe2All.cons (PLe2.nil tt_ok rfl) PLe2All.nil)))) s86 rfl ?_
          iterate 3 refine AOps.q tt_ok rfl ?_
          refine AOps.nil ?_
          refine V.cH rfl H (fun H => ?_) (fun H => ?_)
          · refine V.seq ?_
            refine V.region ?_
            refine AOps.q tt_ok rfl ?_
            refine AOps.nil ?_
            obtain rfl := someE H
            have e2 : fl2 = .ret _ := hg2
            subst e2
            obtain rfl := thenR_ret Hp2
            refine V.retP tt_ok rfl (ps := [(pbool false)]) ⟨_, _, rfl, rfl, rfl⟩ (PLe.of_eq rfl)
          refine V.skip ?_
          refine V.blk ?_
          refine V.region ?_
          iterate 3 refine AOps.q tt_ok rfl ?_
          refine AOps.nil ?_
          obtain rfl := someE H
          refine V.againL (IntKind.i64.wrap (s2 + (1 : Int))) () hg2 (Gh.le (SLe.cons (PLe.of_eq rfl) (SLe.cons (PLe.of_eq rfl) (SLe.cons (PLe.of_eq rfl) SLe.nil))) BLe.nil OLe.nil)
        iterate 6 refine AOps.q tt_ok rfl ?_
        refine AOps.nil ?_
        refine V.condF rfl ?_
        refine V.skip ?_
        refine V.blk ?_
        refine V.region ?_
        iterate 3 refine AOps.q tt_ok rfl ?_
        refine AOps.nil ?_
        obtain rfl := someE H
        refine V.againL (IntKind.i64.wrap (s2 + (1 : Int))) () hg2 (Gh.le (SLe.cons (PLe.of_eq rfl) (SLe.cons (PLe.of_eq rfl) (SLe.cons (PLe.of_eq rfl) SLe.nil))) BLe.nil OLe.nil)
      iterate 9 refine AOps.q tt_ok rfl ?_
      refine AOps.nil ?_
      refine V.condF rfl ?_
      refine V.skip ?_
      refine V.blk ?_
      refine V.region ?_
      iterate 3 refine AOps.q tt_ok rfl ?_
      refine AOps.nil ?_
      obtain rfl := someE H
      refine V.againL (IntKind.i64.wrap (s2 + (1 : Int))) () hg2 (Gh.le (SLe.cons (PLe.of_eq rfl) (SLe.cons (PLe.of_eq rfl) (SLe.cons (PLe.of_eq rfl) SLe.nil))) BLe.nil OLe.nil)
    refine V.exit rfl ?_
    obtain rfl := someE H
    refine V.at s2 () hg2 (Gh.le SLe.nil BLe.nil OLe.nil)
  have H := thenR_next hn2 Hp2
  refine V.seq ?_
  refine V.region ?_
  refine AOps.q tt_ok rfl ?_
  refine AOps.nil ?_
  obtain rfl := someE H
  refine V.retP tt_ok rfl (ps := [(pbool true)]) ⟨_, _, rfl, rfl, rfl⟩ (PLe.of_eq rfl)

end Go.Proofs.YtjnpnakcmjndiaaGreatDoor
/- All lifted functions: printed by lift.py. -/
/- Facts on loops; rows are compared in a total order. Printed by stabgen.py. -/
namespace Go.Proofs.YtjnpnakcmjndiaaGreatDoor
open Go Go.Ab
open Go.Sort (swp insInner insOuter insertionSort siftDown size_swp SWO PermIn SortedIn permIn_refl permIn_trans permIn_mono permIn_all swp_permIn swp_get)

def Tot {α : Type} (o : Option α) : Prop := ∃ v, o = some v
theorem Tot.mk {α : Type} {v : α} : Tot (Option.some v) := ⟨v, rfl⟩
theorem Tot.bind {α β : Type} {o : Option α} {k : α → Option β} (h : Tot o) (hk : ∀ v, o = some v → Tot (k v)) : Tot (bindP o k) := by
  obtain ⟨v, hv⟩ := h
  rw [hv]
  exact hk v hv
theorem Tot.cond {α : Type} {b : Bool} {x y : Option α} (hx : b = true → Tot x) (hy : b = false → Tot y) : Tot (cond b x y) := by
  cases b
  · exact hy rfl
  · exact hx rfl
theorem Tot.letP {α β : Type} {a : α} {k : α → Option β} (h : Tot (k a)) : Tot (letP a k) := h
theorem Tot.range {α σ ρ : Type} {step : Nat → α → σ → Option (Flow σ ρ)} : ∀ (xs : List α) (j : Nat) (s : σ), (∀ k x s, xs[k]? = some x → Tot (step (j + k) x s)) → Tot (rangeM step j xs s)
  | [], _, s, _ => ⟨.next s, rfl⟩
  | x :: xs, j, s, h => by
    obtain ⟨fl, hfl⟩ := h 0 x s rfl
    rw [Nat.add_zero] at hfl
    rw [rangeM, hfl]
    cases fl with
    | next s' =>
      exact Tot.range xs (j + 1) s' fun k y t hk => by
        have := h (k + 1) y t (by simpa using hk)
        rwa [show j + (k + 1) = j + 1 + k from by omega] at this
    | brk s' => exact ⟨_, rfl⟩
    | ret r => exact ⟨_, rfl⟩
theorem Tot.thenR {σ ρ : Type} {fl : Flow σ ρ} {k : σ → Option ρ} (h : ∀ s, (fl = .next s ∨ fl = .brk s) → Tot (k s)) : Tot (fl.thenR k) := by
  cases fl with
  | next s => exact h s (.inl rfl)
  | brk s => exact h s (.inr rfl)
  | ret r => exact ⟨r, rfl⟩
theorem getI_of {α : Type} {xs : List α} {k : Nat} (h : k < xs.length) : getI xs (k : Int) = some xs[k] := getI_nat (List.getElem?_eq_getElem h)
theorem beqT {a b : Int} (h : a = b) : (a == b) = true := by simp [h]
theorem beqF {a b : Int} (h : a ≠ b) : (a == b) = false := by simpa using h
theorem bneT {a b : Int} (h : a ≠ b) : (a != b) = true := by simpa using h
theorem bneF {a b : Int} (h : a = b) : (a != b) = false := by simp [h]
theorem whileM_by {σ ρ : Type} {step : σ → Option (Flow σ ρ)} (I : σ → Prop) (μ : σ → Nat) (Q : σ → Prop) (R : ρ → Prop) (hs : ∀ s, I s → ∃ fl, step s = some fl ∧ (match fl with | .next s' => I s' ∧ μ s' < μ s | .brk s' => Q s' | .ret r => R r)) :
    ∀ s, I s → ∃ fl, whileM step s = some fl ∧ (match fl with | .next s' => Q s' | .brk _ => False | .ret r => R r) := by
  intro s
  generalize hn : μ s = n
  induction n using Nat.strongRecOn generalizing s with
  | _ n ih =>
    intro hI
    obtain ⟨fl, h1, h2⟩ := hs s hI
    cases fl with
    | next s' =>
      obtain ⟨fl, h3, h4⟩ := ih (μ s') (hn ▸ h2.2) s' rfl h2.1
      exact ⟨fl, whileM_step h1 h3, h4⟩
    | brk s' => exact ⟨.next s', whileM_step h1 rfl, h2⟩
    | ret r => exact ⟨.ret r, whileM_step h1 rfl, h2⟩
theorem while_run {σ β : Type} {step : σ → Option (Flow σ Empty)} {k : σ → Option β} {R : β → Prop} {s : σ} (I : σ → Prop) (μ : σ → Nat) (Q : σ → Prop) (h0 : I s)
    (hs : ∀ s, I s → ∃ fl, step s = some fl ∧ (match fl with | .next s' => I s' ∧ μ s' < μ s | .brk s' => Q s' | .ret _ => False)) (hk : ∀ s', Q s' → ∃ r, k s' = some r ∧ R r) :
    ∃ r, bindP (whileM step s) (fun fl => fl.thenP k) = some r ∧ R r := by
  obtain ⟨fl, h1, h2⟩ := whileM_by (step := step) I μ Q (fun _ => False) (fun s hI => by
    obtain ⟨fl, h1, h2⟩ := hs s hI
    refine ⟨fl, h1, ?_⟩
    cases fl with
    | next s' => exact h2
    | brk s' => exact h2
    | ret r => exact r.elim) s h0
  cases fl with
  | next s' => rw [h1]; exact hk s' h2
  | brk s' => exact absurd h2 (by simp)
  | ret r => exact r.elim
theorem mid_eq {n : Int} (h0 : 0 ≤ n) (h1 : n ≤ 4611686018427387904) : IntKind.i64.wrap (Int.fdiv (IntKind.u64.wrap (IntKind.i64.wrap n)) (2 ^ 1)) = n / 2 := by
  have h3 : IntKind.i64.wrap n = n := wrap_id (by omega) (by omega)
  have h2 : IntKind.u64.wrap n = n := by
    simp only [IntKind.wrap, IntKind.bits, IntKind.signed]
    simp
    omega
  rw [h3, h2, show (2 : Int) ^ 1 = 2 from rfl, Int.fdiv_eq_ediv_of_nonneg _ (by decide)]
  exact wrap_id (by omega) (by omega)
def LeO {β : Type} (o o' : Option β) : Prop := ∀ r, o = some r → o' = some r
theorem LeO.refl {β : Type} (o : Option β) : LeO o o := fun _ h => h
theorem LeO.bind {β γ : Type} {o o' : Option β} {k k' : β → Option γ} (h : LeO o o') (hk : ∀ v, LeO (k v) (k' v)) : LeO (bindP o k) (bindP o' k') := by
  intro r hr
  cases o with
  | none => cases hr
  | some v => rw [h v rfl]; exact hk v r hr
theorem LeO.cond {β : Type} {b : Bool} {x x' y y' : Option β} (hx : LeO x x') (hy : LeO y y') : LeO (cond b x y) (cond b x' y') := by
  cases b
  · exact hy
  · exact hx
theorem LeO.thenP {σ β : Type} {fl : Flow σ Empty} {k k' : σ → Option β} (hk : ∀ s, LeO (k s) (k' s)) : LeO (fl.thenP k) (fl.thenP k') := by
  cases fl with
  | next s => exact hk s
  | brk s => exact hk s
  | ret r => exact r.elim
theorem LeO.whileM {σ ρ : Type} {st st' : σ → Option (Flow σ ρ)} (h : ∀ s, LeO (st s) (st' s)) (s : σ) : LeO (whileM st s) (whileM st' s) := by
  intro r hr
  rw [whileM_iff] at hr ⊢
  obtain ⟨n, hn⟩ := hr
  refine ⟨n, ?_⟩
  induction n generalizing s with
  | zero => simp [iterM] at hn
  | succ n ih =>
    simp only [iterM] at hn ⊢
    cases hs : st s with
    | none => rw [hs] at hn; cases hn
    | some fl =>
      rw [h s fl hs]
      rw [hs] at hn
      cases fl with
      | next s' => exact ih s' hn
      | brk s' => exact hn
      | ret x => exact hn
theorem bind_ex {β γ : Type} {o : Option β} {k : β → Option γ} {R : γ → Prop} {P : β → Prop} (h : ∃ t, o = some t ∧ P t) (hk : ∀ t, P t → ∃ r, k t = some r ∧ R r) : ∃ r, bindP o k = some r ∧ R r := by
  obtain ⟨t, rfl, ht⟩ := h
  exact hk t ht
theorem val_eq (x y : LVal) : (x.kind == y.kind && (x.int == y.int && (x.text == y.text && true))) = decide (x = y) := by
  obtain ⟨a, b, c⟩ := x
  obtain ⟨a', b', c'⟩ := y
  by_cases h : (⟨a, b, c⟩ : LVal) = ⟨a', b', c'⟩
  · rw [decide_eq_true h]; cases h; simp
  · rw [decide_eq_false h]
    by_cases h1 : a = a'
    · by_cases h2 : b = b'
      · have h3 : c ≠ c' := fun h3 => h (by rw [h1, h2, h3])
        have : (c == c') = false := by simpa using h3
        simp [this]
      · simp [beqF h2]
    · simp [beqF h1]
def lessV (a b : LVal) : Bool :=
  if a.kind ≠ b.kind then decide (a.kind < b.kind) else if a.int ≠ b.int then decide (a.int < b.int) else Op.bytesLess a.text b.text
theorem less_eq (a b : LVal) : L_expr_Less a b = lessV a b := by
  unfold L_expr_Less lessV
  by_cases h1 : a.kind = b.kind <;> by_cases h2 : a.int = b.int <;> simp [h1, h2, bne_iff_ne, cond_eq_ite]
structure STO {α : Type} (lt : α → α → Bool) : Prop where
  irrefl : ∀ x, lt x x = false
  trans : ∀ x y z, lt x y = true → lt y z = true → lt x z = true
  tri : ∀ x y, lt x y = false → lt y x = false → x = y
theorem STO.swo {α : Type} {lt : α → α → Bool} (h : STO lt) : SWO lt where
  irrefl := h.irrefl
  trans := h.trans
  ntrans := fun x y z h1 h2 => by
    cases hxz : lt x z with
    | false => rfl
    | true =>
      cases hyx : lt y x with
      | true => rw [h.trans y x z hyx hxz] at h2; cases h2
      | false =>
        have := h.tri x y h1 hyx
        subst this
        rw [hxz] at h2; cases h2
theorem bytes_sto : STO Op.bytesLess where
  irrefl := fun x => by
    induction x with
    | nil => rfl
    | cons a x ih => simp [Op.bytesLess, ih]
  trans := fun x => by
    induction x with
    | nil =>
      intro y z h1 h2
      cases y with
      | nil => cases z with
        | nil => exact h2
        | cons c z => rfl
      | cons b y => cases z with
        | nil => simp [Op.bytesLess] at h2
        | cons c z => rfl
    | cons a x ih =>
      intro y z h1 h2
      cases y with
      | nil => simp [Op.bytesLess] at h1
      | cons b y => cases z with
        | nil => simp [Op.bytesLess] at h2
        | cons c z =>
          simp only [Op.bytesLess, Bool.or_eq_true, decide_eq_true_eq, Bool.and_eq_true, beq_iff_eq, UInt8.lt_iff_toNat_lt] at h1 h2 ⊢
          rcases h1 with h1 | ⟨e1, h1⟩
          · rcases h2 with h2 | ⟨e2, h2⟩
            · exact .inl (by omega)
            · exact .inl (by rw [← e2]; exact h1)
          · rcases h2 with h2 | ⟨e2, h2⟩
            · exact .inl (by rw [e1]; exact h2)
            · exact .inr ⟨e1.trans e2, ih y z h1 h2⟩
  tri := fun x => by
    induction x with
    | nil =>
      intro y h1 h2
      cases y with
      | nil => rfl
      | cons b y => simp [Op.bytesLess] at h1
    | cons a x ih =>
      intro y h1 h2
      cases y with
      | nil => simp [Op.bytesLess] at h2
      | cons b y =>
        simp only [Op.bytesLess, Bool.or_eq_false_iff, decide_eq_false_iff_not, Bool.and_eq_false_iff, UInt8.lt_iff_toNat_lt] at h1 h2
        have e : a = b := UInt8.toNat_inj.1 (by omega)
        subst e
        have h3 : Op.bytesLess x y = false := by rcases h1.2 with h | h; simp at h; exact h
        have h4 : Op.bytesLess y x = false := by rcases h2.2 with h | h; simp at h; exact h
        rw [ih y h3 h4]
theorem val_sto : STO lessV where
  irrefl := fun x => by simp [lessV, bytes_sto.irrefl]
  trans := fun x y z h1 h2 => by
    unfold lessV at h1 h2 ⊢
    by_cases k1 : x.kind = y.kind
    · rw [if_neg (by simpa using k1)] at h1
      by_cases k2 : y.kind = z.kind
      · rw [if_neg (by simpa using k2)] at h2
        rw [if_neg (by simpa using k1.trans k2)]
        by_cases i1 : x.int = y.int
        · rw [if_neg (by simpa using i1)] at h1
          by_cases i2 : y.int = z.int
          · rw [if_neg (by simpa using i2)] at h2
            rw [if_neg (by simpa using i1.trans i2)]
            exact bytes_sto.trans _ _ _ h1 h2
          · rw [if_pos i2] at h2
            have := of_decide_eq_true h2
            rw [if_pos (by omega)]
            exact decide_eq_true (by omega)
        · rw [if_pos i1] at h1
          have g1 := of_decide_eq_true h1
          by_cases i2 : y.int = z.int
          · rw [if_pos (by omega)]
            exact decide_eq_true (by omega)
          · rw [if_pos i2] at h2
            have := of_decide_eq_true h2
            rw [if_pos (by omega)]
            exact decide_eq_true (by omega)
      · rw [if_pos k2] at h2
        have := of_decide_eq_true h2
        rw [if_pos (by omega)]
        exact decide_eq_true (by omega)
    · rw [if_pos k1] at h1
      have g1 := of_decide_eq_true h1
      by_cases k2 : y.kind = z.kind
      · rw [if_pos (by omega)]
        exact decide_eq_true (by omega)
      · rw [if_pos k2] at h2
        have := of_decide_eq_true h2
        rw [if_pos (by omega)]
        exact decide_eq_true (by omega)
  tri := fun x y h1 h2 => by
    obtain ⟨a, b, c⟩ := x
    obtain ⟨a', b', c'⟩ := y
    unfold lessV at h1 h2
    simp only at h1 h2
    by_cases k : a = a'
    · subst k
      rw [if_neg (by simp)] at h1 h2
      by_cases i : b = b'
      · subst i
        rw [if_neg (by simp)] at h1 h2
        rw [bytes_sto.tri _ _ h1 h2]
      · rw [if_pos i] at h1
        rw [if_pos (fun e => i e.symm)] at h2
        have := of_decide_eq_false h1
        have := of_decide_eq_false h2
        omega
    · rw [if_pos k] at h1
      rw [if_pos (fun e => k e.symm)] at h2
      have := of_decide_eq_false h1
      have := of_decide_eq_false h2
      omega
def cmpL : List LVal → List LVal → Int
  | a :: x, b :: y => if a = b then cmpL x y else if lessV a b = true then -1 else 1
  | _, _ => 0
def ltL (x y : List LVal) : Bool := decide (cmpL x y < 0)
theorem ltL_cons (a b : LVal) (x y : List LVal) : ltL (a :: x) (b :: y) = if a = b then ltL x y else lessV a b := by
  unfold ltL
  rw [cmpL]
  by_cases h : a = b
  · rw [if_pos h, if_pos h]
  · rw [if_neg h, if_neg h]
    cases lessV a b <;> simp
abbrev RowN (n : Nat) := { x : List LVal // x.length = n }
theorem row_irrefl : ∀ x : List LVal, ltL x x = false
  | [] => rfl
  | a :: x => by rw [ltL_cons, if_pos rfl, row_irrefl x]
theorem row_trans : ∀ (x y z : List LVal), x.length = y.length → y.length = z.length → ltL x y = true → ltL y z = true → ltL x z = true
  | [], y, z, _, _, h, _ => by simp [ltL, cmpL] at h
  | a :: x, [], z, h, _, _, _ => by simp at h
  | a :: x, b :: y, [], _, h, _, _ => by simp at h
  | a :: x, b :: y, c :: z, l1, l2, h1, h2 => by
    rw [ltL_cons] at h1 h2 ⊢
    by_cases e1 : a = b
    · rw [if_pos e1] at h1
      by_cases e2 : b = c
      · rw [if_pos e2] at h2
        rw [if_pos (e1.trans e2)]
        exact row_trans x y z (by simpa using l1) (by simpa using l2) h1 h2
      · rw [if_neg e2] at h2
        subst e1
        rw [if_neg e2]
        exact h2
    · rw [if_neg e1] at h1
      by_cases e2 : b = c
      · subst e2
        rw [if_neg e1]
        exact h1
      · rw [if_neg e2] at h2
        have h3 := val_sto.trans _ _ _ h1 h2
        rw [if_neg (fun e => by subst e; rw [val_sto.irrefl] at h3; cases h3)]
        exact h3
theorem row_tri : ∀ (x y : List LVal), x.length = y.length → ltL x y = false → ltL y x = false → x = y
  | [], [], _, _, _ => rfl
  | [], b :: y, h, _, _ => by simp at h
  | a :: x, [], h, _, _ => by simp at h
  | a :: x, b :: y, l, h1, h2 => by
    rw [ltL_cons] at h1 h2
    by_cases e : a = b
    · subst e
      rw [if_pos rfl] at h1 h2
      rw [row_tri x y (by simpa using l) h1 h2]
    · rw [if_neg e] at h1
      rw [if_neg (fun h => e h.symm)] at h2
      exact absurd (val_sto.tri _ _ h1 h2) e
theorem row_sto (n : Nat) : STO (fun x y : RowN n => ltL x.1 y.1) where
  irrefl := fun x => row_irrefl x.1
  trans := fun x y z h1 h2 => row_trans x.1 y.1 z.1 (x.2.trans y.2.symm) (y.2.trans z.2.symm) h1 h2
  tri := fun x y h1 h2 => Subtype.ext (row_tri x.1 y.1 (x.2.trans y.2.symm) h1 h2)
theorem compare_eq {x y : List LVal} (hl : x.length = y.length) : L_query_CompareRows x y [] = some (cmpL x y) := by
  unfold L_query_CompareRows
  simp only [less_eq]
  obtain ⟨fl, hfl, hr⟩ := rangeM_by (step := fun (j1 : Nat) (x1 : LVal) (_ : Unit) =>
    bindP (
      cond (decide ((j1 : Int) ≥ (y.length : Int)))
        (some true)
        (bindP (getI y (j1 : Int)) fun (x25 : LVal) =>
        some (x1.kind == x25.kind && (x1.int == x25.int && (x1.text == x25.text && true))))) fun (t3 : Bool) =>
    cond t3
      (some (Flow.next ()))
      (bindP (getI y (j1 : Int)) fun (x35 : LVal) =>
      letP (lessV x1 x35) fun x37 =>
      cond (decide ((j1 : Int) < (([] : List Bool).length : Int)))
        (bindP (getI ([] : List Bool) (j1 : Int)) fun (x45 : Bool) =>
        cond x45
          (cond (!x37)
            (some (.ret (-1)))
            (some (.ret 1)))
          (cond x37
            (some (.ret (-1)))
            (some (.ret 1))))
        (cond x37
          (some (.ret (-1)))
          (some (.ret 1)))))
    (fun j _ => cmpL (x.drop j) (y.drop j) = cmpL x y) (fun r => r = cmpL x y) x 0 () rfl (fun k w s hk hI => by
      simp only [Nat.zero_add] at hI ⊢
      have hkl := (List.getElem?_eq_some_iff.1 hk).1
      have hky : k < y.length := by omega
      have hw := (List.getElem?_eq_some_iff.1 hk).2
      rw [List.drop_eq_getElem_cons hkl, List.drop_eq_getElem_cons hky, hw, cmpL] at hI
      rw [decide_eq_false (show ¬ (k : Int) ≥ (y.length : Int) from by omega), cond_false, getI_of hky, bindP_some, bindP_some, val_eq]
      by_cases e : w = y[k]
      · rw [decide_eq_true e, cond_true]
        rw [if_pos e] at hI
        exact ⟨_, rfl, hI⟩
      · rw [decide_eq_false e, cond_false, bindP_some, letP_eq, decide_eq_false (show ¬ (k : Int) < (([] : List Bool).length : Int) from by simp), cond_false]
        rw [if_neg e] at hI
        cases hx : lessV w y[k] with
        | true => rw [hx, if_pos rfl] at hI; exact ⟨_, rfl, hI⟩
        | false => rw [hx, if_neg (by simp)] at hI; exact ⟨_, rfl, hI⟩)
  rw [hfl, bindP_some]
  cases fl with
  | brk s => exact absurd hr (by simp)
  | ret r => rw [thenR_retS, hr]
  | next s =>
    simp only [Nat.zero_add, List.drop_length] at hr
    rw [thenR_nextS, ← hr]
    rfl
theorem compare_tot (a b : List LVal) (ds : List Bool) : Tot (L_query_CompareRows a b ds) := by
  unfold L_query_CompareRows
  simp only [less_eq]
  refine Tot.bind (Tot.range _ _ _ fun k x s hk => ?_) fun fl _ => Tot.thenR fun _ _ => Tot.mk
  rw [Nat.zero_add]
  by_cases h1 : (k : Int) ≥ (b.length : Int)
  · rw [decide_eq_true h1]; exact Tot.mk
  · rw [decide_eq_false h1, cond_false, getI_of (by omega)]
    simp only [bindP_some, letP_eq]
    refine Tot.cond (fun _ => Tot.mk) fun _ => ?_
    refine Tot.cond (fun h => ?_) fun _ => Tot.cond (fun _ => Tot.mk) fun _ => Tot.mk
    have h := of_decide_eq_true h
    rw [getI_of (by omega), bindP_some]
    exact Tot.cond (fun _ => Tot.cond (fun _ => Tot.mk) fun _ => Tot.mk) fun _ => Tot.cond (fun _ => Tot.mk) fun _ => Tot.mk
end Go.Proofs.YtjnpnakcmjndiaaGreatDoor
