/- Lifted functions: printed by lift.py. -/
import Derived.Test.YtjnpnakcmjndiaaGreatDoorMgg
import Derived.Test.YtjnpnakcmjndiaaGreatDoorMgj
import Derived.Test.YtjnpnakcmjndiaaGreatDoorMgp
import Derived.Test.YtjnpnakcmjndiaaGreatDoorMgq
namespace Go.Proofs.YtjnpnakcmjndiaaGreatDoor
open Go Go.Ab
attribute [local irreducible] V AOps DOps Gh Eff PCallsH IntKind.wrap
set_option maxRecDepth 4000

noncomputable def O_slices_symMergeCmpFunc_joinalgo_one (rec218 : (List LJoinalgoOne) → Int → Int → Int → Option ((List LJoinalgoOne))) (data : List LJoinalgoOne) (a : Int) (m : Int) (b : Int) (cmp : LJoinalgoOne → LJoinalgoOne → Option (Int)) : Option ((List LJoinalgoOne)) :=
  cond ((IntKind.i64.wrap (m - a)) == (1 : Int))
    (bindP (whileM (σ := List LJoinalgoOne × Int × Int) (ρ := Empty) (fun (s1 : List LJoinalgoOne × Int × Int) =>
      cond (decide (s1.2.1 < s1.2.2))
        (bindP (getI s1.1 (IntKind.i64.wrap (Int.fdiv (IntKind.u64.wrap (IntKind.i64.wrap (s1.2.1 + s1.2.2))) (2 ^ 1)))) fun (x43 : LJoinalgoOne) =>
        bindP (getI s1.1 a) fun (x47 : LJoinalgoOne) =>
        bindP (cmp x43 x47) fun x49 =>
        cond (decide (x49 < (0 : Int)))
          (some (.next (s1.1, (IntKind.i64.wrap ((IntKind.i64.wrap (Int.fdiv (IntKind.u64.wrap (IntKind.i64.wrap (s1.2.1 + s1.2.2))) (2 ^ 1))) + (1 : Int))), s1.2.2)))
          (some (.next (s1.1, s1.2.1, (IntKind.i64.wrap (Int.fdiv (IntKind.u64.wrap (IntKind.i64.wrap (s1.2.1 + s1.2.2))) (2 ^ 1)))))))
        (some (.brk (s1.1, s1.2.1, s1.2.2)))) (data, m, b)) fun fl1 => fl1.thenP fun (s1 : List LJoinalgoOne × Int × Int) =>
    bindP (whileM (σ := List LJoinalgoOne × Int) (ρ := Empty) (fun (s2 : List LJoinalgoOne × Int) =>
      cond (decide (s2.2 < (IntKind.i64.wrap (s1.2.1 - (1 : Int)))))
        (bindP (getI s2.1 (IntKind.i64.wrap (s2.2 + (1 : Int)))) fun (x69 : LJoinalgoOne) =>
        bindP (getI s2.1 s2.2) fun (x73 : LJoinalgoOne) =>
        bindP (getI s2.1 s2.2) fun (_ : LJoinalgoOne) =>
        letP (s2.1.set s2.2.toNat x69) fun (y7 : List LJoinalgoOne) =>
        bindP (getI y7 (IntKind.i64.wrap (s2.2 + (1 : Int)))) fun (_ : LJoinalgoOne) =>
        letP (y7.set ((IntKind.i64.wrap (s2.2 + (1 : Int))).toNat) x73) fun (y8 : List LJoinalgoOne) =>
        some (.next (y8, (IntKind.i64.wrap (s2.2 + (1 : Int))))))
        (some (.brk (s2.1, s2.2)))) (s1.1, a)) fun fl2 => fl2.thenP fun (s2 : List LJoinalgoOne × Int) =>
    some s2.1)
    (cond ((IntKind.i64.wrap (b - m)) == (1 : Int))
      (bindP (whileM (σ := List LJoinalgoOne × Int × Int) (ρ := Empty) (fun (s9 : List LJoinalgoOne × Int × Int) =>
        cond (decide (s9.2.1 < s9.2.2))
          (bindP (getI s9.1 m) fun (x95 : LJoinalgoOne) =>
          bindP (getI s9.1 (IntKind.i64.wrap (Int.fdiv (IntKind.u64.wrap (IntKind.i64.wrap (s9.2.1 + s9.2.2))) (2 ^ 1)))) fun (x99 : LJoinalgoOne) =>
          bindP (cmp x95 x99) fun x101 =>
          cond (!(decide (x101 < (0 : Int))))
            (some (.next (s9.1, (IntKind.i64.wrap ((IntKind.i64.wrap (Int.fdiv (IntKind.u64.wrap (IntKind.i64.wrap (s9.2.1 + s9.2.2))) (2 ^ 1))) + (1 : Int))), s9.2.2)))
            (some (.next (s9.1, s9.2.1, (IntKind.i64.wrap (Int.fdiv (IntKind.u64.wrap (IntKind.i64.wrap (s9.2.1 + s9.2.2))) (2 ^ 1)))))))
          (some (.brk (s9.1, s9.2.1, s9.2.2)))) (data, a, m)) fun fl9 => fl9.thenP fun (s9 : List LJoinalgoOne × Int × Int) =>
      bindP (whileM (σ := List LJoinalgoOne × Int) (ρ := Empty) (fun (s10 : List LJoinalgoOne × Int) =>
        cond (decide (s10.2 > s9.2.1))
          (bindP (getI s10.1 (IntKind.i64.wrap (s10.2 - (1 : Int)))) fun (x121 : LJoinalgoOne) =>
          bindP (getI s10.1 s10.2) fun (x125 : LJoinalgoOne) =>
          bindP (getI s10.1 s10.2) fun (_ : LJoinalgoOne) =>
          letP (s10.1.set s10.2.toNat x121) fun (y15 : List LJoinalgoOne) =>
          bindP (getI y15 (IntKind.i64.wrap (s10.2 - (1 : Int)))) fun (_ : LJoinalgoOne) =>
          letP (y15.set ((IntKind.i64.wrap (s10.2 - (1 : Int))).toNat) x125) fun (y16 : List LJoinalgoOne) =>
          some (.next (y16, (IntKind.i64.wrap (s10.2 - (1 : Int))))))
          (some (.brk (s10.1, s10.2)))) (s9.1, m)) fun fl10 => fl10.thenP fun (s10 : List LJoinalgoOne × Int) =>
      some s10.1)
      (letP (
        cond (decide (m > (IntKind.i64.wrap (Int.fdiv (IntKind.u64.wrap (IntKind.i64.wrap (a + b))) (2 ^ 1)))))
          ((data, (IntKind.i64.wrap ((IntKind.i64.wrap ((IntKind.i64.wrap (Int.fdiv (IntKind.u64.wrap (IntKind.i64.wrap (a + b))) (2 ^ 1))) + m)) - b)), (IntKind.i64.wrap (Int.fdiv (IntKind.u64.wrap (IntKind.i64.wrap (a + b))) (2 ^ 1)))))
          ((data, a, m))) fun (t17 : List LJoinalgoOne × Int × Int) =>
      bindP (whileM (σ := List LJoinalgoOne × Int × Int) (ρ := Empty) (fun (s18 : List LJoinalgoOne × Int × Int) =>
        cond (decide (s18.2.1 < s18.2.2))
          (bindP (getI s18.1 (IntKind.i64.wrap ((IntKind.i64.wrap ((IntKind.i64.wrap ((IntKind.i64.wrap (Int.fdiv (IntKind.u64.wrap (IntKind.i64.wrap (a + b))) (2 ^ 1))) + m)) - (1 : Int))) - (IntKind.i64.wrap (Int.fdiv (IntKind.u64.wrap (IntKind.i64.wrap (s18.2.1 + s18.2.2))) (2 ^ 1)))))) fun (x163 : LJoinalgoOne) =>
          bindP (getI s18.1 (IntKind.i64.wrap (Int.fdiv (IntKind.u64.wrap (IntKind.i64.wrap (s18.2.1 + s18.2.2))) (2 ^ 1)))) fun (x167 : LJoinalgoOne) =>
          bindP (cmp x163 x167) fun x169 =>
          cond (!(decide (x169 < (0 : Int))))
            (some (.next (s18.1, (IntKind.i64.wrap ((IntKind.i64.wrap (Int.fdiv (IntKind.u64.wrap (IntKind.i64.wrap (s18.2.1 + s18.2.2))) (2 ^ 1))) + (1 : Int))), s18.2.2)))
            (some (.next (s18.1, s18.2.1, (IntKind.i64.wrap (Int.fdiv (IntKind.u64.wrap (IntKind.i64.wrap (s18.2.1 + s18.2.2))) (2 ^ 1)))))))
          (some (.brk (s18.1, s18.2.1, s18.2.2)))) (t17.1, t17.2.1, t17.2.2)) fun fl18 => fl18.thenP fun (s18 : List LJoinalgoOne × Int × Int) =>
      letP (
        cond (decide (s18.2.1 < m))
          ((s18.1, (decide (m < (IntKind.i64.wrap ((IntKind.i64.wrap ((IntKind.i64.wrap (Int.fdiv (IntKind.u64.wrap (IntKind.i64.wrap (a + b))) (2 ^ 1))) + m)) - s18.2.1))))))
          ((s18.1, false))) fun (t19 : List LJoinalgoOne × Bool) =>
      bindP (
        cond t19.2
          (bindP (L_slices_rotateCmpFunc_joinalgo_one t19.1 s18.2.1 m (IntKind.i64.wrap ((IntKind.i64.wrap ((IntKind.i64.wrap (Int.fdiv (IntKind.u64.wrap (IntKind.i64.wrap (a + b))) (2 ^ 1))) + m)) - s18.2.1)) cmp) fun x191 =>
          bindP (guardO (x191.length = t19.1.length) ()) fun (_ : Unit) =>
          some x191)
          (some t19.1)) fun (t20 : List LJoinalgoOne) =>
      letP (
        cond (decide (a < s18.2.1))
          ((t20, (decide (s18.2.1 < (IntKind.i64.wrap (Int.fdiv (IntKind.u64.wrap (IntKind.i64.wrap (a + b))) (2 ^ 1)))))))
          ((t20, false))) fun (t21 : List LJoinalgoOne × Bool) =>
      bindP (
        cond t21.2
          (bindP (rec218 t21.1 a s18.2.1 (IntKind.i64.wrap (Int.fdiv (IntKind.u64.wrap (IntKind.i64.wrap (a + b))) (2 ^ 1)))) fun x205 =>
          bindP (guardO (x205.length = t21.1.length) ()) fun (_ : Unit) =>
          some x205)
          (some t21.1)) fun (t22 : List LJoinalgoOne) =>
      cond (decide ((IntKind.i64.wrap (Int.fdiv (IntKind.u64.wrap (IntKind.i64.wrap (a + b))) (2 ^ 1))) < (IntKind.i64.wrap ((IntKind.i64.wrap ((IntKind.i64.wrap (Int.fdiv (IntKind.u64.wrap (IntKind.i64.wrap (a + b))) (2 ^ 1))) + m)) - s18.2.1))))
        (cond (decide ((IntKind.i64.wrap ((IntKind.i64.wrap ((IntKind.i64.wrap (Int.fdiv (IntKind.u64.wrap (IntKind.i64.wrap (a + b))) (2 ^ 1))) + m)) - s18.2.1)) < b))
          (bindP (rec218 t22 (IntKind.i64.wrap (Int.fdiv (IntKind.u64.wrap (IntKind.i64.wrap (a + b))) (2 ^ 1))) (IntKind.i64.wrap ((IntKind.i64.wrap ((IntKind.i64.wrap (Int.fdiv (IntKind.u64.wrap (IntKind.i64.wrap (a + b))) (2 ^ 1))) + m)) - s18.2.1)) b) fun x219 =>
          bindP (guardO (x219.length = t22.length) ()) fun (_ : Unit) =>
          some x219)
          (some t22))
        (some t22)))

set_option maxHeartbeats 4000000 in
theorem WO_slices_symMergeCmpFunc_joinalgo_one (g_data : OwnRef) {g_cmp : FuncId} {caps_cmp : List PV} (rec218 : (List LJoinalgoOne) → Int → Int → Int → Option ((List LJoinalgoOne))) (hrec218 : ∀ g0 a0 a1 a2 a3 r, rec218 a0 a1 a2 a3 = some r → PCallsH Tryz.prog 218 [(.own 0 g0 (a0.map encJoinalgoOne).length), (pint a1), (pint a2), (pint a3), (.fn g_cmp caps_cmp)] ⟨fun _ => none, upd (fun _ => none) 0 (some ⟨g0, 119, (a0.map encJoinalgoOne), true⟩)⟩ (fun u H => u = (.tup []) ∧ H = ⟨fun _ => none, upd (fun _ => none) 0 (some ⟨g0, 119, (r.map encJoinalgoOne), true⟩)⟩)) (data : List LJoinalgoOne) (a : Int) (m : Int) (b : Int) (cmp : LJoinalgoOne → LJoinalgoOne → Option (Int)) (hg_cmp : ∀ (vs : Array Value) (w : World), (callFunc g_cmp vs).run Tryz.prog w = .ok (.enter g_cmp vs) w) (hp_cmp : ∀ a0 a1 r, cmp a0 a1 = some r → PFun Tryz.prog g_cmp ((.agg (encJoinalgoOne a0)) :: (.agg (encJoinalgoOne a1)) :: caps_cmp) (pint r)) (r : (List LJoinalgoOne)) (H : O_slices_symMergeCmpFunc_joinalgo_one rec218 data a m b cmp = some r) :
    PCallsH Tryz.prog 218 [(.own 0 g_data (data.map encJoinalgoOne).length), (pint a), (pint m), (pint b), (.fn g_cmp caps_cmp)] ⟨fun _ => none, upd (fun _ => none) 0 (some ⟨g_data, 119, (data.map encJoinalgoOne), true⟩)⟩ (fun u H => u = (.tup []) ∧ H = ⟨fun _ => none, upd (fun _ => none) 0 (some ⟨g_data, 119, (r.map encJoinalgoOne), true⟩)⟩) := by
  unfold O_slices_symMergeCmpFunc_joinalgo_one at H
  refine PCallsH.intro Tryz.func218 rfl Tryz.ntmps218 rfl ?_
  iterate 2 refine V.seq ?_
  refine V.region ?_
  iterate 4 refine AOps.q tt_ok rfl ?_
  refine AOps.nil ?_
  refine V.cH rfl H (fun H => ?_) (fun H => ?_)
  · refine V.seq ?_
    refine V.region ?_
    iterate 2 refine AOps.q tt_ok rfl ?_
    refine AOps.nil ?_
    refine V.seq ?_
    refine V.region ?_
    iterate 2 refine AOps.q tt_ok rfl ?_
    refine AOps.nil ?_
    refine V.seq ?_
    obtain ⟨fl1, H1, Hp1⟩ := bindE H
    refine V.cut (τ := List LJoinalgoOne × Int × Int) (γ := Unit) (fun s1 g1 => ⟨220, upd (upd (upd (fun _ => .any) 10 (pint s1.2.1)) 1 (pint a)) 0 (.own 0 g_data (s1.1.map encJoinalgoOne).length), fun _ => none, upd (fun _ => none) 0 (some ⟨g_data, 119, (s1.1.map encJoinalgoOne), true⟩)⟩) (fun t => fl1 = .next t) ?_ (fun s1 g1 hn1 => ?_)
    · refine V.block ?_
      refine V.whileL (fun s1 g1 => ⟨220, upd (upd (upd (upd (upd (fun _ => .any) 11 (pint s1.2.2)) 10 (pint s1.2.1)) 4 (.fn g_cmp caps_cmp)) 1 (pint a)) 0 (.own 0 g_data (s1.1.map encJoinalgoOne).length), fun _ => none, upd (fun _ => none) 0 (some ⟨g_data, 119, (s1.1.map encJoinalgoOne), true⟩)⟩) () H1 (Gh.le (SLe.cons (PLe.of_eq rfl) (SLe.cons (PLe.of_eq rfl) (SLe.cons (PLe.of_eq rfl) (SLe.cons (PLe.of_eq rfl) (SLe.cons (PLe.of_eq rfl) SLe.nil))))) BLe.nil (OLe.cons rfl OLe.nil)) (fun m1 s1 g1 hr1 => ?_)
      obtain ⟨fb1, H, hg1⟩ := iterM_cons hr1
      iterate 2 refine V.seq ?_
      refine V.region ?_
      iterate 3 refine AOps.q tt_ok rfl ?_
      refine AOps.nil ?_
      refine V.cH rfl H (fun H => ?_) (fun H => ?_)
      · refine V.skip ?_
        refine V.block ?_
        refine V.seq ?_
        refine V.region ?_
        iterate 4 refine AOps.q tt_ok rfl ?_
        refine AOps.shr (m := 1) rfl rfl rfl rfl (by decide) rfl rfl ?_
        iterate 2 refine AOps.q tt_ok rfl ?_
        refine AOps.nil ?_
        refine V.seq ?_
        refine V.ownF (tag := 0) rfl (fun ho0 => ?_)
        refine V.draw tt_ok mixed_ok ⟨false, true, []⟩ [0, 1, 2, 3, 4, 5, 6, 7, 8, 9, 10] rfl (by decide +kernel) rfl ?_
        iterate 3 refine DOps.q rfl ?_
        obtain ⟨x43, k43, H⟩ := getE H
        refine DOps.idxO tt_ok rfl rfl rfl rfl rfl rfl rfl rfl ⟨k43.1, (idxLen k43.2)⟩ (idxBlk ho0 k43.2) rfl ?_
        refine DOps.loadO tt_ok rfl rfl rfl rfl rfl rfl rfl rfl rfl (rowsGetI (fun _ => rfl) k43.2) rfl rfl ?_
        iterate 2 refine DOps.q rfl ?_
        obtain ⟨x47, k47, H⟩ := getE H
        refine DOps.idxO tt_ok rfl rfl rfl rfl rfl rfl rfl rfl ⟨k47.1, (idxLen k47.2)⟩ (idxBlk ho0 k47.2) rfl ?_
        refine DOps.loadO tt_ok rfl rfl rfl rfl rfl rfl rfl rfl rfl (rowsGetI (fun _ => rfl) k47.2) rfl rfl ?_
        obtain ⟨x49, h49, H⟩ := bindE H
        refine DOps.callP rfl rfl rfl rfl hg_cmp (PLeAll.refl _ _) (hp_cmp _ _ _ h49) rfl ?_
        refine DOps.q rfl ?_
        refine DOps.nil ?_
        refine V.cH rfl H (fun H => ?_) (fun H => ?_)
        · refine V.region ?_
          iterate 3 refine AOps.q tt_ok rfl ?_
          refine AOps.nil ?_
          refine V.blk ?_
          obtain rfl := someE H
          refine V.againL (s1.1, (IntKind.i64.wrap ((IntKind.i64.wrap (Int.fdiv (IntKind.u64.wrap (IntKind.i64.wrap (s1.2.1 + s1.2.2))) (2 ^ 1))) + (1 : Int))), s1.2.2) () hg1 (Gh.le (SLe.cons (PLe.of_eq rfl) (SLe.cons (PLe.of_eq rfl) (SLe.cons (PLe.of_eq rfl) (SLe.cons (PLe.of_eq rfl) (SLe.cons (PLe.of_eq rfl) SLe.nil))))) BLe.nil (OLe.cons rfl OLe.nil))
        refine V.region ?_
        iterate 2 refine AOps.q tt_ok rfl ?_
        refine AOps.nil ?_
        refine V.blk ?_
        obtain rfl := someE H
        refine V.againL (s1.1, s1.2.1, (IntKind.i64.wrap (Int.fdiv (IntKind.u64.wrap (IntKind.i64.wrap (s1.2.1 + s1.2.2))) (2 ^ 1)))) () hg1 (Gh.le (SLe.cons (PLe.of_eq rfl) (SLe.cons (PLe.of_eq rfl) (SLe.cons (PLe.of_eq rfl) (SLe.cons (PLe.of_eq rfl) (SLe.cons (PLe.of_eq rfl) SLe.nil))))) BLe.nil (OLe.cons rfl OLe.nil))
      refine V.exit rfl ?_
      obtain rfl := someE H
      refine V.at (s1.1, s1.2.1, s1.2.2) () hg1 (Gh.le (SLe.cons (PLe.of_eq rfl) (SLe.cons (PLe.of_eq rfl) (SLe.cons (PLe.of_eq rfl) SLe.nil))) BLe.nil (OLe.cons rfl OLe.nil))
    have H := thenP_next hn1 Hp1
    iterate 2 refine V.seq ?_
    refine V.region ?_
    iterate 2 refine AOps.q tt_ok rfl ?_
    refine AOps.nil ?_
    obtain ⟨fl2, H2, Hp2⟩ := bindE H
    refine V.cut (τ := List LJoinalgoOne × Int) (γ := Unit) (fun s2 g2 => ⟨220, upd (fun _ => .any) 0 (.own 0 g_data (s2.1.map encJoinalgoOne).length), fun _ => none, upd (fun _ => none) 0 (some ⟨g_data, 119, (s2.1.map encJoinalgoOne), true⟩)⟩) (fun t => fl2 = .next t) ?_ (fun s2 g2 hn2 => ?_)
    · refine V.block ?_
      refine V.whileL (fun s2 g2 => ⟨220, upd (upd (upd (fun _ => .any) 13 (pint s2.2)) 10 (pint s1.2.1)) 0 (.own 0 g_data (s2.1.map encJoinalgoOne).length), fun _ => none, upd (fun _ => none) 0 (some ⟨g_data, 119, (s2.1.map encJoinalgoOne), true⟩)⟩) () H2 (Gh.le (SLe.cons (PLe.of_eq rfl) (SLe.cons (PLe.of_eq rfl) (SLe.cons (PLe.of_eq rfl) SLe.nil))) BLe.nil (OLe.cons rfl OLe.nil)) (fun m2 s2 g2 hr2 => ?_)
      obtain ⟨fb2, H, hg2⟩ := iterM_cons hr2
      iterate 2 refine V.seq ?_
      refine V.region ?_
      iterate 4 refine AOps.q tt_ok rfl ?_
      refine AOps.nil ?_
      refine V.cH rfl H (fun H => ?_) (fun H => ?_)
      · refine V.skip ?_
        refine V.seq ?_
        refine V.block ?_
        refine V.ownF (tag := 0) rfl (fun ho0 => ?_)
        refine V.draw tt_ok mixed_ok ⟨false, true, []⟩ [0, 1, 2, 3, 4, 5, 6, 7, 8, 9, 10, 11, 12, 13, 14, 15, 16, 17] rfl (by decide +kernel) rfl ?_
        iterate 8 refine DOps.q rfl ?_
        obtain ⟨x69, k69, H⟩ := getE H
        refine DOps.idxO tt_ok rfl rfl rfl rfl rfl rfl rfl rfl ⟨k69.1, (idxLen k69.2)⟩ (idxBlk ho0 k69.2) rfl ?_
        refine DOps.loadO tt_ok rfl rfl rfl rfl rfl rfl rfl rfl rfl (rowsGetI (fun _ => rfl) k69.2) rfl rfl ?_
        iterate 2 refine DOps.q rfl ?_
        obtain ⟨x73, k73, H⟩ := getE H
        refine DOps.idxO tt_ok rfl rfl rfl rfl rfl rfl rfl rfl ⟨k73.1, (idxLen k73.2)⟩ (idxBlk ho0 k73.2) rfl ?_
        refine DOps.loadO tt_ok rfl rfl rfl rfl rfl rfl rfl rfl rfl (rowsGetI (fun _ => rfl) k73.2) rfl rfl ?_
        obtain ⟨x75, k75, H⟩ := getE H
        refine DOps.idxO tt_ok rfl rfl rfl rfl rfl rfl rfl rfl ⟨k75.1, (idxLen k75.2)⟩ (idxBlk ho0 k75.2) rfl ?_
        obtain ⟨y7, hy7, H⟩ := letE H
        refine DOps.storeO tt_ok rfl rfl rfl rfl rfl rfl rfl rfl rfl (by rw [List.length_map]; exact (List.getElem?_eq_some_iff.1 k75.2).1) (PLe.refl _ _) rfl rfl rfl rfl (by decide) (setRow_map (fun _ => rfl) k75.2 rfl hy7) ?_
        obtain ⟨x76, k76, H⟩ := getE H
        refine DOps.idxO tt_ok rfl rfl rfl rfl rfl rfl rfl rfl ⟨k76.1, (idxLenE (set_len (f := encJoinalgoOne) hy7) k76.2)⟩ (idxBlkE ho0 (set_len (f := encJoinalgoOne) hy7) k76.2) rfl ?_
        obtain ⟨y8, hy8, H⟩ := letE H
        refine DOps.storeO tt_ok rfl rfl rfl rfl rfl rfl rfl rfl rfl (by rw [List.length_map]; exact (List.getElem?_eq_some_iff.1 k76.2).1) (PLe.refl _ _) rfl rfl rfl rfl (by decide) (setRow_map (fun _ => rfl) k76.2 rfl hy8) ?_
        refine DOps.nil ?_
        refine V.blk ?_
        refine V.region ?_
        iterate 3 refine AOps.q tt_ok rfl ?_
        refine AOps.nil ?_
        obtain rfl := someE H
        refine V.againL (y8, (IntKind.i64.wrap (s2.2 + (1 : Int)))) () hg2 (Gh.le (SLe.cons (PLe.of2 (PLe2.of_eq (congrArg (PV.own 0 g_data) ((set_len (f := encJoinalgoOne) hy7).trans (set_len (f := encJoinalgoOne) hy8))))) (SLe.cons (PLe.of_eq rfl) (SLe.cons (PLe.of_eq rfl) SLe.nil))) BLe.nil (OLe.cons rfl OLe.nil))
      refine V.exit rfl ?_
      obtain rfl := someE H
      refine V.at (s2.1, s2.2) () hg2 (Gh.le (SLe.cons (PLe.of_eq rfl) SLe.nil) BLe.nil (OLe.cons rfl OLe.nil))
    have H := thenP_next hn2 Hp2
    obtain rfl := someE H
    refine V.gh (st' := ⟨220, fun _ => .any, fun _ => none, upd (fun _ => none) 0 (some ⟨g_data, 119, (s2.1.map encJoinalgoOne), true⟩)⟩) (Gh.le SLe.nil BLe.nil (OLe.cons rfl OLe.nil)) ?_
    refine V.retH tt_ok rfl (ps := []) rfl (PLe.of_eq rfl) ⟨rfl, rfl⟩
  refine V.skip ?_
  iterate 2 refine V.seq ?_
  refine V.region ?_
  iterate 4 refine AOps.q tt_ok rfl ?_
  refine AOps.nil ?_
  refine V.cH rfl H (fun H => ?_) (fun H => ?_)
  · refine V.seq ?_
    refine V.region ?_
    iterate 2 refine AOps.q tt_ok rfl ?_
    refine AOps.nil ?_
    refine V.seq ?_
    refine V.region ?_
    iterate 2 refine AOps.q tt_ok rfl ?_
    refine AOps.nil ?_
    refine V.seq ?_
    obtain ⟨fl9, H9, Hp9⟩ := bindE H
    refine V.cut (τ := List LJoinalgoOne × Int × Int) (γ := Unit) (fun s9 g9 => ⟨220, upd (upd (upd (fun _ => .any) 14 (pint s9.2.1)) 2 (pint m)) 0 (.own 0 g_data (s9.1.map encJoinalgoOne).length), fun _ => none, upd (fun _ => none) 0 (some ⟨g_data, 119, (s9.1.map encJoinalgoOne), true⟩)⟩) (fun t => fl9 = .next t) ?_ (fun s9 g9 hn9 => ?_)
    · refine V.block ?_
      refine V.whileL (fun s9 g9 => ⟨220, upd (upd (upd (upd (upd (fun _ => .any) 15 (pint s9.2.2)) 14 (pint s9.2.1)) 4 (.fn g_cmp caps_cmp)) 2 (pint m)) 0 (.own 0 g_data (s9.1.map encJoinalgoOne).length), fun _ => none, upd (fun _ => none) 0 (some ⟨g_data, 119, (s9.1.map encJoinalgoOne), true⟩)⟩) () H9 (Gh.le (SLe.cons (PLe.of_eq rfl) (SLe.cons (PLe.of_eq rfl) (SLe.cons (PLe.of_eq rfl) (SLe.cons (PLe.of_eq rfl) (SLe.cons (PLe.of_eq rfl) SLe.nil))))) BLe.nil (OLe.cons rfl OLe.nil)) (fun m9 s9 g9 hr9 => ?_)
      obtain ⟨fb9, H, hg9⟩ := iterM_cons hr9
      iterate 2 refine V.seq ?_
      refine V.region ?_
      iterate 3 refine AOps.q tt_ok rfl ?_
      refine AOps.nil ?_
      refine V.cH rfl H (fun H => ?_) (fun H => ?_)
      · refine V.skip ?_
        refine V.block ?_
        refine V.seq ?_
        refine V.region ?_
        iterate 4 refine AOps.q tt_ok rfl ?_
        refine AOps.shr (m := 1) rfl rfl rfl rfl (by decide) rfl rfl ?_
        iterate 2 refine AOps.q tt_ok rfl ?_
        refine AOps.nil ?_
        refine V.seq ?_
        refine V.ownF (tag := 0) rfl (fun ho0 => ?_)
        refine V.draw tt_ok mixed_ok ⟨false, true, []⟩ [0, 1, 2, 3, 4, 5, 6, 7, 8, 9, 10, 11] rfl (by decide +kernel) rfl ?_
        iterate 3 refine DOps.q rfl ?_
        obtain ⟨x95, k95, H⟩ := getE H
        refine DOps.idxO tt_ok rfl rfl rfl rfl rfl rfl rfl rfl ⟨k95.1, (idxLen k95.2)⟩ (idxBlk ho0 k95.2) rfl ?_
        refine DOps.loadO tt_ok rfl rfl rfl rfl rfl rfl rfl rfl rfl (rowsGetI (fun _ => rfl) k95.2) rfl rfl ?_
        iterate 2 refine DOps.q rfl ?_
        obtain ⟨x99, k99, H⟩ := getE H
        refine DOps.idxO tt_ok rfl rfl rfl rfl rfl rfl rfl rfl ⟨k99.1, (idxLen k99.2)⟩ (idxBlk ho0 k99.2) rfl ?_
        refine DOps.loadO tt_ok rfl rfl rfl rfl rfl rfl rfl rfl rfl (rowsGetI (fun _ => rfl) k99.2) rfl rfl ?_
        obtain ⟨x101, h101, H⟩ := bindE H
        refine DOps.callP rfl rfl rfl rfl hg_cmp (PLeAll.refl _ _) (hp_cmp _ _ _ h101) rfl ?_
        iterate 2 refine DOps.q rfl ?_
        refine DOps.nil ?_
        refine V.cH rfl H (fun H => ?_) (fun H => ?_)
        · refine V.region ?_
          iterate 3 refine AOps.q tt_ok rfl ?_
          refine AOps.nil ?_
          refine V.blk ?_
          obtain rfl := someE H
          refine V.againL (s9.1, (IntKind.i64.wrap ((IntKind.i64.wrap (Int.fdiv (IntKind.u64.wrap (IntKind.i64.wrap (s9.2.1 + s9.2.2))) (2 ^ 1))) + (1 : Int))), s9.2.2) () hg9 (Gh.le (SLe.cons (PLe.of_eq rfl) (SLe.cons (PLe.of_eq rfl) (SLe.cons (PLe.of_eq rfl) (SLe.cons (PLe.of_eq rfl) (SLe.cons (PLe.of_eq rfl) SLe.nil))))) BLe.nil (OLe.cons rfl OLe.nil))
        refine V.region ?_
        iterate 2 refine AOps.q tt_ok rfl ?_
        refine AOps.nil ?_
        refine V.blk ?_
        obtain rfl := someE H
        refine V.againL (s9.1, s9.2.1, (IntKind.i64.wrap (Int.fdiv (IntKind.u64.wrap (IntKind.i64.wrap (s9.2.1 + s9.2.2))) (2 ^ 1)))) () hg9 (Gh.le (SLe.cons (PLe.of_eq rfl) (SLe.cons (PLe.of_eq rfl) (SLe.cons (PLe.of_eq rfl) (SLe.cons (PLe.of_eq rfl) (SLe.cons (PLe.of_eq rfl) SLe.nil))))) BLe.nil (OLe.cons rfl OLe.nil))
      refine V.exit rfl ?_
      obtain rfl := someE H
      refine V.at (s9.1, s9.2.1, s9.2.2) () hg9 (Gh.le (SLe.cons (PLe.of_eq rfl) (SLe.cons (PLe.of_eq rfl) (SLe.cons (PLe.of_eq rfl) SLe.nil))) BLe.nil (OLe.cons rfl OLe.nil))
    have H := thenP_next hn9 Hp9
    iterate 2 refine V.seq ?_
    refine V.region ?_
    iterate 2 refine AOps.q tt_ok rfl ?_
    refine AOps.nil ?_
    obtain ⟨fl10, H10, Hp10⟩ := bindE H
    refine V.cut (τ := List LJoinalgoOne × Int) (γ := Unit) (fun s10 g10 => ⟨220, upd (fun _ => .any) 0 (.own 0 g_data (s10.1.map encJoinalgoOne).length), fun _ => none, upd (fun _ => none) 0 (some ⟨g_data, 119, (s10.1.map encJoinalgoOne), true⟩)⟩) (fun t => fl10 = .next t) ?_ (fun s10 g10 hn10 => ?_)
    · refine V.block ?_
      refine V.whileL (fun s10 g10 => ⟨220, upd (upd (upd (fun _ => .any) 17 (pint s10.2)) 14 (pint s9.2.1)) 0 (.own 0 g_data (s10.1.map encJoinalgoOne).length), fun _ => none, upd (fun _ => none) 0 (some ⟨g_data, 119, (s10.1.map encJoinalgoOne), true⟩)⟩) () H10 (Gh.le (SLe.cons (PLe.of_eq rfl) (SLe.cons (PLe.of_eq rfl) (SLe.cons (PLe.of_eq rfl) SLe.nil))) BLe.nil (OLe.cons rfl OLe.nil)) (fun m10 s10 g10 hr10 => ?_)
      obtain ⟨fb10, H, hg10⟩ := iterM_cons hr10
      iterate 2 refine V.seq ?_
      refine V.region ?_
      iterate 3 refine AOps.q tt_ok rfl ?_
      refine AOps.nil ?_
      refine V.cH rfl H (fun H => ?_) (fun H => ?_)
      · refine V.skip ?_
        refine V.seq ?_
        refine V.block ?_
        refine V.ownF (tag := 0) rfl (fun ho0 => ?_)
        refine V.draw tt_ok mixed_ok ⟨false, true, []⟩ [0, 1, 2, 3, 4, 5, 6, 7, 8, 9, 10, 11, 12, 13, 14, 15, 16, 17] rfl (by decide +kernel) rfl ?_
        iterate 8 refine DOps.q rfl ?_
        obtain ⟨x121, k121, H⟩ := getE H
        refine DOps.idxO tt_ok rfl rfl rfl rfl rfl rfl rfl rfl ⟨k121.1, (idxLen k121.2)⟩ (idxBlk ho0 k121.2) rfl ?_
        refine DOps.loadO tt_ok rfl rfl rfl rfl rfl rfl rfl rfl rfl (rowsGetI (fun _ => rfl) k121.2) rfl rfl ?_
        iterate 2 refine DOps.q rfl ?_
        obtain ⟨x125, k125, H⟩ := getE H
        refine DOps.idxO tt_ok rfl rfl rfl rfl rfl rfl rfl rfl ⟨k125.1, (idxLen k125.2)⟩ (idxBlk ho0 k125.2) rfl ?_
        refine DOps.loadO tt_ok rfl rfl rfl rfl rfl rfl rfl rfl rfl (rowsGetI (fun _ => rfl) k125.2) rfl rfl ?_
        obtain ⟨x127, k127, H⟩ := getE H
        refine DOps.idxO tt_ok rfl rfl rfl rfl rfl rfl rfl rfl ⟨k127.1, (idxLen k127.2)⟩ (idxBlk ho0 k127.2) rfl ?_
        obtain ⟨y15, hy15, H⟩ := letE H
        refine DOps.storeO tt_ok rfl rfl rfl rfl rfl rfl rfl rfl rfl (by rw [List.length_map]; exact (List.getElem?_eq_some_iff.1 k127.2).1) (PLe.refl _ _) rfl rfl rfl rfl (by decide) (setRow_map (fun _ => rfl) k127.2 rfl hy15) ?_
        obtain ⟨x128, k128, H⟩ := getE H
        refine DOps.idxO tt_ok rfl rfl rfl rfl rfl rfl rfl rfl ⟨k128.1, (idxLenE (set_len (f := encJoinalgoOne) hy15) k128.2)⟩ (idxBlkE ho0 (set_len (f := encJoinalgoOne) hy15) k128.2) rfl ?_
        obtain ⟨y16, hy16, H⟩ := letE H
        refine DOps.storeO tt_ok rfl rfl rfl rfl rfl rfl rfl rfl rfl (by rw [List.length_map]; exact (List.getElem?_eq_some_iff.1 k128.2).1) (PLe.refl _ _) rfl rfl rfl rfl (by decide) (setRow_map (fun _ => rfl) k128.2 rfl hy16) ?_
        refine DOps.nil ?_
        refine V.blk ?_
        refine V.region ?_
        iterate 3 refine AOps.q tt_ok rfl ?_
        refine AOps.nil ?_
        obtain rfl := someE H
        refine V.againL (y16, (IntKind.i64.wrap (s10.2 - (1 : Int)))) () hg10 (Gh.le (SLe.cons (PLe.of2 (PLe2.of_eq (congrArg (PV.own 0 g_data) ((set_len (f := encJoinalgoOne) hy15).trans (set_len (f := encJoinalgoOne) hy16))))) (SLe.cons (PLe.of_eq rfl) (SLe.cons (PLe.of_eq rfl) SLe.nil))) BLe.nil (OLe.cons rfl OLe.nil))
      refine V.exit rfl ?_
      obtain rfl := someE H
      refine V.at (s10.1, s10.2) () hg10 (Gh.le (SLe.cons (PLe.of_eq rfl) SLe.nil) BLe.nil (OLe.cons rfl OLe.nil))
    have H := thenP_next hn10 Hp10
    obtain rfl := someE H
    refine V.gh (st' := ⟨220, fun _ => .any, fun _ => none, upd (fun _ => none) 0 (some ⟨g_data, 119, (s10.1.map encJoinalgoOne), true⟩)⟩) (Gh.le SLe.nil BLe.nil (OLe.cons rfl OLe.nil)) ?_
    refine V.retH tt_ok rfl (ps := []) rfl (PLe.of_eq rfl) ⟨rfl, rfl⟩
  refine V.skip ?_
  refine V.seq ?_
  refine V.region ?_
  iterate 4 refine AOps.q tt_ok rfl ?_
  refine AOps.shr (m := 1) rfl rfl rfl rfl (by decide) rfl rfl ?_
  iterate 2 refine AOps.q tt_ok rfl ?_
  refine AOps.nil ?_
  refine V.seq ?_
  refine V.region ?_
  iterate 4 refine AOps.q tt_ok rfl ?_
  refine AOps.nil ?_
  refine V.seq ?_
  refine V.region ?_
  iterate 2 refine AOps.q tt_ok rfl ?_
  refine AOps.nil ?_
  iterate 2 refine V.seq ?_
  refine V.region ?_
  iterate 3 refine AOps.q tt_ok rfl ?_
  refine AOps.nil ?_
  obtain ⟨fl17, H17, Hp17⟩ := letE H
  refine V.cut (τ := List LJoinalgoOne × Int × Int) (γ := Unit) (fun t17 g17 => ⟨220, upd (upd (upd (upd (upd (upd (upd (upd (upd (fun _ => .any) 21 (pint t17.2.2)) 20 (pint t17.2.1)) 19 (pint (IntKind.i64.wrap ((IntKind.i64.wrap (Int.fdiv (IntKind.u64.wrap (IntKind.i64.wrap (a + b))) (2 ^ 1))) + m)))) 18 (pint (IntKind.i64.wrap (Int.fdiv (IntKind.u64.wrap (IntKind.i64.wrap (a + b))) (2 ^ 1))))) 4 (.fn g_cmp caps_cmp)) 3 (pint b)) 2 (pint m)) 1 (pint a)) 0 (.own 0 g_data (t17.1.map encJoinalgoOne).length), fun _ => none, upd (fun _ => none) 0 (some ⟨g_data, 119, (t17.1.map encJoinalgoOne), true⟩)⟩) (fun t => t = fl17) ?_ (fun t17 g17 hn17 => ?_)
  · have H := H17
    refine V.cH rfl H (fun H => ?_) (fun H => ?_)
    · refine V.seq ?_
      refine V.region ?_
      iterate 4 refine AOps.q tt_ok rfl ?_
      refine AOps.nil ?_
      refine V.region ?_
      iterate 2 refine AOps.q tt_ok rfl ?_
      refine AOps.nil ?_
      subst H
      refine V.at (data, (IntKind.i64.wrap ((IntKind.i64.wrap ((IntKind.i64.wrap (Int.fdiv (IntKind.u64.wrap (IntKind.i64.wrap (a + b))) (2 ^ 1))) + m)) - b)), (IntKind.i64.wrap (Int.fdiv (IntKind.u64.wrap (IntKind.i64.wrap (a + b))) (2 ^ 1)))) () rfl (Gh.le (SLe.cons (PLe.of_eq rfl) (SLe.cons (PLe.of_eq rfl) (SLe.cons (PLe.of_eq rfl) (SLe.cons (PLe.of_eq rfl) (SLe.cons (PLe.of_eq rfl) (SLe.cons (PLe.of_eq rfl) (SLe.cons (PLe.of_eq rfl) (SLe.cons (PLe.of_eq rfl) (SLe.cons (PLe.of_eq rfl) SLe.nil))))))))) BLe.nil (OLe.cons rfl OLe.nil))
    refine V.seq ?_
    refine V.region ?_
    iterate 2 refine AOps.q tt_ok rfl ?_
    refine AOps.nil ?_
    refine V.region ?_
    iterate 2 refine AOps.q tt_ok rfl ?_
    refine AOps.nil ?_
    subst H
    refine V.at (data, a, m) () rfl (Gh.le (SLe.cons (PLe.of_eq rfl) (SLe.cons (PLe.of_eq rfl) (SLe.cons (PLe.of_eq rfl) (SLe.cons (PLe.of_eq rfl) (SLe.cons (PLe.of_eq rfl) (SLe.cons (PLe.of_eq rfl) (SLe.cons (PLe.of_eq rfl) (SLe.cons (PLe.of_eq rfl) (SLe.cons (PLe.of_eq rfl) SLe.nil))))))))) BLe.nil (OLe.cons rfl OLe.nil))
  subst hn17
  have H := Hp17
  refine V.seq ?_
  refine V.region ?_
  iterate 3 refine AOps.q tt_ok rfl ?_
  refine AOps.nil ?_
  refine V.seq ?_
  obtain ⟨fl18, H18, Hp18⟩ := bindE H
  refine V.cut (τ := List LJoinalgoOne × Int × Int) (γ := Unit) (fun s18 g18 => ⟨220, upd (upd (upd (upd (upd (upd (upd (upd (fun _ => .any) 20 (pint s18.2.1)) 19 (pint (IntKind.i64.wrap ((IntKind.i64.wrap (Int.fdiv (IntKind.u64.wrap (IntKind.i64.wrap (a + b))) (2 ^ 1))) + m)))) 18 (pint (IntKind.i64.wrap (Int.fdiv (IntKind.u64.wrap (IntKind.i64.wrap (a + b))) (2 ^ 1))))) 4 (.fn g_cmp caps_cmp)) 3 (pint b)) 2 (pint m)) 1 (pint a)) 0 (.own 0 g_data (s18.1.map encJoinalgoOne).length), fun _ => none, upd (fun _ => none) 0 (some ⟨g_data, 119, (s18.1.map encJoinalgoOne), true⟩)⟩) (fun t => fl18 = .next t) ?_ (fun s18 g18 hn18 => ?_)
  · refine V.block ?_
    refine V.whileL (fun s18 g18 => ⟨220, upd (upd (upd (upd (upd (upd (upd (upd (upd (upd (fun _ => .any) 22 (pint (IntKind.i64.wrap ((IntKind.i64.wrap ((IntKind.i64.wrap (Int.fdiv (IntKind.u64.wrap (IntKind.i64.wrap (a + b))) (2 ^ 1))) + m)) - (1 : Int))))) 21 (pint s18.2.2)) 20 (pint s18.2.1)) 19 (pint (IntKind.i64.wrap ((IntKind.i64.wrap (Int.fdiv (IntKind.u64.wrap (IntKind.i64.wrap (a + b))) (2 ^ 1))) + m)))) 18 (pint (IntKind.i64.wrap (Int.fdiv (IntKind.u64.wrap (IntKind.i64.wrap (a + b))) (2 ^ 1))))) 4 (.fn g_cmp caps_cmp)) 3 (pint b)) 2 (pint m)) 1 (pint a)) 0 (.own 0 g_data (s18.1.map encJoinalgoOne).length), fun _ => none, upd (fun _ => none) 0 (some ⟨g_data, 119, (s18.1.map encJoinalgoOne), true⟩)⟩) () H18 (Gh.le (SLe.cons (PLe.of_eq rfl) (SLe.cons (PLe.of_eq rfl) (SLe.cons (PLe.of_eq rfl) (SLe.cons (PLe.of_eq rfl) (SLe.cons (PLe.of_eq rfl) (SLe.cons (PLe.of_eq rfl) (SLe.cons (PLe.of_eq rfl) (SLe.cons (PLe.of_eq rfl) (SLe.cons (PLe.of_eq rfl) (SLe.cons (PLe.of_eq rfl) SLe.nil)))))))))) BLe.nil (OLe.cons rfl OLe.nil)) (fun m18 s18 g18 hr18 => ?_)
    obtain ⟨fb18, H, hg18⟩ := iterM_cons hr18
    iterate 2 refine V.seq ?_
    refine V.region ?_
    iterate 3 refine AOps.q tt_ok rfl ?_
    refine AOps.nil ?_
    refine V.cH rfl H (fun H => ?_) (fun H => ?_)
    · refine V.skip ?_
      refine V.block ?_
      refine V.seq ?_
      refine V.region ?_
      iterate 4 refine AOps.q tt_ok rfl ?_
      refine AOps.shr (m := 1) rfl rfl rfl rfl (by decide) rfl rfl ?_
      iterate 2 refine AOps.q tt_ok rfl ?_
      refine AOps.nil ?_
      refine V.seq ?_
      refine V.ownF (tag := 0) rfl (fun ho0 => ?_)
      refine V.draw tt_ok mixed_ok ⟨false, true, []⟩ [0, 1, 2, 3, 4, 5, 6, 7, 8, 9, 10, 11, 12, 13] rfl (by decide +kernel) rfl ?_
      iterate 5 refine DOps.q rfl ?_
      obtain ⟨x163, k163, H⟩ := getE H
      refine DOps.idxO tt_ok rfl rfl rfl rfl rfl rfl rfl rfl ⟨k163.1, (idxLen k163.2)⟩ (idxBlk ho0 k163.2) rfl ?_
      refine DOps.loadO tt_ok rfl rfl rfl rfl rfl rfl rfl rfl rfl (rowsGetI (fun _ => rfl) k163.2) rfl rfl ?_
      iterate 2 refine DOps.q rfl ?_
      obtain ⟨x167, k167, H⟩ := getE H
      refine DOps.idxO tt_ok rfl rfl rfl rfl rfl rfl rfl rfl ⟨k167.1, (idxLen k167.2)⟩ (idxBlk ho0 k167.2) rfl ?_
      refine DOps.loadO tt_ok rfl rfl rfl rfl rfl rfl rfl rfl rfl (rowsGetI (fun _ => rfl) k167.2) rfl rfl ?_
      obtain ⟨x169, h169, H⟩ := bindE H
      refine DOps.callP rfl rfl rfl rfl hg_cmp (PLeAll.refl _ _) (hp_cmp _ _ _ h169) rfl ?_
      iterate 2 refine DOps.q rfl ?_
      refine DOps.nil ?_
      refine V.cH rfl H (fun H => ?_) (fun H => ?_)
      · refine V.region ?_
        iterate 3 refine AOps.q tt_ok rfl ?_
        refine AOps.nil ?_
        refine V.blk ?_
        obtain rfl := someE H
        refine V.againL (s18.1, (IntKind.i64.wrap ((IntKind.i64.wrap (Int.fdiv (IntKind.u64.wrap (IntKind.i64.wrap (s18.2.1 + s18.2.2))) (2 ^ 1))) + (1 : Int))), s18.2.2) () hg18 (Gh.le (SLe.cons (PLe.of_eq rfl) (SLe.cons (PLe.of_eq rfl) (SLe.cons (PLe.of_eq rfl) (SLe.cons (PLe.of_eq rfl) (SLe.cons (PLe.of_eq rfl) (SLe.cons (PLe.of_eq rfl) (SLe.cons (PLe.of_eq rfl) (SLe.cons (PLe.of_eq rfl) (SLe.cons (PLe.of_eq rfl) (SLe.cons (PLe.of_eq rfl) SLe.nil)))))))))) BLe.nil (OLe.cons rfl OLe.nil))
      refine V.region ?_
      iterate 2 refine AOps.q tt_ok rfl ?_
      refine AOps.nil ?_
      refine V.blk ?_
      obtain rfl := someE H
      refine V.againL (s18.1, s18.2.1, (IntKind.i64.wrap (Int.fdiv (IntKind.u64.wrap (IntKind.i64.wrap (s18.2.1 + s18.2.2))) (2 ^ 1)))) () hg18 (Gh.le (SLe.cons (PLe.of_eq rfl) (SLe.cons (PLe.of_eq rfl) (SLe.cons (PLe.of_eq rfl) (SLe.cons (PLe.of_eq rfl) (SLe.cons (PLe.of_eq rfl) (SLe.cons (PLe.of_eq rfl) (SLe.cons (PLe.of_eq rfl) (SLe.cons (PLe.of_eq rfl) (SLe.cons (PLe.of_eq rfl) (SLe.cons (PLe.of_eq rfl) SLe.nil)))))))))) BLe.nil (OLe.cons rfl OLe.nil))
    refine V.exit rfl ?_
    obtain rfl := someE H
    refine V.at (s18.1, s18.2.1, s18.2.2) () hg18 (Gh.le (SLe.cons (PLe.of_eq rfl) (SLe.cons (PLe.of_eq rfl) (SLe.cons (PLe.of_eq rfl) (SLe.cons (PLe.of_eq rfl) (SLe.cons (PLe.of_eq rfl) (SLe.cons (PLe.of_eq rfl) (SLe.cons (PLe.of_eq rfl) (SLe.cons (PLe.of_eq rfl) SLe.nil)))))))) BLe.nil (OLe.cons rfl OLe.nil))
  have H := thenP_next hn18 Hp18
  refine V.seq ?_
  refine V.region ?_
  iterate 4 refine AOps.q tt_ok rfl ?_
  refine AOps.nil ?_
  iterate 2 refine V.seq ?_
  obtain ⟨fl19, H19, Hp19⟩ := letE H
  refine V.cut (τ := List LJoinalgoOne × Bool) (γ := Unit) (fun t19 g19 => ⟨220, upd (upd (upd (upd (upd (upd (upd (upd (upd (fun _ => .any) 185 (pbool t19.2)) 24 (pint (IntKind.i64.wrap ((IntKind.i64.wrap ((IntKind.i64.wrap (Int.fdiv (IntKind.u64.wrap (IntKind.i64.wrap (a + b))) (2 ^ 1))) + m)) - s18.2.1)))) 20 (pint s18.2.1)) 18 (pint (IntKind.i64.wrap (Int.fdiv (IntKind.u64.wrap (IntKind.i64.wrap (a + b))) (2 ^ 1))))) 4 (.fn g_cmp caps_cmp)) 3 (pint b)) 2 (pint m)) 1 (pint a)) 0 (.own 0 g_data (t19.1.map encJoinalgoOne).length), fun _ => none, upd (fun _ => none) 0 (some ⟨g_data, 119, (t19.1.map encJoinalgoOne), true⟩)⟩) (fun t => t = fl19) ?_ (fun t19 g19 hn19 => ?_)
  · have H := H19
    refine V.region ?_
    iterate 4 refine AOps.q tt_ok rfl ?_
    refine AOps.sH rfl rfl rfl H (fun H => ?_) (fun H => ?_)
    · refine AOps.q tt_ok rfl ?_
      iterate 3 refine AOps.q tt_ok rfl ?_
      refine AOps.nil ?_
      subst H
      refine V.at (s18.1, (decide (m < (IntKind.i64.wrap ((IntKind.i64.wrap ((IntKind.i64.wrap (Int.fdiv (IntKind.u64.wrap (IntKind.i64.wrap (a + b))) (2 ^ 1))) + m)) - s18.2.1))))) () rfl (Gh.le (SLe.cons (PLe.of_eq rfl) (SLe.cons (PLe.of_eq rfl) (SLe.cons (PLe.of_eq rfl) (SLe.cons (PLe.of_eq rfl) (SLe.cons (PLe.of_eq rfl) (SLe.cons (PLe.of_eq rfl) (SLe.cons (PLe.of_eq rfl) (SLe.cons (PLe.of_eq rfl) (SLe.cons (PLe.of_eq rfl) SLe.nil))))))))) BLe.nil (OLe.cons rfl OLe.nil))
    iterate 4 refine AOps.q tt_ok rfl ?_
    refine AOps.nil ?_
    subst H
    refine V.at (s18.1, false) () rfl (Gh.le (SLe.cons (PLe.of_eq rfl) (SLe.cons (PLe.of_eq rfl) (SLe.cons (PLe.of_eq rfl) (SLe.cons (PLe.of_eq rfl) (SLe.cons (PLe.of_eq rfl) (SLe.cons (PLe.of_eq rfl) (SLe.cons (PLe.of_eq rfl) (SLe.cons (PLe.of_eq rfl) (SLe.cons (PLe.of_eq rfl) SLe.nil))))))))) BLe.nil (OLe.cons rfl OLe.nil))
  subst hn19
  have H := Hp19
  obtain ⟨fl20, H20, Hp20⟩ := bindE H
  refine V.cut (τ := List LJoinalgoOne) (γ := Unit) (fun t20 g20 => ⟨220, upd (upd (upd (upd (upd (upd (upd (fun _ => .any) 24 (pint (IntKind.i64.wrap ((IntKind.i64.wrap ((IntKind.i64.wrap (Int.fdiv (IntKind.u64.wrap (IntKind.i64.wrap (a + b))) (2 ^ 1))) + m)) - s18.2.1)))) 20 (pint s18.2.1)) 18 (pint (IntKind.i64.wrap (Int.fdiv (IntKind.u64.wrap (IntKind.i64.wrap (a + b))) (2 ^ 1))))) 4 (.fn g_cmp caps_cmp)) 3 (pint b)) 1 (pint a)) 0 (.own 0 g_data (t20.map encJoinalgoOne).length), fun _ => none, upd (fun _ => none) 0 (some ⟨g_data, 119, (t20.map encJoinalgoOne), true⟩)⟩) (fun t => t = fl20) ?_ (fun t20 g20 hn20 => ?_)
  · have H := H20
    refine V.cH rfl H (fun H => ?_) (fun H => ?_)
    · refine V.region ?_
      iterate 5 refine AOps.q tt_ok rfl ?_
      obtain ⟨x191, h191, H⟩ := bindE H
      have s191 := W_slices_rotateCmpFunc_joinalgo_one g_data t19.1 s18.2.1 m (IntKind.i64.wrap ((IntKind.i64.wrap ((IntKind.i64.wrap (Int.fdiv (IntKind.u64.wrap (IntKind.i64.wrap (a + b))) (2 ^ 1))) + m)) - s18.2.1)) cmp hg_cmp hp_cmp _ h191
      obtain ⟨_, q191_0, H⟩ := bindE H
      have l191_0 := (guardO_some q191_0).1
      have z191_0 : (List.map encJoinalgoOne t19.1).length = (List.map encJoinalgoOne x191).length := by simpa using (l191_0).symm
      refine AOps.callH (g := 262) rfl rfl rfl Tryz.call262 [] [(0, 0)] rfl rfl rfl rfl (PLeAll.of2 (PLe2All.cons (PLe2.own rfl) (PLe2All.cons (PLe2.of_eq rfl) (PLe2All.cons (PLe2.of_eq rfl) (PLe2All.cons (PLe2.of_eq rfl) (PLe2All.cons (PLe2.of_eq rfl) PLe2All.nil)))))) (by rw [giveB_nil, giveO_cons, giveO_nil]; rfl) s191 ?_
      rintro u191 H191h ⟨rfl, rfl⟩
      refine ⟨_, rfl, ?_⟩
      refine AOps.gh (st' := ⟨_, _, fun _ => none, upd (fun _ => none) 0 (some ⟨g_data, 119, (x191.map encJoinalgoOne), true⟩)⟩) (Gh.le (SLe.refl _ _) BLe.nil (OLe.cons rfl OLe.nil)) ?_
      refine AOps.nil ?_
      obtain rfl := someE H
      refine V.at x191 () rfl (Gh.le (SLe.cons (PLe.of2 (PLe2.of_eq (congrArg (PV.own 0 g_data) z191_0))) (SLe.cons (PLe.of_eq rfl) (SLe.cons (PLe.of_eq rfl) (SLe.cons (PLe.of_eq rfl) (SLe.cons (PLe.of_eq rfl) (SLe.cons (PLe.of_eq rfl) (SLe.cons (PLe.of_eq rfl) SLe.nil))))))) BLe.nil (OLe.cons rfl OLe.nil))
    refine V.skip ?_
    obtain rfl := someE H
    refine V.at t19.1 () rfl (Gh.le (SLe.cons (PLe.of_eq rfl) (SLe.cons (PLe.of_eq rfl) (SLe.cons (PLe.of_eq rfl) (SLe.cons (PLe.of_eq rfl) (SLe.cons (PLe.of_eq rfl) (SLe.cons (PLe.of_eq rfl) (SLe.cons (PLe.of_eq rfl) SLe.nil))))))) BLe.nil (OLe.cons rfl OLe.nil))
  subst hn20
  have H := Hp20
  iterate 2 refine V.seq ?_
  obtain ⟨fl21, H21, Hp21⟩ := letE H
  refine V.cut (τ := List LJoinalgoOne × Bool) (γ := Unit) (fun t21 g21 => ⟨220, upd (upd (upd (upd (upd (upd (upd (upd (fun _ => .any) 199 (pbool t21.2)) 24 (pint (IntKind.i64.wrap ((IntKind.i64.wrap ((IntKind.i64.wrap (Int.fdiv (IntKind.u64.wrap (IntKind.i64.wrap (a + b))) (2 ^ 1))) + m)) - s18.2.1)))) 20 (pint s18.2.1)) 18 (pint (IntKind.i64.wrap (Int.fdiv (IntKind.u64.wrap (IntKind.i64.wrap (a + b))) (2 ^ 1))))) 4 (.fn g_cmp caps_cmp)) 3 (pint b)) 1 (pint a)) 0 (.own 0 g_data (t21.1.map encJoinalgoOne).length), fun _ => none, upd (fun _ => none) 0 (some ⟨g_data, 119, (t21.1.map encJoinalgoOne), true⟩)⟩) (fun t => t = fl21) ?_ (fun t21 g21 hn21 => ?_)
  · have H := H21
    refine V.region ?_
    iterate 4 refine AOps.q tt_ok rfl ?_
    refine AOps.sH rfl rfl rfl H (fun H => ?_) (fun H => ?_)
    · refine AOps.q tt_ok rfl ?_
      iterate 3 refine AOps.q tt_ok rfl ?_
      refine AOps.nil ?_
      subst H
      refine V.at (t20, (decide (s18.2.1 < (IntKind.i64.wrap (Int.fdiv (IntKind.u64.wrap (IntKind.i64.wrap (a + b))) (2 ^ 1)))))) () rfl (Gh.le (SLe.cons (PLe.of_eq rfl) (SLe.cons (PLe.of_eq rfl) (SLe.cons (PLe.of_eq rfl) (SLe.cons (PLe.of_eq rfl) (SLe.cons (PLe.of_eq rfl) (SLe.cons (PLe.of_eq rfl) (SLe.cons (PLe.of_eq rfl) (SLe.cons (PLe.of_eq rfl) SLe.nil)))))))) BLe.nil (OLe.cons rfl OLe.nil))
    iterate 4 refine AOps.q tt_ok rfl ?_
    refine AOps.nil ?_
    subst H
    refine V.at (t20, false) () rfl (Gh.le (SLe.cons (PLe.of_eq rfl) (SLe.cons (PLe.of_eq rfl) (SLe.cons (PLe.of_eq rfl) (SLe.cons (PLe.of_eq rfl) (SLe.cons (PLe.of_eq rfl) (SLe.cons (PLe.of_eq rfl) (SLe.cons (PLe.of_eq rfl) (SLe.cons (PLe.of_eq rfl) SLe.nil)))))))) BLe.nil (OLe.cons rfl OLe.nil))
  subst hn21
  have H := Hp21
  obtain ⟨fl22, H22, Hp22⟩ := bindE H
  refine V.cut (τ := List LJoinalgoOne) (γ := Unit) (fun t22 g22 => ⟨220, upd (upd (upd (upd (upd (fun _ => .any) 24 (pint (IntKind.i64.wrap ((IntKind.i64.wrap ((IntKind.i64.wrap (Int.fdiv (IntKind.u64.wrap (IntKind.i64.wrap (a + b))) (2 ^ 1))) + m)) - s18.2.1)))) 18 (pint (IntKind.i64.wrap (Int.fdiv (IntKind.u64.wrap (IntKind.i64.wrap (a + b))) (2 ^ 1))))) 4 (.fn g_cmp caps_cmp)) 3 (pint b)) 0 (.own 0 g_data (t22.map encJoinalgoOne).length), fun _ => none, upd (fun _ => none) 0 (some ⟨g_data, 119, (t22.map encJoinalgoOne), true⟩)⟩) (fun t => t = fl22) ?_ (fun t22 g22 hn22 => ?_)
  · have H := H22
    refine V.cH rfl H (fun H => ?_) (fun H => ?_)
    · refine V.region ?_
      iterate 5 refine AOps.q tt_ok rfl ?_
      obtain ⟨x205, h205, H⟩ := bindE H
      have s205 := hrec218 g_data t21.1 a s18.2.1 (IntKind.i64.wrap (Int.fdiv (IntKind.u64.wrap (IntKind.i64.wrap (a + b))) (2 ^ 1))) _ h205
      obtain ⟨_, q205_0, H⟩ := bindE H
      have l205_0 := (guardO_some q205_0).1
      have z205_0 : (List.map encJoinalgoOne t21.1).length = (List.map encJoinalgoOne x205).length := by simpa using (l205_0).symm
      refine AOps.callH (g := 218) rfl rfl rfl Tryz.call218 [] [(0, 0)] rfl rfl rfl rfl (PLeAll.of2 (PLe2All.cons (PLe2.own rfl) (PLe2All.cons (PLe2.of_eq rfl) (PLe2All.cons (PLe2.of_eq rfl) (PLe2All.cons (PLe2.of_eq rfl) (PLe2All.cons (PLe2.of_eq rfl) PLe2All.nil)))))) (by rw [giveB_nil, giveO_cons, giveO_nil]; rfl) s205 ?_
      rintro u205 H205h ⟨rfl, rfl⟩
      refine ⟨_, rfl, ?_⟩
      refine AOps.gh (st' := ⟨_, _, fun _ => none, upd (fun _ => none) 0 (some ⟨g_data, 119, (x205.map encJoinalgoOne), true⟩)⟩) (Gh.le (SLe.refl _ _) BLe.nil (OLe.cons rfl OLe.nil)) ?_
      refine AOps.nil ?_
      obtain rfl := someE H
      refine V.at x205 () rfl (Gh.le (SLe.cons (PLe.of2 (PLe2.of_eq (congrArg (PV.own 0 g_data) z205_0))) (SLe.cons (PLe.of_eq rfl) (SLe.cons (PLe.of_eq rfl) (SLe.cons (PLe.of_eq rfl) (SLe.cons (PLe.of_eq rfl) SLe.nil))))) BLe.nil (OLe.cons rfl OLe.nil))
    refine V.skip ?_
    obtain rfl := someE H
    refine V.at t21.1 () rfl (Gh.le (SLe.cons (PLe.of_eq rfl) (SLe.cons (PLe.of_eq rfl) (SLe.cons (PLe.of_eq rfl) (SLe.cons (PLe.of_eq rfl) (SLe.cons (PLe.of_eq rfl) SLe.nil))))) BLe.nil (OLe.cons rfl OLe.nil))
  subst hn22
  have H := Hp22
  refine V.seq ?_
  refine V.region ?_
  iterate 4 refine AOps.q tt_ok rfl ?_
  refine AOps.sH rfl rfl rfl H (fun H => ?_) (fun H => ?_)
  · refine AOps.q tt_ok rfl ?_
    iterate 3 refine AOps.q tt_ok rfl ?_
    refine AOps.nil ?_
    refine V.cH rfl H (fun H => ?_) (fun H => ?_)
    · refine V.region ?_
      iterate 5 refine AOps.q tt_ok rfl ?_
      obtain ⟨x219, h219, H⟩ := bindE H
      have s219 := hrec218 g_data t22 (IntKind.i64.wrap (Int.fdiv (IntKind.u64.wrap (IntKind.i64.wrap (a + b))) (2 ^ 1))) (IntKind.i64.wrap ((IntKind.i64.wrap ((IntKind.i64.wrap (Int.fdiv (IntKind.u64.wrap (IntKind.i64.wrap (a + b))) (2 ^ 1))) + m)) - s18.2.1)) b _ h219
      obtain ⟨_, q219_0, H⟩ := bindE H
      have l219_0 := (guardO_some q219_0).1
      have z219_0 : (List.map encJoinalgoOne t22).length = (List.map encJoinalgoOne x219).length := by simpa using (l219_0).symm
      refine AOps.callH (g := 218) rfl rfl rfl Tryz.call218 [] [(0, 0)] rfl rfl rfl rfl (PLeAll.of2 (PLe2All.cons (PLe2.own rfl) (PLe2All.cons (PLe2.of_eq rfl) (PLe2All.cons (PLe2.of_eq rfl) (PLe2All.cons (PLe2.of_eq rfl) (PLe2All.cons (PLe2.of_eq rfl) PLe2All.nil)))))) (by rw [giveB_nil, giveO_cons, giveO_nil]; rfl) s219 ?_
      rintro u219 H219h ⟨rfl, rfl⟩
      refine ⟨_, rfl, ?_⟩
      refine AOps.gh (st' := ⟨_, _, fun _ => none, upd (fun _ => none) 0 (some ⟨g_data, 119, (x219.map encJoinalgoOne), true⟩)⟩) (Gh.le (SLe.refl _ _) BLe.nil (OLe.cons rfl OLe.nil)) ?_
      refine AOps.nil ?_
      obtain rfl := someE H
      refine V.gh (st' := ⟨220, fun _ => .any, fun _ => none, upd (fun _ => none) 0 (some ⟨g_data, 119, (x219.map encJoinalgoOne), true⟩)⟩) (Gh.le SLe.nil BLe.nil (OLe.cons rfl OLe.nil)) ?_
      refine V.endH rfl (PLe.of_eq rfl) ⟨rfl, rfl⟩
    refine V.skip ?_
    obtain rfl := someE H
    refine V.gh (st' := ⟨220, fun _ => .any, fun _ => none, upd (fun _ => none) 0 (some ⟨g_data, 119, (t22.map encJoinalgoOne), true⟩)⟩) (Gh.le SLe.nil BLe.nil (OLe.cons rfl OLe.nil)) ?_
    refine V.endH rfl (PLe.of_eq rfl) ⟨rfl, rfl⟩
  iterate 4 refine AOps.q tt_ok rfl ?_
  refine AOps.nil ?_
  refine V.condF rfl ?_
  refine V.skip ?_
  obtain rfl := someE H
  refine V.gh (st' := ⟨220, fun _ => .any, fun _ => none, upd (fun _ => none) 0 (some ⟨g_data, 119, (t22.map encJoinalgoOne), true⟩)⟩) (Gh.le SLe.nil BLe.nil (OLe.cons rfl OLe.nil)) ?_
  refine V.endH rfl (PLe.of_eq rfl) ⟨rfl, rfl⟩
noncomputable def F_slices_symMergeCmpFunc_joinalgo_one : Nat → (List LJoinalgoOne) → Int → Int → Int → (LJoinalgoOne → LJoinalgoOne → Option (Int)) → Option ((List LJoinalgoOne))
  | 0, _, _, _, _, _ => none
  | n + 1, v0, v1, v2, v3, v4 => O_slices_symMergeCmpFunc_joinalgo_one (fun b0 b1 b2 b3 => F_slices_symMergeCmpFunc_joinalgo_one n b0 b1 b2 b3 v4) v0 v1 v2 v3 v4
theorem WF_slices_symMergeCmpFunc_joinalgo_one {g_cmp : FuncId} {caps_cmp : List PV} (cmp : LJoinalgoOne → LJoinalgoOne → Option (Int)) (hg_cmp : ∀ (vs : Array Value) (w : World), (callFunc g_cmp vs).run Tryz.prog w = .ok (.enter g_cmp vs) w) (hp_cmp : ∀ a0 a1 r, cmp a0 a1 = some r → PFun Tryz.prog g_cmp ((.agg (encJoinalgoOne a0)) :: (.agg (encJoinalgoOne a1)) :: caps_cmp) (pint r)) (n : Nat) : (∀ g0 a0 a1 a2 a3 r, F_slices_symMergeCmpFunc_joinalgo_one n a0 a1 a2 a3 cmp = some r → PCallsH Tryz.prog 218 [(.own 0 g0 (a0.map encJoinalgoOne).length), (pint a1), (pint a2), (pint a3), (.fn g_cmp caps_cmp)] ⟨fun _ => none, upd (fun _ => none) 0 (some ⟨g0, 119, (a0.map encJoinalgoOne), true⟩)⟩ (fun u H => u = (.tup []) ∧ H = ⟨fun _ => none, upd (fun _ => none) 0 (some ⟨g0, 119, (r.map encJoinalgoOne), true⟩)⟩)) := by
  induction n with
  | zero => exact (by intros; rename_i h; exact absurd (show (none : Option _) = some _ from h) (by simp))
  | succ n ih =>
    exact (fun g0 v0 v1 v2 v3 r h => WO_slices_symMergeCmpFunc_joinalgo_one g0 (fun b0 b1 b2 b3 => F_slices_symMergeCmpFunc_joinalgo_one n b0 b1 b2 b3 cmp) ih v0 v1 v2 v3 cmp hg_cmp hp_cmp r h)
noncomputable def L_slices_symMergeCmpFunc_joinalgo_one (data : List LJoinalgoOne) (a : Int) (m : Int) (b : Int) (cmp : LJoinalgoOne → LJoinalgoOne → Option (Int)) : Option ((List LJoinalgoOne)) := limN fun n => F_slices_symMergeCmpFunc_joinalgo_one n data a m b cmp
theorem W_slices_symMergeCmpFunc_joinalgo_one (g_data : OwnRef) {g_cmp : FuncId} {caps_cmp : List PV} (data : List LJoinalgoOne) (a : Int) (m : Int) (b : Int) (cmp : LJoinalgoOne → LJoinalgoOne → Option (Int)) (hg_cmp : ∀ (vs : Array Value) (w : World), (callFunc g_cmp vs).run Tryz.prog w = .ok (.enter g_cmp vs) w) (hp_cmp : ∀ a0 a1 r, cmp a0 a1 = some r → PFun Tryz.prog g_cmp ((.agg (encJoinalgoOne a0)) :: (.agg (encJoinalgoOne a1)) :: caps_cmp) (pint r)) (r : (List LJoinalgoOne)) (H : L_slices_symMergeCmpFunc_joinalgo_one data a m b cmp = some r) :
    PCallsH Tryz.prog 218 [(.own 0 g_data (data.map encJoinalgoOne).length), (pint a), (pint m), (pint b), (.fn g_cmp caps_cmp)] ⟨fun _ => none, upd (fun _ => none) 0 (some ⟨g_data, 119, (data.map encJoinalgoOne), true⟩)⟩ (fun u H => u = (.tup []) ∧ H = ⟨fun _ => none, upd (fun _ => none) 0 (some ⟨g_data, 119, (r.map encJoinalgoOne), true⟩)⟩) := by
  obtain ⟨n, h⟩ := limN_some H
  exact (WF_slices_symMergeCmpFunc_joinalgo_one cmp hg_cmp hp_cmp n) g_data data a m b r h

end Go.Proofs.YtjnpnakcmjndiaaGreatDoor
/- Lifted functions: printed by lift.py. -/
namespace Go.Proofs.YtjnpnakcmjndiaaGreatDoor
open Go Go.Ab
attribute [local irreducible] V AOps DOps Gh Eff PCallsH IntKind.wrap
set_option maxRecDepth 4000

noncomputable def L_joinalgo_sorted_1 (x : LJoinalgoOne) (y : LJoinalgoOne) : Option (Int) :=
  cond (!(x.ok == y.ok))
    (cond y.ok
      (some (-1))
      (some 1))
    (bindP (L_query_CompareRows x.key y.key ([] : List Bool)) fun x16 =>
    some x16)

set_option maxHeartbeats 4000000 in
theorem W_joinalgo_sorted_1 (x : LJoinalgoOne) (y : LJoinalgoOne) (r : Int) (H : L_joinalgo_sorted_1 x y = some r) :
    PFun Tryz.prog 112 [(.agg (encJoinalgoOne x)), (.agg (encJoinalgoOne y))] (pint r) := by
  unfold L_joinalgo_sorted_1 at H
  refine PCallsH.intro Tryz.func112 rfl Tryz.ntmps112 rfl ?_
  refine V.seq ?_
  refine V.region ?_
  refine AOps.boxF rfl rfl rfl rfl rfl rfl ?_
  refine AOps.boxF rfl rfl rfl rfl rfl rfl ?_
  refine AOps.q tt_ok rfl ?_
  refine AOps.nil ?_
  iterate 2 refine V.seq ?_
  refine V.region ?_
  iterate 5 refine AOps.q tt_ok rfl ?_
  refine AOps.nil ?_
  refine V.cH rfl H (fun H => ?_) (fun H => ?_)
  · refine V.seq ?_
    refine V.seq ?_
    refine V.region ?_
    iterate 2 refine AOps.q tt_ok rfl ?_
    refine AOps.nil ?_
    refine V.cH rfl H (fun H => ?_) (fun H => ?_)
    · refine V.seq ?_
      refine V.region ?_
      refine AOps.q tt_ok rfl ?_
      refine AOps.nil ?_
      obtain rfl := someE H
      refine V.retP tt_ok rfl (ps := [(pint (-1))]) ⟨_, _, rfl, rfl, rfl⟩ (PLe.of_eq rfl)
    refine V.skip ?_
    refine V.seq ?_
    refine V.region ?_
    refine AOps.q tt_ok rfl ?_
    refine AOps.nil ?_
    obtain rfl := someE H
    refine V.retP tt_ok rfl (ps := [(pint 1)]) ⟨_, _, rfl, rfl, rfl⟩ (PLe.of_eq rfl)
  refine V.skip ?_
  refine V.seq ?_
  refine V.region ?_
  iterate 4 refine AOps.q tt_ok rfl ?_
  obtain ⟨x16, h16, H⟩ := bindE H
  have s16 := W_query_CompareRows x.key y.key ([] : List Bool) _ h16
  refine AOps.callP (g := 19) rfl rfl rfl Tryz.call19 (PLeAll.of2 (PLe2All.cons (PLe2.of_eq rfl) (PLe2All.cons (PLe2.of_eq rfl) (PLe2All.cons (PLe2.nil tt_ok rfl) PLe2All.nil)))) s16 rfl ?_
  refine AOps.q tt_ok rfl ?_
  refine AOps.nil ?_
  obtain rfl := someE H
  refine V.retP tt_ok rfl (ps := [(pint x16)]) ⟨_, _, rfl, rfl, rfl⟩ (PLe.of_eq rfl)

noncomputable def L_joinalgo_pair (x : List LVal) (y : List LVal) : Option ((List LVal)) :=
  bindP (L_slices_Concat_api_Row_api_Value ([x, y] : List (List LVal))) fun x8 =>
  some x8

set_option maxHeartbeats 4000000 in
theorem W_joinalgo_pair (x : List LVal) (y : List LVal) (r : (List LVal)) (H : L_joinalgo_pair x y = some r) :
    PFun Tryz.prog 49 [(.list 47 (x.map encVal)), (.list 47 (y.map encVal))] (.list 47 (r.map encVal)) := by
  unfold L_joinalgo_pair at H
  refine PCallsH.intro Tryz.func49 rfl Tryz.ntmps49 rfl ?_
  refine V.seq ?_
  refine V.region ?_
  refine AOps.q tt_ok rfl ?_
  refine AOps.nil ?_
  refine V.seq ?_
  refine V.region ?_
  iterate 2 refine AOps.q tt_ok rfl ?_
  refine AOps.bsC tt_ok rfl rfl rfl rfl (rows' := List.map (rList 47 encVal) ([x, y] : List (List LVal))) rfl (PLe2Rows.refl _) rfl rfl ?_
  obtain ⟨x8, h8, H⟩ := bindE H
  have s8 := W_slices_Concat_api_Row_api_Value (m := 8) ([x, y] : List (List LVal)) _ h8
  refine AOps.callP (g := 113) rfl rfl rfl Tryz.call113 (PLeAll.refl _ _) (PFun.of_own s8) rfl ?_
  refine AOps.q tt_ok rfl ?_
  refine AOps.nil ?_
  obtain rfl := someE H
  refine V.retP tt_ok rfl (ps := [(.list 47 (x8.map encVal))]) ⟨_, _, rfl, rfl, rfl⟩ (PLe.of_eq rfl)

noncomputable def L_joinalgo_alone (x : List LVal) (on : LJoinalgoCondition) : Option ((List LVal)) :=
  bindP (growI 32 on.rightWidth) fun (_ : Unit) =>
  bindP (L_slices_Concat_api_Row_api_Value ([x, (List.replicate on.rightWidth.toNat (LVal.mk 0 0 []))] : List (List LVal))) fun x10 =>
  some x10

set_option maxHeartbeats 4000000 in
theorem W_joinalgo_alone (x : List LVal) (on : LJoinalgoCondition) (r : (List LVal)) (H : L_joinalgo_alone x on = some r) :
    PFun Tryz.prog 50 [(.list 47 (x.map encVal)), (.agg (encJoinalgoCondition on))] (.list 47 (r.map encVal)) := by
  unfold L_joinalgo_alone at H
  refine PCallsH.intro Tryz.func50 rfl Tryz.ntmps50 rfl ?_
  refine V.seq ?_
  refine V.region ?_
  refine AOps.boxF rfl rfl rfl rfl rfl rfl ?_
  refine AOps.q tt_ok rfl ?_
  refine AOps.nil ?_
  refine V.seq ?_
  refine V.region ?_
  iterate 3 refine AOps.q tt_ok rfl ?_
  obtain ⟨_, h8, H⟩ := bindE H
  have k8 := growI_some h8
  refine AOps.makeS (rows := List.map encVal (List.replicate on.rightWidth.toNat (LVal.mk 0 0 []))) tt_ok rfl rfl rfl rfl rfl rfl rfl rfl rfl rfl k8.1 k8.2.1 k8.2.2 (by rw [List.map_replicate]; rfl) fun g8 => ?_
  refine AOps.gh (Gh.freezeO 8 rfl rfl rfl) ?_
  refine AOps.bsC tt_ok rfl rfl rfl rfl (rows' := List.map (rList 47 encVal) ([x, (List.replicate on.rightWidth.toNat (LVal.mk 0 0 []))] : List (List LVal))) rfl (PLe2Rows.refl _) rfl rfl ?_
  obtain ⟨x10, h10, H⟩ := bindE H
  have s10 := W_slices_Concat_api_Row_api_Value (m := 10) ([x, (List.replicate on.rightWidth.toNat (LVal.mk 0 0 []))] : List (List LVal)) _ h10
  refine AOps.callP (g := 113) rfl rfl rfl Tryz.call113 (PLeAll.refl _ _) (PFun.of_own s10) rfl ?_
  refine AOps.q tt_ok rfl ?_
  refine AOps.nil ?_
  obtain rfl := someE H
  refine V.retP tt_ok rfl (ps := [(.list 47 (x10.map encVal))]) ⟨_, _, rfl, rfl, rfl⟩ (PLe.of_eq rfl)

end Go.Proofs.YtjnpnakcmjndiaaGreatDoor
/- Lifted functions: printed by lift.py. -/
namespace Go.Proofs.YtjnpnakcmjndiaaGreatDoor
open Go Go.Ab
attribute [local irreducible] V AOps DOps Gh Eff PCallsH IntKind.wrap
set_option maxRecDepth 4000

noncomputable def L_slices_stableCmpFunc_joinalgo_one (data : List LJoinalgoOne) (n : Int) (cmp : LJoinalgoOne → LJoinalgoOne → Option (Int)) : Option ((List LJoinalgoOne)) :=
  bindP (whileM (σ := List LJoinalgoOne × Int × Int) (ρ := Empty) (fun (s1 : List LJoinalgoOne × Int × Int) =>
    cond (decide (s1.2.2 ≤ n))
      (bindP (L_slices_insertionSortCmpFunc_joinalgo_one s1.1 s1.2.1 s1.2.2 cmp) fun x18 =>
      bindP (guardO (x18.length = s1.1.length) ()) fun (_ : Unit) =>
      some (.next (x18, s1.2.2, (IntKind.i64.wrap (s1.2.2 + (20 : Int))))))
      (some (.brk (s1.1, s1.2.1, s1.2.2)))) (data, 0, 20)) fun fl1 => fl1.thenP fun (s1 : List LJoinalgoOne × Int × Int) =>
  bindP (L_slices_insertionSortCmpFunc_joinalgo_one s1.1 s1.2.1 n cmp) fun x27 =>
  bindP (guardO (x27.length = s1.1.length) ()) fun (_ : Unit) =>
  bindP (whileM (σ := List LJoinalgoOne × Int) (ρ := Empty) (fun (s2 : List LJoinalgoOne × Int) =>
    cond (decide (s2.2 < n))
      (bindP (whileM (σ := List LJoinalgoOne × Int × Int) (ρ := Empty) (fun (s5 : List LJoinalgoOne × Int × Int) =>
        cond (decide (s5.2.2 ≤ n))
          (bindP (L_slices_symMergeCmpFunc_joinalgo_one s5.1 s5.2.1 (IntKind.i64.wrap (s5.2.1 + s2.2)) s5.2.2 cmp) fun x43 =>
          bindP (guardO (x43.length = s5.1.length) ()) fun (_ : Unit) =>
          some (.next (x43, s5.2.2, (IntKind.i64.wrap (s5.2.2 + (IntKind.i64.wrap ((2 : Int) * s2.2)))))))
          (some (.brk (s5.1, s5.2.1, s5.2.2)))) (s2.1, 0, (IntKind.i64.wrap ((2 : Int) * s2.2)))) fun fl5 => fl5.thenP fun (s5 : List LJoinalgoOne × Int × Int) =>
      cond (decide ((IntKind.i64.wrap (s5.2.1 + s2.2)) < n))
        (bindP (L_slices_symMergeCmpFunc_joinalgo_one s5.1 s5.2.1 (IntKind.i64.wrap (s5.2.1 + s2.2)) n cmp) fun x60 =>
        bindP (guardO (x60.length = s5.1.length) ()) fun (_ : Unit) =>
        some (.next (x60, (IntKind.i64.wrap (s2.2 * (2 : Int))))))
        (some (.next (s5.1, (IntKind.i64.wrap (s2.2 * (2 : Int)))))))
      (some (.brk (s2.1, s2.2)))) (x27, 20)) fun fl2 => fl2.thenP fun (s2 : List LJoinalgoOne × Int) =>
  some s2.1

set_option maxHeartbeats 4000000 in
theorem W_slices_stableCmpFunc_joinalgo_one (g_data : OwnRef) {g_cmp : FuncId} {caps_cmp : List PV} (data : List LJoinalgoOne) (n : Int) (cmp : LJoinalgoOne → LJoinalgoOne → Option (Int)) (hg_cmp : ∀ (vs : Array Value) (w : World), (callFunc g_cmp vs).run Tryz.prog w = .ok (.enter g_cmp vs) w) (hp_cmp : ∀ a0 a1 r, cmp a0 a1 = some r → PFun Tryz.prog g_cmp ((.agg (encJoinalgoOne a0)) :: (.agg (encJoinalgoOne a1)) :: caps_cmp) (pint r)) (r : (List LJoinalgoOne)) (H : L_slices_stableCmpFunc_joinalgo_one data n cmp = some r) :
    PCallsH Tryz.prog 162 [(.own 0 g_data (data.map encJoinalgoOne).length), (pint n), (.fn g_cmp caps_cmp)] ⟨fun _ => none, upd (fun _ => none) 0 (some ⟨g_data, 119, (data.map encJoinalgoOne), true⟩)⟩ (fun u H => u = (.tup []) ∧ H = ⟨fun _ => none, upd (fun _ => none) 0 (some ⟨g_data, 119, (r.map encJoinalgoOne), true⟩)⟩) := by
  unfold L_slices_stableCmpFunc_joinalgo_one at H
  refine PCallsH.intro Tryz.func162 rfl Tryz.ntmps162 rfl ?_
  refine V.seq ?_
  refine V.region ?_
  refine AOps.q tt_ok rfl ?_
  refine AOps.nil ?_
  refine V.seq ?_
  refine V.region ?_
  iterate 3 refine AOps.q tt_ok rfl ?_
  refine AOps.nil ?_
  refine V.seq ?_
  obtain ⟨fl1, H1, Hp1⟩ := bindE H
  refine V.cut (τ := List LJoinalgoOne × Int × Int) (γ := Unit) (fun s1 g1 => ⟨63, upd (upd (upd (upd (upd (fun _ => .any) 7 (pint s1.2.1)) 6 (pint 20)) 2 (.fn g_cmp caps_cmp)) 1 (pint n)) 0 (.own 0 g_data (s1.1.map encJoinalgoOne).length), fun _ => none, upd (fun _ => none) 0 (some ⟨g_data, 119, (s1.1.map encJoinalgoOne), true⟩)⟩) (fun t => fl1 = .next t) ?_ (fun s1 g1 hn1 => ?_)
  · refine V.block ?_
    refine V.whileL (fun s1 g1 => ⟨63, upd (upd (upd (upd (upd (upd (fun _ => .any) 8 (pint s1.2.2)) 7 (pint s1.2.1)) 6 (pint 20)) 2 (.fn g_cmp caps_cmp)) 1 (pint n)) 0 (.own 0 g_data (s1.1.map encJoinalgoOne).length), fun _ => none, upd (fun _ => none) 0 (some ⟨g_data, 119, (s1.1.map encJoinalgoOne), true⟩)⟩) () H1 (Gh.le (SLe.cons (PLe.of_eq rfl) (SLe.cons (PLe.of_eq rfl) (SLe.cons (PLe.of_eq rfl) (SLe.cons (PLe.of_eq rfl) (SLe.cons (PLe.of_eq rfl) (SLe.cons (PLe.of_eq rfl) SLe.nil)))))) BLe.nil (OLe.cons rfl OLe.nil)) (fun m1 s1 g1 hr1 => ?_)
    obtain ⟨fb1, H, hg1⟩ := iterM_cons hr1
    iterate 2 refine V.seq ?_
    refine V.region ?_
    iterate 3 refine AOps.q tt_ok rfl ?_
    refine AOps.nil ?_
    refine V.cH rfl H (fun H => ?_) (fun H => ?_)
    · refine V.skip ?_
      refine V.block ?_
      refine V.seq ?_
      refine V.region ?_
      iterate 4 refine AOps.q tt_ok rfl ?_
      obtain ⟨x18, h18, H⟩ := bindE H
      have s18 := W_slices_insertionSortCmpFunc_joinalgo_one g_data s1.1 s1.2.1 s1.2.2 cmp hg_cmp hp_cmp _ h18
      obtain ⟨_, q18_0, H⟩ := bindE H
      have l18_0 := (guardO_some q18_0).1
      have z18_0 : (List.map encJoinalgoOne s1.1).length = (List.map encJoinalgoOne x18).length := by simpa using (l18_0).symm
      refine AOps.callH (g := 217) rfl rfl rfl Tryz.call217 [] [(0, 0)] rfl rfl rfl rfl (PLeAll.of2 (PLe2All.cons (PLe2.own rfl) (PLe2All.cons (PLe2.of_eq rfl) (PLe2All.cons (PLe2.of_eq rfl) (PLe2All.cons (PLe2.of_eq rfl) PLe2All.nil))))) (by rw [giveB_nil, giveO_cons, giveO_nil]; rfl) s18 ?_
      rintro u18 H18h ⟨rfl, rfl⟩
      refine ⟨_, rfl, ?_⟩
      refine AOps.gh (st' := ⟨_, _, fun _ => none, upd (fun _ => none) 0 (some ⟨g_data, 119, (x18.map encJoinalgoOne), true⟩)⟩) (Gh.le (SLe.refl _ _) BLe.nil (OLe.cons rfl OLe.nil)) ?_
      refine AOps.nil ?_
      refine V.seq ?_
      refine V.region ?_
      iterate 2 refine AOps.q tt_ok rfl ?_
      refine AOps.nil ?_
      refine V.region ?_
      iterate 4 refine AOps.q tt_ok rfl ?_
      refine AOps.nil ?_
      refine V.blk ?_
      obtain rfl := someE H
      refine V.againL (x18, s1.2.2, (IntKind.i64.wrap (s1.2.2 + (20 : Int)))) () hg1 (Gh.le (SLe.cons (PLe.of2 (PLe2.of_eq (congrArg (PV.own 0 g_data) z18_0))) (SLe.cons (PLe.of_eq rfl) (SLe.cons (PLe.of_eq rfl) (SLe.cons (PLe.of_eq rfl) (SLe.cons (PLe.of_eq rfl) (SLe.cons (PLe.of_eq rfl) SLe.nil)))))) BLe.nil (OLe.cons rfl OLe.nil))
    refine V.exit rfl ?_
    obtain rfl := someE H
    refine V.at (s1.1, s1.2.1, s1.2.2) () hg1 (Gh.le (SLe.cons (PLe.of_eq rfl) (SLe.cons (PLe.of_eq rfl) (SLe.cons (PLe.of_eq rfl) (SLe.cons (PLe.of_eq rfl) (SLe.cons (PLe.of_eq rfl) SLe.nil))))) BLe.nil (OLe.cons rfl OLe.nil))
  have H := thenP_next hn1 Hp1
  refine V.seq ?_
  refine V.region ?_
  iterate 4 refine AOps.q tt_ok rfl ?_
  obtain ⟨x27, h27, H⟩ := bindE H
  have s27 := W_slices_insertionSortCmpFunc_joinalgo_one g_data s1.1 s1.2.1 n cmp hg_cmp hp_cmp _ h27
  obtain ⟨_, q27_0, H⟩ := bindE H
  have l27_0 := (guardO_some q27_0).1
  have z27_0 : (List.map encJoinalgoOne s1.1).length = (List.map encJoinalgoOne x27).length := by simpa using (l27_0).symm
  refine AOps.callH (g := 217) rfl rfl rfl Tryz.call217 [] [(0, 0)] rfl rfl rfl rfl (PLeAll.of2 (PLe2All.cons (PLe2.own rfl) (PLe2All.cons (PLe2.of_eq rfl) (PLe2All.cons (PLe2.of_eq rfl) (PLe2All.cons (PLe2.of_eq rfl) PLe2All.nil))))) (by rw [giveB_nil, giveO_cons, giveO_nil]; rfl) s27 ?_
  rintro u27 H27h ⟨rfl, rfl⟩
  refine ⟨_, rfl, ?_⟩
  refine AOps.gh (st' := ⟨_, _, fun _ => none, upd (fun _ => none) 0 (some ⟨g_data, 119, (x27.map encJoinalgoOne), true⟩)⟩) (Gh.le (SLe.refl _ _) BLe.nil (OLe.cons rfl OLe.nil)) ?_
  refine AOps.nil ?_
  obtain ⟨fl2, H2, Hp2⟩ := bindE H
  refine V.cut (τ := List LJoinalgoOne × Int) (γ := Unit) (fun s2 g2 => ⟨63, upd (fun _ => .any) 0 (.own 0 g_data (s2.1.map encJoinalgoOne).length), fun _ => none, upd (fun _ => none) 0 (some ⟨g_data, 119, (s2.1.map encJoinalgoOne), true⟩)⟩) (fun t => fl2 = .next t) ?_ (fun s2 g2 hn2 => ?_)
  · refine V.block ?_
    refine V.whileL (fun s2 g2 => ⟨63, upd (upd (upd (upd (fun _ => .any) 6 (pint s2.2)) 2 (.fn g_cmp caps_cmp)) 1 (pint n)) 0 (.own 0 g_data (s2.1.map encJoinalgoOne).length), fun _ => none, upd (fun _ => none) 0 (some ⟨g_data, 119, (s2.1.map encJoinalgoOne), true⟩)⟩) () H2 (Gh.le (SLe.cons (PLe.of2 (PLe2.of_eq (congrArg (PV.own 0 g_data) z27_0))) (SLe.cons (PLe.of_eq rfl) (SLe.cons (PLe.of_eq rfl) (SLe.cons (PLe.of_eq rfl) SLe.nil)))) BLe.nil (OLe.cons rfl OLe.nil)) (fun m2 s2 g2 hr2 => ?_)
    obtain ⟨fb2, H, hg2⟩ := iterM_cons hr2
    iterate 2 refine V.seq ?_
    refine V.region ?_
    iterate 3 refine AOps.q tt_ok rfl ?_
    refine AOps.nil ?_
    refine V.cH rfl H (fun H => ?_) (fun H => ?_)
    · refine V.skip ?_
      refine V.block ?_
      refine V.seq ?_
      refine V.region ?_
      iterate 4 refine AOps.q tt_ok rfl ?_
      refine AOps.nil ?_
      refine V.seq ?_
      obtain ⟨fl5, H5, Hp5⟩ := bindE H
      refine V.cut (τ := List LJoinalgoOne × Int × Int) (γ := Unit) (fun s5 g5 => ⟨63, upd (upd (upd (upd (upd (fun _ => .any) 7 (pint s5.2.1)) 6 (pint s2.2)) 2 (.fn g_cmp caps_cmp)) 1 (pint n)) 0 (.own 0 g_data (s5.1.map encJoinalgoOne).length), fun _ => none, upd (fun _ => none) 0 (some ⟨g_data, 119, (s5.1.map encJoinalgoOne), true⟩)⟩) (fun t => fl5 = .next t) ?_ (fun s5 g5 hn5 => ?_)
      · refine V.block ?_
        refine V.whileL (fun s5 g5 => ⟨63, upd (upd (upd (upd (upd (upd (fun _ => .any) 8 (pint s5.2.2)) 7 (pint s5.2.1)) 6 (pint s2.2)) 2 (.fn g_cmp caps_cmp)) 1 (pint n)) 0 (.own 0 g_data (s5.1.map encJoinalgoOne).length), fun _ => none, upd (fun _ => none) 0 (some ⟨g_data, 119, (s5.1.map encJoinalgoOne), true⟩)⟩) () H5 (Gh.le (SLe.cons (PLe.of_eq rfl) (SLe.cons (PLe.of_eq rfl) (SLe.cons (PLe.of_eq rfl) (SLe.cons (PLe.of_eq rfl) (SLe.cons (PLe.of_eq rfl) (SLe.cons (PLe.of_eq rfl) SLe.nil)))))) BLe.nil (OLe.cons rfl OLe.nil)) (fun m5 s5 g5 hr5 => ?_)
        obtain ⟨fb5, H, hg5⟩ := iterM_cons hr5
        iterate 2 refine V.seq ?_
        refine V.region ?_
        iterate 3 refine AOps.q tt_ok rfl ?_
        refine AOps.nil ?_
        refine V.cH rfl H (fun H => ?_) (fun H => ?_)
        · refine V.skip ?_
          refine V.block ?_
          refine V.seq ?_
          refine V.region ?_
          iterate 7 refine AOps.q tt_ok rfl ?_
          obtain ⟨x43, h43, H⟩ := bindE H
          have s43 := W_slices_symMergeCmpFunc_joinalgo_one g_data s5.1 s5.2.1 (IntKind.i64.wrap (s5.2.1 + s2.2)) s5.2.2 cmp hg_cmp hp_cmp _ h43
          obtain ⟨_, q43_0, H⟩ := bindE H
          have l43_0 := (guardO_some q43_0).1
          have z43_0 : (List.map encJoinalgoOne s5.1).length = (List.map encJoinalgoOne x43).length := by simpa using (l43_0).symm
          refine AOps.callH (g := 218) rfl rfl rfl Tryz.call218 [] [(0, 0)] rfl rfl rfl rfl (PLeAll.of2 (PLe2All.cons (PLe2.own rfl) (PLe2All.cons (PLe2.of_eq rfl) (PLe2All.cons (PLe2.of_eq rfl) (PLe2All.cons (PLe2.of_eq rfl) (PLe2All.cons (PLe2.of_eq rfl) PLe2All.nil)))))) (by rw [giveB_nil, giveO_cons, giveO_nil]; rfl) s43 ?_
          rintro u43 H43h ⟨rfl, rfl⟩
          refine ⟨_, rfl, ?_⟩
          refine AOps.gh (st' := ⟨_, _, fun _ => none, upd (fun _ => none) 0 (some ⟨g_data, 119, (x43.map encJoinalgoOne), true⟩)⟩) (Gh.le (SLe.refl _ _) BLe.nil (OLe.cons rfl OLe.nil)) ?_
          refine AOps.nil ?_
          refine V.seq ?_
          refine V.region ?_
          iterate 2 refine AOps.q tt_ok rfl ?_
          refine AOps.nil ?_
          refine V.region ?_
          iterate 5 refine AOps.q tt_ok rfl ?_
          refine AOps.nil ?_
          refine V.blk ?_
          obtain rfl := someE H
          refine V.againL (x43, s5.2.2, (IntKind.i64.wrap (s5.2.2 + (IntKind.i64.wrap ((2 : Int) * s2.2))))) () hg5 (Gh.le (SLe.cons (PLe.of2 (PLe2.of_eq (congrArg (PV.own 0 g_data) z43_0))) (SLe.cons (PLe.of_eq rfl) (SLe.cons (PLe.of_eq rfl) (SLe.cons (PLe.of_eq rfl) (SLe.cons (PLe.of_eq rfl) (SLe.cons (PLe.of_eq rfl) SLe.nil)))))) BLe.nil (OLe.cons rfl OLe.nil))
        refine V.exit rfl ?_
        obtain rfl := someE H
        refine V.at (s5.1, s5.2.1, s5.2.2) () hg5 (Gh.le (SLe.cons (PLe.of_eq rfl) (SLe.cons (PLe.of_eq rfl) (SLe.cons (PLe.of_eq rfl) (SLe.cons (PLe.of_eq rfl) (SLe.cons (PLe.of_eq rfl) SLe.nil))))) BLe.nil (OLe.cons rfl OLe.nil))
      have H := thenP_next hn5 Hp5
      iterate 2 refine V.seq ?_
      refine V.region ?_
      iterate 4 refine AOps.q tt_ok rfl ?_
      refine AOps.nil ?_
      refine V.seq ?_
      refine V.region ?_
      iterate 3 refine AOps.q tt_ok rfl ?_
      refine AOps.nil ?_
      refine V.cH rfl H (fun H => ?_) (fun H => ?_)
      · refine V.region ?_
        iterate 5 refine AOps.q tt_ok rfl ?_
        obtain ⟨x60, h60, H⟩ := bindE H
        have s60 := W_slices_symMergeCmpFunc_joinalgo_one g_data s5.1 s5.2.1 (IntKind.i64.wrap (s5.2.1 + s2.2)) n cmp hg_cmp hp_cmp _ h60
        obtain ⟨_, q60_0, H⟩ := bindE H
        have l60_0 := (guardO_some q60_0).1
        have z60_0 : (List.map encJoinalgoOne s5.1).length = (List.map encJoinalgoOne x60).length := by simpa using (l60_0).symm
        refine AOps.callH (g := 218) rfl rfl rfl Tryz.call218 [] [(0, 0)] rfl rfl rfl rfl (PLeAll.of2 (PLe2All.cons (PLe2.own rfl) (PLe2All.cons (PLe2.of_eq rfl) (PLe2All.cons (PLe2.of_eq rfl) (PLe2All.cons (PLe2.of_eq rfl) (PLe2All.cons (PLe2.of_eq rfl) PLe2All.nil)))))) (by rw [giveB_nil, giveO_cons, giveO_nil]; rfl) s60 ?_
        rintro u60 H60h ⟨rfl, rfl⟩
        refine ⟨_, rfl, ?_⟩
        refine AOps.gh (st' := ⟨_, _, fun _ => none, upd (fun _ => none) 0 (some ⟨g_data, 119, (x60.map encJoinalgoOne), true⟩)⟩) (Gh.le (SLe.refl _ _) BLe.nil (OLe.cons rfl OLe.nil)) ?_
        refine AOps.nil ?_
        refine V.region ?_
        iterate 3 refine AOps.q tt_ok rfl ?_
        refine AOps.nil ?_
        refine V.blk ?_
        obtain rfl := someE H
        refine V.againL (x60, (IntKind.i64.wrap (s2.2 * (2 : Int)))) () hg2 (Gh.le (SLe.cons (PLe.of2 (PLe2.of_eq (congrArg (PV.own 0 g_data) z60_0))) (SLe.cons (PLe.of_eq rfl) (SLe.cons (PLe.of_eq rfl) (SLe.cons (PLe.of_eq rfl) SLe.nil)))) BLe.nil (OLe.cons rfl OLe.nil))
      refine V.skip ?_
      refine V.region ?_
      iterate 3 refine AOps.q tt_ok rfl ?_
      refine AOps.nil ?_
      refine V.blk ?_
      obtain rfl := someE H
      refine V.againL (s5.1, (IntKind.i64.wrap (s2.2 * (2 : Int)))) () hg2 (Gh.le (SLe.cons (PLe.of_eq rfl) (SLe.cons (PLe.of_eq rfl) (SLe.cons (PLe.of_eq rfl) (SLe.cons (PLe.of_eq rfl) SLe.nil)))) BLe.nil (OLe.cons rfl OLe.nil))
    refine V.exit rfl ?_
    obtain rfl := someE H
    refine V.at (s2.1, s2.2) () hg2 (Gh.le (SLe.cons (PLe.of_eq rfl) SLe.nil) BLe.nil (OLe.cons rfl OLe.nil))
  have H := thenP_next hn2 Hp2
  obtain rfl := someE H
  refine V.gh (st' := ⟨63, fun _ => .any, fun _ => none, upd (fun _ => none) 0 (some ⟨g_data, 119, (s2.1.map encJoinalgoOne), true⟩)⟩) (Gh.le SLe.nil BLe.nil (OLe.cons rfl OLe.nil)) ?_
  refine V.endH rfl (PLe.of_eq rfl) ⟨rfl, rfl⟩

end Go.Proofs.YtjnpnakcmjndiaaGreatDoor
/- Lifted functions: printed by lift.py. -/
namespace Go.Proofs.YtjnpnakcmjndiaaGreatDoor
open Go Go.Ab
attribute [local irreducible] V AOps DOps Gh Eff PCallsH IntKind.wrap
set_option maxRecDepth 4000

noncomputable def L_slices_SortStableFunc_Ljoinalgo_one_joinalgo_one (x : List LJoinalgoOne) (cmp : LJoinalgoOne → LJoinalgoOne → Option (Int)) : Option ((List LJoinalgoOne)) :=
  bindP (L_slices_stableCmpFunc_joinalgo_one x (x.length : Int) cmp) fun x8 =>
  bindP (guardO (x8.length = x.length) ()) fun (_ : Unit) =>
  some x8

set_option maxHeartbeats 4000000 in
theorem W_slices_SortStableFunc_Ljoinalgo_one_joinalgo_one (g_x : OwnRef) {g_cmp : FuncId} {caps_cmp : List PV} (x : List LJoinalgoOne) (cmp : LJoinalgoOne → LJoinalgoOne → Option (Int)) (hg_cmp : ∀ (vs : Array Value) (w : World), (callFunc g_cmp vs).run Tryz.prog w = .ok (.enter g_cmp vs) w) (hp_cmp : ∀ a0 a1 r, cmp a0 a1 = some r → PFun Tryz.prog g_cmp ((.agg (encJoinalgoOne a0)) :: (.agg (encJoinalgoOne a1)) :: caps_cmp) (pint r)) (r : (List LJoinalgoOne)) (H : L_slices_SortStableFunc_Ljoinalgo_one_joinalgo_one x cmp = some r) :
    PCallsH Tryz.prog 111 [(.own 0 g_x (x.map encJoinalgoOne).length), (.fn g_cmp caps_cmp)] ⟨fun _ => none, upd (fun _ => none) 0 (some ⟨g_x, 119, (x.map encJoinalgoOne), true⟩)⟩ (fun u H => u = (.tup []) ∧ H = ⟨fun _ => none, upd (fun _ => none) 0 (some ⟨g_x, 119, (r.map encJoinalgoOne), true⟩)⟩) := by
  unfold L_slices_SortStableFunc_Ljoinalgo_one_joinalgo_one at H
  refine PCallsH.intro Tryz.func111 rfl Tryz.ntmps111 rfl ?_
  refine V.region ?_
  iterate 2 refine AOps.q tt_ok rfl ?_
  refine AOps.lenO tt_ok rfl rfl rfl rfl rfl (List.length_map _) rfl ?_
  refine AOps.q tt_ok rfl ?_
  obtain ⟨x8, h8, H⟩ := bindE H
  have s8 := W_slices_stableCmpFunc_joinalgo_one g_x x (x.length : Int) cmp hg_cmp hp_cmp _ h8
  obtain ⟨_, q8_0, H⟩ := bindE H
  have l8_0 := (guardO_some q8_0).1
  have z8_0 : (List.map encJoinalgoOne x).length = (List.map encJoinalgoOne x8).length := by simpa using (l8_0).symm
  refine AOps.callH (g := 162) rfl rfl rfl Tryz.call162 [] [(0, 0)] rfl rfl rfl rfl (PLeAll.of2 (PLe2All.cons (PLe2.own rfl) (PLe2All.cons (PLe2.of_eq rfl) (PLe2All.cons (PLe2.of_eq rfl) PLe2All.nil)))) (by rw [giveB_nil, giveO_cons, giveO_nil]; rfl) s8 ?_
  rintro u8 H8h ⟨rfl, rfl⟩
  refine ⟨_, rfl, ?_⟩
  refine AOps.gh (st' := ⟨_, _, fun _ => none, upd (fun _ => none) 0 (some ⟨g_x, 119, (x8.map encJoinalgoOne), true⟩)⟩) (Gh.le (SLe.refl _ _) BLe.nil (OLe.cons rfl OLe.nil)) ?_
  refine AOps.nil ?_
  obtain rfl := someE H
  refine V.gh (st' := ⟨9, fun _ => .any, fun _ => none, upd (fun _ => none) 0 (some ⟨g_x, 119, (x8.map encJoinalgoOne), true⟩)⟩) (Gh.le SLe.nil BLe.nil (OLe.cons rfl OLe.nil)) ?_
  refine V.endH rfl (PLe.of_eq rfl) ⟨rfl, rfl⟩

end Go.Proofs.YtjnpnakcmjndiaaGreatDoor
