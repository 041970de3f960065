/- Lifted functions: printed by lift.py. -/
import Derived.Test.YtjnpnakcmjndiaaGreatDoorMjh
import Derived.Test.YtjnpnakcmjndiaaGreatDoorAcF
import Derived.Test.YtjnpnakcmjndiaaGreatDoorTz
import Derived.Test.YtjnpnakcmjndiaaGreatDoorMjt
namespace Go.Proofs.YtjnpnakcmjndiaaGreatDoor
open Go Go.Ab
attribute [local irreducible] V AOps DOps Gh Eff PCallsH IntKind.wrap
set_option maxRecDepth 4000

noncomputable def L_joinorder_Cheapest (gA : LJoinorderGraph) (leftDeep : Bool) : Option (LJoinorderTree × Int × Int) :=
  bindP (L_joinorder_Validate gA) fun x16 =>
  cond (x16 != (0 : Int))
    (some ((LJoinorderTree.mk 0 []), 0, x16))
    (bindP (shlI .i64 (1 : Int) (gA.sizes.length : Int)) fun (x24 : Int) =>
    bindP (growI 48 x24) fun (_ : Unit) =>
    bindP (whileM (σ := List LJoinorderBest × Int) (ρ := Empty) (fun (s1 : List LJoinorderBest × Int) =>
      cond (decide (s1.2 < (s1.1.length : Int)))
        (letP (L_math_bits_OnesCount (IntKind.u64.wrap s1.2)) fun x34 =>
        cond (x34 == (1 : Int))
          (bindP (tzL (IntKind.u64.wrap s1.2)) fun x40 =>
          bindP (getI s1.1 s1.2) fun (_ : LJoinorderBest) =>
          letP (s1.1.set s1.2.toNat (LJoinorderBest.mk (LJoinorderTree.mk x40 []) 0 true)) fun (y24 : List LJoinorderBest) =>
          some (.next (y24, (IntKind.i64.wrap (s1.2 + (1 : Int))))))
          (bindP (L_joinorder_size gA s1.2) fun x46 =>
          bindP (whileM (σ := List LJoinorderBest × Int) (ρ := Empty) (fun (s25 : List LJoinorderBest × Int) =>
            cond (decide (s25.2 > (0 : Int)))
              (letP (
                cond leftDeep
                  (letP (L_math_bits_OnesCount (IntKind.u64.wrap (andNotI .i64 s1.2 s25.2))) fun x64 =>
                  (decide (x64 > (1 : Int))))
                  (false)) fun (t32 : Bool) =>
              cond t32
                (some (.next (s25.1, (andI .i64 (IntKind.i64.wrap (s25.2 - (1 : Int))) s1.2))))
                (bindP (getI s25.1 s25.2) fun (x69 : LJoinorderBest) =>
                bindP (getI s25.1 (andNotI .i64 s1.2 s25.2)) fun (x74 : LJoinorderBest) =>
                bindP (
                  bindP (getI s25.1 s1.2) fun (x82 : LJoinorderBest) =>
                  cond (!x82.ok)
                    (some true)
                    (bindP (getI s25.1 s1.2) fun (x90 : LJoinorderBest) =>
                    some (decide ((IntKind.i64.wrap ((IntKind.i64.wrap (x69.cost + x74.cost)) + x46)) < x90.cost)))) fun (t33 : Bool) =>
                cond t33
                  (bindP (getI s25.1 s25.2) fun (x99 : LJoinorderBest) =>
                  bindP (getI s25.1 (andNotI .i64 s1.2 s25.2)) fun (x104 : LJoinorderBest) =>
                  bindP (getI s25.1 s1.2) fun (_ : LJoinorderBest) =>
                  letP (s25.1.set s1.2.toNat (LJoinorderBest.mk (LJoinorderTree.mk 0 [x99.tree, x104.tree]) (IntKind.i64.wrap ((IntKind.i64.wrap (x69.cost + x74.cost)) + x46)) true)) fun (y34 : List LJoinorderBest) =>
                  some (.next (y34, (andI .i64 (IntKind.i64.wrap (s25.2 - (1 : Int))) s1.2))))
                  (some (.next (s25.1, (andI .i64 (IntKind.i64.wrap (s25.2 - (1 : Int))) s1.2))))))
              (some (.brk (s25.1, s25.2)))) (s1.1, (andI .i64 (IntKind.i64.wrap (s1.2 - (1 : Int))) s1.2))) fun fl25 => fl25.thenP fun (s25 : List LJoinorderBest × Int) =>
          some (.next (s25.1, (IntKind.i64.wrap (s1.2 + (1 : Int)))))))
        (some (.brk (s1.1, s1.2)))) ((List.replicate x24.toNat (LJoinorderBest.mk (LJoinorderTree.mk 0 []) 0 false)), 1)) fun fl1 => fl1.thenP fun (s1 : List LJoinorderBest × Int) =>
    bindP (getI s1.1 (IntKind.i64.wrap ((s1.1.length : Int) - (1 : Int)))) fun (x116 : LJoinorderBest) =>
    bindP (L_joinorder_own x116.tree) fun x120 =>
    some (x120, x116.cost, 0))

set_option maxHeartbeats 4000000 in
theorem W_joinorder_Cheapest (gA : LJoinorderGraph) (leftDeep : Bool) (r : LJoinorderTree × Int × Int) (H : L_joinorder_Cheapest gA leftDeep = some r) :
    PFun Tryz.prog 20 [(.agg (encJoinorderGraph gA)), (pbool leftDeep)] (.tup [(.agg (encJoinorderTree r.1)), (pint r.2.1), (pint r.2.2)]) := by
  unfold L_joinorder_Cheapest at H
  refine PCallsH.intro Tryz.func20 rfl Tryz.ntmps20 rfl ?_
  refine V.seq ?_
  refine V.region ?_
  refine AOps.boxF rfl rfl rfl rfl rfl rfl ?_
  refine AOps.alloc tt_ok rfl rfl rfl rfl rfl rfl fun b4 => ?_
  iterate 2 refine AOps.q tt_ok rfl ?_
  refine AOps.nil ?_
  iterate 2 refine V.seq ?_
  refine V.region ?_
  refine AOps.q tt_ok rfl ?_
  obtain ⟨x16, h16, H⟩ := bindE H
  have s16 := W_joinorder_Validate gA _ h16
  refine AOps.callP (g := 21) rfl rfl rfl Tryz.call21 (PLeAll.refl _ _) s16 rfl ?_
  refine AOps.q tt_ok rfl ?_
  refine AOps.nil ?_
  refine V.seq ?_
  refine V.region ?_
  iterate 2 refine AOps.q tt_ok rfl ?_
  refine AOps.nil ?_
  refine V.cH rfl H (fun H => ?_) (fun H => ?_)
  · refine V.seq ?_
    refine V.region ?_
    iterate 2 refine AOps.q tt_ok rfl ?_
    refine AOps.storeBox tt_ok rfl rfl rfl rfl rfl rfl rfl rfl rfl rfl rfl ?_
    iterate 2 refine AOps.q tt_ok rfl ?_
    refine AOps.nil ?_
    obtain rfl := someE H
    refine V.retP tt_ok rfl (ps := [(.agg [(pint 0), (.val (.slice none 0 0))]), (pint 0), (pint x16)]) ⟨_, _, rfl, ⟨_, _, _, _, _, rfl, rfl, rfl, rfl⟩, _, _, rfl, rfl, _, _, rfl, rfl, rfl⟩ (PLe.of2 (PLe2.tup (PLe2All.cons (PLe2.agg (PLe2All.cons (PLe2.of_eq rfl) (PLe2All.cons (PLe2.nil tt_ok rfl) PLe2All.nil))) (PLe2All.cons (PLe2.of_eq rfl) (PLe2All.cons (PLe2.of_eq rfl) PLe2All.nil)))))
  refine V.skip ?_
  refine V.seq ?_
  refine V.region ?_
  iterate 2 refine AOps.q tt_ok rfl ?_
  refine AOps.lenL tt_ok rfl rfl rfl rfl rfl (List.length_map _) rfl ?_
  obtain ⟨x24, h24, H⟩ := bindE H
  refine AOps.shl rfl rfl rfl rfl h24 rfl ?_
  obtain ⟨_, h25, H⟩ := bindE H
  have k25 := growI_some h25
  refine AOps.makeSZ (rows := List.map encJoinorderBest (List.replicate x24.toNat (LJoinorderBest.mk (LJoinorderTree.mk 0 []) 0 false))) (zs := encJoinorderBest (LJoinorderBest.mk (LJoinorderTree.mk 0 []) 0 false)) tt_ok rfl rfl rfl rfl rfl rfl rfl rfl (PLe2All.cons (PLe2.of_eq rfl) (PLe2All.cons (PLe2.nil tt_ok rfl) (PLe2All.cons (PLe2.of_eq rfl) (PLe2All.cons (PLe2.of_eq rfl) PLe2All.nil)))) rfl rfl rfl k25.1 k25.2.1 k25.2.2 (by rw [List.map_replicate]) fun g25 => ?_
  refine AOps.q tt_ok rfl ?_
  refine AOps.nil ?_
  iterate 2 refine V.seq ?_
  refine V.region ?_
  refine AOps.q tt_ok rfl ?_
  refine AOps.nil ?_
  obtain ⟨fl1, H1, Hp1⟩ := bindE H
  refine V.cut (τ := List LJoinorderBest × Int) (γ := OwnRef) (fun s1 g1 => ⟨123, upd (upd (fun _ => .any) 8 (.own 25 g1 (s1.1.map encJoinorderBest).length)) 4 (.box 4 b4 0), upd (fun _ => none) 4 (some ⟨b4, [(pint 0), (.val (.slice none 0 0))]⟩), upd (fun _ => none) 25 (some ⟨g1, 127, (s1.1.map encJoinorderBest), true⟩)⟩) (fun t => fl1 = .next t) ?_ (fun s1 g1 hn1 => ?_)
  · refine V.block ?_
    refine V.whileL (fun s1 g1 => ⟨123, upd (upd (upd (upd (upd (fun _ => .any) 9 (pint s1.2)) 8 (.own 25 g1 (s1.1.map encJoinorderBest).length)) 4 (.box 4 b4 0)) 2 (.ptr [(.list 3 (gA.sizes.map rInt)), (.list 63 (gA.selectivities.map encJoinorderSelectivity))])) 1 (pbool leftDeep), upd (fun _ => none) 4 (some ⟨b4, [(pint 0), (.val (.slice none 0 0))]⟩), upd (fun _ => none) 25 (some ⟨g1, 127, (s1.1.map encJoinorderBest), true⟩)⟩) g25 H1 (Gh.le (SLe.cons (PLe.of_eq rfl) (SLe.cons (PLe.of_eq rfl) (SLe.cons (PLe.of_eq rfl) (SLe.cons (PLe.of_eq rfl) (SLe.cons (PLe.of_eq rfl) SLe.nil))))) (BLe.cons rfl (PLeAll.refl _ _) BLe.nil) (OLe.cons rfl OLe.nil)) (fun m1 s1 g1 hr1 => ?_)
    obtain ⟨fb1, H, hg1⟩ := iterM_cons hr1
    iterate 2 refine V.seq ?_
    refine V.region ?_
    iterate 2 refine AOps.q tt_ok rfl ?_
    refine AOps.lenO tt_ok rfl rfl rfl rfl rfl (List.length_map _) rfl ?_
    refine AOps.q tt_ok rfl ?_
    refine AOps.nil ?_
    refine V.cH rfl H (fun H => ?_) (fun H => ?_)
    · refine V.skip ?_
      refine V.seq ?_
      refine V.block ?_
      iterate 2 refine V.seq ?_
      refine V.region ?_
      iterate 2 refine AOps.q tt_ok rfl ?_
      obtain ⟨x34, h34, H⟩ := letE H
      have s34 := W_math_bits_OnesCount (IntKind.u64.wrap s1.2)
      rw [h34] at s34
      refine AOps.callP (g := 52) rfl rfl rfl Tryz.call52 (PLeAll.refl _ _) s34 rfl ?_
      refine AOps.q tt_ok rfl ?_
      refine AOps.nil ?_
      refine V.cH rfl H (fun H => ?_) (fun H => ?_)
      · refine V.seq ?_
        refine V.region ?_
        iterate 4 refine AOps.q tt_ok rfl ?_
        obtain ⟨x40, h40, H⟩ := bindE H
        have s40 := W_tz (IntKind.u64.wrap s1.2) _ h40
        refine AOps.callP (g := 53) rfl rfl rfl Tryz.call53 (PLeAll.refl _ _) s40 rfl ?_
        iterate 2 refine AOps.q tt_ok rfl ?_
        obtain ⟨x43, k43, H⟩ := getE H
        refine AOps.ownF (tag := 25) rfl (fun ho25 => ?_)
        refine AOps.idxO tt_ok rfl rfl rfl rfl rfl rfl rfl ⟨k43.1, (idxLen k43.2)⟩ (idxBlk ho25 k43.2) rfl ?_
        obtain ⟨y24, hy24, H⟩ := letE H
        refine AOps.storeO tt_ok rfl rfl rfl rfl rfl rfl rfl rfl (by rw [List.length_map]; exact (List.getElem?_eq_some_iff.1 k43.2).1) (PLe.of2 (PLe2.agg (PLe2All.cons (PLe2.of_eq rfl) (PLe2All.cons (PLe2.nil tt_ok rfl) (PLe2All.cons (PLe2.of_eq rfl) (PLe2All.cons (PLe2.of_eq rfl) PLe2All.nil)))))) rfl rfl rfl rfl (by decide) (setRow_map (fun _ => rfl) k43.2 rfl hy24) ?_
        refine AOps.nil ?_
        refine V.exit rfl ?_
        refine V.region ?_
        iterate 3 refine AOps.q tt_ok rfl ?_
        refine AOps.nil ?_
        obtain rfl := someE H
        refine V.againL (y24, (IntKind.i64.wrap (s1.2 + (1 : Int)))) g1 hg1 (Gh.le (SLe.cons (PLe.of_eq rfl) (SLe.cons (PLe.of_eq rfl) (SLe.cons (PLe.of_eq rfl) (SLe.cons (PLe.of2 (PLe2.of_eq (congrArg (PV.own 25 g1) (set_len (f := encJoinorderBest) hy24)))) (SLe.cons (PLe.of_eq rfl) SLe.nil))))) (BLe.cons rfl (PLeAll.refl _ _) BLe.nil) (OLe.cons rfl OLe.nil))
      refine V.skip ?_
      refine V.seq ?_
      refine V.region ?_
      iterate 2 refine AOps.q tt_ok rfl ?_
      obtain ⟨x46, h46, H⟩ := bindE H
      have s46 := W_joinorder_size gA s1.2 _ h46
      refine AOps.callP (g := 54) rfl rfl rfl Tryz.call54 (PLeAll.refl _ _) s46 rfl ?_
      refine AOps.q tt_ok rfl ?_
      refine AOps.nil ?_
      refine V.seq ?_
      refine V.region ?_
      iterate 3 refine AOps.q tt_ok rfl ?_
      refine AOps.and rfl rfl rfl rfl rfl ?_
      refine AOps.q tt_ok rfl ?_
      refine AOps.nil ?_
      obtain ⟨fl25, H25, Hp25⟩ := bindE H
      refine V.cut (τ := List LJoinorderBest × Int) (γ := OwnRef) (fun s25 g25 => ⟨123, upd (upd (upd (upd (upd (fun _ => .any) 9 (pint s1.2)) 8 (.own 25 g25 (s25.1.map encJoinorderBest).length)) 4 (.box 4 b4 0)) 2 (.ptr [(.list 3 (gA.sizes.map rInt)), (.list 63 (gA.selectivities.map encJoinorderSelectivity))])) 1 (pbool leftDeep), upd (fun _ => none) 4 (some ⟨b4, [(pint 0), (.val (.slice none 0 0))]⟩), upd (fun _ => none) 25 (some ⟨g25, 127, (s25.1.map encJoinorderBest), true⟩)⟩) (fun t => fl25 = .next t) ?_ (fun s25 g25 hn25 => ?_)
      · refine V.block ?_
        refine V.whileL (fun s25 g25 => ⟨123, upd (upd (upd (upd (upd (upd (upd (fun _ => .any) 11 (pint s25.2)) 10 (pint x46)) 9 (pint s1.2)) 8 (.own 25 g25 (s25.1.map encJoinorderBest).length)) 4 (.box 4 b4 0)) 2 (.ptr [(.list 3 (gA.sizes.map rInt)), (.list 63 (gA.selectivities.map encJoinorderSelectivity))])) 1 (pbool leftDeep), upd (fun _ => none) 4 (some ⟨b4, [(pint 0), (.val (.slice none 0 0))]⟩), upd (fun _ => none) 25 (some ⟨g25, 127, (s25.1.map encJoinorderBest), true⟩)⟩) g1 H25 (Gh.le (SLe.cons (PLe.of_eq rfl) (SLe.cons (PLe.of_eq rfl) (SLe.cons (PLe.of_eq rfl) (SLe.cons (PLe.of_eq rfl) (SLe.cons (PLe.of_eq rfl) (SLe.cons (PLe.of_eq rfl) (SLe.cons (PLe.of_eq rfl) SLe.nil))))))) (BLe.cons rfl (PLeAll.refl _ _) BLe.nil) (OLe.cons rfl OLe.nil)) (fun m25 s25 g25 hr25 => ?_)
        obtain ⟨fb25, H, hg25⟩ := iterM_cons hr25
        iterate 2 refine V.seq ?_
        refine V.region ?_
        iterate 2 refine AOps.q tt_ok rfl ?_
        refine AOps.nil ?_
        refine V.cH rfl H (fun H => ?_) (fun H => ?_)
        · refine V.skip ?_
          refine V.seq ?_
          refine V.block ?_
          refine V.seq ?_
          refine V.region ?_
          iterate 2 refine AOps.q tt_ok rfl ?_
          refine AOps.andNot rfl rfl rfl rfl rfl ?_
          refine AOps.q tt_ok rfl ?_
          refine AOps.nil ?_
          iterate 2 refine V.seq ?_
          obtain ⟨fl32, H32, Hp32⟩ := letE H
          refine V.cut (τ := Bool) (γ := Unit) (fun t32 g32 => ⟨123, upd (upd (upd (upd (upd (upd (upd (upd (upd (fun _ => .any) 66 (pbool t32)) 12 (pint (andNotI .i64 s1.2 s25.2))) 11 (pint s25.2)) 10 (pint x46)) 9 (pint s1.2)) 8 (.own 25 g25 (s25.1.map encJoinorderBest).length)) 4 (.box 4 b4 0)) 2 (.ptr [(.list 3 (gA.sizes.map rInt)), (.list 63 (gA.selectivities.map encJoinorderSelectivity))])) 1 (pbool leftDeep), upd (fun _ => none) 4 (some ⟨b4, [(pint 0), (.val (.slice none 0 0))]⟩), upd (fun _ => none) 25 (some ⟨g25, 127, (s25.1.map encJoinorderBest), true⟩)⟩) (fun t => t = fl32) ?_ (fun t32 g32 hn32 => ?_)
          · have H := H32
            refine V.region ?_
            iterate 2 refine AOps.q tt_ok rfl ?_
            refine AOps.sH rfl rfl rfl H (fun H => ?_) (fun H => ?_)
            · refine AOps.q tt_ok rfl ?_
              refine AOps.q tt_ok rfl ?_
              obtain ⟨x64, h64, H⟩ := letE H
              have s64 := W_math_bits_OnesCount (IntKind.u64.wrap (andNotI .i64 s1.2 s25.2))
              rw [h64] at s64
              refine AOps.callP (g := 52) rfl rfl rfl Tryz.call52 (PLeAll.refl _ _) s64 rfl ?_
              iterate 2 refine AOps.q tt_ok rfl ?_
              refine AOps.nil ?_
              subst H
              refine V.at (decide (x64 > (1 : Int))) () rfl (Gh.le (SLe.cons (PLe.of_eq rfl) (SLe.cons (PLe.of_eq rfl) (SLe.cons (PLe.of_eq rfl) (SLe.cons (PLe.of_eq rfl) (SLe.cons (PLe.of_eq rfl) (SLe.cons (PLe.of_eq rfl) (SLe.cons (PLe.of_eq rfl) (SLe.cons (PLe.of_eq rfl) (SLe.cons (PLe.of_eq rfl) SLe.nil))))))))) (BLe.cons rfl (PLeAll.refl _ _) BLe.nil) (OLe.cons rfl OLe.nil))
            iterate 5 refine AOps.q tt_ok rfl ?_
            refine AOps.nil ?_
            subst H
            refine V.at false () rfl (Gh.le (SLe.cons (PLe.of_eq rfl) (SLe.cons (PLe.of_eq rfl) (SLe.cons (PLe.of_eq rfl) (SLe.cons (PLe.of_eq rfl) (SLe.cons (PLe.of_eq rfl) (SLe.cons (PLe.of_eq rfl) (SLe.cons (PLe.of_eq rfl) (SLe.cons (PLe.of_eq rfl) (SLe.cons (PLe.of_eq rfl) SLe.nil))))))))) (BLe.cons rfl (PLeAll.refl _ _) BLe.nil) (OLe.cons rfl OLe.nil))
          subst hn32
          have H := Hp32
          refine V.cH rfl H (fun H => ?_) (fun H => ?_)
          · refine V.exit rfl ?_
            refine V.region ?_
            iterate 3 refine AOps.q tt_ok rfl ?_
            refine AOps.and rfl rfl rfl rfl rfl ?_
            refine AOps.q tt_ok rfl ?_
            refine AOps.nil ?_
            obtain rfl := someE H
            refine V.againL (s25.1, (andI .i64 (IntKind.i64.wrap (s25.2 - (1 : Int))) s1.2)) g25 hg25 (Gh.le (SLe.cons (PLe.of_eq rfl) (SLe.cons (PLe.of_eq rfl) (SLe.cons (PLe.of_eq rfl) (SLe.cons (PLe.of_eq rfl) (SLe.cons (PLe.of_eq rfl) (SLe.cons (PLe.of_eq rfl) (SLe.cons (PLe.of_eq rfl) SLe.nil))))))) (BLe.cons rfl (PLeAll.refl _ _) BLe.nil) (OLe.cons rfl OLe.nil))
          refine V.skip ?_
          refine V.seq ?_
          refine V.ownF (tag := 25) rfl (fun ho25 => ?_)
          refine V.draw tt_ok mixed_ok ⟨false, true, []⟩ [0, 1, 2, 3, 4, 5, 6, 7, 8, 9, 10, 11, 12, 13] rfl (by decide +kernel) rfl ?_
          iterate 2 refine DOps.q rfl ?_
          obtain ⟨x69, k69, H⟩ := getE H
          refine DOps.idxO tt_ok rfl rfl rfl rfl rfl rfl rfl rfl ⟨k69.1, (idxLen k69.2)⟩ (idxBlk ho25 k69.2) rfl ?_
          refine DOps.q rfl ?_
          refine DOps.loadO tt_ok rfl rfl rfl rfl rfl rfl rfl rfl rfl (rowsGetI (fun _ => rfl) k69.2) rfl rfl ?_
          iterate 2 refine DOps.q rfl ?_
          obtain ⟨x74, k74, H⟩ := getE H
          refine DOps.idxO tt_ok rfl rfl rfl rfl rfl rfl rfl rfl ⟨k74.1, (idxLen k74.2)⟩ (idxBlk ho25 k74.2) rfl ?_
          refine DOps.q rfl ?_
          refine DOps.loadO tt_ok rfl rfl rfl rfl rfl rfl rfl rfl rfl (rowsGetI (fun _ => rfl) k74.2) rfl rfl ?_
          iterate 4 refine DOps.q rfl ?_
          refine DOps.nil ?_
          refine V.seq ?_
          obtain ⟨fl33, H33, Hp33⟩ := bindE H
          refine V.cut (τ := Bool) (γ := Unit) (fun t33 g33 => ⟨123, upd (upd (upd (upd (upd (upd (upd (upd (upd (upd (fun _ => .any) 94 (pbool t33)) 13 (pint (IntKind.i64.wrap ((IntKind.i64.wrap (x69.cost + x74.cost)) + x46)))) 12 (pint (andNotI .i64 s1.2 s25.2))) 11 (pint s25.2)) 10 (pint x46)) 9 (pint s1.2)) 8 (.own 25 g25 (s25.1.map encJoinorderBest).length)) 4 (.box 4 b4 0)) 2 (.ptr [(.list 3 (gA.sizes.map rInt)), (.list 63 (gA.selectivities.map encJoinorderSelectivity))])) 1 (pbool leftDeep), upd (fun _ => none) 4 (some ⟨b4, [(pint 0), (.val (.slice none 0 0))]⟩), upd (fun _ => none) 25 (some ⟨g25, 127, (s25.1.map encJoinorderBest), true⟩)⟩) (fun t => t = fl33) ?_ (fun t33 g33 hn33 => ?_)
          · have H := H33
            refine V.region ?_
            iterate 2 refine AOps.q tt_ok rfl ?_
            obtain ⟨x82, k82, H⟩ := getE H
            refine AOps.ownF (tag := 25) rfl (fun ho25 => ?_)
            refine AOps.idxO tt_ok rfl rfl rfl rfl rfl rfl rfl ⟨k82.1, (idxLen k82.2)⟩ (idxBlk ho25 k82.2) rfl ?_
            refine AOps.q tt_ok rfl ?_
            refine AOps.loadO tt_ok rfl rfl rfl rfl rfl rfl rfl (rowsGetI (fun _ => rfl) k82.2) rfl rfl ?_
            iterate 2 refine AOps.q tt_ok rfl ?_
            refine AOps.sH rfl rfl rfl H (fun H => ?_) (fun H => ?_)
            · refine AOps.q tt_ok rfl ?_
              iterate 7 refine AOps.q tt_ok rfl ?_
              refine AOps.nil ?_
              obtain rfl := someE H
              refine V.at true () rfl (Gh.le (SLe.cons (PLe.of_eq rfl) (SLe.cons (PLe.of_eq rfl) (SLe.cons (PLe.of_eq rfl) (SLe.cons (PLe.of_eq rfl) (SLe.cons (PLe.of_eq rfl) (SLe.cons (PLe.of_eq rfl) (SLe.cons (PLe.of_eq rfl) (SLe.cons (PLe.of_eq rfl) (SLe.cons (PLe.of_eq rfl) (SLe.cons (PLe.of_eq rfl) SLe.nil)))))))))) (BLe.cons rfl (PLeAll.refl _ _) BLe.nil) (OLe.cons rfl OLe.nil))
            iterate 3 refine AOps.q tt_ok rfl ?_
            obtain ⟨x90, k90, H⟩ := getE H
            refine AOps.ownF (tag := 25) rfl (fun ho25 => ?_)
            refine AOps.idxO tt_ok rfl rfl rfl rfl rfl rfl rfl ⟨k90.1, (idxLen k90.2)⟩ (idxBlk ho25 k90.2) rfl ?_
            refine AOps.q tt_ok rfl ?_
            refine AOps.loadO tt_ok rfl rfl rfl rfl rfl rfl rfl (rowsGetI (fun _ => rfl) k90.2) rfl rfl ?_
            iterate 2 refine AOps.q tt_ok rfl ?_
            refine AOps.nil ?_
            obtain rfl := someE H
            refine V.at (decide ((IntKind.i64.wrap ((IntKind.i64.wrap (x69.cost + x74.cost)) + x46)) < x90.cost)) () rfl (Gh.le (SLe.cons (PLe.of_eq rfl) (SLe.cons (PLe.of_eq rfl) (SLe.cons (PLe.of_eq rfl) (SLe.cons (PLe.of_eq rfl) (SLe.cons (PLe.of_eq rfl) (SLe.cons (PLe.of_eq rfl) (SLe.cons (PLe.of_eq rfl) (SLe.cons (PLe.of_eq rfl) (SLe.cons (PLe.of_eq rfl) (SLe.cons (PLe.of_eq rfl) SLe.nil)))))))))) (BLe.cons rfl (PLeAll.refl _ _) BLe.nil) (OLe.cons rfl OLe.nil))
          subst hn33
          have H := Hp33
          refine V.cH rfl H (fun H => ?_) (fun H => ?_)
          · refine V.ownF (tag := 25) rfl (fun ho25 => ?_)
            refine V.draw tt_ok mixed_ok ⟨false, true, []⟩ [0, 1, 2, 3, 4, 5, 6, 7, 8, 9, 10, 11, 12, 13, 14, 15, 16, 17] rfl (by decide +kernel) rfl ?_
            iterate 4 refine DOps.q rfl ?_
            obtain ⟨x99, k99, H⟩ := getE H
            refine DOps.idxO tt_ok rfl rfl rfl rfl rfl rfl rfl rfl ⟨k99.1, (idxLen k99.2)⟩ (idxBlk ho25 k99.2) rfl ?_
            refine DOps.q rfl ?_
            refine DOps.loadO tt_ok rfl rfl rfl rfl rfl rfl rfl rfl rfl (rowsGetI (fun _ => rfl) k99.2) rfl rfl ?_
            iterate 2 refine DOps.q rfl ?_
            obtain ⟨x104, k104, H⟩ := getE H
            refine DOps.idxO tt_ok rfl rfl rfl rfl rfl rfl rfl rfl ⟨k104.1, (idxLen k104.2)⟩ (idxBlk ho25 k104.2) rfl ?_
            refine DOps.q rfl ?_
            refine DOps.loadO tt_ok rfl rfl rfl rfl rfl rfl rfl rfl rfl (rowsGetI (fun _ => rfl) k104.2) rfl rfl ?_
            iterate 4 refine DOps.q rfl ?_
            obtain ⟨x111, k111, H⟩ := getE H
            refine DOps.idxO tt_ok rfl rfl rfl rfl rfl rfl rfl rfl ⟨k111.1, (idxLen k111.2)⟩ (idxBlk ho25 k111.2) rfl ?_
            obtain ⟨y34, hy34, H⟩ := letE H
            refine DOps.storeO tt_ok rfl rfl rfl rfl rfl rfl rfl rfl rfl (by rw [List.length_map]; exact (List.getElem?_eq_some_iff.1 k111.2).1) (PLe.of2 (PLe2.agg (PLe2All.cons (PLe2.of_eq rfl) (PLe2All.cons (PLe2.list (PLe2Rows.trans (b := List.map encJoinorderTree [x99.tree, x104.tree]) (PLe2Rows.refl _) (PLe2Rows.of_eq (rowsLit rowJoinorderTree_eq [x99.tree, x104.tree])))) (PLe2All.cons (PLe2.of_eq rfl) (PLe2All.cons (PLe2.of_eq rfl) PLe2All.nil)))))) rfl rfl rfl rfl (by decide) (setRow_map (fun _ => rfl) k111.2 rfl hy34) ?_
            refine DOps.nil ?_
            refine V.blk ?_
            refine V.region ?_
            iterate 3 refine AOps.q tt_ok rfl ?_
            refine AOps.and rfl rfl rfl rfl rfl ?_
            refine AOps.q tt_ok rfl ?_
            refine AOps.nil ?_
            obtain rfl := someE H
            refine V.againL (y34, (andI .i64 (IntKind.i64.wrap (s25.2 - (1 : Int))) s1.2)) g25 hg25 (Gh.le (SLe.cons (PLe.of_eq rfl) (SLe.cons (PLe.of_eq rfl) (SLe.cons (PLe.of_eq rfl) (SLe.cons (PLe.of2 (PLe2.of_eq (congrArg (PV.own 25 g25) (set_len (f := encJoinorderBest) hy34)))) (SLe.cons (PLe.of_eq rfl) (SLe.cons (PLe.of_eq rfl) (SLe.cons (PLe.of_eq rfl) SLe.nil))))))) (BLe.cons rfl (PLeAll.refl _ _) BLe.nil) (OLe.cons rfl OLe.nil))
          refine V.skip ?_
          refine V.blk ?_
          refine V.region ?_
          iterate 3 refine AOps.q tt_ok rfl ?_
          refine AOps.and rfl rfl rfl rfl rfl ?_
          refine AOps.q tt_ok rfl ?_
          refine AOps.nil ?_
          obtain rfl := someE H
          refine V.againL (s25.1, (andI .i64 (IntKind.i64.wrap (s25.2 - (1 : Int))) s1.2)) g25 hg25 (Gh.le (SLe.cons (PLe.of_eq rfl) (SLe.cons (PLe.of_eq rfl) (SLe.cons (PLe.of_eq rfl) (SLe.cons (PLe.of_eq rfl) (SLe.cons (PLe.of_eq rfl) (SLe.cons (PLe.of_eq rfl) (SLe.cons (PLe.of_eq rfl) SLe.nil))))))) (BLe.cons rfl (PLeAll.refl _ _) BLe.nil) (OLe.cons rfl OLe.nil))
        refine V.exit rfl ?_
        obtain rfl := someE H
        refine V.at (s25.1, s25.2) g25 hg25 (Gh.le (SLe.cons (PLe.of_eq rfl) (SLe.cons (PLe.of_eq rfl) (SLe.cons (PLe.of_eq rfl) (SLe.cons (PLe.of_eq rfl) (SLe.cons (PLe.of_eq rfl) SLe.nil))))) (BLe.cons rfl (PLeAll.refl _ _) BLe.nil) (OLe.cons rfl OLe.nil))
      have H := thenP_next hn25 Hp25
      refine V.blk ?_
      refine V.region ?_
      iterate 3 refine AOps.q tt_ok rfl ?_
      refine AOps.nil ?_
      obtain rfl := someE H
      refine V.againL (s25.1, (IntKind.i64.wrap (s1.2 + (1 : Int)))) g25 hg1 (Gh.le (SLe.cons (PLe.of_eq rfl) (SLe.cons (PLe.of_eq rfl) (SLe.cons (PLe.of_eq rfl) (SLe.cons (PLe.of_eq rfl) (SLe.cons (PLe.of_eq rfl) SLe.nil))))) (BLe.cons rfl (PLeAll.refl _ _) BLe.nil) (OLe.cons rfl OLe.nil))
    refine V.exit rfl ?_
    obtain rfl := someE H
    refine V.at (s1.1, s1.2) g1 hg1 (Gh.le (SLe.cons (PLe.of_eq rfl) (SLe.cons (PLe.of_eq rfl) SLe.nil)) (BLe.cons rfl (PLeAll.refl _ _) BLe.nil) (OLe.cons rfl OLe.nil))
  have H := thenP_next hn1 Hp1
  refine V.seq ?_
  refine V.region ?_
  iterate 2 refine AOps.q tt_ok rfl ?_
  refine AOps.lenO tt_ok rfl rfl rfl rfl rfl (List.length_map _) rfl ?_
  refine AOps.q tt_ok rfl ?_
  obtain ⟨x116, k116, H⟩ := getE H
  refine AOps.ownF (tag := 25) rfl (fun ho25 => ?_)
  refine AOps.idxO tt_ok rfl rfl rfl rfl rfl rfl rfl ⟨k116.1, (idxLen k116.2)⟩ (idxBlk ho25 k116.2) rfl ?_
  refine AOps.loadO tt_ok rfl rfl rfl rfl rfl rfl rfl (rowsGetI (fun _ => rfl) k116.2) rfl rfl ?_
  refine AOps.alloc tt_ok rfl rfl rfl rfl rfl rfl fun b14 => ?_
  refine AOps.storeBox tt_ok rfl rfl rfl rfl rfl rfl rfl rfl rfl rfl rfl ?_
  refine AOps.nil ?_
  refine V.seq ?_
  refine V.freezeB 14 rfl rfl rfl rfl ?_
  refine V.draw tt_ok mixed_ok ⟨false, false, []⟩ [0, 1, 3, 4, 2, 5, 6, 7] rfl (by decide +kernel) rfl ?_
  iterate 4 refine DOps.q rfl ?_
  obtain ⟨x120, h120, H⟩ := bindE H
  have s120 := W_joinorder_own x116.tree _ h120
  refine DOps.callP (g := 55) rfl rfl rfl rfl Tryz.call55 (PLeAll.refl _ _) s120 rfl ?_
  refine DOps.storeBox rfl rfl rfl rfl rfl rfl rfl rfl rfl rfl rfl rfl ?_
  iterate 2 refine DOps.q rfl ?_
  refine DOps.nil ?_
  obtain rfl := someE H
  refine V.retP tt_ok rfl (ps := [(.agg [(pint x120.leaf), (.list 58 (x120.children.map rowJoinorderTree))]), (pint x116.cost), (pint 0)]) ⟨_, _, rfl, ⟨_, _, _, _, _, rfl, rfl, rfl, rfl⟩, _, _, rfl, rfl, _, _, rfl, rfl, rfl⟩ (PLe.of_eq rfl)

end Go.Proofs.YtjnpnakcmjndiaaGreatDoor
/- Lifted functions: printed by lift.py. -/
namespace Go.Proofs.YtjnpnakcmjndiaaGreatDoor
open Go Go.Ab
attribute [local irreducible] V AOps DOps Gh Eff PCallsH IntKind.wrap
set_option maxRecDepth 4000

noncomputable def L_stemkeep3_JoinOrderLeftDeepCostsAtLeastAsMuch (gA : LJoinorderGraph) : Option (Bool) :=
  letP (sampleV) fun x13 =>
  cond (!x13)
    (some false)
    (bindP (L_joinorder_Cheapest gA false) fun x17 =>
    bindP (L_joinorder_Cheapest gA true) fun x23 =>
    bindP (L_joinorder_Validate gA) fun x28 =>
    bindP (L_joinorder_Cheapest (LJoinorderGraph.mk [5, 7] [(LJoinorderSelectivity.mk 0 1 10)]) true) fun x34 =>
    cond (x17.2.2 == x28)
      (cond (x23.2.2 == x28)
        (cond (decide (x17.2.1 ≤ x23.2.1))
          (cond (x34.2.2 == (0 : Int))
            (cond (x34.2.1 == (4 : Int))
              (some ((x34.1.children.length : Int) == (2 : Int)))
              (some false))
            (some false))
          (some false))
        (some false))
      (some false))

set_option maxHeartbeats 4000000 in
theorem W_stemkeep3_JoinOrderLeftDeepCostsAtLeastAsMuch (gA : LJoinorderGraph) (r : Bool) (H : L_stemkeep3_JoinOrderLeftDeepCostsAtLeastAsMuch gA = some r) :
    PFun Tryz.prog 6 [(.agg (encJoinorderGraph gA))] (pbool r) := by
  unfold L_stemkeep3_JoinOrderLeftDeepCostsAtLeastAsMuch at H
  refine PCallsH.intro Tryz.func6 rfl Tryz.ntmps6 rfl ?_
  refine V.seq ?_
  refine V.region ?_
  refine AOps.boxF rfl rfl rfl rfl rfl rfl ?_
  refine AOps.q tt_ok rfl ?_
  refine AOps.nil ?_
  iterate 2 refine V.seq ?_
  refine V.region ?_
  obtain ⟨x13, h13, H⟩ := letE H
  have s13 := sampleV_spec
  rw [h13] at s13
  refine AOps.callP (g := 12) rfl rfl rfl Tryz.call12 (PLeAll.refl _ _) s13 rfl ?_
  refine AOps.q tt_ok rfl ?_
  refine AOps.nil ?_
  refine V.cH rfl H (fun H => ?_) (fun H => ?_)
  · refine V.seq ?_
    refine V.region ?_
    refine AOps.q tt_ok rfl ?_
    refine AOps.nil ?_
    obtain rfl := someE H
    refine V.retP tt_ok rfl (ps := [(pbool false)]) ⟨_, _, rfl, rfl, rfl⟩ (PLe.of_eq rfl)
  refine V.skip ?_
  refine V.seq ?_
  refine V.region ?_
  refine AOps.q tt_ok rfl ?_
  obtain ⟨x17, h17, H⟩ := bindE H
  have s17 := W_joinorder_Cheapest gA false _ h17
  refine AOps.callP (g := 20) rfl rfl rfl Tryz.call20 (PLeAll.refl _ _) s17 rfl ?_
  iterate 4 refine AOps.q tt_ok rfl ?_
  refine AOps.alloc tt_ok rfl rfl rfl rfl rfl rfl fun b3 => ?_
  refine AOps.storeBox tt_ok rfl rfl rfl rfl rfl rfl rfl rfl rfl rfl rfl ?_
  iterate 2 refine AOps.q tt_ok rfl ?_
  refine AOps.nil ?_
  refine V.seq ?_
  refine V.region ?_
  refine AOps.q tt_ok rfl ?_
  obtain ⟨x23, h23, H⟩ := bindE H
  have s23 := W_joinorder_Cheapest gA true _ h23
  refine AOps.callP (g := 20) rfl rfl rfl Tryz.call20 (PLeAll.refl _ _) s23 rfl ?_
  iterate 4 refine AOps.q tt_ok rfl ?_
  refine AOps.alloc tt_ok rfl rfl rfl rfl rfl rfl fun b6 => ?_
  refine AOps.storeBox tt_ok rfl rfl rfl rfl rfl rfl rfl rfl rfl rfl rfl ?_
  iterate 2 refine AOps.q tt_ok rfl ?_
  refine AOps.nil ?_
  refine V.seq ?_
  refine V.region ?_
  refine AOps.q tt_ok rfl ?_
  obtain ⟨x28, h28, H⟩ := bindE H
  have s28 := W_joinorder_Validate gA _ h28
  refine AOps.callP (g := 21) rfl rfl rfl Tryz.call21 (PLeAll.refl _ _) s28 rfl ?_
  refine AOps.q tt_ok rfl ?_
  refine AOps.nil ?_
  refine V.seq ?_
  refine V.region ?_
  refine AOps.bsC tt_ok rfl rfl rfl rfl (rows' := List.map rInt ([5, 7] : List Int)) rfl (PLe2Rows.refl _) rfl rfl ?_
  refine AOps.q tt_ok rfl ?_
  refine AOps.bsC tt_ok rfl rfl rfl rfl (rows' := List.map encJoinorderSelectivity ([(LJoinorderSelectivity.mk 0 1 10)] : List LJoinorderSelectivity)) rfl (PLe2Rows.refl _) rfl rfl ?_
  refine AOps.q tt_ok rfl ?_
  obtain ⟨x34, h34, H⟩ := bindE H
  have s34 := W_joinorder_Cheapest (LJoinorderGraph.mk [5, 7] [(LJoinorderSelectivity.mk 0 1 10)]) true _ h34
  refine AOps.callP (g := 20) rfl rfl rfl Tryz.call20 (PLeAll.refl _ _) s34 rfl ?_
  iterate 4 refine AOps.q tt_ok rfl ?_
  refine AOps.alloc tt_ok rfl rfl rfl rfl rfl rfl fun b10 => ?_
  refine AOps.storeBox tt_ok rfl rfl rfl rfl rfl rfl rfl rfl rfl rfl rfl ?_
  iterate 2 refine AOps.q tt_ok rfl ?_
  refine AOps.nil ?_
  refine V.seq ?_
  refine V.region ?_
  iterate 4 refine AOps.q tt_ok rfl ?_
  refine AOps.sH rfl rfl rfl H (fun H => ?_) (fun H => ?_)
  · refine AOps.q tt_ok rfl ?_
    iterate 4 refine AOps.q tt_ok rfl ?_
    refine AOps.sH rfl rfl rfl H (fun H => ?_) (fun H => ?_)
    · refine AOps.q tt_ok rfl ?_
      iterate 4 refine AOps.q tt_ok rfl ?_
      refine AOps.sH rfl rfl rfl H (fun H => ?_) (fun H => ?_)
      · refine AOps.q tt_ok rfl ?_
        iterate 3 refine AOps.q tt_ok rfl ?_
        refine AOps.sH rfl rfl rfl H (fun H => ?_) (fun H => ?_)
        · refine AOps.q tt_ok rfl ?_
          iterate 3 refine AOps.q tt_ok rfl ?_
          refine AOps.sH rfl rfl rfl H (fun H => ?_) (fun H => ?_)
          · refine AOps.q tt_ok rfl ?_
            refine AOps.loadBox tt_ok rfl rfl rfl rfl rfl rfl rfl ?_
            refine AOps.lenL tt_ok rfl rfl rfl rfl rfl (List.length_map _) rfl ?_
            iterate 3 refine AOps.q tt_ok rfl ?_
            refine AOps.nil ?_
            obtain rfl := someE H
            refine V.retP tt_ok rfl (ps := [(pbool ((x34.1.children.length : Int) == (2 : Int)))]) ⟨_, _, rfl, rfl, rfl⟩ (PLe.of_eq rfl)
          iterate 6 refine AOps.q tt_ok rfl ?_
          refine AOps.nil ?_
          obtain rfl := someE H
          refine V.retP tt_ok rfl (ps := [(pbool false)]) ⟨_, _, rfl, rfl, rfl⟩ (PLe.of_eq rfl)
        iterate 10 refine AOps.q tt_ok rfl ?_
        refine AOps.nil ?_
        obtain rfl := someE H
        refine V.retP tt_ok rfl (ps := [(pbool false)]) ⟨_, _, rfl, rfl, rfl⟩ (PLe.of_eq rfl)
      iterate 14 refine AOps.q tt_ok rfl ?_
      refine AOps.nil ?_
      obtain rfl := someE H
      refine V.retP tt_ok rfl (ps := [(pbool false)]) ⟨_, _, rfl, rfl, rfl⟩ (PLe.of_eq rfl)
    iterate 19 refine AOps.q tt_ok rfl ?_
    refine AOps.nil ?_
    obtain rfl := someE H
    refine V.retP tt_ok rfl (ps := [(pbool false)]) ⟨_, _, rfl, rfl, rfl⟩ (PLe.of_eq rfl)
  iterate 24 refine AOps.q tt_ok rfl ?_
  refine AOps.nil ?_
  obtain rfl := someE H
  refine V.retP tt_ok rfl (ps := [(pbool false)]) ⟨_, _, rfl, rfl, rfl⟩ (PLe.of_eq rfl)

end Go.Proofs.YtjnpnakcmjndiaaGreatDoor
/- All lifted functions: printed by lift.py. -/
/- Join orders: loops. -/
namespace Go.Proofs.YtjnpnakcmjndiaaGreatDoor
open Go Go.Ab
theorem whileM_by {σ ρ : Type} {step : σ → Option (Flow σ ρ)} (I : σ → Prop) (μ : σ → Nat) (Q : σ → Prop) (R : ρ → Prop) (hs : ∀ s, I s → ∃ fl, step s = some fl ∧ (match fl with | .next s' => I s' ∧ μ s' < μ s | .brk s' => Q s' | .ret r => R r)) :
    ∀ s, I s → ∃ fl, whileM step s = some fl ∧ (match fl with | .next s' => Q s' | .brk _ => False | .ret r => R r) := by
  intro s
  generalize hn : μ s = n
  induction n using Nat.strongRecOn generalizing s with
  | _ n ih =>
    intro hI
    obtain ⟨fl, h1, h2⟩ := hs s hI
    cases fl with
    | next s' =>
      obtain ⟨fl, h3, h4⟩ := ih (μ s') (hn ▸ h2.2) s' rfl h2.1
      exact ⟨fl, whileM_step h1 h3, h4⟩
    | brk s' => exact ⟨.next s', whileM_step h1 rfl, h2⟩
    | ret r => exact ⟨.ret r, whileM_step h1 rfl, h2⟩
theorem while_run {σ β : Type} {step : σ → Option (Flow σ Empty)} {k : σ → Option β} {R : β → Prop} {s : σ} (I : σ → Prop) (μ : σ → Nat) (Q : σ → Prop) (h0 : I s)
    (hs : ∀ s, I s → ∃ fl, step s = some fl ∧ (match fl with | .next s' => I s' ∧ μ s' < μ s | .brk s' => Q s' | .ret _ => False)) (hk : ∀ s', Q s' → ∃ r, k s' = some r ∧ R r) :
    ∃ r, bindP (whileM step s) (fun fl => fl.thenP k) = some r ∧ R r := by
  obtain ⟨fl, h1, h2⟩ := whileM_by (step := step) I μ Q (fun _ => False) (fun s hI => by
    obtain ⟨fl, h1, h2⟩ := hs s hI
    refine ⟨fl, h1, ?_⟩
    cases fl with
    | next s' => exact h2
    | brk s' => exact h2
    | ret r => exact r.elim) s h0
  cases fl with
  | next s' => rw [h1]; exact hk s' h2
  | brk s' => exact absurd h2 (by simp)
  | ret r => exact r.elim
end Go.Proofs.YtjnpnakcmjndiaaGreatDoor
/- Join orders: facts on sets of leaves, sizes, trees. -/
namespace Go.Proofs.YtjnpnakcmjndiaaGreatDoor
open Go Go.Ab

/-! Sets of leaves. -/
theorem toNat_small (x : Nat) (h : x < 256) : (BitVec.ofInt 64 (x : Int)).toNat = x := by
  rw [BitVec.ofInt_natCast, BitVec.toNat_ofNat]; exact Nat.mod_eq_of_lt (by omega)
theorem andI_nat (x s : Nat) (hx : x < 256) (hs : s < 256) : andI .i64 (x : Int) (s : Int) = ((x &&& s : Nat) : Int) := by
  have hle : x &&& s ≤ x := Nat.and_le_left
  show IntKind.i64.wrap ((BitVec.ofInt 64 (x : Int) &&& BitVec.ofInt 64 (s : Int)).toNat : Int) = _
  rw [BitVec.toNat_and, toNat_small x hx, toNat_small s hs, wrap_id (by omega) (by omega)]
theorem sub_all : ((List.range 256).all fun s => (List.range 256).all fun x => Nat.beq (s &&& (18446744073709551615 - (x &&& s))) (s - (x &&& s))) = true := by decide +kernel
theorem sub_bits (s x : Nat) (hx : x < 256) (hs : s < 256) : s &&& (18446744073709551615 - (x &&& s)) = s - (x &&& s) :=
  Nat.eq_of_beq_eq_true (List.all_eq_true.1 (List.all_eq_true.1 sub_all s (List.mem_range.2 hs)) x (List.mem_range.2 hx))
theorem andNotI_nat (x s : Nat) (hx : x < 256) (hs : s < 256) : andNotI .i64 (s : Int) ((x &&& s : Nat) : Int) = ((s - (x &&& s) : Nat) : Int) := by
  have hle : x &&& s ≤ x := Nat.and_le_left
  show IntKind.i64.wrap ((BitVec.ofInt 64 (s : Int) &&& ~~~ BitVec.ofInt 64 ((x &&& s : Nat) : Int)).toNat : Int) = _
  have e : (2 : Nat) ^ 64 - 1 - (x &&& s) = 18446744073709551615 - (x &&& s) := rfl
  rw [BitVec.toNat_and, BitVec.toNat_not, toNat_small s hs, toNat_small (x &&& s) (by omega), e, sub_bits s x hx hs, wrap_id (by omega) (by omega)]
theorem bits_and {s x : Int} (hs0 : 0 ≤ s) (hs : s < 256) (hx0 : 0 ≤ x) (hx : x < 256) : 0 ≤ andI .i64 x s ∧ andI .i64 x s ≤ x ∧ andNotI .i64 s (andI .i64 x s) = s - andI .i64 x s := by
  obtain ⟨x, rfl⟩ := Int.eq_ofNat_of_zero_le hx0
  obtain ⟨s, rfl⟩ := Int.eq_ofNat_of_zero_le hs0
  have h1 := andI_nat x s (by omega) (by omega)
  have h2 := andNotI_nat x s (by omega) (by omega)
  have hle : x &&& s ≤ x := Nat.and_le_left
  have hle' : x &&& s ≤ s := Nat.and_le_right
  rw [h1, h2]
  omega
noncomputable def pop (x : Int) : Int := L_math_bits_OnesCount (IntKind.u64.wrap x)
theorem bits_pop_all (s : Fin 256) : 1 ≤ s.val → (pop (s.val : Int) == 1) = false → 0 < andI .i64 ((s.val : Int) - 1) (s.val : Int) ∧ ¬ pop ((s.val : Int) - andI .i64 ((s.val : Int) - 1) (s.val : Int)) > 1 := by
  unfold pop L_math_bits_OnesCount L_math_bits_OnesCount64
  revert s; decide +kernel
theorem bits_pop {s : Int} (h1 : 1 ≤ s) (hs : s < 256) (hp : (pop s == 1) = false) : 0 < andI .i64 (s - 1) s ∧ ¬ pop (s - andI .i64 (s - 1) s) > 1 := by
  obtain ⟨s, rfl⟩ := Int.eq_ofNat_of_zero_le (show 0 ≤ s by omega)
  exact bits_pop_all ⟨s, by omega⟩ (by simp only; omega) hp
end Go.Proofs.YtjnpnakcmjndiaaGreatDoor
/- Join orders: sizes, trees, tables. -/
namespace Go.Proofs.YtjnpnakcmjndiaaGreatDoor
open Go Go.Ab

def inR (n : Int) : Prop := 0 ≤ n ∧ n ≤ 1073741824
/-- What the check of a graph comes to. -/
structure ValidG (g : LJoinorderGraph) : Prop where
  n1 : 1 ≤ g.sizes.length
  n8 : g.sizes.length ≤ 8
  sizes : ∀ x ∈ g.sizes, inR x
  sel : ∀ p ∈ g.selectivities, 0 ≤ p.a ∧ 1 ≤ p.divisor ∧ p.divisor ≤ 1073741824

theorem rangeM_unit {α ρ : Type} {step : Nat → α → Unit → Option (Flow Unit ρ)} {xs : List α} (p : α → Bool) (out : ρ) (hs : ∀ k x, xs[k]? = some x → step k x () = some (if p x then .ret out else .next ())) :
    rangeM step 0 xs () = some (if xs.any p then .ret out else .next ()) := by
  obtain ⟨fl, h1, h2⟩ := rangeM_by (step := step) (fun j s => (xs.take j).any p = false) (fun r => r = out ∧ xs.any p = true) xs 0 () (by simp) (fun k x s hk hI => by
    rw [Nat.zero_add] at hI ⊢
    refine ⟨_, hs k x hk, ?_⟩
    have e1 : xs.take (k + 1) = xs.take k ++ [x] := by rw [List.take_add_one, hk]; rfl
    cases hp : p x with
    | true => exact ⟨rfl, List.any_eq_true.2 ⟨x, List.mem_of_getElem? hk, hp⟩⟩
    | false => simp only [Bool.false_eq_true, if_false]; rw [e1]; simp [hI, hp])
  rw [h1]
  cases fl with
  | next s =>
    simp only [Nat.zero_add, List.take_length] at h2
    rw [if_neg (by rw [h2]; simp)]
  | brk s => exact absurd h2 (by simp)
  | ret r => rw [h2.1, if_pos h2.2]

theorem validG_eq (g : LJoinorderGraph) : ∃ e, L_joinorder_Validate g = some e ∧ (e = 0 → ValidG g) := by
  unfold L_joinorder_Validate
  simp only [letP_eq]
  generalize hc : (bif decide ((g.sizes.length : Int) < 1) then true else bif decide ((g.sizes.length : Int) > 8) then true else decide ((g.selectivities.length : Int) > 40)) = c
  cases c with
  | true => exact ⟨2, rfl, fun h => by cases h⟩
  | false =>
    have h1 : ¬ (g.sizes.length : Int) < 1 := fun h => by rw [decide_eq_true h] at hc; cases hc
    rw [decide_eq_false h1, cond_false] at hc
    have h8 : ¬ (g.sizes.length : Int) > 8 := fun h => by rw [decide_eq_true h] at hc; cases hc
    rw [cond_false, rangeM_unit (fun x => decide (x < 0) || decide (x > 1073741824)) 1 (fun k x _ => by cases decide (x < 0) <;> cases decide (x > 1073741824) <;> rfl)]
    rw [rangeM_unit (fun x => decide (x.a < 0) || (decide (x.a ≥ x.b) || (decide (x.b ≥ (g.sizes.length : Int)) || (decide (x.divisor < 1) || decide (x.divisor > 1073741824))))) 1 (fun k x _ => by
      cases decide (x.a < 0) <;> cases decide (x.a ≥ x.b) <;> cases decide (x.b ≥ (g.sizes.length : Int)) <;> cases decide (x.divisor < 1) <;> cases decide (x.divisor > 1073741824) <;> rfl)]
    cases hA : g.sizes.any (fun x => decide (x < 0) || decide (x > 1073741824)) with
    | true => exact ⟨1, rfl, fun h => by cases h⟩
    | false =>
      cases hB : g.selectivities.any (fun x => decide (x.a < 0) || (decide (x.a ≥ x.b) || (decide (x.b ≥ (g.sizes.length : Int)) || (decide (x.divisor < 1) || decide (x.divisor > 1073741824))))) with
      | true => exact ⟨1, rfl, fun h => by cases h⟩
      | false =>
        refine ⟨0, rfl, fun _ => ⟨by omega, by omega, fun x hx => ?_, fun p hp => ?_⟩⟩
        · have := List.any_eq_false.1 hA x hx
          simp at this
          exact ⟨by omega, by omega⟩
        · have := List.any_eq_false.1 hB p hp
          simp at this
          omega

theorem thenP_next {σ β : Type} (s : σ) (k : σ → Option β) : (Flow.next s : Flow σ Empty).thenP k = k s := rfl
theorem range_then {α σ β : Type} {step : Nat → α → σ → Option (Flow σ Empty)} {k : σ → Option β} {R : β → Prop} {xs : List α} {s0 : σ} (I : σ → Prop) (h0 : I s0)
    (hk : ∀ s, I s → ∃ r, k s = some r ∧ R r) (hs : ∀ j x s, xs[j]? = some x → I s → ∃ s', step j x s = some (.next s') ∧ I s') :
    ∃ r, bindP (rangeM step 0 xs s0) (fun fl => fl.thenP k) = some r ∧ R r := by
  obtain ⟨fl, h1, h2⟩ := rangeM_by (step := step) (fun _ => I) (fun _ => False) xs 0 s0 h0 (fun j x s hj hI => by
    rw [Nat.zero_add]
    obtain ⟨s', h1, h2⟩ := hs j x s hj hI
    exact ⟨_, h1, h2⟩)
  rw [h1]
  cases fl with
  | next s => exact hk s h2
  | brk s => exact absurd h2 (by simp)
  | ret r => exact r.elim

theorem inR_mul {a b : Int} (ha : inR a) (hb : inR b) : 0 ≤ a * b ∧ a * b ≤ 1152921504606846976 :=
  ⟨Int.mul_nonneg ha.1 hb.1, Int.le_trans (Int.mul_le_mul ha.2 hb.2 hb.1 (by decide)) (by decide)⟩

theorem size_eq {g : LJoinorderGraph} (hv : ValidG g) (s : Int) : ∃ h, L_joinorder_size g s = some h ∧ inR h := by
  unfold L_joinorder_size
  refine range_then (R := inR) inR ⟨by decide, by decide⟩ (fun s h => ⟨s, rfl, h⟩) (fun j x s1 hj h1 => ?_)
  have hx := hv.sizes x (List.mem_of_getElem? hj)
  have e1 : shrI .i64 s (j : Int) = some (s.fdiv (2 ^ (min (j : Int).toNat IntKind.i64.bits))) := by unfold shrI; rw [if_pos (by omega)]
  rw [e1, bindP_some]
  cases (andI .i64 (s.fdiv (2 ^ (min (j : Int).toNat IntKind.i64.bits))) 1 == (0 : Int)) with
  | true => exact ⟨s1, rfl, h1⟩
  | false =>
    rw [cond_false]
    obtain ⟨m0, m1⟩ := inR_mul h1 hx
    have hw : IntKind.i64.wrap (s1 * x) = s1 * x := wrap_id (by omega) (by omega)
    rw [hw]
    have hstart : inR (if s1 * x < (1073741824 : Int) then s1 * x else 1073741824) := by
      split
      · exact ⟨m0, by omega⟩
      · exact ⟨by decide, by decide⟩
    have hgo := range_then (R := fun fl : Flow Int Empty => ∃ s', fl = .next s' ∧ inR s') (xs := g.selectivities) (k := fun s10 : Int => some (Flow.next s10)) inR hstart (fun s h => ⟨_, rfl, s, rfl, h⟩)
      (step := fun (_ : Nat) (x10 : LJoinorderSelectivity) (s10 : Int) =>
        bindP (
          cond (x10.b == (j : Int))
            (bindP (shrI .i64 s x10.a) fun (x42 : Int) =>
            some ((andI .i64 x42 (1 : Int)) == (1 : Int)))
            (some false)) fun (t13 : Bool) =>
        cond t13
          (bindP (quoI (IntKind.i64.wrap ((IntKind.i64.wrap (s10 + x10.divisor)) - (1 : Int))) x10.divisor) fun (x53 : Int) =>
          some (.next x53))
          (some (.next s10))) (fun i p n hi hn => by
        obtain ⟨p0, p1, p2⟩ := hv.sel p (List.mem_of_getElem? hi)
        have e2 : shrI .i64 s p.a = some (s.fdiv (2 ^ (min p.a.toNat IntKind.i64.bits))) := by unfold shrI; rw [if_pos p0]
        have e3 : ∃ t, (cond (p.b == (j : Int)) (bindP (shrI .i64 s p.a) fun (x42 : Int) => some ((andI .i64 x42 (1 : Int)) == (1 : Int))) (some false)) = some t := by
          cases (p.b == (j : Int)) with
          | true => exact ⟨_, by rw [cond_true, e2, bindP_some]⟩
          | false => exact ⟨false, rfl⟩
        obtain ⟨t, e3⟩ := e3
        rw [e3, bindP_some]
        cases t with
        | false => exact ⟨n, rfl, hn⟩
        | true =>
          have n0 := hn.1
          have n1 := hn.2
          have w1 : IntKind.i64.wrap (n + p.divisor) = n + p.divisor := wrap_id (by omega) (by omega)
          have w2 : IntKind.i64.wrap (n + p.divisor - 1) = n + p.divisor - 1 := wrap_id (by omega) (by omega)
          have hq : (n + p.divisor - 1).tdiv p.divisor = (n + p.divisor - 1) / p.divisor := Int.tdiv_eq_ediv_of_nonneg (by omega)
          have q0 : 0 ≤ (n + p.divisor - 1) / p.divisor := Int.ediv_nonneg (by omega) (by omega)
          have q1 : (n + p.divisor - 1) / p.divisor < 1073741825 := Int.ediv_lt_of_lt_mul (by omega) (by omega)
          rw [cond_true, w1, w2]
          unfold quoI
          rw [if_neg (by omega), hq, wrap_id (by omega) (by omega), bindP_some]
          exact ⟨_, rfl, q0, by omega⟩)
    obtain ⟨fl, h2, s', rfl, h3⟩ := hgo
    exact ⟨s', h2, h3⟩

/-! Trees. -/
def SmallT : Nat → LJoinorderTree → Prop
  | 0, t => t.children = []
  | n + 1, t => t.children.length ≤ 2 ∧ ∀ c ∈ t.children, SmallT n c
theorem SmallT.up : ∀ {n m : Nat} {t : LJoinorderTree}, n ≤ m → SmallT n t → SmallT m t
  | 0, 0, _, _, h => h
  | 0, m + 1, t, _, h => by
    have h' : t.children = [] := h
    exact ⟨by rw [h']; simp, by rw [h']; simp⟩
  | n + 1, m + 1, _, hm, h => ⟨h.1, fun c hc => SmallT.up (by omega) (h.2 c hc)⟩
theorem own_small : ∀ (n : Nat) (t : LJoinorderTree), SmallT n t → ∀ m, n + 1 ≤ m → F_joinorder_own m t = some t := by
  intro n
  induction n with
  | zero =>
    intro t ht m hm
    obtain ⟨m, rfl⟩ : ∃ k, m = k + 1 := ⟨m - 1, by omega⟩
    have h' : t.children = [] := ht
    cases t with
    | mk a l =>
      have h2 : l = [] := h'
      subst h2
      rfl
  | succ n ih =>
    intro t ht m hm
    obtain ⟨m, rfl⟩ : ∃ k, m = k + 1 := ⟨m - 1, by omega⟩
    cases t with
    | mk a l =>
      have hl : l.length ≤ 2 := ht.1
      have hc : ∀ c ∈ l, F_joinorder_own m c = some c := fun c hc => ih c (ht.2 c hc) m (by omega)
      show O_joinorder_own (fun b0 => F_joinorder_own m b0) (LJoinorderTree.mk a l) = _
      unfold O_joinorder_own
      simp only [LJoinorderTree.children, LJoinorderTree.leaf]
      match l, hl, hc with
      | [], _, _ => rfl
      | [x], _, hc =>
        simp only [rangeM, hc x (by simp), bindP_some, appI_ok (bytes := 32) (xs := ([] : List LJoinorderTree)) (ys := [x]) (by simp) (by simp; unfold maxLen; omega), List.nil_append, thenP_next]
      | [x, y], _, hc =>
        simp only [rangeM, hc x (by simp), hc y (by simp), bindP_some, appI_ok (bytes := 32) (xs := ([] : List LJoinorderTree)) (ys := [x]) (by simp) (by simp; unfold maxLen; omega), List.nil_append, appI_ok (bytes := 32) (xs := [x]) (ys := [y]) (by simp) (by simp; unfold maxLen; omega), List.cons_append, thenP_next]
theorem own_eq {n : Nat} {t : LJoinorderTree} (h : SmallT n t) : L_joinorder_own t = some t := limN_eq (n + 1) (own_small n t h)

/-! Tables. -/
def nil0 : LJoinorderBest := ⟨.mk 0 [], 0, false⟩
def tat (T : List LJoinorderBest) (i : Int) : LJoinorderBest := T.getD i.toNat nil0
theorem getI_tat {T : List LJoinorderBest} {i : Int} (h0 : 0 ≤ i) (h1 : i < T.length) : getI T i = some (tat T i) := by
  have hlt : i.toNat < T.length := by omega
  rw [getI_ok h0 (List.getElem?_eq_getElem hlt)]
  simp [tat, hlt]
theorem tat_set {T : List LJoinorderBest} {i j : Int} (h0 : 0 ≤ i) (h1 : i < T.length) (hj : 0 ≤ j) (v : LJoinorderBest) : tat (T.set i.toNat v) j = if j = i then v else tat T j := by
  unfold tat
  rw [List.getD_eq_getElem?_getD, List.getD_eq_getElem?_getD, List.getElem?_set]
  by_cases h : j = i
  · subst h
    rw [if_pos rfl, if_pos (by omega), if_pos rfl]
    rfl
  · rw [if_neg (by omega), if_neg h]
end Go.Proofs.YtjnpnakcmjndiaaGreatDoor
/- Join orders: what the table of the cheapest trees holds; the law. -/
namespace Go.Proofs.YtjnpnakcmjndiaaGreatDoor
open Go Go.Ab

/-- The parts of s that the loop comes to, from a on. -/
inductive Rch (s : Int) : Int → Int → Prop
  | here (a : Int) : Rch s a a
  | next {a x : Int} : 0 < a → Rch s (andI .i64 (a - 1) s) x → Rch s a x
theorem Rch.snoc {s a x : Int} (h : Rch s a x) (hx : 0 < x) : Rch s a (andI .i64 (x - 1) s) := by
  induction h with
  | here a => exact .next hx (.here _)
  | next h0 _ ih => exact .next h0 (ih hx)
noncomputable def part0 (s : Int) : Int := andI .i64 (s - 1) s

/-- What is known of the table at s. -/
structure OkAt (h : Int → Int) (ld : Bool) (T : List LJoinorderBest) (s : Int) : Prop where
  cost0 : 0 ≤ (tat T s).cost
  cost1 : (tat T s).cost ≤ 1073741824 * (s - 1)
  small : SmallT s.toNat (tat T s).tree
  leaf : (pop s == 1) = true → (tat T s).cost = 0
  split : (pop s == 1) = false → ∃ a, Rch s (part0 s) a ∧ 0 < a ∧ a < s ∧ (tat T s).cost = (tat T a).cost + (tat T (s - a)).cost + h s ∧ (tat T s).tree.children.length = 2
  all : (pop s == 1) = false → ld = false → ∀ a, Rch s (part0 s) a → 0 < a → a < s → (tat T s).cost ≤ (tat T a).cost + (tat T (s - a)).cost + h s
theorem OkAt.same {h : Int → Int} {ld : Bool} {T T' : List LJoinorderBest} {s : Int} (hs : 1 ≤ s) (he : ∀ x, 1 ≤ x → x ≤ s → tat T' x = tat T x) (o : OkAt h ld T s) : OkAt h ld T' s := by
  have e := he s hs (Int.le_refl s)
  refine ⟨by rw [e]; exact o.cost0, by rw [e]; exact o.cost1, by rw [e]; exact o.small, fun hp => by rw [e]; exact o.leaf hp, fun hp => ?_, fun hp hl a ha h0 h1 => ?_⟩
  · obtain ⟨a, h1, h2, h3, h4, h5⟩ := o.split hp
    exact ⟨a, h1, h2, h3, by rw [e, he a (by omega) (by omega), he (s - a) (by omega) (by omega)]; exact h4, by rw [e]; exact h5⟩
  · rw [e, he a (by omega) (by omega), he (s - a) (by omega) (by omega)]
    exact o.all hp hl a ha h0 h1

/-- What the inner loop has found, where it stands at a. -/
structure Got (T : List LJoinorderBest) (h : Int) (ld : Bool) (s a : Int) (e : LJoinorderBest) : Prop where
  ok : e.ok = true
  cost0 : 0 ≤ e.cost
  cost1 : e.cost ≤ 1073741824 * (s - 1)
  small : SmallT s.toNat e.tree
  split : ∃ a, Rch s (part0 s) a ∧ 0 < a ∧ a < s ∧ e.cost = (tat T a).cost + (tat T (s - a)).cost + h ∧ e.tree.children.length = 2
  all : ld = false → ∀ x, Rch s (part0 s) x → 0 < x → Rch s a x ∨ e.cost ≤ (tat T x).cost + (tat T (s - x)).cost + h

theorem small_leaf (n : Nat) (y : Int) : SmallT n (.mk y []) := by
  cases n with
  | zero => rfl
  | succ n => exact ⟨by simp [LJoinorderTree.children], by simp [LJoinorderTree.children]⟩
theorem u64_id {x : Int} (h0 : 0 ≤ x) (h1 : x ≤ 4611686018427387904) : IntKind.u64.wrap x = x := by
  simp only [IntKind.wrap, IntKind.bits, IntKind.signed]
  simp
  omega
noncomputable def hsz (g : LJoinorderGraph) (s : Int) : Int := (L_joinorder_size g s).getD 0

theorem pow_eq {n : Nat} (h1 : 1 ≤ n) (h8 : n ≤ 8) : ∃ N : Nat, shlI .i64 1 (n : Int) = some (N : Int) ∧ 2 ≤ N ∧ N ≤ 256 := by
  have : n = 1 ∨ n = 2 ∨ n = 3 ∨ n = 4 ∨ n = 5 ∨ n = 6 ∨ n = 7 ∨ n = 8 := by omega
  rcases this with rfl | rfl | rfl | rfl | rfl | rfl | rfl | rfl
  · exact ⟨2, rfl, by decide, by decide⟩
  · exact ⟨4, rfl, by decide, by decide⟩
  · exact ⟨8, rfl, by decide, by decide⟩
  · exact ⟨16, rfl, by decide, by decide⟩
  · exact ⟨32, rfl, by decide, by decide⟩
  · exact ⟨64, rfl, by decide, by decide⟩
  · exact ⟨128, rfl, by decide, by decide⟩
  · exact ⟨256, rfl, by decide, by decide⟩

theorem cheapest_eq {g : LJoinorderGraph} (hv : ValidG g) (he : L_joinorder_Validate g = some 0) {N : Nat} (hN : shlI .i64 1 (g.sizes.length : Int) = some (N : Int)) (hN2 : 2 ≤ N) (hN8 : N ≤ 256) (ld : Bool) :
    ∃ r T, L_joinorder_Cheapest g ld = some r ∧ T.length = N ∧ (∀ s : Int, 1 ≤ s → s < N → OkAt (hsz g) ld T s) ∧ r = ((tat T ((N : Int) - 1)).tree, (tat T ((N : Int) - 1)).cost, 0) := by
  have fin : ∀ o : Option (LJoinorderTree × Int × Int), (∃ r, o = some r ∧ ∃ T, T.length = N ∧ (∀ s : Int, 1 ≤ s → s < N → OkAt (hsz g) ld T s) ∧ r = ((tat T ((N : Int) - 1)).tree, (tat T ((N : Int) - 1)).cost, 0)) →
      ∃ r T, o = some r ∧ T.length = N ∧ (∀ s : Int, 1 ≤ s → s < N → OkAt (hsz g) ld T s) ∧ r = ((tat T ((N : Int) - 1)).tree, (tat T ((N : Int) - 1)).cost, 0) := fun o ⟨r, h1, T, h2, h3, h4⟩ => ⟨r, T, h1, h2, h3, h4⟩
  apply fin
  unfold L_joinorder_Cheapest
  rw [he, bindP_some, show ((0 : Int) != 0) = false from rfl, cond_false, hN, bindP_some, growI_ok ⟨by omega, by rw [Int.toNat_natCast]; omega, by rw [Int.toNat_natCast]; unfold maxLen; omega⟩, bindP_some, Int.toNat_natCast]
  refine while_run (fun st : List LJoinorderBest × Int => st.1.length = N ∧ 1 ≤ st.2 ∧ st.2 ≤ N ∧ (∀ t, 1 ≤ t → t < st.2 → OkAt (hsz g) ld st.1 t) ∧ (∀ t, st.2 ≤ t → t < N → (tat st.1 t).ok = false)) (fun st => ((N : Int) - st.2).toNat)
    (fun st => st.1.length = N ∧ ∀ t : Int, 1 ≤ t → t < N → OkAt (hsz g) ld st.1 t) ?_ (fun st hI => ?_) (fun st hQ => ?_)
  · refine ⟨by simp, by simp, by simp; omega, fun t h1 h2 => by simp only at h2; omega, fun t h1 h2 => ?_⟩
    have hlt : t.toNat < N := by simp only at h1; omega
    simp [tat, hlt]
  · obtain ⟨T, s⟩ := st
    obtain ⟨hT, hs1, hsN, hdone, hnew⟩ := hI
    simp only at hT hs1 hsN hdone hnew ⊢
    by_cases hlt : s < N
    · rw [hT, decide_eq_true hlt, cond_true]
      simp only [letP_eq]
      have hpop : L_math_bits_OnesCount (IntKind.u64.wrap s) = pop s := rfl
      rw [hpop, wrap_id (n := s + 1) (by omega) (by omega)]
      cases hp : (pop s == 1) with
      | true =>
        obtain ⟨y, hy⟩ := tzL_ok (x := s) (by omega) (by omega)
        rw [cond_true, u64_id (by omega) (by omega), hy, bindP_some, getI_tat (by omega) (by omega), bindP_some]
        have hset : ∀ j, 0 ≤ j → tat (T.set s.toNat (LJoinorderBest.mk (LJoinorderTree.mk y []) 0 true)) j = if j = s then LJoinorderBest.mk (LJoinorderTree.mk y []) 0 true else tat T j := fun j hj => tat_set (by omega) (by omega) hj _
        refine ⟨_, rfl, ⟨by simp [hT], by simp only; omega, by simp only; omega, fun t h1 h2 => ?_, fun t h1 h2 => ?_⟩, by simp only; omega⟩
        · simp only at h2 ⊢
          by_cases hts : t < s
          · exact (hdone t h1 hts).same h1 fun x hx0 hx1 => by rw [hset x (by omega), if_neg (by omega)]
          · obtain rfl : t = s := by omega
            have e := hset t (by omega)
            rw [if_pos rfl] at e
            refine ⟨by rw [e]; simp, by rw [e]; simp only; omega, by rw [e]; exact small_leaf _ _, fun _ => by rw [e], fun h => ?_, fun h => ?_⟩
            · rw [hp] at h; cases h
            · rw [hp] at h; cases h
        · simp only at h1 ⊢
          rw [hset t (by omega), if_neg (by omega)]
          exact hnew t (by omega) h2
      | false =>
        obtain ⟨h, hh, hR⟩ := size_eq hv s
        have hhs : hsz g s = h := by unfold hsz; rw [hh]; rfl
        rw [cond_false, hh, bindP_some, wrap_id (n := s - 1) (by omega) (by omega)]
        obtain ⟨hp0, hp1⟩ := bits_pop hs1 (by omega) hp
        obtain ⟨q0, q1, q2⟩ := bits_and (s := s) (x := s - 1) (by omega) (by omega) (by omega) (by omega)
        have hb : ∀ t, 1 ≤ t → t < s → 0 ≤ (tat T t).cost ∧ (tat T t).cost ≤ 1073741824 * (t - 1) ∧ SmallT t.toNat (tat T t).tree := fun t h1 h2 => ⟨(hdone t h1 h2).cost0, (hdone t h1 h2).cost1, (hdone t h1 h2).small⟩
        have hR0 := hR.1
        have hR1 := hR.2
        refine while_run (fun st : List LJoinorderBest × Int => st.1.length = N ∧ (∀ t, 0 ≤ t → t ≠ s → tat st.1 t = tat T t) ∧ 0 ≤ st.2 ∧ st.2 < s ∧ andNotI .i64 s st.2 = s - st.2 ∧ Rch s (part0 s) st.2 ∧ ((st.2 = part0 s ∧ (tat st.1 s).ok = false) ∨ Got T h ld s st.2 (tat st.1 s)))
          (fun st => st.2.toNat) (fun st => st.1.length = N ∧ (∀ t, 0 ≤ t → t ≠ s → tat st.1 t = tat T t) ∧ st.2 ≤ 0 ∧ Got T h ld s st.2 (tat st.1 s)) ⟨hT, fun _ _ _ => rfl, q0, by simp only; omega, q2, .here _, .inl ⟨rfl, hnew s (by omega) hlt⟩⟩ (fun st hI => ?_) (fun st hQ => ?_)
        · obtain ⟨T', a⟩ := st
          obtain ⟨hT', hoff, ha0, has, hsub, hrch, hcur⟩ := hI
          simp only at hT' hoff ha0 has hsub hrch hcur ⊢
          by_cases hapos : a > 0
          · obtain ⟨p0, p1, p2⟩ := bits_and (s := s) (x := a - 1) (by omega) (by omega) (by omega) (by omega)
            have hrch' := hrch.snoc hapos
            rw [decide_eq_true hapos, cond_true, hsub, wrap_id (n := a - 1) (by omega) (by omega)]
            have hpop2 : L_math_bits_OnesCount (IntKind.u64.wrap (s - a)) = pop (s - a) := rfl
            rw [hpop2]
            -- going on with what was found
            have keep : ∀ e : LJoinorderBest, Got T h ld s a e → (ld = false → e.cost ≤ (tat T a).cost + (tat T (s - a)).cost + h) → Got T h ld s (andI .i64 (a - 1) s) e := fun e hg hle =>
              ⟨hg.ok, hg.cost0, hg.cost1, hg.small, hg.split, fun hl x hx hx0 => by
                rcases hg.all hl x hx hx0 with hr | hr
                · cases hr with
                  | here => exact .inr (hle hl)
                  | next _ hr => exact .inl hr
                · exact .inr hr⟩
            cases ht : (bif ld then decide (pop (s - a) > 1) else false) with
            | true =>
              rw [cond_true]
              have hld : ld = true := by cases ld with
                | true => rfl
                | false => cases ht
              refine ⟨_, rfl, ⟨hT', hoff, p0, by simp only; omega, p2, hrch', ?_⟩, by simp only; omega⟩
              rcases hcur with ⟨hfirst, _⟩ | hg
              · rw [hld, cond_true, hfirst] at ht
                exact absurd (of_decide_eq_true ht) hp1
              · exact .inr (keep _ hg fun hl => by rw [hld] at hl; cases hl)
            | false =>
              have ea : tat T' a = tat T a := hoff a ha0 (by omega)
              have eb : tat T' (s - a) = tat T (s - a) := hoff (s - a) (by omega) (by omega)
              obtain ⟨ca0, ca1, ca2⟩ := hb a (by omega) has
              obtain ⟨cb0, cb1, cb2⟩ := hb (s - a) (by omega) (by omega)
              have w1 : IntKind.i64.wrap ((tat T a).cost + (tat T (s - a)).cost) = (tat T a).cost + (tat T (s - a)).cost := wrap_id (by omega) (by omega)
              have w2 : IntKind.i64.wrap ((tat T a).cost + (tat T (s - a)).cost + h) = (tat T a).cost + (tat T (s - a)).cost + h := wrap_id (by omega) (by omega)
              rw [cond_false, getI_tat ha0 (by omega), bindP_some, getI_tat (i := s - a) (by omega) (by omega), bindP_some, getI_tat (i := s) (by omega) (by omega), bindP_some, ea, eb, w1, w2, bindP_some]
              have hset : ∀ v j, 0 ≤ j → tat (T'.set s.toNat v) j = if j = s then v else tat T' j := fun v j hj => tat_set (by omega) (by omega) hj _
              -- the new entry
              have hnewG : Got T h ld s (andI .i64 (a - 1) s) (LJoinorderBest.mk (LJoinorderTree.mk 0 [(tat T a).tree, (tat T (s - a)).tree]) ((tat T a).cost + (tat T (s - a)).cost + h) true) ∨ ¬ (ld = false → ∀ x, Rch s (part0 s) x → 0 < x → Rch s (andI .i64 (a - 1) s) x ∨ (tat T a).cost + (tat T (s - a)).cost + h ≤ (tat T x).cost + (tat T (s - x)).cost + h) := by
                by_cases hall : ld = false → ∀ x, Rch s (part0 s) x → 0 < x → Rch s (andI .i64 (a - 1) s) x ∨ (tat T a).cost + (tat T (s - a)).cost + h ≤ (tat T x).cost + (tat T (s - x)).cost + h
                · refine .inl ⟨rfl, by simp only; omega, by simp only; omega, ?_, ⟨a, hrch, hapos, has, rfl, rfl⟩, hall⟩
                  obtain ⟨m, hm⟩ : ∃ m, s.toNat = m + 1 := ⟨s.toNat - 1, by omega⟩
                  rw [hm]
                  refine ⟨by simp [LJoinorderTree.children], fun c hc => ?_⟩
                  simp only [LJoinorderTree.children, List.mem_cons, List.mem_nil_iff, or_false] at hc
                  rcases hc with rfl | rfl
                  · exact ca2.up (by omega)
                  · exact cb2.up (by omega)
                · exact .inr hall
              have put : (ld = false → ∀ x, Rch s (part0 s) x → 0 < x → Rch s (andI .i64 (a - 1) s) x ∨ (tat T a).cost + (tat T (s - a)).cost + h ≤ (tat T x).cost + (tat T (s - x)).cost + h) →
                  Got T h ld s (andI .i64 (a - 1) s) (tat (T'.set s.toNat (LJoinorderBest.mk (LJoinorderTree.mk 0 [(tat T a).tree, (tat T (s - a)).tree]) ((tat T a).cost + (tat T (s - a)).cost + h) true)) s) := fun hall => by
                rw [hset _ s (by omega), if_pos rfl]
                exact hnewG.resolve_right (fun h => h hall)
              have hoff' : ∀ v t, 0 ≤ t → t ≠ s → tat (T'.set s.toNat v) t = tat T t := fun v t h0 h1 => by rw [hset v t h0, if_neg h1]; exact hoff t h0 h1
              cases hok : (tat T' s).ok with
              | false =>
                rw [Bool.not_false, cond_true, bindP_some, cond_true, bindP_some, bindP_some, bindP_some]
                refine ⟨_, rfl, ⟨by simp [hT'], hoff' _, p0, by simp only; omega, p2, hrch', .inr (put fun hl x hx hx0 => ?_)⟩, by simp only; omega⟩
                rcases hcur with ⟨hfirst, _⟩ | hg
                · rw [← hfirst] at hx
                  cases hx with
                  | here => exact .inr (Int.le_refl _)
                  | next _ hr => exact .inl hr
                · rw [hg.ok] at hok; cases hok
              | true =>
                have hg : Got T h ld s a (tat T' s) := hcur.resolve_left fun hx => by rw [hok] at hx; cases hx.2
                rw [Bool.not_true, cond_false, bindP_some, bindP_some]
                by_cases hless : (tat T a).cost + (tat T (s - a)).cost + h < (tat T' s).cost
                · rw [decide_eq_true hless, cond_true]
                  refine ⟨_, rfl, ⟨by simp [hT'], hoff' _, p0, by simp only; omega, p2, hrch', .inr (put fun hl x hx hx0 => ?_)⟩, by simp only; omega⟩
                  rcases hg.all hl x hx hx0 with hr | hr
                  · cases hr with
                    | here => exact .inr (Int.le_refl _)
                    | next _ hr => exact .inl hr
                  · exact .inr (by omega)
                · rw [decide_eq_false hless, cond_false]
                  exact ⟨_, rfl, ⟨hT', hoff, p0, by simp only; omega, p2, hrch', .inr (keep (tat T' s) hg fun _ => by omega)⟩, by simp only; omega⟩
          · rw [decide_eq_false hapos, cond_false]
            refine ⟨_, rfl, hT', hoff, by simp only; omega, ?_⟩
            rcases hcur with ⟨hfirst, _⟩ | hg
            · exact absurd (show a > 0 by rw [hfirst]; exact hp0) hapos
            · exact hg
        · obtain ⟨T', a⟩ := st
          obtain ⟨hT', hoff, ha, hg⟩ := hQ
          simp only at hT' hoff ha hg ⊢
          refine ⟨_, rfl, ⟨hT', by simp only; omega, by simp only; omega, fun t h1 h2 => ?_, fun t h1 h2 => ?_⟩, by simp only; omega⟩
          · simp only at h2 ⊢
            by_cases hts : t < s
            · exact (hdone t h1 hts).same h1 fun x hx0 hx1 => hoff x (by omega) (by omega)
            · obtain rfl : t = s := by omega
              refine ⟨hg.cost0, hg.cost1, hg.small, fun hx => by (rw [hp] at hx; cases hx), fun _ => ?_, fun _ hl x hx hx0 hx1 => ?_⟩
              · obtain ⟨x, x1, x2, x3, x4, x5⟩ := hg.split
                exact ⟨x, x1, x2, x3, by rw [hoff x (by omega) (by omega), hoff (t - x) (by omega) (by omega), hhs]; exact x4, x5⟩
              · rw [hoff x (by omega) (by omega), hoff (t - x) (by omega) (by omega), hhs]
                rcases hg.all hl x hx hx0 with hr | hr
                · cases hr with
                  | here => omega
                  | next h0 _ => omega
                · exact hr
          · simp only at h1 ⊢
            rw [hoff t (by omega) (by omega)]
            exact hnew t (by omega) h2
    · rw [hT, decide_eq_false hlt, cond_false]
      exact ⟨_, rfl, hT, fun t h1 h2 => hdone t h1 (by omega)⟩
  · obtain ⟨T, s⟩ := st
    obtain ⟨hT, hdone⟩ := hQ
    simp only at hT hdone ⊢
    have hlast := hdone ((N : Int) - 1) (by omega) (by omega)
    rw [hT, wrap_id (n := (N : Int) - 1) (by omega) (by omega), getI_tat (by omega) (by omega), bindP_some, own_eq hlast.small, bindP_some]
    exact ⟨_, rfl, T, hT, hdone, rfl⟩

theorem cost_le {h : Int → Int} {N : Nat} {T U : List LJoinorderBest} (hT : ∀ s : Int, 1 ≤ s → s < N → OkAt h false T s) (hU : ∀ s : Int, 1 ≤ s → s < N → OkAt h true U s) :
    ∀ (n : Nat) (s : Int), s.toNat ≤ n → 1 ≤ s → s < N → (tat T s).cost ≤ (tat U s).cost := by
  intro n
  induction n with
  | zero => intro s hn h1 _; omega
  | succ n ih =>
    intro s hn h1 h2
    cases hp : (pop s == 1) with
    | true => rw [(hT s h1 h2).leaf hp, (hU s h1 h2).leaf hp]; exact Int.le_refl _
    | false =>
      obtain ⟨a, r, a0, a1, e, _⟩ := (hU s h1 h2).split hp
      have := (hT s h1 h2).all hp rfl a r a0 a1
      have := ih a (by omega) (by omega) (by omega)
      have := ih (s - a) (by omega) (by omega) (by omega)
      omega

def demo : LJoinorderGraph := LJoinorderGraph.mk [5, 7] [(LJoinorderSelectivity.mk 0 1 10)]
theorem demo_valid : L_joinorder_Validate demo = some 0 := by decide +kernel
theorem demo_size : L_joinorder_size demo 3 = some 4 := by decide +kernel
theorem pops : (pop 1 == 1) = true ∧ (pop 2 == 1) = true ∧ (pop 3 == 1) = false := by
  unfold pop L_math_bits_OnesCount L_math_bits_OnesCount64
  decide +kernel
theorem demo_eq : ∃ t, L_joinorder_Cheapest demo true = some (t, 4, 0) ∧ t.children.length = 2 := by
  obtain ⟨e, he, hv⟩ := validG_eq demo
  rw [demo_valid] at he
  have hv := hv (Option.some.inj he).symm
  obtain ⟨r, T, h1, hT, hall, rfl⟩ := cheapest_eq hv demo_valid (N := 4) rfl (by decide) (by decide) true
  rw [h1]
  have h3 : OkAt (hsz demo) true T 3 := hall 3 (by decide) (by decide)
  obtain ⟨a, _, a0, a1, e, hc⟩ := h3.split pops.2.2
  have hl : ∀ x : Int, 1 ≤ x → x ≤ 2 → (tat T x).cost = 0 := fun x x1 x2 => by
    have : x = 1 ∨ x = 2 := by omega
    rcases this with rfl | rfl
    · exact (hall 1 (by decide) (by decide)).leaf pops.1
    · exact (hall 2 (by decide) (by decide)).leaf pops.2.1
  have hh : hsz demo 3 = 4 := by unfold hsz; rw [demo_size]; rfl
  rw [hl a (by omega) (by omega), hl (3 - a) (by omega) (by omega), hh] at e
  refine ⟨(tat T 3).tree, ?_, hc⟩
  show some ((tat T 3).tree, (tat T 3).cost, (0 : Int)) = _
  rw [e]
  rfl

theorem joinOrder_law (g : LJoinorderGraph) : L_stemkeep3_JoinOrderLeftDeepCostsAtLeastAsMuch g = some true := by
  unfold L_stemkeep3_JoinOrderLeftDeepCostsAtLeastAsMuch
  have es : sampleV = true := rfl
  rw [es]
  simp only [letP_eq, Bool.not_true, cond_false]
  obtain ⟨t, hd, hc⟩ := demo_eq
  have hd' : L_joinorder_Cheapest (LJoinorderGraph.mk [5, 7] [(LJoinorderSelectivity.mk 0 1 10)]) true = some (t, 4, 0) := hd
  obtain ⟨e, he, hv⟩ := validG_eq g
  rw [hd', he]
  by_cases h0 : e = 0
  · subst h0
    have hv := hv rfl
    obtain ⟨N, hN, hN2, hN8⟩ := pow_eq hv.n1 hv.n8
    obtain ⟨r1, T, e1, hT, allT, rfl⟩ := cheapest_eq hv he hN hN2 hN8 false
    obtain ⟨r2, U, e2, hU, allU, rfl⟩ := cheapest_eq hv he hN hN2 hN8 true
    have hle := cost_le allT allU N ((N : Int) - 1) (by omega) (by omega) (by omega)
    rw [e1, e2]
    simp only [bindP_some]
    rw [decide_eq_true hle, hc]
    rfl
  · have hE : ∀ ld, L_joinorder_Cheapest g ld = some ((LJoinorderTree.mk 0 []), 0, e) := fun ld => by
      unfold L_joinorder_Cheapest
      have : (e != (0 : Int)) = true := by simpa using h0
      rw [he, bindP_some, this, cond_true]
    rw [hE false, hE true]
    simp only [bindP_some, beq_self_eq_true, cond_true, hc]
    rfl
end Go.Proofs.YtjnpnakcmjndiaaGreatDoor
