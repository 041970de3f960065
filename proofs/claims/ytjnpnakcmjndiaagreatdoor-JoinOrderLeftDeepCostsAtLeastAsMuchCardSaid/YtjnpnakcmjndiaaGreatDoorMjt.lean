/- The sample, asQ the lifted functions take it. -/
import Derived.Test.YtjnpnakcmjndiaaGreatDoorCxS
import Derived.Test.YtjnpnakcmjndiaaGreatDoorMjh
import Derived.Test.YtjnpnakcmjndiaaGreatDoorAcF
import Derived.Test.YtjnpnakcmjndiaaGreatDoorTz
namespace Go.Proofs.YtjnpnakcmjndiaaGreatDoor
open Go Go.Ab
def sampleV : Bool := true
theorem sampleV_spec : PFun Tryz.prog 12 [] (.val (.bool sampleV)) := Go.Cx.sample_spec
end Go.Proofs.YtjnpnakcmjndiaaGreatDoor
/- Lifted functions: printed by lift.py. -/
namespace Go.Proofs.YtjnpnakcmjndiaaGreatDoor
open Go Go.Ab
attribute [local irreducible] V AOps DOps Gh Eff PCallsH IntKind.wrap
set_option maxRecDepth 4000

noncomputable def L_joinorder_Validate (gA : LJoinorderGraph) : Option (Int) :=
  letP (
    cond (decide ((gA.sizes.length : Int) < (1 : Int)))
      (true)
      (cond (decide ((gA.sizes.length : Int) > (8 : Int)))
        (true)
        ((decide ((gA.selectivities.length : Int) > (40 : Int)))))) fun (t1 : Bool) =>
  cond t1
    (some 2)
    (bindP (rangeM (σ := Unit) (ρ := (Int)) (fun (_ : Nat) (x2 : Int) (_ : Unit) =>
      cond (decide (x2 < (0 : Int)))
        (some (.ret 1))
        (cond (decide (x2 > (1073741824 : Int)))
          (some (.ret 1))
          (some (.next ())))) 0 gA.sizes ()) fun fl2 => fl2.thenR fun (_ : Unit) =>
    bindP (rangeM (σ := Unit) (ρ := (Int)) (fun (_ : Nat) (x3 : LJoinorderSelectivity) (_ : Unit) =>
      cond (decide (x3.a < (0 : Int)))
        (some (.ret 1))
        (cond (decide (x3.a ≥ x3.b))
          (some (.ret 1))
          (cond (decide (x3.b ≥ (gA.sizes.length : Int)))
            (some (.ret 1))
            (cond (decide (x3.divisor < (1 : Int)))
              (some (.ret 1))
              (cond (decide (x3.divisor > (1073741824 : Int)))
                (some (.ret 1))
                (some (.next ()))))))) 0 gA.selectivities ()) fun fl3 => fl3.thenR fun (_ : Unit) =>
    some 0)

set_option maxHeartbeats 4000000 in
theorem W_joinorder_Validate (gA : LJoinorderGraph) (r : Int) (H : L_joinorder_Validate gA = some r) :
    PFun Tryz.prog 21 [(.agg (encJoinorderGraph gA))] (pint r) := by
  unfold L_joinorder_Validate at H
  refine PCallsH.intro Tryz.func21 rfl Tryz.ntmps21 rfl ?_
  refine V.seq ?_
  refine V.region ?_
  refine AOps.boxF rfl rfl rfl rfl rfl rfl ?_
  refine AOps.q tt_ok rfl ?_
  refine AOps.nil ?_
  iterate 2 refine V.seq ?_
  obtain ⟨fl1, H1, Hp1⟩ := letE H
  refine V.cut (τ := Bool) (γ := Unit) (fun t1 g1 => ⟨73, upd (upd (fun _ => .any) 22 (pbool t1)) 1 (.ptr [(.list 3 (gA.sizes.map rInt)), (.list 63 (gA.selectivities.map encJoinorderSelectivity))]), fun _ => none, fun _ => none⟩) (fun t => t = fl1) ?_ (fun t1 g1 hn1 => ?_)
  · have H := H1
    refine V.region ?_
    iterate 2 refine AOps.q tt_ok rfl ?_
    refine AOps.lenL tt_ok rfl rfl rfl rfl rfl (List.length_map _) rfl ?_
    iterate 2 refine AOps.q tt_ok rfl ?_
    refine AOps.sH rfl rfl rfl H (fun H => ?_) (fun H => ?_)
    · refine AOps.q tt_ok rfl ?_
      iterate 10 refine AOps.q tt_ok rfl ?_
      refine AOps.nil ?_
      subst H
      refine V.at true () rfl (Gh.le (SLe.cons (PLe.of_eq rfl) (SLe.cons (PLe.of_eq rfl) SLe.nil)) BLe.nil OLe.nil)
    iterate 2 refine AOps.q tt_ok rfl ?_
    refine AOps.lenL tt_ok rfl rfl rfl rfl rfl (List.length_map _) rfl ?_
    iterate 3 refine AOps.q tt_ok rfl ?_
    refine AOps.sH rfl rfl rfl H (fun H => ?_) (fun H => ?_)
    · refine AOps.q tt_ok rfl ?_
      iterate 4 refine AOps.q tt_ok rfl ?_
      refine AOps.nil ?_
      subst H
      refine V.at true () rfl (Gh.le (SLe.cons (PLe.of_eq rfl) (SLe.cons (PLe.of_eq rfl) SLe.nil)) BLe.nil OLe.nil)
    iterate 2 refine AOps.q tt_ok rfl ?_
    refine AOps.lenL tt_ok rfl rfl rfl rfl rfl (List.length_map _) rfl ?_
    iterate 2 refine AOps.q tt_ok rfl ?_
    refine AOps.nil ?_
    subst H
    refine V.at (decide ((gA.selectivities.length : Int) > (40 : Int))) () rfl (Gh.le (SLe.cons (PLe.of_eq rfl) (SLe.cons (PLe.of_eq rfl) SLe.nil)) BLe.nil OLe.nil)
  subst hn1
  have H := Hp1
  refine V.cH rfl H (fun H => ?_) (fun H => ?_)
  · refine V.seq ?_
    refine V.region ?_
    refine AOps.q tt_ok rfl ?_
    refine AOps.nil ?_
    obtain rfl := someE H
    refine V.retP tt_ok rfl (ps := [(pint 2)]) ⟨_, _, rfl, rfl, rfl⟩ (PLe.of_eq rfl)
  refine V.skip ?_
  iterate 2 refine V.seq ?_
  refine V.region ?_
  iterate 2 refine AOps.q tt_ok rfl ?_
  refine AOps.lenL tt_ok rfl rfl rfl rfl rfl (List.length_map _) rfl ?_
  refine AOps.q tt_ok rfl ?_
  refine AOps.nil ?_
  obtain ⟨fl2, H2, Hp2⟩ := bindE H
  refine V.lenF tt_ok 24 rfl rfl (fun hz2 _ => ?_)
  rw [List.length_map] at hz2
  refine V.cut (τ := Unit) (γ := Unit) (fun s2 g2 => ⟨73, upd (fun _ => .any) 1 (.ptr [(.list 3 (gA.sizes.map rInt)), (.list 63 (gA.selectivities.map encJoinorderSelectivity))]), fun _ => none, fun _ => none⟩) (fun t => fl2 = .next t) ?_ (fun s2 g2 hn2 => ?_)
  · refine V.block ?_
    refine V.rangeL (fun j2 s2 g2 => ⟨73, upd (upd (upd (upd (fun _ => .any) 26 (pint (j2 : Int))) 25 (pint (gA.sizes.length : Int))) 24 (.list 3 (gA.sizes.map rInt))) 1 (.ptr [(.list 3 (gA.sizes.map rInt)), (.list 63 (gA.selectivities.map encJoinorderSelectivity))]), fun _ => none, fun _ => none⟩) () H2 (Gh.le (SLe.cons (PLe.of_eq rfl) (SLe.cons (PLe.of_eq rfl) (SLe.cons (PLe.of_eq rfl) (SLe.cons (PLe.of_eq rfl) SLe.nil)))) BLe.nil OLe.nil) (fun j2 s2 g2 hj2 hr2 => ?_)
    refine V.seq ?_
    refine V.region ?_
    refine AOps.q tt_ok rfl ?_
    refine AOps.nil ?_
    refine V.seq ?_
    refine V.cond rfl (fun h => ?_) (fun h => ?_)
    · have hl2 := rowsLt h
      obtain ⟨x2, fb2, hx2, H, hg2⟩ := rangeM_cons hl2 hr2
      refine V.skip ?_
      refine V.seq ?_
      refine V.block ?_
      refine V.seq ?_
      refine V.region ?_
      refine AOps.idx tt_ok rfl rfl rfl rfl rfl rfl (Int.natCast_nonneg j2) (rowsGet (fun _ => rfl) hx2) rfl ?_
      iterate 2 refine AOps.q tt_ok rfl ?_
      refine AOps.nil ?_
      refine V.seq ?_
      refine V.region ?_
      iterate 3 refine AOps.q tt_ok rfl ?_
      refine AOps.sH rfl rfl rfl H (fun H => ?_) (fun H => ?_)
      · refine AOps.q tt_ok rfl ?_
        iterate 2 refine AOps.q tt_ok rfl ?_
        refine AOps.nil ?_
        refine V.condT rfl ?_
        refine V.seq ?_
        refine V.region ?_
        refine AOps.q tt_ok rfl ?_
        refine AOps.nil ?_
        obtain rfl := someE H
        have e2 : fl2 = .ret _ := hg2
        subst e2
        obtain rfl := thenR_ret Hp2
        refine V.retP tt_ok rfl (ps := [(pint 1)]) ⟨_, _, rfl, rfl, rfl⟩ (PLe.of_eq rfl)
      iterate 3 refine AOps.q tt_ok rfl ?_
      refine AOps.nil ?_
      refine V.cH rfl H (fun H => ?_) (fun H => ?_)
      · refine V.seq ?_
        refine V.region ?_
        refine AOps.q tt_ok rfl ?_
        refine AOps.nil ?_
        obtain rfl := someE H
        have e2 : fl2 = .ret _ := hg2
        subst e2
        obtain rfl := thenR_ret Hp2
        refine V.retP tt_ok rfl (ps := [(pint 1)]) ⟨_, _, rfl, rfl, rfl⟩ (PLe.of_eq rfl)
      refine V.skip ?_
      refine V.blk ?_
      refine V.region ?_
      iterate 2 refine AOps.q tt_ok rfl ?_
      refine AOps.nil ?_
      obtain rfl := someE H
      refine V.againL () () ⟨hl2, hg2⟩ (Gh.le (SLe.cons (PLe.of_eq rfl) (SLe.cons (PLe.of_eq rfl) (SLe.cons (PLe.of_eq rfl) (SLe.cons (PLe.of_eq (pint_succ (by omega))) SLe.nil)))) BLe.nil OLe.nil)
    have hn2 := rangeM_done (rowsGe h) hr2
    refine V.exit rfl ?_
    refine V.at s2 g2 hn2 (Gh.le (SLe.cons (PLe.of_eq rfl) SLe.nil) BLe.nil OLe.nil)
  have H := thenR_next hn2 Hp2
  iterate 2 refine V.seq ?_
  refine V.region ?_
  iterate 2 refine AOps.q tt_ok rfl ?_
  refine AOps.lenL tt_ok rfl rfl rfl rfl rfl (List.length_map _) rfl ?_
  refine AOps.q tt_ok rfl ?_
  refine AOps.nil ?_
  obtain ⟨fl3, H3, Hp3⟩ := bindE H
  refine V.lenF tt_ok 38 rfl rfl (fun hz3 _ => ?_)
  rw [List.length_map] at hz3
  refine V.cut (τ := Unit) (γ := Unit) (fun s3 g3 => ⟨73, fun _ => .any, fun _ => none, fun _ => none⟩) (fun t => fl3 = .next t) ?_ (fun s3 g3 hn3 => ?_)
  · refine V.block ?_
    refine V.rangeL (fun j3 s3 g3 => ⟨73, upd (upd (upd (upd (fun _ => .any) 40 (pint (j3 : Int))) 39 (pint (gA.selectivities.length : Int))) 38 (.list 63 (gA.selectivities.map encJoinorderSelectivity))) 1 (.ptr [(.list 3 (gA.sizes.map rInt)), (.list 63 (gA.selectivities.map encJoinorderSelectivity))]), fun _ => none, fun _ => none⟩) () H3 (Gh.le (SLe.cons (PLe.of_eq rfl) (SLe.cons (PLe.of_eq rfl) (SLe.cons (PLe.of_eq rfl) (SLe.cons (PLe.of_eq rfl) SLe.nil)))) BLe.nil OLe.nil) (fun j3 s3 g3 hj3 hr3 => ?_)
    refine V.seq ?_
    refine V.region ?_
    refine AOps.q tt_ok rfl ?_
    refine AOps.nil ?_
    refine V.seq ?_
    refine V.cond rfl (fun h => ?_) (fun h => ?_)
    · have hl3 := rowsLt h
      obtain ⟨x3, fb3, hx3, H, hg3⟩ := rangeM_cons hl3 hr3
      refine V.skip ?_
      refine V.seq ?_
      refine V.block ?_
      refine V.seq ?_
      refine V.region ?_
      refine AOps.idx tt_ok rfl rfl rfl rfl rfl rfl (Int.natCast_nonneg j3) (rowsGet (fun _ => rfl) hx3) rfl ?_
      refine AOps.q tt_ok rfl ?_
      refine AOps.alloc tt_ok rfl rfl rfl rfl rfl rfl fun b6 => ?_
      refine AOps.storeBox tt_ok rfl rfl rfl rfl rfl rfl rfl rfl rfl rfl rfl ?_
      refine AOps.nil ?_
      refine V.seq ?_
      refine V.region ?_
      refine AOps.q tt_ok rfl ?_
      refine AOps.loadBox tt_ok rfl rfl rfl rfl rfl rfl rfl ?_
      iterate 2 refine AOps.q tt_ok rfl ?_
      refine AOps.sH rfl rfl rfl H (fun H => ?_) (fun H => ?_)
      · refine AOps.q tt_ok rfl ?_
        iterate 23 refine AOps.q tt_ok rfl ?_
        refine AOps.nil ?_
        refine V.condT rfl ?_
        refine V.seq ?_
        refine V.region ?_
        refine AOps.q tt_ok rfl ?_
        refine AOps.nil ?_
        obtain rfl := someE H
        have e3 : fl3 = .ret _ := hg3
        subst e3
        obtain rfl := thenR_ret Hp3
        refine V.retP tt_ok rfl (ps := [(pint 1)]) ⟨_, _, rfl, rfl, rfl⟩ (PLe.of_eq rfl)
      refine AOps.q tt_ok rfl ?_
      refine AOps.loadBox tt_ok rfl rfl rfl rfl rfl rfl rfl ?_
      refine AOps.q tt_ok rfl ?_
      refine AOps.loadBox tt_ok rfl rfl rfl rfl rfl rfl rfl ?_
      iterate 3 refine AOps.q tt_ok rfl ?_
      refine AOps.sH rfl rfl rfl H (fun H => ?_) (fun H => ?_)
      · refine AOps.q tt_ok rfl ?_
        iterate 16 refine AOps.q tt_ok rfl ?_
        refine AOps.nil ?_
        refine V.condT rfl ?_
        refine V.seq ?_
        refine V.region ?_
        refine AOps.q tt_ok rfl ?_
        refine AOps.nil ?_
        obtain rfl := someE H
        have e3 : fl3 = .ret _ := hg3
        subst e3
        obtain rfl := thenR_ret Hp3
        refine V.retP tt_ok rfl (ps := [(pint 1)]) ⟨_, _, rfl, rfl, rfl⟩ (PLe.of_eq rfl)
      refine AOps.q tt_ok rfl ?_
      refine AOps.loadBox tt_ok rfl rfl rfl rfl rfl rfl rfl ?_
      iterate 2 refine AOps.q tt_ok rfl ?_
      refine AOps.lenL tt_ok rfl rfl rfl rfl rfl (List.length_map _) rfl ?_
      iterate 3 refine AOps.q tt_ok rfl ?_
      refine AOps.sH rfl rfl rfl H (fun H => ?_) (fun H => ?_)
      · refine AOps.q tt_ok rfl ?_
        iterate 8 refine AOps.q tt_ok rfl ?_
        refine AOps.nil ?_
        refine V.condT rfl ?_
        refine V.seq ?_
        refine V.region ?_
        refine AOps.q tt_ok rfl ?_
        refine AOps.nil ?_
        obtain rfl := someE H
        have e3 : fl3 = .ret _ := hg3
        subst e3
        obtain rfl := thenR_ret Hp3
        refine V.retP tt_ok rfl (ps := [(pint 1)]) ⟨_, _, rfl, rfl, rfl⟩ (PLe.of_eq rfl)
      refine AOps.q tt_ok rfl ?_
      refine AOps.loadBox tt_ok rfl rfl rfl rfl rfl rfl rfl ?_
      iterate 3 refine AOps.q tt_ok rfl ?_
      refine AOps.sH rfl rfl rfl H (fun H => ?_) (fun H => ?_)
      · refine AOps.q tt_ok rfl ?_
        iterate 3 refine AOps.q tt_ok rfl ?_
        refine AOps.nil ?_
        refine V.condT rfl ?_
        refine V.seq ?_
        refine V.region ?_
        refine AOps.q tt_ok rfl ?_
        refine AOps.nil ?_
        obtain rfl := someE H
        have e3 : fl3 = .ret _ := hg3
        subst e3
        obtain rfl := thenR_ret Hp3
        refine V.retP tt_ok rfl (ps := [(pint 1)]) ⟨_, _, rfl, rfl, rfl⟩ (PLe.of_eq rfl)
      refine AOps.q tt_ok rfl ?_
      refine AOps.loadBox tt_ok rfl rfl rfl rfl rfl rfl rfl ?_
      iterate 2 refine AOps.q tt_ok rfl ?_
      refine AOps.nil ?_
      refine V.cH rfl H (fun H => ?_) (fun H => ?_)
      · refine V.seq ?_
        refine V.region ?_
        refine AOps.q tt_ok rfl ?_
        refine AOps.nil ?_
        obtain rfl := someE H
        have e3 : fl3 = .ret _ := hg3
        subst e3
        obtain rfl := thenR_ret Hp3
        refine V.retP tt_ok rfl (ps := [(pint 1)]) ⟨_, _, rfl, rfl, rfl⟩ (PLe.of_eq rfl)
      refine V.skip ?_
      refine V.blk ?_
      refine V.region ?_
      iterate 2 refine AOps.q tt_ok rfl ?_
      refine AOps.nil ?_
      obtain rfl := someE H
      refine V.againL () () ⟨hl3, hg3⟩ (Gh.le (SLe.cons (PLe.of_eq rfl) (SLe.cons (PLe.of_eq rfl) (SLe.cons (PLe.of_eq rfl) (SLe.cons (PLe.of_eq (pint_succ (by omega))) SLe.nil)))) BLe.nil OLe.nil)
    have hn3 := rangeM_done (rowsGe h) hr3
    refine V.exit rfl ?_
    refine V.at s3 g3 hn3 (Gh.le SLe.nil BLe.nil OLe.nil)
  have H := thenR_next hn3 Hp3
  refine V.seq ?_
  refine V.region ?_
  refine AOps.q tt_ok rfl ?_
  refine AOps.nil ?_
  obtain rfl := someE H
  refine V.retP tt_ok rfl (ps := [(pint 0)]) ⟨_, _, rfl, rfl, rfl⟩ (PLe.of_eq rfl)

noncomputable def L_math_bits_OnesCount32 (x : Int) : Option (Int) :=
  bindP (getI ([0, 1, 1, 2, 1, 2, 2, 3, 1, 2, 2, 3, 2, 3, 3, 4, 1, 2, 2, 3, 2, 3, 3, 4, 2, 3, 3, 4, 3, 4, 4, 5, 1, 2, 2, 3, 2, 3, 3, 4, 2, 3, 3, 4, 3, 4, 4, 5, 2, 3, 3, 4, 3, 4, 4, 5, 3, 4, 4, 5, 4, 5, 5, 6, 1, 2, 2, 3, 2, 3, 3, 4, 2, 3, 3, 4, 3, 4, 4, 5, 2, 3, 3, 4, 3, 4, 4, 5, 3, 4, 4, 5, 4, 5, 5, 6, 2, 3, 3, 4, 3, 4, 4, 5, 3, 4, 4, 5, 4, 5, 5, 6, 3, 4, 4, 5, 4, 5, 5, 6, 4, 5, 5, 6, 5, 6, 6, 7, 1, 2, 2, 3, 2, 3, 3, 4, 2, 3, 3, 4, 3, 4, 4, 5, 2, 3, 3, 4, 3, 4, 4, 5, 3, 4, 4, 5, 4, 5, 5, 6, 2, 3, 3, 4, 3, 4, 4, 5, 3, 4, 4, 5, 4, 5, 5, 6, 3, 4, 4, 5, 4, 5, 5, 6, 4, 5, 5, 6, 5, 6, 6, 7, 2, 3, 3, 4, 3, 4, 4, 5, 3, 4, 4, 5, 4, 5, 5, 6, 3, 4, 4, 5, 4, 5, 5, 6, 4, 5, 5, 6, 5, 6, 6, 7, 3, 4, 4, 5, 4, 5, 5, 6, 4, 5, 5, 6, 5, 6, 6, 7, 4, 5, 5, 6, 5, 6, 6, 7, 5, 6, 6, 7, 6, 7, 7, 8] : List UInt8) (Int.fdiv x (2 ^ 24))) fun (x5 : UInt8) =>
  bindP (getI ([0, 1, 1, 2, 1, 2, 2, 3, 1, 2, 2, 3, 2, 3, 3, 4, 1, 2, 2, 3, 2, 3, 3, 4, 2, 3, 3, 4, 3, 4, 4, 5, 1, 2, 2, 3, 2, 3, 3, 4, 2, 3, 3, 4, 3, 4, 4, 5, 2, 3, 3, 4, 3, 4, 4, 5, 3, 4, 4, 5, 4, 5, 5, 6, 1, 2, 2, 3, 2, 3, 3, 4, 2, 3, 3, 4, 3, 4, 4, 5, 2, 3, 3, 4, 3, 4, 4, 5, 3, 4, 4, 5, 4, 5, 5, 6, 2, 3, 3, 4, 3, 4, 4, 5, 3, 4, 4, 5, 4, 5, 5, 6, 3, 4, 4, 5, 4, 5, 5, 6, 4, 5, 5, 6, 5, 6, 6, 7, 1, 2, 2, 3, 2, 3, 3, 4, 2, 3, 3, 4, 3, 4, 4, 5, 2, 3, 3, 4, 3, 4, 4, 5, 3, 4, 4, 5, 4, 5, 5, 6, 2, 3, 3, 4, 3, 4, 4, 5, 3, 4, 4, 5, 4, 5, 5, 6, 3, 4, 4, 5, 4, 5, 5, 6, 4, 5, 5, 6, 5, 6, 6, 7, 2, 3, 3, 4, 3, 4, 4, 5, 3, 4, 4, 5, 4, 5, 5, 6, 3, 4, 4, 5, 4, 5, 5, 6, 4, 5, 5, 6, 5, 6, 6, 7, 3, 4, 4, 5, 4, 5, 5, 6, 4, 5, 5, 6, 5, 6, 6, 7, 4, 5, 5, 6, 5, 6, 6, 7, 5, 6, 6, 7, 6, 7, 7, 8] : List UInt8) (andI .u32 (Int.fdiv x (2 ^ 16)) (255 : Int))) fun (x9 : UInt8) =>
  bindP (getI ([0, 1, 1, 2, 1, 2, 2, 3, 1, 2, 2, 3, 2, 3, 3, 4, 1, 2, 2, 3, 2, 3, 3, 4, 2, 3, 3, 4, 3, 4, 4, 5, 1, 2, 2, 3, 2, 3, 3, 4, 2, 3, 3, 4, 3, 4, 4, 5, 2, 3, 3, 4, 3, 4, 4, 5, 3, 4, 4, 5, 4, 5, 5, 6, 1, 2, 2, 3, 2, 3, 3, 4, 2, 3, 3, 4, 3, 4, 4, 5, 2, 3, 3, 4, 3, 4, 4, 5, 3, 4, 4, 5, 4, 5, 5, 6, 2, 3, 3, 4, 3, 4, 4, 5, 3, 4, 4, 5, 4, 5, 5, 6, 3, 4, 4, 5, 4, 5, 5, 6, 4, 5, 5, 6, 5, 6, 6, 7, 1, 2, 2, 3, 2, 3, 3, 4, 2, 3, 3, 4, 3, 4, 4, 5, 2, 3, 3, 4, 3, 4, 4, 5, 3, 4, 4, 5, 4, 5, 5, 6, 2, 3, 3, 4, 3, 4, 4, 5, 3, 4, 4, 5, 4, 5, 5, 6, 3, 4, 4, 5, 4, 5, 5, 6, 4, 5, 5, 6, 5, 6, 6, 7, 2, 3, 3, 4, 3, 4, 4, 5, 3, 4, 4, 5, 4, 5, 5, 6, 3, 4, 4, 5, 4, 5, 5, 6, 4, 5, 5, 6, 5, 6, 6, 7, 3, 4, 4, 5, 4, 5, 5, 6, 4, 5, 5, 6, 5, 6, 6, 7, 4, 5, 5, 6, 5, 6, 6, 7, 5, 6, 6, 7, 6, 7, 7, 8] : List UInt8) (andI .u32 (Int.fdiv x (2 ^ 8)) (255 : Int))) fun (x14 : UInt8) =>
  bindP (getI ([0, 1, 1, 2, 1, 2, 2, 3, 1, 2, 2, 3, 2, 3, 3, 4, 1, 2, 2, 3, 2, 3, 3, 4, 2, 3, 3, 4, 3, 4, 4, 5, 1, 2, 2, 3, 2, 3, 3, 4, 2, 3, 3, 4, 3, 4, 4, 5, 2, 3, 3, 4, 3, 4, 4, 5, 3, 4, 4, 5, 4, 5, 5, 6, 1, 2, 2, 3, 2, 3, 3, 4, 2, 3, 3, 4, 3, 4, 4, 5, 2, 3, 3, 4, 3, 4, 4, 5, 3, 4, 4, 5, 4, 5, 5, 6, 2, 3, 3, 4, 3, 4, 4, 5, 3, 4, 4, 5, 4, 5, 5, 6, 3, 4, 4, 5, 4, 5, 5, 6, 4, 5, 5, 6, 5, 6, 6, 7, 1, 2, 2, 3, 2, 3, 3, 4, 2, 3, 3, 4, 3, 4, 4, 5, 2, 3, 3, 4, 3, 4, 4, 5, 3, 4, 4, 5, 4, 5, 5, 6, 2, 3, 3, 4, 3, 4, 4, 5, 3, 4, 4, 5, 4, 5, 5, 6, 3, 4, 4, 5, 4, 5, 5, 6, 4, 5, 5, 6, 5, 6, 6, 7, 2, 3, 3, 4, 3, 4, 4, 5, 3, 4, 4, 5, 4, 5, 5, 6, 3, 4, 4, 5, 4, 5, 5, 6, 4, 5, 5, 6, 5, 6, 6, 7, 3, 4, 4, 5, 4, 5, 5, 6, 4, 5, 5, 6, 5, 6, 6, 7, 4, 5, 5, 6, 5, 6, 6, 7, 5, 6, 6, 7, 6, 7, 7, 8] : List UInt8) (andI .u32 x (255 : Int))) fun (x18 : UInt8) =>
  some (IntKind.i64.wrap (IntKind.u8.wrap ((IntKind.u8.wrap ((IntKind.u8.wrap ((x5.toNat : Int) + (x9.toNat : Int))) + (x14.toNat : Int))) + (x18.toNat : Int))))

set_option maxHeartbeats 4000000 in
theorem W_math_bits_OnesCount32 (x : Int) (r : Int) (H : L_math_bits_OnesCount32 x = some r) :
    PFun Tryz.prog 114 [(.val (.int .u32 x))] (pint r) := by
  unfold L_math_bits_OnesCount32 at H
  refine PCallsH.intro Tryz.func114 rfl Tryz.ntmps114 rfl ?_
  refine V.seq ?_
  refine V.region ?_
  refine AOps.q tt_ok rfl ?_
  refine AOps.nil ?_
  refine V.seq ?_
  refine V.draw tt_ok mixed_ok ⟨false, false, []⟩ [0, 1, 2, 3, 4, 5, 6, 7, 8, 9, 10, 11, 12, 13, 14, 15, 16, 17, 18] rfl (by decide +kernel) rfl ?_
  refine DOps.q rfl ?_
  refine DOps.shr (m := 24) rfl rfl rfl rfl rfl (by decide) rfl rfl ?_
  obtain ⟨x5, k5, H⟩ := getE H
  refine DOps.idxS rfl rfl rfl rfl rfl rfl rfl k5.1 k5.2 rfl ?_
  refine DOps.q rfl ?_
  refine DOps.shr (m := 16) rfl rfl rfl rfl rfl (by decide) rfl rfl ?_
  refine DOps.and rfl rfl rfl rfl rfl rfl ?_
  obtain ⟨x9, k9, H⟩ := getE H
  refine DOps.idxS rfl rfl rfl rfl rfl rfl rfl k9.1 k9.2 rfl ?_
  iterate 2 refine DOps.q rfl ?_
  refine DOps.shr (m := 8) rfl rfl rfl rfl rfl (by decide) rfl rfl ?_
  refine DOps.and rfl rfl rfl rfl rfl rfl ?_
  obtain ⟨x14, k14, H⟩ := getE H
  refine DOps.idxS rfl rfl rfl rfl rfl rfl rfl k14.1 k14.2 rfl ?_
  iterate 2 refine DOps.q rfl ?_
  refine DOps.and rfl rfl rfl rfl rfl rfl ?_
  obtain ⟨x18, k18, H⟩ := getE H
  refine DOps.idxS rfl rfl rfl rfl rfl rfl rfl k18.1 k18.2 rfl ?_
  iterate 3 refine DOps.q rfl ?_
  refine DOps.nil ?_
  obtain rfl := someE H
  refine V.retP tt_ok rfl (ps := [(pint (IntKind.i64.wrap (IntKind.u8.wrap ((IntKind.u8.wrap ((IntKind.u8.wrap ((x5.toNat : Int) + (x9.toNat : Int))) + (x14.toNat : Int))) + (x18.toNat : Int)))))]) ⟨_, _, rfl, rfl, rfl⟩ (PLe.of_eq rfl)

noncomputable def L_math_bits_OnesCount64 (x : Int) : Int :=
  (andI .i64 (IntKind.i64.wrap (IntKind.u64.wrap ((IntKind.u64.wrap ((IntKind.u64.wrap ((andI .u64 (IntKind.u64.wrap ((Int.fdiv (IntKind.u64.wrap ((andI .u64 (Int.fdiv (IntKind.u64.wrap ((andI .u64 (Int.fdiv x (2 ^ 1)) (6148914691236517205 : Int)) + (andI .u64 x (6148914691236517205 : Int)))) (2 ^ 2)) (3689348814741910323 : Int)) + (andI .u64 (IntKind.u64.wrap ((andI .u64 (Int.fdiv x (2 ^ 1)) (6148914691236517205 : Int)) + (andI .u64 x (6148914691236517205 : Int)))) (3689348814741910323 : Int)))) (2 ^ 4)) + (IntKind.u64.wrap ((andI .u64 (Int.fdiv (IntKind.u64.wrap ((andI .u64 (Int.fdiv x (2 ^ 1)) (6148914691236517205 : Int)) + (andI .u64 x (6148914691236517205 : Int)))) (2 ^ 2)) (3689348814741910323 : Int)) + (andI .u64 (IntKind.u64.wrap ((andI .u64 (Int.fdiv x (2 ^ 1)) (6148914691236517205 : Int)) + (andI .u64 x (6148914691236517205 : Int)))) (3689348814741910323 : Int)))))) (1085102592571150095 : Int)) + (Int.fdiv (andI .u64 (IntKind.u64.wrap ((Int.fdiv (IntKind.u64.wrap ((andI .u64 (Int.fdiv (IntKind.u64.wrap ((andI .u64 (Int.fdiv x (2 ^ 1)) (6148914691236517205 : Int)) + (andI .u64 x (6148914691236517205 : Int)))) (2 ^ 2)) (3689348814741910323 : Int)) + (andI .u64 (IntKind.u64.wrap ((andI .u64 (Int.fdiv x (2 ^ 1)) (6148914691236517205 : Int)) + (andI .u64 x (6148914691236517205 : Int)))) (3689348814741910323 : Int)))) (2 ^ 4)) + (IntKind.u64.wrap ((andI .u64 (Int.fdiv (IntKind.u64.wrap ((andI .u64 (Int.fdiv x (2 ^ 1)) (6148914691236517205 : Int)) + (andI .u64 x (6148914691236517205 : Int)))) (2 ^ 2)) (3689348814741910323 : Int)) + (andI .u64 (IntKind.u64.wrap ((andI .u64 (Int.fdiv x (2 ^ 1)) (6148914691236517205 : Int)) + (andI .u64 x (6148914691236517205 : Int)))) (3689348814741910323 : Int)))))) (1085102592571150095 : Int)) (2 ^ 8)))) + (Int.fdiv (IntKind.u64.wrap ((andI .u64 (IntKind.u64.wrap ((Int.fdiv (IntKind.u64.wrap ((andI .u64 (Int.fdiv (IntKind.u64.wrap ((andI .u64 (Int.fdiv x (2 ^ 1)) (6148914691236517205 : Int)) + (andI .u64 x (6148914691236517205 : Int)))) (2 ^ 2)) (3689348814741910323 : Int)) + (andI .u64 (IntKind.u64.wrap ((andI .u64 (Int.fdiv x (2 ^ 1)) (6148914691236517205 : Int)) + (andI .u64 x (6148914691236517205 : Int)))) (3689348814741910323 : Int)))) (2 ^ 4)) + (IntKind.u64.wrap ((andI .u64 (Int.fdiv (IntKind.u64.wrap ((andI .u64 (Int.fdiv x (2 ^ 1)) (6148914691236517205 : Int)) + (andI .u64 x (6148914691236517205 : Int)))) (2 ^ 2)) (3689348814741910323 : Int)) + (andI .u64 (IntKind.u64.wrap ((andI .u64 (Int.fdiv x (2 ^ 1)) (6148914691236517205 : Int)) + (andI .u64 x (6148914691236517205 : Int)))) (3689348814741910323 : Int)))))) (1085102592571150095 : Int)) + (Int.fdiv (andI .u64 (IntKind.u64.wrap ((Int.fdiv (IntKind.u64.wrap ((andI .u64 (Int.fdiv (IntKind.u64.wrap ((andI .u64 (Int.fdiv x (2 ^ 1)) (6148914691236517205 : Int)) + (andI .u64 x (6148914691236517205 : Int)))) (2 ^ 2)) (3689348814741910323 : Int)) + (andI .u64 (IntKind.u64.wrap ((andI .u64 (Int.fdiv x (2 ^ 1)) (6148914691236517205 : Int)) + (andI .u64 x (6148914691236517205 : Int)))) (3689348814741910323 : Int)))) (2 ^ 4)) + (IntKind.u64.wrap ((andI .u64 (Int.fdiv (IntKind.u64.wrap ((andI .u64 (Int.fdiv x (2 ^ 1)) (6148914691236517205 : Int)) + (andI .u64 x (6148914691236517205 : Int)))) (2 ^ 2)) (3689348814741910323 : Int)) + (andI .u64 (IntKind.u64.wrap ((andI .u64 (Int.fdiv x (2 ^ 1)) (6148914691236517205 : Int)) + (andI .u64 x (6148914691236517205 : Int)))) (3689348814741910323 : Int)))))) (1085102592571150095 : Int)) (2 ^ 8)))) (2 ^ 16)))) + (Int.fdiv (IntKind.u64.wrap ((IntKind.u64.wrap ((andI .u64 (IntKind.u64.wrap ((Int.fdiv (IntKind.u64.wrap ((andI .u64 (Int.fdiv (IntKind.u64.wrap ((andI .u64 (Int.fdiv x (2 ^ 1)) (6148914691236517205 : Int)) + (andI .u64 x (6148914691236517205 : Int)))) (2 ^ 2)) (3689348814741910323 : Int)) + (andI .u64 (IntKind.u64.wrap ((andI .u64 (Int.fdiv x (2 ^ 1)) (6148914691236517205 : Int)) + (andI .u64 x (6148914691236517205 : Int)))) (3689348814741910323 : Int)))) (2 ^ 4)) + (IntKind.u64.wrap ((andI .u64 (Int.fdiv (IntKind.u64.wrap ((andI .u64 (Int.fdiv x (2 ^ 1)) (6148914691236517205 : Int)) + (andI .u64 x (6148914691236517205 : Int)))) (2 ^ 2)) (3689348814741910323 : Int)) + (andI .u64 (IntKind.u64.wrap ((andI .u64 (Int.fdiv x (2 ^ 1)) (6148914691236517205 : Int)) + (andI .u64 x (6148914691236517205 : Int)))) (3689348814741910323 : Int)))))) (1085102592571150095 : Int)) + (Int.fdiv (andI .u64 (IntKind.u64.wrap ((Int.fdiv (IntKind.u64.wrap ((andI .u64 (Int.fdiv (IntKind.u64.wrap ((andI .u64 (Int.fdiv x (2 ^ 1)) (6148914691236517205 : Int)) + (andI .u64 x (6148914691236517205 : Int)))) (2 ^ 2)) (3689348814741910323 : Int)) + (andI .u64 (IntKind.u64.wrap ((andI .u64 (Int.fdiv x (2 ^ 1)) (6148914691236517205 : Int)) + (andI .u64 x (6148914691236517205 : Int)))) (3689348814741910323 : Int)))) (2 ^ 4)) + (IntKind.u64.wrap ((andI .u64 (Int.fdiv (IntKind.u64.wrap ((andI .u64 (Int.fdiv x (2 ^ 1)) (6148914691236517205 : Int)) + (andI .u64 x (6148914691236517205 : Int)))) (2 ^ 2)) (3689348814741910323 : Int)) + (andI .u64 (IntKind.u64.wrap ((andI .u64 (Int.fdiv x (2 ^ 1)) (6148914691236517205 : Int)) + (andI .u64 x (6148914691236517205 : Int)))) (3689348814741910323 : Int)))))) (1085102592571150095 : Int)) (2 ^ 8)))) + (Int.fdiv (IntKind.u64.wrap ((andI .u64 (IntKind.u64.wrap ((Int.fdiv (IntKind.u64.wrap ((andI .u64 (Int.fdiv (IntKind.u64.wrap ((andI .u64 (Int.fdiv x (2 ^ 1)) (6148914691236517205 : Int)) + (andI .u64 x (6148914691236517205 : Int)))) (2 ^ 2)) (3689348814741910323 : Int)) + (andI .u64 (IntKind.u64.wrap ((andI .u64 (Int.fdiv x (2 ^ 1)) (6148914691236517205 : Int)) + (andI .u64 x (6148914691236517205 : Int)))) (3689348814741910323 : Int)))) (2 ^ 4)) + (IntKind.u64.wrap ((andI .u64 (Int.fdiv (IntKind.u64.wrap ((andI .u64 (Int.fdiv x (2 ^ 1)) (6148914691236517205 : Int)) + (andI .u64 x (6148914691236517205 : Int)))) (2 ^ 2)) (3689348814741910323 : Int)) + (andI .u64 (IntKind.u64.wrap ((andI .u64 (Int.fdiv x (2 ^ 1)) (6148914691236517205 : Int)) + (andI .u64 x (6148914691236517205 : Int)))) (3689348814741910323 : Int)))))) (1085102592571150095 : Int)) + (Int.fdiv (andI .u64 (IntKind.u64.wrap ((Int.fdiv (IntKind.u64.wrap ((andI .u64 (Int.fdiv (IntKind.u64.wrap ((andI .u64 (Int.fdiv x (2 ^ 1)) (6148914691236517205 : Int)) + (andI .u64 x (6148914691236517205 : Int)))) (2 ^ 2)) (3689348814741910323 : Int)) + (andI .u64 (IntKind.u64.wrap ((andI .u64 (Int.fdiv x (2 ^ 1)) (6148914691236517205 : Int)) + (andI .u64 x (6148914691236517205 : Int)))) (3689348814741910323 : Int)))) (2 ^ 4)) + (IntKind.u64.wrap ((andI .u64 (Int.fdiv (IntKind.u64.wrap ((andI .u64 (Int.fdiv x (2 ^ 1)) (6148914691236517205 : Int)) + (andI .u64 x (6148914691236517205 : Int)))) (2 ^ 2)) (3689348814741910323 : Int)) + (andI .u64 (IntKind.u64.wrap ((andI .u64 (Int.fdiv x (2 ^ 1)) (6148914691236517205 : Int)) + (andI .u64 x (6148914691236517205 : Int)))) (3689348814741910323 : Int)))))) (1085102592571150095 : Int)) (2 ^ 8)))) (2 ^ 16)))) (2 ^ 32))))) (127 : Int))

set_option maxHeartbeats 4000000 in
theorem W_math_bits_OnesCount64 (x : Int) :
    PFun Tryz.prog 115 [(.val (.int .u64 x))] (pint (L_math_bits_OnesCount64 x)) := by
  obtain ⟨r, H⟩ : ∃ r, L_math_bits_OnesCount64 x = r := ⟨_, rfl⟩
  rw [H]
  unfold L_math_bits_OnesCount64 at H
  refine PCallsH.intro Tryz.func115 rfl Tryz.ntmps115 rfl ?_
  refine V.seq ?_
  refine V.region ?_
  refine AOps.q tt_ok rfl ?_
  refine AOps.nil ?_
  refine V.seq ?_
  refine V.region ?_
  refine AOps.q tt_ok rfl ?_
  refine AOps.shr (m := 1) rfl rfl rfl rfl (by decide) rfl rfl ?_
  refine AOps.and rfl rfl rfl rfl rfl ?_
  refine AOps.q tt_ok rfl ?_
  refine AOps.and rfl rfl rfl rfl rfl ?_
  iterate 2 refine AOps.q tt_ok rfl ?_
  refine AOps.nil ?_
  refine V.seq ?_
  refine V.region ?_
  refine AOps.q tt_ok rfl ?_
  refine AOps.shr (m := 2) rfl rfl rfl rfl (by decide) rfl rfl ?_
  refine AOps.and rfl rfl rfl rfl rfl ?_
  refine AOps.q tt_ok rfl ?_
  refine AOps.and rfl rfl rfl rfl rfl ?_
  iterate 2 refine AOps.q tt_ok rfl ?_
  refine AOps.nil ?_
  refine V.seq ?_
  refine V.region ?_
  refine AOps.q tt_ok rfl ?_
  refine AOps.shr (m := 4) rfl rfl rfl rfl (by decide) rfl rfl ?_
  iterate 2 refine AOps.q tt_ok rfl ?_
  refine AOps.and rfl rfl rfl rfl rfl ?_
  refine AOps.q tt_ok rfl ?_
  refine AOps.nil ?_
  refine V.seq ?_
  refine V.region ?_
  iterate 2 refine AOps.q tt_ok rfl ?_
  refine AOps.shr (m := 8) rfl rfl rfl rfl (by decide) rfl rfl ?_
  iterate 2 refine AOps.q tt_ok rfl ?_
  refine AOps.nil ?_
  refine V.seq ?_
  refine V.region ?_
  iterate 2 refine AOps.q tt_ok rfl ?_
  refine AOps.shr (m := 16) rfl rfl rfl rfl (by decide) rfl rfl ?_
  iterate 2 refine AOps.q tt_ok rfl ?_
  refine AOps.nil ?_
  refine V.seq ?_
  refine V.region ?_
  iterate 2 refine AOps.q tt_ok rfl ?_
  refine AOps.shr (m := 32) rfl rfl rfl rfl (by decide) rfl rfl ?_
  iterate 2 refine AOps.q tt_ok rfl ?_
  refine AOps.nil ?_
  refine V.seq ?_
  refine V.region ?_
  iterate 2 refine AOps.q tt_ok rfl ?_
  refine AOps.and rfl rfl rfl rfl rfl ?_
  refine AOps.q tt_ok rfl ?_
  refine AOps.nil ?_
  subst H
  refine V.retP tt_ok rfl (ps := [(pint (andI .i64 (IntKind.i64.wrap (IntKind.u64.wrap ((IntKind.u64.wrap ((IntKind.u64.wrap ((andI .u64 (IntKind.u64.wrap ((Int.fdiv (IntKind.u64.wrap ((andI .u64 (Int.fdiv (IntKind.u64.wrap ((andI .u64 (Int.fdiv x (2 ^ 1)) (6148914691236517205 : Int)) + (andI .u64 x (6148914691236517205 : Int)))) (2 ^ 2)) (3689348814741910323 : Int)) + (andI .u64 (IntKind.u64.wrap ((andI .u64 (Int.fdiv x (2 ^ 1)) (6148914691236517205 : Int)) + (andI .u64 x (6148914691236517205 : Int)))) (3689348814741910323 : Int)))) (2 ^ 4)) + (IntKind.u64.wrap ((andI .u64 (Int.fdiv (IntKind.u64.wrap ((andI .u64 (Int.fdiv x (2 ^ 1)) (6148914691236517205 : Int)) + (andI .u64 x (6148914691236517205 : Int)))) (2 ^ 2)) (3689348814741910323 : Int)) + (andI .u64 (IntKind.u64.wrap ((andI .u64 (Int.fdiv x (2 ^ 1)) (6148914691236517205 : Int)) + (andI .u64 x (6148914691236517205 : Int)))) (3689348814741910323 : Int)))))) (1085102592571150095 : Int)) + (Int.fdiv (andI .u64 (IntKind.u64.wrap ((Int.fdiv (IntKind.u64.wrap ((andI .u64 (Int.fdiv (IntKind.u64.wrap ((andI .u64 (Int.fdiv x (2 ^ 1)) (6148914691236517205 : Int)) + (andI .u64 x (6148914691236517205 : Int)))) (2 ^ 2)) (3689348814741910323 : Int)) + (andI .u64 (IntKind.u64.wrap ((andI .u64 (Int.fdiv x (2 ^ 1)) (6148914691236517205 : Int)) + (andI .u64 x (6148914691236517205 : Int)))) (3689348814741910323 : Int)))) (2 ^ 4)) + (IntKind.u64.wrap ((andI .u64 (Int.fdiv (IntKind.u64.wrap ((andI .u64 (Int.fdiv x (2 ^ 1)) (6148914691236517205 : Int)) + (andI .u64 x (6148914691236517205 : Int)))) (2 ^ 2)) (3689348814741910323 : Int)) + (andI .u64 (IntKind.u64.wrap ((andI .u64 (Int.fdiv x (2 ^ 1)) (6148914691236517205 : Int)) + (andI .u64 x (6148914691236517205 : Int)))) (3689348814741910323 : Int)))))) (1085102592571150095 : Int)) (2 ^ 8)))) + (Int.fdiv (IntKind.u64.wrap ((andI .u64 (IntKind.u64.wrap ((Int.fdiv (IntKind.u64.wrap ((andI .u64 (Int.fdiv (IntKind.u64.wrap ((andI .u64 (Int.fdiv x (2 ^ 1)) (6148914691236517205 : Int)) + (andI .u64 x (6148914691236517205 : Int)))) (2 ^ 2)) (3689348814741910323 : Int)) + (andI .u64 (IntKind.u64.wrap ((andI .u64 (Int.fdiv x (2 ^ 1)) (6148914691236517205 : Int)) + (andI .u64 x (6148914691236517205 : Int)))) (3689348814741910323 : Int)))) (2 ^ 4)) + (IntKind.u64.wrap ((andI .u64 (Int.fdiv (IntKind.u64.wrap ((andI .u64 (Int.fdiv x (2 ^ 1)) (6148914691236517205 : Int)) + (andI .u64 x (6148914691236517205 : Int)))) (2 ^ 2)) (3689348814741910323 : Int)) + (andI .u64 (IntKind.u64.wrap ((andI .u64 (Int.fdiv x (2 ^ 1)) (6148914691236517205 : Int)) + (andI .u64 x (6148914691236517205 : Int)))) (3689348814741910323 : Int)))))) (1085102592571150095 : Int)) + (Int.fdiv (andI .u64 (IntKind.u64.wrap ((Int.fdiv (IntKind.u64.wrap ((andI .u64 (Int.fdiv (IntKind.u64.wrap ((andI .u64 (Int.fdiv x (2 ^ 1)) (6148914691236517205 : Int)) + (andI .u64 x (6148914691236517205 : Int)))) (2 ^ 2)) (3689348814741910323 : Int)) + (andI .u64 (IntKind.u64.wrap ((andI .u64 (Int.fdiv x (2 ^ 1)) (6148914691236517205 : Int)) + (andI .u64 x (6148914691236517205 : Int)))) (3689348814741910323 : Int)))) (2 ^ 4)) + (IntKind.u64.wrap ((andI .u64 (Int.fdiv (IntKind.u64.wrap ((andI .u64 (Int.fdiv x (2 ^ 1)) (6148914691236517205 : Int)) + (andI .u64 x (6148914691236517205 : Int)))) (2 ^ 2)) (3689348814741910323 : Int)) + (andI .u64 (IntKind.u64.wrap ((andI .u64 (Int.fdiv x (2 ^ 1)) (6148914691236517205 : Int)) + (andI .u64 x (6148914691236517205 : Int)))) (3689348814741910323 : Int)))))) (1085102592571150095 : Int)) (2 ^ 8)))) (2 ^ 16)))) + (Int.fdiv (IntKind.u64.wrap ((IntKind.u64.wrap ((andI .u64 (IntKind.u64.wrap ((Int.fdiv (IntKind.u64.wrap ((andI .u64 (Int.fdiv (IntKind.u64.wrap ((andI .u64 (Int.fdiv x (2 ^ 1)) (6148914691236517205 : Int)) + (andI .u64 x (6148914691236517205 : Int)))) (2 ^ 2)) (3689348814741910323 : Int)) + (andI .u64 (IntKind.u64.wrap ((andI .u64 (Int.fdiv x (2 ^ 1)) (6148914691236517205 : Int)) + (andI .u64 x (6148914691236517205 : Int)))) (3689348814741910323 : Int)))) (2 ^ 4)) + (IntKind.u64.wrap ((andI .u64 (Int.fdiv (IntKind.u64.wrap ((andI .u64 (Int.fdiv x (2 ^ 1)) (6148914691236517205 : Int)) + (andI .u64 x (6148914691236517205 : Int)))) (2 ^ 2)) (3689348814741910323 : Int)) + (andI .u64 (IntKind.u64.wrap ((andI .u64 (Int.fdiv x (2 ^ 1)) (6148914691236517205 : Int)) + (andI .u64 x (6148914691236517205 : Int)))) (3689348814741910323 : Int)))))) (1085102592571150095 : Int)) + (Int.fdiv (andI .u64 (IntKind.u64.wrap ((Int.fdiv (IntKind.u64.wrap ((andI .u64 (Int.fdiv (IntKind.u64.wrap ((andI .u64 (Int.fdiv x (2 ^ 1)) (6148914691236517205 : Int)) + (andI .u64 x (6148914691236517205 : Int)))) (2 ^ 2)) (3689348814741910323 : Int)) + (andI .u64 (IntKind.u64.wrap ((andI .u64 (Int.fdiv x (2 ^ 1)) (6148914691236517205 : Int)) + (andI .u64 x (6148914691236517205 : Int)))) (3689348814741910323 : Int)))) (2 ^ 4)) + (IntKind.u64.wrap ((andI .u64 (Int.fdiv (IntKind.u64.wrap ((andI .u64 (Int.fdiv x (2 ^ 1)) (6148914691236517205 : Int)) + (andI .u64 x (6148914691236517205 : Int)))) (2 ^ 2)) (3689348814741910323 : Int)) + (andI .u64 (IntKind.u64.wrap ((andI .u64 (Int.fdiv x (2 ^ 1)) (6148914691236517205 : Int)) + (andI .u64 x (6148914691236517205 : Int)))) (3689348814741910323 : Int)))))) (1085102592571150095 : Int)) (2 ^ 8)))) + (Int.fdiv (IntKind.u64.wrap ((andI .u64 (IntKind.u64.wrap ((Int.fdiv (IntKind.u64.wrap ((andI .u64 (Int.fdiv (IntKind.u64.wrap ((andI .u64 (Int.fdiv x (2 ^ 1)) (6148914691236517205 : Int)) + (andI .u64 x (6148914691236517205 : Int)))) (2 ^ 2)) (3689348814741910323 : Int)) + (andI .u64 (IntKind.u64.wrap ((andI .u64 (Int.fdiv x (2 ^ 1)) (6148914691236517205 : Int)) + (andI .u64 x (6148914691236517205 : Int)))) (3689348814741910323 : Int)))) (2 ^ 4)) + (IntKind.u64.wrap ((andI .u64 (Int.fdiv (IntKind.u64.wrap ((andI .u64 (Int.fdiv x (2 ^ 1)) (6148914691236517205 : Int)) + (andI .u64 x (6148914691236517205 : Int)))) (2 ^ 2)) (3689348814741910323 : Int)) + (andI .u64 (IntKind.u64.wrap ((andI .u64 (Int.fdiv x (2 ^ 1)) (6148914691236517205 : Int)) + (andI .u64 x (6148914691236517205 : Int)))) (3689348814741910323 : Int)))))) (1085102592571150095 : Int)) + (Int.fdiv (andI .u64 (IntKind.u64.wrap ((Int.fdiv (IntKind.u64.wrap ((andI .u64 (Int.fdiv (IntKind.u64.wrap ((andI .u64 (Int.fdiv x (2 ^ 1)) (6148914691236517205 : Int)) + (andI .u64 x (6148914691236517205 : Int)))) (2 ^ 2)) (3689348814741910323 : Int)) + (andI .u64 (IntKind.u64.wrap ((andI .u64 (Int.fdiv x (2 ^ 1)) (6148914691236517205 : Int)) + (andI .u64 x (6148914691236517205 : Int)))) (3689348814741910323 : Int)))) (2 ^ 4)) + (IntKind.u64.wrap ((andI .u64 (Int.fdiv (IntKind.u64.wrap ((andI .u64 (Int.fdiv x (2 ^ 1)) (6148914691236517205 : Int)) + (andI .u64 x (6148914691236517205 : Int)))) (2 ^ 2)) (3689348814741910323 : Int)) + (andI .u64 (IntKind.u64.wrap ((andI .u64 (Int.fdiv x (2 ^ 1)) (6148914691236517205 : Int)) + (andI .u64 x (6148914691236517205 : Int)))) (3689348814741910323 : Int)))))) (1085102592571150095 : Int)) (2 ^ 8)))) (2 ^ 16)))) (2 ^ 32))))) (127 : Int)))]) ⟨_, _, rfl, rfl, rfl⟩ (PLe.of_eq rfl)

end Go.Proofs.YtjnpnakcmjndiaaGreatDoor
/- Lifted functions: printed by lift.py. -/
namespace Go.Proofs.YtjnpnakcmjndiaaGreatDoor
open Go Go.Ab
attribute [local irreducible] V AOps DOps Gh Eff PCallsH IntKind.wrap
set_option maxRecDepth 4000

noncomputable def L_joinorder_size (gA : LJoinorderGraph) (setA : Int) : Option (Int) :=
  bindP (rangeM (σ := Int) (ρ := Empty) (fun (j1 : Nat) (x1 : Int) (s1 : Int) =>
    bindP (shrI .i64 setA (j1 : Int)) fun (x20 : Int) =>
    cond ((andI .i64 x20 (1 : Int)) == (0 : Int))
      (some (.next s1))
      (bindP (rangeM (σ := Int) (ρ := Empty) (fun (_ : Nat) (x10 : LJoinorderSelectivity) (s10 : Int) =>
        bindP (
          cond (x10.b == (j1 : Int))
            (bindP (shrI .i64 setA x10.a) fun (x42 : Int) =>
            some ((andI .i64 x42 (1 : Int)) == (1 : Int)))
            (some false)) fun (t13 : Bool) =>
        cond t13
          (bindP (quoI (IntKind.i64.wrap ((IntKind.i64.wrap (s10 + x10.divisor)) - (1 : Int))) x10.divisor) fun (x53 : Int) =>
          some (.next x53))
          (some (.next s10))) 0 gA.selectivities (if (IntKind.i64.wrap (s1 * x1)) < (1073741824 : Int) then (IntKind.i64.wrap (s1 * x1)) else (1073741824 : Int))) fun fl10 => fl10.thenP fun (s10 : Int) =>
      some (.next s10))) 0 gA.sizes 1) fun fl1 => fl1.thenP fun (s1 : Int) =>
  some s1

set_option maxHeartbeats 4000000 in
theorem W_joinorder_size (gA : LJoinorderGraph) (setA : Int) (r : Int) (H : L_joinorder_size gA setA = some r) :
    PFun Tryz.prog 54 [(.agg (encJoinorderGraph gA)), (pint setA)] (pint r) := by
  unfold L_joinorder_size at H
  refine PCallsH.intro Tryz.func54 rfl Tryz.ntmps54 rfl ?_
  refine V.seq ?_
  refine V.region ?_
  refine AOps.boxF rfl rfl rfl rfl rfl rfl ?_
  refine AOps.q tt_ok rfl ?_
  refine AOps.nil ?_
  refine V.seq ?_
  refine V.region ?_
  refine AOps.q tt_ok rfl ?_
  refine AOps.nil ?_
  iterate 2 refine V.seq ?_
  refine V.region ?_
  iterate 2 refine AOps.q tt_ok rfl ?_
  refine AOps.lenL tt_ok rfl rfl rfl rfl rfl (List.length_map _) rfl ?_
  refine AOps.q tt_ok rfl ?_
  refine AOps.nil ?_
  obtain ⟨fl1, H1, Hp1⟩ := bindE H
  refine V.lenF tt_ok 11 rfl rfl (fun hz1 _ => ?_)
  rw [List.length_map] at hz1
  refine V.cut (τ := Int) (γ := Unit) (fun s1 g1 => ⟨57, upd (fun _ => .any) 5 (pint s1), fun _ => none, fun _ => none⟩) (fun t => fl1 = .next t) ?_ (fun s1 g1 hn1 => ?_)
  · refine V.block ?_
    refine V.rangeL (fun j1 s1 g1 => ⟨57, upd (upd (upd (upd (upd (upd (fun _ => .any) 13 (pint (j1 : Int))) 12 (pint (gA.sizes.length : Int))) 11 (.list 3 (gA.sizes.map rInt))) 5 (pint s1)) 2 (.ptr [(.list 3 (gA.sizes.map rInt)), (.list 63 (gA.selectivities.map encJoinorderSelectivity))])) 1 (pint setA), fun _ => none, fun _ => none⟩) () H1 (Gh.le (SLe.cons (PLe.of_eq rfl) (SLe.cons (PLe.of_eq rfl) (SLe.cons (PLe.of_eq rfl) (SLe.cons (PLe.of_eq rfl) (SLe.cons (PLe.of_eq rfl) (SLe.cons (PLe.of_eq rfl) SLe.nil)))))) BLe.nil OLe.nil) (fun j1 s1 g1 hj1 hr1 => ?_)
    refine V.seq ?_
    refine V.region ?_
    refine AOps.q tt_ok rfl ?_
    refine AOps.nil ?_
    refine V.seq ?_
    refine V.cond rfl (fun h => ?_) (fun h => ?_)
    · have hl1 := rowsLt h
      obtain ⟨x1, fb1, hx1, H, hg1⟩ := rangeM_cons hl1 hr1
      refine V.skip ?_
      refine V.seq ?_
      refine V.block ?_
      refine V.seq ?_
      refine V.region ?_
      refine AOps.q tt_ok rfl ?_
      refine AOps.idx tt_ok rfl rfl rfl rfl rfl rfl (Int.natCast_nonneg j1) (rowsGet (fun _ => rfl) hx1) rfl ?_
      iterate 3 refine AOps.q tt_ok rfl ?_
      refine AOps.nil ?_
      iterate 2 refine V.seq ?_
      refine V.region ?_
      iterate 2 refine AOps.q tt_ok rfl ?_
      obtain ⟨x20, h20, H⟩ := bindE H
      refine AOps.shrV rfl rfl rfl rfl h20 rfl ?_
      refine AOps.and rfl rfl rfl rfl rfl ?_
      refine AOps.q tt_ok rfl ?_
      refine AOps.nil ?_
      refine V.cH rfl H (fun H => ?_) (fun H => ?_)
      · refine V.exit rfl ?_
        refine V.region ?_
        iterate 2 refine AOps.q tt_ok rfl ?_
        refine AOps.nil ?_
        obtain rfl := someE H
        refine V.againL s1 () ⟨hl1, hg1⟩ (Gh.le (SLe.cons (PLe.of_eq rfl) (SLe.cons (PLe.of_eq rfl) (SLe.cons (PLe.of_eq rfl) (SLe.cons (PLe.of_eq rfl) (SLe.cons (PLe.of_eq rfl) (SLe.cons (PLe.of_eq (pint_succ (by omega))) SLe.nil)))))) BLe.nil OLe.nil)
      refine V.skip ?_
      refine V.seq ?_
      refine V.region ?_
      iterate 5 refine AOps.q tt_ok rfl ?_
      refine AOps.nil ?_
      refine V.seq ?_
      refine V.region ?_
      iterate 2 refine AOps.q tt_ok rfl ?_
      refine AOps.lenL tt_ok rfl rfl rfl rfl rfl (List.length_map _) rfl ?_
      refine AOps.q tt_ok rfl ?_
      refine AOps.nil ?_
      obtain ⟨fl10, H10, Hp10⟩ := bindE H
      refine V.lenF tt_ok 28 rfl rfl (fun hz10 _ => ?_)
      rw [List.length_map] at hz10
      refine V.cut (τ := Int) (γ := Unit) (fun s10 g10 => ⟨57, upd (upd (upd (upd (upd (upd (fun _ => .any) 13 (pint (j1 : Int))) 12 (pint (gA.sizes.length : Int))) 11 (.list 3 (gA.sizes.map rInt))) 5 (pint s10)) 2 (.ptr [(.list 3 (gA.sizes.map rInt)), (.list 63 (gA.selectivities.map encJoinorderSelectivity))])) 1 (pint setA), fun _ => none, fun _ => none⟩) (fun t => fl10 = .next t) ?_ (fun s10 g10 hn10 => ?_)
      · refine V.block ?_
        refine V.rangeL (fun j10 s10 g10 => ⟨57, upd (upd (upd (upd (upd (upd (upd (upd (upd (upd (fun _ => .any) 30 (pint (j10 : Int))) 29 (pint (gA.selectivities.length : Int))) 28 (.list 63 (gA.selectivities.map encJoinorderSelectivity))) 13 (pint (j1 : Int))) 12 (pint (gA.sizes.length : Int))) 11 (.list 3 (gA.sizes.map rInt))) 6 (pint (j1 : Int))) 5 (pint s10)) 2 (.ptr [(.list 3 (gA.sizes.map rInt)), (.list 63 (gA.selectivities.map encJoinorderSelectivity))])) 1 (pint setA), fun _ => none, fun _ => none⟩) () H10 (Gh.le (SLe.cons (PLe.of_eq rfl) (SLe.cons (PLe.of_eq rfl) (SLe.cons (PLe.of_eq rfl) (SLe.cons (PLe.of_eq rfl) (SLe.cons (PLe.of_eq rfl) (SLe.cons (PLe.of_eq rfl) (SLe.cons (PLe.of_eq rfl) (SLe.cons (PLe.of_eq rfl) (SLe.cons (PLe.of_eq rfl) (SLe.cons (PLe.of_eq rfl) SLe.nil)))))))))) BLe.nil OLe.nil) (fun j10 s10 g10 hj10 hr10 => ?_)
        refine V.seq ?_
        refine V.region ?_
        refine AOps.q tt_ok rfl ?_
        refine AOps.nil ?_
        refine V.seq ?_
        refine V.cond rfl (fun h => ?_) (fun h => ?_)
        · have hl10 := rowsLt h
          obtain ⟨x10, fb10, hx10, H, hg10⟩ := rangeM_cons hl10 hr10
          refine V.skip ?_
          refine V.seq ?_
          refine V.block ?_
          refine V.seq ?_
          refine V.region ?_
          refine AOps.idx tt_ok rfl rfl rfl rfl rfl rfl (Int.natCast_nonneg j10) (rowsGet (fun _ => rfl) hx10) rfl ?_
          refine AOps.q tt_ok rfl ?_
          refine AOps.alloc tt_ok rfl rfl rfl rfl rfl rfl fun b9 => ?_
          refine AOps.storeBox tt_ok rfl rfl rfl rfl rfl rfl rfl rfl rfl rfl rfl ?_
          refine AOps.nil ?_
          refine V.seq ?_
          obtain ⟨fl13, H13, Hp13⟩ := bindE H
          refine V.cut (τ := Bool) (γ := Unit) (fun t13 g13 => ⟨57, upd (upd (upd (upd (upd (upd (upd (upd (upd (upd (upd (upd (fun _ => .any) 45 (pbool t13)) 30 (pint (j10 : Int))) 29 (pint (gA.selectivities.length : Int))) 28 (.list 63 (gA.selectivities.map encJoinorderSelectivity))) 13 (pint (j1 : Int))) 12 (pint (gA.sizes.length : Int))) 11 (.list 3 (gA.sizes.map rInt))) 9 (.box 9 b9 0)) 6 (pint (j1 : Int))) 5 (pint s10)) 2 (.ptr [(.list 3 (gA.sizes.map rInt)), (.list 63 (gA.selectivities.map encJoinorderSelectivity))])) 1 (pint setA), upd (fun _ => none) 9 (some ⟨b9, [(pint x10.a), (pint x10.b), (pint x10.divisor)]⟩), fun _ => none⟩) (fun t => t = fl13) ?_ (fun t13 g13 hn13 => ?_)
          · have H := H13
            refine V.region ?_
            refine AOps.q tt_ok rfl ?_
            refine AOps.loadBox tt_ok rfl rfl rfl rfl rfl rfl rfl ?_
            iterate 3 refine AOps.q tt_ok rfl ?_
            refine AOps.sH rfl rfl rfl H (fun H => ?_) (fun H => ?_)
            · refine AOps.q tt_ok rfl ?_
              refine AOps.q tt_ok rfl ?_
              refine AOps.loadBox tt_ok rfl rfl rfl rfl rfl rfl rfl ?_
              obtain ⟨x42, h42, H⟩ := bindE H
              refine AOps.shrV rfl rfl rfl rfl h42 rfl ?_
              refine AOps.and rfl rfl rfl rfl rfl ?_
              iterate 2 refine AOps.q tt_ok rfl ?_
              refine AOps.nil ?_
              obtain rfl := someE H
              refine V.at ((andI .i64 x42 (1 : Int)) == (1 : Int)) () rfl (Gh.le (SLe.cons (PLe.of_eq rfl) (SLe.cons (PLe.of_eq rfl) (SLe.cons (PLe.of_eq rfl) (SLe.cons (PLe.of_eq rfl) (SLe.cons (PLe.of_eq rfl) (SLe.cons (PLe.of_eq rfl) (SLe.cons (PLe.of_eq rfl) (SLe.cons (PLe.of_eq rfl) (SLe.cons (PLe.of_eq rfl) (SLe.cons (PLe.of_eq rfl) (SLe.cons (PLe.of_eq rfl) (SLe.cons (PLe.of_eq rfl) SLe.nil)))))))))))) (BLe.cons rfl (PLeAll.refl _ _) BLe.nil) OLe.nil)
            iterate 7 refine AOps.q tt_ok rfl ?_
            refine AOps.nil ?_
            obtain rfl := someE H
            refine V.at false () rfl (Gh.le (SLe.cons (PLe.of_eq rfl) (SLe.cons (PLe.of_eq rfl) (SLe.cons (PLe.of_eq rfl) (SLe.cons (PLe.of_eq rfl) (SLe.cons (PLe.of_eq rfl) (SLe.cons (PLe.of_eq rfl) (SLe.cons (PLe.of_eq rfl) (SLe.cons (PLe.of_eq rfl) (SLe.cons (PLe.of_eq rfl) (SLe.cons (PLe.of_eq rfl) (SLe.cons (PLe.of_eq rfl) (SLe.cons (PLe.of_eq rfl) SLe.nil)))))))))))) (BLe.cons rfl (PLeAll.refl _ _) BLe.nil) OLe.nil)
          subst hn13
          have H := Hp13
          refine V.cH rfl H (fun H => ?_) (fun H => ?_)
          · refine V.region ?_
            iterate 2 refine AOps.q tt_ok rfl ?_
            refine AOps.loadBox tt_ok rfl rfl rfl rfl rfl rfl rfl ?_
            iterate 3 refine AOps.q tt_ok rfl ?_
            refine AOps.loadBox tt_ok rfl rfl rfl rfl rfl rfl rfl ?_
            obtain ⟨x53, h53, H⟩ := bindE H
            have k53 := quoI_some h53
            refine AOps.quoC tt_ok rfl rfl rfl rfl k53.1 k53.2 rfl ?_
            refine AOps.q tt_ok rfl ?_
            refine AOps.nil ?_
            refine V.blk ?_
            refine V.region ?_
            iterate 2 refine AOps.q tt_ok rfl ?_
            refine AOps.nil ?_
            obtain rfl := someE H
            refine V.againL x53 () ⟨hl10, hg10⟩ (Gh.le (SLe.cons (PLe.of_eq rfl) (SLe.cons (PLe.of_eq rfl) (SLe.cons (PLe.of_eq rfl) (SLe.cons (PLe.of_eq rfl) (SLe.cons (PLe.of_eq rfl) (SLe.cons (PLe.of_eq rfl) (SLe.cons (PLe.of_eq rfl) (SLe.cons (PLe.of_eq rfl) (SLe.cons (PLe.of_eq rfl) (SLe.cons (PLe.of_eq (pint_succ (by omega))) SLe.nil)))))))))) BLe.nil OLe.nil)
          refine V.skip ?_
          refine V.blk ?_
          refine V.region ?_
          iterate 2 refine AOps.q tt_ok rfl ?_
          refine AOps.nil ?_
          obtain rfl := someE H
          refine V.againL s10 () ⟨hl10, hg10⟩ (Gh.le (SLe.cons (PLe.of_eq rfl) (SLe.cons (PLe.of_eq rfl) (SLe.cons (PLe.of_eq rfl) (SLe.cons (PLe.of_eq rfl) (SLe.cons (PLe.of_eq rfl) (SLe.cons (PLe.of_eq rfl) (SLe.cons (PLe.of_eq rfl) (SLe.cons (PLe.of_eq rfl) (SLe.cons (PLe.of_eq rfl) (SLe.cons (PLe.of_eq (pint_succ (by omega))) SLe.nil)))))))))) BLe.nil OLe.nil)
        have hn10 := rangeM_done (rowsGe h) hr10
        refine V.exit rfl ?_
        refine V.at s10 g10 hn10 (Gh.le (SLe.cons (PLe.of_eq rfl) (SLe.cons (PLe.of_eq rfl) (SLe.cons (PLe.of_eq rfl) (SLe.cons (PLe.of_eq rfl) (SLe.cons (PLe.of_eq rfl) (SLe.cons (PLe.of_eq rfl) SLe.nil)))))) BLe.nil OLe.nil)
      have H := thenP_next hn10 Hp10
      refine V.blk ?_
      refine V.region ?_
      iterate 2 refine AOps.q tt_ok rfl ?_
      refine AOps.nil ?_
      obtain rfl := someE H
      refine V.againL s10 () ⟨hl1, hg1⟩ (Gh.le (SLe.cons (PLe.of_eq rfl) (SLe.cons (PLe.of_eq rfl) (SLe.cons (PLe.of_eq rfl) (SLe.cons (PLe.of_eq rfl) (SLe.cons (PLe.of_eq rfl) (SLe.cons (PLe.of_eq (pint_succ (by omega))) SLe.nil)))))) BLe.nil OLe.nil)
    have hn1 := rangeM_done (rowsGe h) hr1
    refine V.exit rfl ?_
    refine V.at s1 g1 hn1 (Gh.le (SLe.cons (PLe.of_eq rfl) SLe.nil) BLe.nil OLe.nil)
  have H := thenP_next hn1 Hp1
  refine V.seq ?_
  refine V.region ?_
  iterate 2 refine AOps.q tt_ok rfl ?_
  refine AOps.nil ?_
  obtain rfl := someE H
  refine V.retP tt_ok rfl (ps := [(pint s1)]) ⟨_, _, rfl, rfl, rfl⟩ (PLe.of_eq rfl)

noncomputable def O_joinorder_own (rec55 : LJoinorderTree → Option (LJoinorderTree)) (t : LJoinorderTree) : Option (LJoinorderTree) :=
  bindP (rangeM (σ := List LJoinorderTree) (ρ := Empty) (fun (_ : Nat) (x1 : LJoinorderTree) (s1 : List LJoinorderTree) =>
    bindP (rec55 x1) fun x19 =>
    bindP (appI 32 s1 ([x19] : List LJoinorderTree)) fun (x21 : List LJoinorderTree) =>
    some (.next x21)) 0 t.children []) fun fl1 => fl1.thenP fun (s1 : List LJoinorderTree) =>
  some (LJoinorderTree.mk t.leaf s1)

set_option maxHeartbeats 4000000 in
theorem WO_joinorder_own (rec55 : LJoinorderTree → Option (LJoinorderTree)) (hrec55 : ∀ a0 r, rec55 a0 = some r → PFun Tryz.prog 55 [(.agg (encJoinorderTree a0))] (.agg (encJoinorderTree r))) (t : LJoinorderTree) (r : LJoinorderTree) (H : O_joinorder_own rec55 t = some r) :
    PFun Tryz.prog 55 [(.agg (encJoinorderTree t))] (.agg (encJoinorderTree r)) := by
  unfold O_joinorder_own at H
  refine PCallsH.intro Tryz.func55 rfl Tryz.ntmps55 rfl ?_
  refine V.seq ?_
  refine V.region ?_
  refine AOps.boxF rfl rfl rfl rfl rfl rfl ?_
  refine AOps.alloc tt_ok rfl rfl rfl rfl rfl rfl fun b2 => ?_
  refine AOps.nil ?_
  refine V.seq ?_
  refine V.region ?_
  iterate 3 refine AOps.q tt_ok rfl ?_
  refine AOps.alloc tt_ok rfl rfl rfl rfl rfl rfl fun b3 => ?_
  refine AOps.storeBox tt_ok rfl rfl rfl rfl rfl rfl rfl rfl rfl rfl rfl ?_
  refine AOps.nil ?_
  iterate 2 refine V.seq ?_
  refine V.region ?_
  iterate 2 refine AOps.q tt_ok rfl ?_
  refine AOps.lenL tt_ok rfl rfl rfl rfl rfl (List.length_map _) rfl ?_
  refine AOps.q tt_ok rfl ?_
  refine AOps.nil ?_
  obtain ⟨fl1, H1, Hp1⟩ := bindE H
  refine V.lenF tt_ok 10 rfl rfl (fun hz1 _ => ?_)
  rw [List.length_map] at hz1
  refine V.cut (τ := List LJoinorderTree) (γ := OwnRef) (fun s1 g1 => ⟨25, upd (upd (fun _ => .any) 3 (.box 3 b3 0)) 2 (.box 2 b2 0), upd (upd (fun _ => none) 3 (some ⟨b3, [(pint t.leaf), (.own 21 g1 (s1.map rowJoinorderTree).length)]⟩)) 2 (some ⟨b2, [(pint 0), (.val (.slice none 0 0))]⟩), upd (fun _ => none) 21 (some ⟨g1, 58, (s1.map rowJoinorderTree), true⟩)⟩) (fun t => fl1 = .next t) ?_ (fun s1 g1 hn1 => ?_)
  · refine V.block ?_
    refine V.nilOB tt_ok 3 1 21 (e := 58) rfl rfl rfl rfl ?_
    refine V.rangeL (fun j1 s1 g1 => ⟨25, upd (upd (upd (upd (upd (fun _ => .any) 12 (pint (j1 : Int))) 11 (pint (t.children.length : Int))) 10 (.list 58 (t.children.map rowJoinorderTree))) 3 (.box 3 b3 0)) 2 (.box 2 b2 0), upd (upd (fun _ => none) 3 (some ⟨b3, [(pint t.leaf), (.own 21 g1 (s1.map rowJoinorderTree).length)]⟩)) 2 (some ⟨b2, [(pint 0), (.val (.slice none 0 0))]⟩), upd (fun _ => none) 21 (some ⟨g1, 58, (s1.map rowJoinorderTree), true⟩)⟩) (⟨none, 0⟩) H1 (Gh.le (SLe.cons (PLe.of_eq rfl) (SLe.cons (PLe.of_eq rfl) (SLe.cons (PLe.of_eq rfl) (SLe.cons (PLe.of_eq rfl) (SLe.cons (PLe.of_eq rfl) SLe.nil))))) (BLe.cons rfl (PLeAll.refl _ _) (BLe.cons rfl (PLeAll.refl _ _) BLe.nil)) (OLe.cons rfl OLe.nil)) (fun j1 s1 g1 hj1 hr1 => ?_)
    refine V.seq ?_
    refine V.region ?_
    refine AOps.q tt_ok rfl ?_
    refine AOps.nil ?_
    refine V.seq ?_
    refine V.cond rfl (fun h => ?_) (fun h => ?_)
    · have hl1 := rowsLt h
      obtain ⟨x1, fb1, hx1, H, hg1⟩ := rangeM_cons hl1 hr1
      refine V.skip ?_
      refine V.seq ?_
      refine V.block ?_
      refine V.seq ?_
      refine V.region ?_
      refine AOps.idx tt_ok rfl rfl rfl rfl rfl rfl (Int.natCast_nonneg j1) (rowsGet rowJoinorderTree_eq hx1) rfl ?_
      refine AOps.q tt_ok rfl ?_
      refine AOps.alloc tt_ok rfl rfl rfl rfl rfl rfl fun b5 => ?_
      refine AOps.storeBox tt_ok rfl rfl rfl rfl rfl rfl rfl rfl rfl rfl rfl ?_
      refine AOps.nil ?_
      refine V.freezeB 5 rfl rfl rfl rfl ?_
      refine V.draw tt_ok mixed_ok ⟨true, false, [18]⟩ [0, 1, 2, 3, 4, 5, 6, 7] rfl (by decide +kernel) rfl ?_
      refine DOps.q rfl ?_
      refine DOps.loadBox rfl rfl rfl rfl rfl rfl rfl rfl rfl ?_
      refine DOps.q rfl ?_
      obtain ⟨x19, h19, H⟩ := bindE H
      have s19 := hrec55 x1 _ h19
      refine DOps.callP (g := 55) rfl rfl rfl rfl Tryz.call55 (PLeAll.refl _ _) s19 rfl ?_
      refine DOps.q rfl ?_
      obtain ⟨x21, h21, H⟩ := bindE H
      have k21 := appI_some h21
      refine DOps.appendC (rows2' := List.map rowJoinorderTree ([x19] : List LJoinorderTree)) (rows' := List.map rowJoinorderTree x21) tt_ok rfl rfl rfl rfl rfl rfl rfl rfl rfl rfl rfl rfl rfl rfl (PLe2Rows.trans (b := List.map encJoinorderTree [x19]) (PLe2Rows.refl _) (PLe2Rows.of_eq (rowsLit rowJoinorderTree_eq [x19]))) (appI_by k21.1) (appI_mx k21.2.1) (appI_eq k21.2.2) fun g21 => ?_
      refine DOps.q rfl ?_
      refine DOps.storeBox rfl rfl rfl rfl rfl rfl rfl rfl rfl rfl rfl rfl ?_
      refine DOps.nil ?_
      refine V.blk ?_
      refine V.region ?_
      iterate 2 refine AOps.q tt_ok rfl ?_
      refine AOps.nil ?_
      obtain rfl := someE H
      refine V.againL x21 g21 ⟨hl1, hg1⟩ (Gh.le (SLe.cons (PLe.of_eq rfl) (SLe.cons (PLe.of_eq rfl) (SLe.cons (PLe.of_eq rfl) (SLe.cons (PLe.of_eq rfl) (SLe.cons (PLe.of_eq (pint_succ (by omega))) SLe.nil))))) (BLe.cons rfl (PLeAll.refl _ _) (BLe.cons rfl (PLeAll.refl _ _) BLe.nil)) (OLe.cons rfl OLe.nil))
    have hn1 := rangeM_done (rowsGe h) hr1
    refine V.exit rfl ?_
    refine V.at s1 g1 hn1 (Gh.le (SLe.cons (PLe.of_eq rfl) (SLe.cons (PLe.of_eq rfl) SLe.nil)) (BLe.cons rfl (PLeAll.refl _ _) (BLe.cons rfl (PLeAll.refl _ _) BLe.nil)) (OLe.cons rfl OLe.nil))
  have H := thenP_next hn1 Hp1
  refine V.seq ?_
  refine V.region ?_
  refine AOps.loadBox tt_ok rfl rfl rfl rfl rfl rfl rfl ?_
  refine AOps.storeBox tt_ok rfl rfl rfl rfl rfl rfl rfl rfl rfl rfl rfl ?_
  refine AOps.nil ?_
  obtain rfl := someE H
  refine V.freezeOB 2 1 rfl rfl rfl rfl rfl ?_
  refine V.retP tt_ok rfl (ps := [(.agg [(pint t.leaf), (.list 58 (s1.map rowJoinorderTree))])]) ⟨_, _, rfl, ⟨_, _, _, _, _, rfl, rfl, rfl, rfl⟩, rfl⟩ (PLe.of_eq rfl)
noncomputable def F_joinorder_own : Nat → LJoinorderTree → Option (LJoinorderTree)
  | 0, _ => none
  | n + 1, v0 => O_joinorder_own (fun b0 => F_joinorder_own n b0) v0
theorem WF_joinorder_own  (n : Nat) : (∀ a0 r, F_joinorder_own n a0 = some r → PFun Tryz.prog 55 [(.agg (encJoinorderTree a0))] (.agg (encJoinorderTree r))) := by
  induction n with
  | zero => exact (by intros; rename_i h; exact absurd (show (none : Option _) = some _ from h) (by simp))
  | succ n ih =>
    exact (fun v0 r h => WO_joinorder_own (fun b0 => F_joinorder_own n b0) ih v0  r h)
noncomputable def L_joinorder_own (t : LJoinorderTree) : Option (LJoinorderTree) := limN fun n => F_joinorder_own n t
theorem W_joinorder_own (t : LJoinorderTree) (r : LJoinorderTree) (H : L_joinorder_own t = some r) :
    PFun Tryz.prog 55 [(.agg (encJoinorderTree t))] (.agg (encJoinorderTree r)) := by
  obtain ⟨n, h⟩ := limN_some H
  exact (WF_joinorder_own  n) t r h

end Go.Proofs.YtjnpnakcmjndiaaGreatDoor
/- Lifted functions: printed by lift.py. -/
namespace Go.Proofs.YtjnpnakcmjndiaaGreatDoor
open Go Go.Ab
attribute [local irreducible] V AOps DOps Gh Eff PCallsH IntKind.wrap
set_option maxRecDepth 4000

noncomputable def L_math_bits_OnesCount (x : Int) : Int :=
  letP (L_math_bits_OnesCount64 x) fun x7 =>
  x7

set_option maxHeartbeats 4000000 in
theorem W_math_bits_OnesCount (x : Int) :
    PFun Tryz.prog 52 [(.val (.int .u64 x))] (pint (L_math_bits_OnesCount x)) := by
  obtain ⟨r, H⟩ : ∃ r, L_math_bits_OnesCount x = r := ⟨_, rfl⟩
  rw [H]
  unfold L_math_bits_OnesCount at H
  refine PCallsH.intro Tryz.func52 rfl Tryz.ntmps52 rfl ?_
  refine V.seq ?_
  refine V.region ?_
  refine AOps.q tt_ok rfl ?_
  refine AOps.nil ?_
  refine V.seq ?_
  refine V.condF rfl ?_
  refine V.skip ?_
  refine V.seq ?_
  refine V.region ?_
  refine AOps.q tt_ok rfl ?_
  obtain ⟨x7, h7, H⟩ := letE H
  have s7 := W_math_bits_OnesCount64 x
  rw [h7] at s7
  refine AOps.callP (g := 115) rfl rfl rfl Tryz.call115 (PLeAll.refl _ _) s7 rfl ?_
  refine AOps.q tt_ok rfl ?_
  refine AOps.nil ?_
  subst H
  refine V.retP tt_ok rfl (ps := [(pint x7)]) ⟨_, _, rfl, rfl, rfl⟩ (PLe.of_eq rfl)

end Go.Proofs.YtjnpnakcmjndiaaGreatDoor
