/- A contract off the shelf: bits.TrailingZeros, whose table the layer knows (seat r4). -/
import Derived.Shelf.Spec.TrailingZeros
import Derived.Test.YtjnpnakcmjndiaaGreatDoorAcE
import Derived.Test.YtjnpnakcmjndiaaGreatDoorMjh
namespace Go.Proofs.YtjnpnakcmjndiaaGreatDoor
open Go Go.Ab Go.Shelf
open Go.RowKit (Below)

def tz_ren : Go.Shelf.Ren := ⟨fun | 27 => 53 | 28 => 116 | 29 => 117 | n => n, fun | 22 => 189 | 25 => 125 | 27 => 187 | 53 => 241 | 54 => 242 | n => n, fun n => n⟩
theorem tz_lays : Go.Proofs.Lays7.n27 Tryz.prog tz_ren := {
  mixed := by kernel_rfl
  f27 := Tryz.func53.trans (congrArg some (by kernel_rfl))
  f28 := Tryz.func116.trans (congrArg some (by kernel_rfl))
  f29 := Tryz.func117.trans (congrArg some (by kernel_rfl))
  t0 := Tryz.underlying0
  a0 := Tryz.isAgg0
  z0 := Tryz.sizeOf0
  v0 := Tryz.zeroValue0
  i0 := by kernel_rfl
  t3 := Tryz.underlying3
  a3 := Tryz.isAgg3
  z3 := Tryz.sizeOf3
  v3 := Tryz.zeroValue3
  i3 := by kernel_rfl
  t4 := Tryz.underlying4
  a4 := Tryz.isAgg4
  z4 := Tryz.sizeOf4
  v4 := Tryz.zeroValue4
  i4 := by kernel_rfl
  t5 := Tryz.underlying5
  a5 := Tryz.isAgg5
  z5 := Tryz.sizeOf5
  v5 := Tryz.zeroValue5
  i5 := by kernel_rfl
  t22 := Tryz.underlying189
  a22 := Tryz.isAgg189
  z22 := Tryz.sizeOf189
  v22 := Tryz.zeroValue189
  i22 := by kernel_rfl
  t25 := Tryz.underlying125
  a25 := Tryz.isAgg125
  z25 := Tryz.sizeOf125
  v25 := Tryz.zeroValue125
  i25 := by kernel_rfl
  t27 := Tryz.underlying187
  a27 := Tryz.isAgg187
  z27 := Tryz.sizeOf187
  v27 := Tryz.zeroValue187
  i27 := by kernel_rfl
  t53 := Tryz.underlying241
  a53 := Tryz.isAgg241
  z53 := Tryz.sizeOf241
  v53 := Tryz.zeroValue241
  i53 := by kernel_rfl
  t54 := Tryz.underlying242
  a54 := Tryz.isAgg242
  z54 := Tryz.sizeOf242
  g0 := by kernel_rfl
  g1 := by kernel_rfl
}
def tab64 : List Int := [0, 1, 56, 2, 57, 49, 28, 3, 61, 58, 42, 50, 38, 29, 17, 4, 62, 47, 59, 36, 45, 43, 51, 22, 53, 39, 33, 30, 24, 18, 12, 5, 63, 55, 48, 27, 60, 41, 37, 16, 46, 35, 44, 21, 52, 32, 23, 11, 54, 26, 40, 15, 34, 20, 31, 10, 25, 14, 19, 9, 13, 8, 7, 6]
theorem tab64_eq : tab64 = Lib.deBruijn64tab.map Int.ofNat := by decide +kernel
def tzL (x : Int) : Option Int := guardO (0 ≤ x ∧ x < 18446744073709551616) (Lib.ctz 64 x.toNat : Int)
theorem tzL_ok {x : Int} (h0 : 0 ≤ x) (h1 : x ≤ 4611686018427387904) : ∃ y, tzL x = some y := ⟨_, guardO_pos ⟨h0, by omega⟩⟩
theorem W_tz (x r : Int) (h : tzL x = some r) : PFun Tryz.prog 53 [.val (.int .u64 x)] (pint r) := by
  obtain ⟨⟨h0, h1⟩, rfl⟩ := guardO_some h
  refine PFun.ofCalls fun w M vs hg ha hm => ?_
  simp only [RepAll, Rep] at ha
  obtain ⟨y, ys, hv, rfl, hys⟩ := ha
  have hvs : vs = #[.int .u64 x] := by rw [← Array.toArray_toList (xs := vs), hv, hys]
  subst hvs
  obtain ⟨x, rfl⟩ := Int.eq_ofNat_of_zero_le h0
  have hT : Go.Proofs.TabAt 1 Lib.deBruijn64tab w := fun j hj => by
    obtain ⟨t, fz, hc⟩ := hg.2.1 (1, .u8, tab64) (List.mem_singleton.2 rfl)
    have hc : w.heap[1]? = some (.cells (tab64.map fun v => Value.int .u8 v).toArray t fz) := hc
    rw [tab64_eq] at hc
    simp [World.cell?, hc, hj]
  refine (Go.Proofs.Any7.bits_TrailingZeros tz_lays x (by omega) w (fun _ => hT)).mono ?_
  rintro e w' ⟨rfl, rfl⟩
  refine ⟨_, rfl, Below.refl _ _, ?_⟩
  simp [Rep]
end Go.Proofs.YtjnpnakcmjndiaaGreatDoor
