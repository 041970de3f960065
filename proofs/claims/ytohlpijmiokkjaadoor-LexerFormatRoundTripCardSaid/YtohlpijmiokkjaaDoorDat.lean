/- Encodings of elements, as lists are mapped with them. -/
import Derived.Test.YtohlpijmiokkjaaDoorAbR
import Derived.Test.YtohlpijmiokkjaaDoorDxA
namespace Go.Proofs.YtohlpijmiokkjaaDoor
open Go Go.Ab
abbrev rInt : Int → List PV := fun n => [pint n]
abbrev rBool : Bool → List PV := fun b => [pbool b]
abbrev rStr : List UInt8 → List PV := fun s => [.str s]
abbrev rU8 : UInt8 → List PV := fun c => [.val (.int .u8 (c.toNat : Int))]
abbrev rList {α : Type} (e : TypeId) (f : α → List PV) : List α → List PV := fun l => [.list e (l.map f)]
theorem natLt {n : Int} {m j : Nat} (hm : n ≤ 2 ^ 62 ∧ m = n.toNat) (h : decide ((j : Int) < n) = true) : j < (List.range m).length := by
  have := of_decide_eq_true h
  simp
  omega
theorem natGe {n : Int} {m j : Nat} (hm : n ≤ 2 ^ 62 ∧ m = n.toNat) (h : decide ((j : Int) < n) = false) : (List.range m).length ≤ j := by
  have := of_decide_eq_false h
  simp
  omega
theorem natX {m j x : Nat} (h : (List.range m)[j]? = some x) : j = x := by
  have := List.getElem?_eq_some_iff.1 h
  obtain ⟨h1, h2⟩ := this
  simpa using h2
theorem pint_succN {n : Int} {m j : Nat} (hm : n ≤ 2 ^ 62 ∧ m = n.toNat) (h : j < (List.range m).length) : pint (IntKind.i64.wrap ((j : Int) + 1)) = pint ((j + 1 : Nat) : Int) := by
  rw [wrap_id (by omega) (by simp at h; omega)]
  simp
end Go.Proofs.YtohlpijmiokkjaaDoor
