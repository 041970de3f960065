/- What the texts over plain data share: ints, bools, indices. -/
import Derived.Test.YtohlpijmiokkjaaDoorAbN
import Derived.Test.YtohlpijmiokkjaaDoorAbTab
namespace Go.Proofs.YtohlpijmiokkjaaDoor
open Go Go.Ab

theorem mixed_ok : Tryd.prog.follows .mixedOrders = true := by kernel_rfl

abbrev pint (n : Int) : PV := .val (.int .i64 n)
abbrev pbool (b : Bool) : PV := .val (.bool b)

/-- What 'slices.IndexFunc' answers. -/
def idxOf {α : Type} (p : α → Bool) (l : List α) : Int := match l.findIdx? p with
  | some i => i
  | none => -1

theorem idxOf_at {α : Type} {p : α → Bool} {l : List α} {j : Nat} (hlt : j < l.length) (hpre : ∀ x ∈ l.take j, p x = false) (h : p l[j] = true) : idxOf p l = (j : Int) := by
  have : l.findIdx? p = some j := by
    rw [List.findIdx?_eq_some_iff_getElem]
    refine ⟨hlt, h, fun i hi => ?_⟩
    have := hpre l[i] (List.mem_take_iff_getElem.2 ⟨i, by omega, rfl⟩)
    simp [this]
  simp [idxOf, this]

theorem idxOf_none {α : Type} {p : α → Bool} {l : List α} (hpre : ∀ x ∈ l, p x = false) : idxOf p l = -1 := by
  have : l.findIdx? p = none := by
    rw [List.findIdx?_eq_none_iff]
    exact hpre
  simp [idxOf, this]

theorem pre_succ {α : Type} {p : α → Bool} {l : List α} {j : Nat} (hlt : j < l.length) (hpre : ∀ x ∈ l.take j, p x = false) (h : p l[j] = false) : ∀ x ∈ l.take (j + 1), p x = false := by
  intro x hx
  rw [List.take_add_one, List.getElem?_eq_getElem hlt] at hx
  simp only [Option.toList, List.mem_append, List.mem_singleton] at hx
  rcases hx with hx | rfl
  · exact hpre x hx
  · exact h

theorem wrap_id {n : Int} (h1 : -9223372036854775808 ≤ n) (h2 : n ≤ 9223372036854775807) : IntKind.i64.wrap n = n := by
  simp only [IntKind.wrap, IntKind.bits, IntKind.signed]
  simp
  omega

theorem pint_succ {j : Nat} (h : j < maxLen) : pint (IntKind.i64.wrap ((j : Int) + 1)) = pint ((j + 1 : Nat) : Int) := by
  rw [wrap_id (by omega) (by simp [maxLen] at h; omega)]
  simp

theorem idxOf_any {α : Type} {p : α → Bool} {l : List α} : (decide (idxOf p l ≥ 0)) = l.any p := by
  rw [Bool.eq_iff_iff]
  simp only [decide_eq_true_eq, List.any_eq_true]
  cases h : l.findIdx? p with
  | none =>
    have e : idxOf p l = -1 := by simp [idxOf, h]
    rw [List.findIdx?_eq_none_iff] at h
    rw [e]
    constructor
    · intro h'; omega
    · rintro ⟨x, hx, hp⟩; rw [h x hx] at hp; cases hp
  | some i =>
    have e : idxOf p l = (i : Int) := by simp [idxOf, h]
    rw [List.findIdx?_eq_some_iff_getElem] at h
    rw [e]
    exact ⟨fun _ => ⟨_, List.getElem_mem h.1, h.2.1⟩, fun _ => by omega⟩
end Go.Proofs.YtohlpijmiokkjaaDoor
