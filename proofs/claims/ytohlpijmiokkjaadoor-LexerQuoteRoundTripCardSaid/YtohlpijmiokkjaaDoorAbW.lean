/- Limits: a recursive function as the limit of its steps. -/
import Derived.Test.YtohlpijmiokkjaaDoorAbV
namespace Go.Ab

open Classical in
noncomputable def limN {β : Type} (F : Nat → Option β) : Option β :=
  if h : ∃ r, ∃ n, ∀ m, n ≤ m → F m = some r then some h.choose else none

theorem limN_some {β : Type} {F : Nat → Option β} {r : β} (h : limN F = some r) : ∃ n, F n = some r := by
  unfold limN at h
  split at h
  · next hx =>
    obtain ⟨n, hn⟩ := hx.choose_spec
    exact ⟨n, by rw [hn n (Nat.le_refl n)]; exact h⟩
  · cases h

theorem limN_eq {β : Type} {F : Nat → Option β} {r : β} (n : Nat) (h : ∀ m, n ≤ m → F m = some r) : limN F = some r := by
  have hx : ∃ r, ∃ n, ∀ m, n ≤ m → F m = some r := ⟨r, n, h⟩
  unfold limN
  rw [dif_pos hx]
  obtain ⟨k, hk⟩ := hx.choose_spec
  have e1 := hk (max n k) (Nat.le_max_right n k)
  have e2 := h (max n k) (Nat.le_max_left n k)
  rw [← e1, e2]

theorem limN_ev {β : Type} {F : Nat → Option β} {r : β} (h : limN F = some r) : ∃ n, ∀ m, n ≤ m → F m = some r := by
  unfold limN at h
  split at h
  · next hx =>
    obtain ⟨n, hn⟩ := hx.choose_spec
    exact ⟨n, fun m hm => by rw [hn m hm]; exact h⟩
  · cases h

end Go.Ab
