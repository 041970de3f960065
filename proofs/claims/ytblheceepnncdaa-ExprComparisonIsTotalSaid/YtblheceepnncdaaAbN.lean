/- The abstract layer, part N: weakening at both levels, inside frozen memory too. -/
import Derived.Test.YtblheceepnncdaaAbM
namespace Go.Ab

/-- Whatever the first represents, the second represents: in a slot, and in memory. -/
def PLe2 (P : Program) (p q : PV) : Prop := ∀ M s x, Rep P M s p x → Rep P M s q x
def PLe2All (P : Program) (ps qs : List PV) : Prop := ∀ M s xs, RepAll P M s ps xs → RepAll P M s qs xs
def PLe2Row (P : Program) (ps qs : List PV) : Prop := ps.length = qs.length ∧ ∀ M b o, RepAt P M b o ps → RepAt P M b o qs
def PLe2Rows (P : Program) (rs qs : List (List PV)) : Prop := rs.length = qs.length ∧ ∀ M k b o, RepRows P M k b o rs → RepRows P M k b o qs

section
variable {P : Program}
theorem PLe2.refl (p : PV) : PLe2 P p p := fun _ _ _ h => h
theorem PLe2.of_eq {p q : PV} (h : p = q) : PLe2 P p q := h ▸ PLe2.refl p
theorem PLe2.nil {T : TT} (hT : T.Ok P) {e : TypeId} {ti : TInfo} (hti : T.get e = some ti) : PLe2 P (.val (.slice none 0 0)) (.list e []) := fun M s x h => by
  obtain ⟨i, hi, _⟩ := (hT.get hti).info
  simp only [Rep] at h ⊢
  subst h
  exact ⟨none, 0, i, by simp, by simp, by simp, hi, by simp, by simp⟩
theorem PLe2.agg {ps qs : List PV} (h : PLe2All P ps qs) : PLe2 P (.agg ps) (.agg qs) := fun M s x hx => by
  simp only [Rep] at hx ⊢
  obtain ⟨cs, rfl, hc⟩ := hx
  exact ⟨cs, rfl, h M s _ hc⟩
theorem PLe2.tup {ps qs : List PV} (h : PLe2All P ps qs) : PLe2 P (.tup ps) (.tup qs) := fun M s x hx => by
  simp only [Rep] at hx ⊢
  obtain ⟨cs, rfl, hc⟩ := hx
  exact ⟨cs, rfl, h M s _ hc⟩
theorem PLe2.ptr {ps qs : List PV} (h : PLe2Row P ps qs) : PLe2 P (.ptr ps) (.ptr qs) := fun M s x hx => by
  simp only [Rep] at hx ⊢
  obtain ⟨b, o, rfl, hc⟩ := hx
  exact ⟨b, o, rfl, h.2 M b o hc⟩
theorem PLe2.fn {f : FuncId} {ps qs : List PV} (h : PLe2All P ps qs) : PLe2 P (.fn f ps) (.fn f qs) := fun M s x hx => by
  simp only [Rep] at hx ⊢
  obtain ⟨cs, rfl, hc⟩ := hx
  exact ⟨cs, rfl, h M s _ hc⟩
theorem PLe2.list {e : TypeId} {rs qs : List (List PV)} (h : PLe2Rows P rs qs) : PLe2 P (.list e rs) (.list e qs) := fun M s x hx => by
  simp only [Rep] at hx ⊢
  obtain ⟨a, c, i, h1, h2, h3, h4, h5, h6⟩ := hx
  rw [← h.1]
  refine ⟨a, c, i, h1, h2, h3, h4, h5, fun hne => ?_⟩
  have : rs ≠ [] := by
    intro hr
    apply hne
    have := h.1
    rw [hr] at this
    exact List.length_eq_zero_iff.1 this.symm
  obtain ⟨b, o, h7, h8⟩ := h6 this
  exact ⟨b, o, h7, h.2 M _ b o h8⟩
theorem PLe2All.refl (ps : List PV) : PLe2All P ps ps := fun _ _ _ h => h
theorem PLe2All.nil : PLe2All P [] [] := fun _ _ _ h => h
theorem PLe2All.cons {p q : PV} {ps qs : List PV} (h : PLe2 P p q) (h' : PLe2All P ps qs) : PLe2All P (p :: ps) (q :: qs) := fun M s xs hx => by
  simp only [RepAll] at hx ⊢
  obtain ⟨x, ys, rfl, h1, h2⟩ := hx
  exact ⟨x, ys, rfl, h M s x h1, h' M s ys h2⟩
theorem PLe2Row.refl (ps : List PV) : PLe2Row P ps ps := ⟨rfl, fun _ _ _ h => h⟩
theorem PLe2Row.nil : PLe2Row P [] [] := ⟨rfl, fun _ _ _ h => h⟩
theorem PLe2Row.cons {p q : PV} {ps qs : List PV} (h : PLe2 P p q) (h' : PLe2Row P ps qs) : PLe2Row P (p :: ps) (q :: qs) := ⟨by simp [h'.1], fun M b o hx => by
  simp only [RepAt] at hx ⊢
  obtain ⟨⟨x, h1, h2, h3⟩, h4⟩ := hx
  exact ⟨⟨x, h1, h2, h M false x h3⟩, h'.2 M b _ h4⟩⟩
theorem PLe2Rows.refl (rs : List (List PV)) : PLe2Rows P rs rs := ⟨rfl, fun _ _ _ _ h => h⟩
theorem PLe2Rows.nil : PLe2Rows P [] [] := ⟨rfl, fun _ _ _ _ h => h⟩
theorem PLe2Rows.cons {r q : List PV} {rs qs : List (List PV)} (h : PLe2Row P r q) (h' : PLe2Rows P rs qs) : PLe2Rows P (r :: rs) (q :: qs) := ⟨by simp [h'.1], fun M k b o hx => by
  simp only [RepRows] at hx ⊢
  obtain ⟨h1, h2, h3⟩ := hx
  exact ⟨by rw [← h.1]; exact h1, h.2 M b o h2, h'.2 M k b _ h3⟩⟩
theorem PLe.of2 {p q : PV} (h : PLe2 P p q) : PLe P p q := fun M x hx => h M true x hx
theorem PLeAll.of2 {ps qs : List PV} (h : PLe2All P ps qs) : PLeAll P ps qs := fun M xs hx => h M true xs hx
end
end Go.Ab
