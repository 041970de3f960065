/- The abstract layer, part N: weakening at both levels, inside frozen memory too. -/
import Derived.Test.YtohlpijmiokkjaaDoorAbM
namespace Go.Ab

/-- Whatever the first represents, the second represents: in a slot, and in memory. -/
def PLe2 (P : Program) (p q : PV) : Prop := ∀ M s x, Rep P M s p x → Rep P M s q x
def PLe2All (P : Program) (ps qs : List PV) : Prop := ∀ M s xs, RepAll P M s ps xs → RepAll P M s qs xs
def PLe2Row (P : Program) (ps qs : List PV) : Prop := ps.length = qs.length ∧ ∀ M b o, RepAt P M b o ps → RepAt P M b o qs
def PLe2Rows (P : Program) (rs qs : List (List PV)) : Prop := rs.length = qs.length ∧ ∀ M k b o, RepRows P M k b o rs → RepRows P M k b o qs

section
variable {P : Program}
theorem PLe2.refl (p : PV) : PLe2 P p p := fun _ _ _ h => h
theorem PLe2.of_eq {p q : PV} (h : p = q) : PLe2 P p q := h ▸ PLe2.refl p
theorem PLe2.nil {T : TT} (hT : T.Ok P) {e : TypeId} {ti : TInfo} (hti : T.get e = some ti) : PLe2 P (.val (.slice none 0 0)) (.list e []) := fun M s x h => by
  obtain ⟨i, hi, _⟩ := (hT.get hti).info
  simp only [Rep] at h ⊢
  subst h
  exact ⟨none, 0, i, by simp, by simp, by simp, hi, by simp, by simp⟩
theorem PLe2.agg {ps qs : List PV} (h : PLe2All P ps qs) : PLe2 P (.agg ps) (.agg qs) := fun M s x hx => by
  simp only [Rep] at hx ⊢
  obtain ⟨cs, rfl, hc⟩ := hx
  exact ⟨cs, rfl, h M s _ hc⟩
theorem PLe2.tup {ps qs : List PV} (h : PLe2All P ps qs) : PLe2 P (.tup ps) (.tup qs) := fun M s x hx => by
  simp only [Rep] at hx ⊢
  obtain ⟨cs, rfl, hc⟩ := hx
  exact ⟨cs, rfl, h M s _ hc⟩
theorem PLe2.ptr {ps qs : List PV} (h : PLe2Row P ps qs) : PLe2 P (.ptr ps) (.ptr qs) := fun M s x hx => by
  simp only [Rep] at hx ⊢
  obtain ⟨b, o, rfl, hc⟩ := hx
  exact ⟨b, o, rfl, h.2 M b o hc⟩
theorem PLe2.fn {f : FuncId} {ps qs : List PV} (h : PLe2All P ps qs) : PLe2 P (.fn f ps) (.fn f qs) := fun M s x hx => by
  simp only [Rep] at hx ⊢
  obtain ⟨cs, rfl, hc⟩ := hx
  exact ⟨cs, rfl, h M s _ hc⟩
theorem PLe2.list {e : TypeId} {rs qs : List (List PV)} (h : PLe2Rows P rs qs) : PLe2 P (.list e rs) (.list e qs) := fun M s x hx => by
  simp only [Rep] at hx ⊢
  obtain ⟨a, c, i, h1, h2, h3, h4, h5, h6⟩ := hx
  rw [← h.1]
  refine ⟨a, c, i, h1, h2, h3, h4, h5, fun hne => ?_⟩
  have : rs ≠ [] := by
    intro hr
    apply hne
    have := h.1
    rw [hr] at this
    exact List.length_eq_zero_iff.1 this.symm
  obtain ⟨b, o, h7, h8⟩ := h6 this
  exact ⟨b, o, h7, h.2 M _ b o h8⟩
theorem PLe2All.refl (ps : List PV) : PLe2All P ps ps := fun _ _ _ h => h
theorem PLe2All.nil : PLe2All P [] [] := fun _ _ _ h => h
theorem PLe2All.cons {p q : PV} {ps qs : List PV} (h : PLe2 P p q) (h' : PLe2All P ps qs) : PLe2All P (p :: ps) (q :: qs) := fun M s xs hx => by
  simp only [RepAll] at hx ⊢
  obtain ⟨x, ys, rfl, h1, h2⟩ := hx
  exact ⟨x, ys, rfl, h M s x h1, h' M s ys h2⟩
theorem PLe2Row.refl (ps : List PV) : PLe2Row P ps ps := ⟨rfl, fun _ _ _ h => h⟩
theorem PLe2Row.nil : PLe2Row P [] [] := ⟨rfl, fun _ _ _ h => h⟩
theorem PLe2Row.cons {p q : PV} {ps qs : List PV} (h : PLe2 P p q) (h' : PLe2Row P ps qs) : PLe2Row P (p :: ps) (q :: qs) := ⟨by simp [h'.1], fun M b o hx => by
  simp only [RepAt] at hx ⊢
  obtain ⟨⟨x, h1, h2, h3⟩, h4⟩ := hx
  exact ⟨⟨x, h1, h2, h M false x h3⟩, h'.2 M b _ h4⟩⟩
theorem PLe2Rows.refl (rs : List (List PV)) : PLe2Rows P rs rs := ⟨rfl, fun _ _ _ _ h => h⟩
theorem PLe2Rows.nil : PLe2Rows P [] [] := ⟨rfl, fun _ _ _ _ h => h⟩
theorem PLe2Rows.cons {r q : List PV} {rs qs : List (List PV)} (h : PLe2Row P r q) (h' : PLe2Rows P rs qs) : PLe2Rows P (r :: rs) (q :: qs) := ⟨by simp [h'.1], fun M k b o hx => by
  simp only [RepRows] at hx ⊢
  obtain ⟨h1, h2, h3⟩ := hx
  exact ⟨by rw [← h.1]; exact h1, h.2 M b o h2, h'.2 M k b _ h3⟩⟩
theorem PLe.of2 {p q : PV} (h : PLe2 P p q) : PLe P p q := fun M x hx => h M true x hx
theorem PLeAll.of2 {ps qs : List PV} (h : PLe2All P ps qs) : PLeAll P ps qs := fun M xs hx => h M true xs hx
end

section
variable {P : Program} {C : Ctx} {M : Mem} {H : Heap} {w : World}

theorem InvH.recell (h : InvH P C M H w) {tag b : Nat} {cells cells' : List PV} (hb : H.bx tag = some ⟨b, cells⟩) (hc : ∀ xs, RepAll P M true cells xs → RepAll P M true cells' xs) :
    InvH P C M ⟨upd H.bx tag (some ⟨b, cells'⟩), H.ob⟩ w := by
  have key : ∀ t x, upd H.bx tag (some ⟨b, cells'⟩) t = some x → ∃ y, H.bx t = some y ∧ y.b = x.b ∧ ∀ xs, RepAll P M true y.cells xs → RepAll P M true x.cells xs := by
    intro t x hx
    rw [upd_eq] at hx
    split at hx
    · rename_i e; subst e; cases hx; exact ⟨_, hb, rfl, hc⟩
    · exact ⟨x, hx, rfl, fun _ h => h⟩
  refine ⟨h.mem, h.ext, h.new, h.os, h.tape, h.output, h.size, h.frame, ?_, h.objs, ?_, h.dobj, ?_⟩
  · intro t x hx
    obtain ⟨y, hy, e1, e2⟩ := key t x hx
    obtain ⟨h1, ⟨cs, e, h2, h3⟩, h4⟩ := h.boxes t y hy
    rw [e1] at h1 h2 h4
    exact ⟨h1, ⟨cs, e, h2, e2 _ h3⟩, h4⟩
  · intro t t' x x' hx hx' hbb
    obtain ⟨y, hy, e1, _⟩ := key t x hx
    obtain ⟨y', hy', e1', _⟩ := key t' x' hx'
    exact h.dbox t t' y y' hy hy' (by rw [e1, e1']; exact hbb)
  · intro t t' x x' hx hx' hbb
    obtain ⟨y, hy, e1, _⟩ := key t x hx
    exact h.dmix t t' y x' hy hx' (by rw [e1]; exact hbb)

theorem RepAll.set {s : Bool} : ∀ {ps : List PV} {xs : List Value} {k : Nat} {p q : PV}, RepAll P M s ps xs → ps[k]? = some p → (∀ x, Rep P M s p x → Rep P M s q x) → RepAll P M s (ps.set k q) xs
  | [], _, _, _, _, _, hk, _ => by simp at hk
  | a :: ps, _, 0, p, q, h, hk, hq => by
    simp only [RepAll] at h
    obtain ⟨x, xs, rfl, h1, h2⟩ := h
    simp only [List.getElem?_cons_zero, Option.some.injEq] at hk
    subst hk
    simp only [List.set_cons_zero, RepAll]
    exact ⟨x, xs, rfl, hq x h1, h2⟩
  | a :: ps, _, k + 1, p, q, h, hk, hq => by
    simp only [RepAll] at h
    obtain ⟨x, xs, rfl, h1, h2⟩ := h
    simp only [List.set_cons_succ, RepAll]
    exact ⟨x, xs, rfl, h1, RepAll.set h2 (by simpa using hk) hq⟩
end

section
variable {P : Program} {fn : Func} {R : PV → Heap → Prop} {ks : List KI} {n : Nat} {s : Nat → PV} {bx : Nat → Option Box} {ob : Nat → Option Obj} {T : TT}

/-- A nil slice in a box's cell, taken for one of the call's own. -/
theorem V.nilOB (hT : T.Ok P) (tag k otag : Nat) {e : TypeId} {ei : TInfo} (hei : T.get e = some ei) {b : Nat} {cells cells' : List PV} (hb : bx tag = some ⟨b, cells⟩) (hk : cells[k]? = some (.val (.slice none 0 0)))
    (hf : forceL (cells.set k (.own otag ⟨none, 0⟩ 0)) = some cells') (h : V P fn R ks ⟨n, s, upd bx tag (some ⟨b, cells'⟩), upd ob otag (some ⟨⟨none, 0⟩, e, [], true⟩)⟩) : V P fn R ks ⟨n, s, bx, ob⟩ := by
  rw [forceL_eq, Option.some.injEq] at hf
  subst hf
  intro C M a w hi
  have h1 := hi.2.nilobj hT otag hei
  refine h C M a w ⟨hi.1, ?_⟩
  refine h1.recell (tag := tag) hb fun xs hx => hx.set hk fun x hx => ?_
  simp only [Rep] at hx ⊢
  exact ⟨trivial, by rw [hx]; rfl⟩

/-- A slice of the call's own in a box's cell, frozen. -/
theorem V.freezeOB (tag k : Nat) {tg : Nat} {g : OwnRef} {len : Nat} {e : TypeId} {rows : List (List PV)} {wr : Bool} {b : Nat} {cells cells' : List PV} (hb : bx tag = some ⟨b, cells⟩) (hk : cells[k]? = some (.own tg g len)) (hob : ob tg = some ⟨g, e, rows, wr⟩) (hlen : len = rows.length)
    (hf : forceL (cells.set k (.list e rows)) = some cells') (h : V P fn R ks ⟨n, s, upd bx tag (some ⟨b, cells'⟩), upd ob tg (some ⟨g, e, rows, false⟩)⟩) : V P fn R ks ⟨n, s, bx, ob⟩ := by
  rw [forceL_eq, Option.some.injEq] at hf
  subst hf
  subst hlen
  intro C M a w hi
  obtain ⟨M', hle, hi', hr⟩ := hi.2.freezeO (tag := tg) hob
  refine h C M' a w ⟨hi.1.mono hle, hi'.recell (tag := tag) hb fun xs hx => hx.set hk fun x hx => ?_⟩
  simp only [Rep] at hx
  rw [hx.2]
  exact hr

/-- Returning what a box holds, and a slot. -/
theorem V.retCT {r : PV} (hT : T.Ok P) {a t t' : Nat} (hres : fn.results = #[.cell a t, .tmp t']) {ti : TInfo} (hti : T.get t = some ti) {tag b off : Nat} {cells : List PV} (hs : s a = .box tag b off) (hb : bx tag = some ⟨b, cells⟩) {p p' : PV} (hr : (readCells ti off cells).bind force = some p) (hs' : force (s t') = some p')
    (hu : PLe P (.tup [p, p']) r) : V P fn (fun u H => u = r ∧ H = Heap.empty) (.code .ret :: ks) ⟨n, s, bx, ob⟩ := by
  have hr' : readCells ti off cells = some p := by
    cases hq : readCells ti off cells with
    | none => simp [hq] at hr
    | some q => rw [hq, Option.bind_some, force_eq] at hr; exact hr
  rw [force_eq, Option.some.injEq] at hs'
  exact V.retP hT hres (ps := [p, p']) ⟨p, _, rfl, ⟨ti, tag, b, off, cells, hti, hs, hb, hr'⟩, p', [], rfl, hs', rfl⟩ hu
end
end Go.Ab
