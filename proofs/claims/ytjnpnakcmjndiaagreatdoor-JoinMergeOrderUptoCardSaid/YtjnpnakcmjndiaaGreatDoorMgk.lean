/- Closed evaluation, part C: what a relative value stands for; the heap of the run's own blocks, and how it is kept. -/
import Derived.Test.YtjnpnakcmjndiaaGreatDoorMgj
import Derived.Below
import Derived.Laws.Cover3
namespace Go.Cx
open Go Go.Ab
open Go.RowKit (Below)

abbrev Be := Nat → Option (Nat × Nat)
def Be.le (β β' : Be) : Prop := ∀ k x, β k = some x → β' k = some x
theorem Be.rfl' {β : Be} : β.le β := fun _ _ h => h
theorem Be.trans {β β' β'' : Be} (h : β.le β') (h' : β'.le β'') : β.le β'' := fun k x e => h' k x (h k x e)

/-- What is known of the numbers that are given out stays, and new numbers only are given. -/
structure Ext (β β' : Be) (nx nx' : Nat) : Prop where
  le : β.le β'
  old : ∀ id, id < nx → β' id = β id
  nx : nx ≤ nx'
theorem Ext.rfl' {β : Be} {n : Nat} : Ext β β n n := ⟨Be.rfl', fun _ _ => rfl, Nat.le_refl _⟩
theorem Ext.trans {β β' β'' : Be} {n n' n'' : Nat} (h : Ext β β' n n') (h' : Ext β' β'' n' n'') : Ext β β'' n n'' :=
  ⟨Be.trans h.le h'.le, fun id hid => (h'.old id (Nat.lt_of_lt_of_le hid h.nx)).trans (h.old id hid), Nat.le_trans h.nx h'.nx⟩

mutual
def R (β : Be) : DV → Value → Prop
  | .bad, _ => True
  | .v x, y => y = x
  | .s l, y => y = .string ⟨l.toArray⟩
  | .a ds, y => ∃ cs : Array Value, y = .agg cs ∧ RL β ds cs.toList
  | .t ds, y => ∃ cs : Array Value, y = .tuple cs ∧ RL β ds cs.toList
  | .p id off, y => ∃ b c, β id = some (b, c) ∧ y = .pointer (some ⟨b, off, none⟩)
  | .l id off row len, y => ∃ b c, β id = some (b, c) ∧ row + len ≤ c ∧ y = .slice (some ⟨b, off, none⟩) len (c - row)
  | .e id off, y => ∃ b c, β id = some (b, c) ∧ y = .slice (some ⟨b, off, none⟩) 0 0
  | .f g caps, y => ∃ cs : Array Value, y = .func (.func g) #[] cs ∧ RL β caps cs.toList
  | .i _ _, _ => False
def RL (β : Be) : List DV → List Value → Prop
  | [], vs => vs = []
  | d :: ds, vs => ∃ x xs, vs = x :: xs ∧ R β d x ∧ RL β ds xs
end

section
variable {β β' : Be}
mutual
theorem R.mono (h : β.le β') : ∀ {d : DV} {y : Value}, R β d y → R β' d y
  | .bad, _, _ => by simp only [R]
  | .v _, _, e => by simpa only [R] using e
  | .s _, _, e => by simpa only [R] using e
  | .a ds, _, e => by
    simp only [R] at e ⊢
    obtain ⟨cs, h1, h2⟩ := e
    exact ⟨cs, h1, RL.mono h h2⟩
  | .t ds, _, e => by
    simp only [R] at e ⊢
    obtain ⟨cs, h1, h2⟩ := e
    exact ⟨cs, h1, RL.mono h h2⟩
  | .p id off, _, e => by
    simp only [R] at e ⊢
    obtain ⟨b, c, h1, h2⟩ := e
    exact ⟨b, c, h _ _ h1, h2⟩
  | .l id off row len, _, e => by
    simp only [R] at e ⊢
    obtain ⟨b, c, h1, h2⟩ := e
    exact ⟨b, c, h _ _ h1, h2⟩
  | .e id off, _, e => by
    simp only [R] at e ⊢
    obtain ⟨b, c, h1, h2⟩ := e
    exact ⟨b, c, h _ _ h1, h2⟩
  | .f g caps, _, e => by
    simp only [R] at e ⊢
    obtain ⟨cs, h1, h2⟩ := e
    exact ⟨cs, h1, RL.mono h h2⟩
  | .i _ _, _, e => by simp only [R] at e
theorem RL.mono (h : β.le β') : ∀ {ds : List DV} {ys : List Value}, RL β ds ys → RL β' ds ys
  | [], _, e => by simpa only [RL] using e
  | d :: ds, _, e => by
    simp only [RL] at e ⊢
    obtain ⟨x, xs, h1, h2, h3⟩ := e
    exact ⟨x, xs, h1, R.mono h h2, RL.mono h h3⟩
end

theorem RL.length : ∀ {ps : List DV} {xs : List Value}, RL β ps xs → xs.length = ps.length
  | [], _, h => by simp only [RL] at h; simp [h]
  | p :: ps, _, h => by
    simp only [RL] at h
    obtain ⟨x, xs, rfl, _, h3⟩ := h
    simp [RL.length h3]

theorem RL.get : ∀ {ps : List DV} {xs : List Value}, RL β ps xs → ∀ (j : Nat) (p : DV), ps[j]? = some p → ∃ x, xs[j]? = some x ∧ R β p x
  | [], _, _, j, p, hp => by simp at hp
  | q :: ps, _, h, j, p, hp => by
    simp only [RL] at h
    obtain ⟨x, xs, rfl, h2, h3⟩ := h
    cases j with
    | zero => simp at hp; subst hp; exact ⟨x, rfl, h2⟩
    | succ j => simpa using RL.get h3 j p (by simpa using hp)

theorem RL.append : ∀ {ps qs : List DV} {xs ys : List Value}, RL β ps xs → RL β qs ys → RL β (ps ++ qs) (xs ++ ys)
  | [], _, _, _, h, h' => by simp only [RL] at h; subst h; simpa using h'
  | p :: ps, _, _, _, h, h' => by
    simp only [RL] at h
    obtain ⟨x, xs, rfl, h2, h3⟩ := h
    simp only [List.cons_append, RL]
    exact ⟨x, _, rfl, h2, RL.append h3 h'⟩

theorem RL.take : ∀ {ps : List DV} {xs : List Value} (n : Nat), RL β ps xs → RL β (ps.take n) (xs.take n)
  | [], _, n, h => by simp only [RL] at h; subst h; simp [RL]
  | p :: ps, _, 0, h => by simp [RL]
  | p :: ps, _, n + 1, h => by
    simp only [RL] at h
    obtain ⟨x, xs, rfl, h2, h3⟩ := h
    simp only [List.take_succ_cons, RL]
    exact ⟨x, _, rfl, h2, RL.take n h3⟩

theorem RL.drop : ∀ {ps : List DV} {xs : List Value} (n : Nat), RL β ps xs → RL β (ps.drop n) (xs.drop n)
  | [], _, n, h => by simp only [RL] at h; subst h; simp [RL]
  | p :: ps, _, 0, h => by simpa using h
  | p :: ps, _, n + 1, h => by
    simp only [RL] at h
    obtain ⟨x, xs, rfl, h2, h3⟩ := h
    simp only [List.drop_succ_cons]
    exact RL.drop n h3

theorem R.const1 (x : Value) : R β (const1 x) x := by
  cases x <;> simp [Cx.const1, R]

theorem consts_rep (l : List Value) : RL β (l.map Cx.const1) l := by
  induction l with
  | nil => simp [RL]
  | cons v l ih => simp only [List.map_cons, RL]; exact ⟨v, l, rfl, R.const1 v, ih⟩

theorem R.const (x : Value) : R β (constD x) x := by
  cases x
  case agg cs => simp only [constD, R]; exact ⟨cs, rfl, consts_rep cs.toList⟩
  all_goals (simp only [constD]; exact R.const1 _)

theorem R.oneCell {d : DV} {x : Value} (h1 : d.one = true) (h : R β d x) : x.oneCell' = true := by
  cases d with
  | bad => simp [DV.one] at h1
  | v y => simp only [R] at h; subst h; simpa [DV.one] using h1
  | s l => simp only [R] at h; rw [h]; rfl
  | a l => simp [DV.one] at h1
  | t l => simp [DV.one] at h1
  | p i o => simp only [R] at h; obtain ⟨b, c, _, rfl⟩ := h; rfl
  | l i o r n => simp only [R] at h; obtain ⟨b, c, _, _, rfl⟩ := h; rfl
  | e i o => simp only [R] at h; obtain ⟨b, c, _, rfl⟩ := h; rfl
  | f g cs => simp only [R] at h; obtain ⟨c, rfl, _⟩ := h; rfl
  | i t d => simp only [R] at h

theorem RL.oneCell : ∀ {ps : List DV} {xs : List Value}, ps.all DV.one = true → RL β ps xs → ∀ x ∈ xs, x.oneCell' = true
  | [], _, _, h => by simp only [RL] at h; subst h; simp
  | p :: ps, _, h1, h => by
    simp only [RL] at h
    obtain ⟨x, xs, rfl, h2, h3⟩ := h
    simp only [List.all_cons, Bool.and_eq_true] at h1
    intro y hy
    rcases List.mem_cons.1 hy with rfl | hy
    · exact R.oneCell h1.1 h2
    · exact RL.oneCell h1.2 h3 y hy

theorem cellsD_sound {d : DV} {x : Value} {cs : List DV} (h : cellsD d = some cs) (hr : R β d x) : RL β cs x.cells.toList ∧ ∀ y ∈ x.cells.toList, y.oneCell' = true := by
  have single : d.one = true → x.cells = #[x] ∧ x.oneCell' = true := by
    intro h1
    have := R.oneCell h1 hr
    refine ⟨?_, this⟩
    cases x <;> simp_all [Value.oneCell', Value.cells]
  cases d with
  | a l =>
    simp only [cellsD] at h
    cases ho : l.all DV.one with
    | false => simp [ho] at h
    | true =>
      simp only [ho, cond_true, Option.some.injEq] at h
      subst h
      simp only [R] at hr
      obtain ⟨c, rfl, hc⟩ := hr
      exact ⟨hc, RL.oneCell ho hc⟩
  | _ =>
    simp only [cellsD] at h
    cases ho : DV.one _ with
    | false => rw [ho] at h; simp at h
    | true =>
      rw [ho] at h
      simp only [cond_true, Option.some.injEq] at h
      subst h
      rw [(single ho).1]
      simp only [RL]
      exact ⟨⟨x, [], rfl, hr, rfl⟩, by simpa using (single ho).2⟩

theorem spliceD_rep {cells new : List DV} {cs ns : List Value} (hc : RL β cells cs) (hn : RL β new ns) (off : Nat) :
    RL β (spliceD cells off new) (cs.take off ++ ns ++ cs.drop (off + ns.length)) := by
  unfold spliceD
  rw [hn.length]
  exact ((hc.take off).append hn).append (hc.drop _)

theorem splice_len {cells new : List DV} {off : Nat} (h : off + new.length ≤ cells.length) : (spliceD cells off new).length = cells.length := by
  simp only [spliceD, List.length_append, List.length_take, List.length_drop]
  omega

theorem fillD_sound {place : Nat → Option (Nat × Nat)} : ∀ {parts : List (Nat × DV)} {vals : List (Nat × Value)} {cells out : List DV} {cs : Array Value},
    fillD place cells parts = some out → RL β cells cs.toList → parts.map (·.1) = vals.map (·.1) → RL β (parts.map (·.2)) (vals.map (·.2)) →
    ∃ cs', Instr.fill place cs vals = some cs' ∧ RL β out cs'.toList ∧ ((∀ x ∈ cs.toList, x.oneCell' = true) → ∀ x ∈ cs'.toList, x.oneCell' = true)
  | [], vals, cells, out, cs, h, hc, hi, hv => by
    simp only [fillD, Option.some.injEq] at h
    subst h
    have : vals = [] := by cases vals <;> simp_all
    subst this
    exact ⟨cs, rfl, hc, id⟩
  | (i, p) :: r, [], cells, out, cs, h, hc, hi, hv => by simp at hi
  | (i, p) :: r, (j, v) :: vs, cells, out, cs, h, hc, hi, hv => by
    simp only [List.map_cons, List.cons.injEq] at hi
    obtain ⟨rfl, hi⟩ := hi
    simp only [List.map_cons, RL] at hv
    obtain ⟨x, xs, hxe, hpx, hrest⟩ := hv
    simp only [List.cons.injEq] at hxe
    obtain ⟨rfl, rfl⟩ := hxe
    simp only [fillD] at h
    split at h
    · rename_i off size pc hpl hpc
      cases hb : (Nat.beq pc.length size && Nat.ble (off + size) cells.length) with
      | false => simp [hb] at h
      | true =>
        simp only [hb, cond_true] at h
        simp only [Bool.and_eq_true] at hb
        have h1 : pc.length = size := Nat.eq_of_beq_eq_true hb.1
        have h2 : off + size ≤ cells.length := Nat.le_of_ble_eq_true hb.2
        obtain ⟨hpcr, hpone⟩ := cellsD_sound hpc hpx
        have hvl : v.cells.size = size := by have := hpcr.length; simp at this; omega
        have hcl : cs.size = cells.length := by have := hc.length; simpa using this
        have hfold := foldl_set_eq off v.cells.toList 0 cs (by simp; omega)
        have hz : v.cells.zipIdx.foldl (fun cs (c, j) => cs.setIfInBounds (off + j) c) cs = (v.cells.toList.zipIdx 0).foldl (fun cs (c, j) => cs.setIfInBounds (off + j) c) cs := by
          rw [← Array.foldl_toList]
          simp
        have hrep : RL β (spliceD cells off pc) (v.cells.zipIdx.foldl (fun cs (c, j) => cs.setIfInBounds (off + j) c) cs).toList := by
          rw [hz, hfold]
          simpa using spliceD_rep hc hpcr off
        obtain ⟨cs', hf, ho, hone⟩ := fillD_sound h hrep hi hrest
        refine ⟨cs', ?_, ho, fun hall => hone ?_⟩
        · simp only [Instr.fill, hpl]
          rw [if_neg (by simp [hvl]; omega)]
          exact hf
        · rw [hz, hfold]
          intro y hy
          simp only [Nat.add_zero, List.mem_append] at hy
          rcases hy with (hy | hy) | hy
          · exact hall y (List.mem_of_mem_take hy)
          · exact hpone y hy
          · exact hall y (List.mem_of_mem_drop hy)
    · cases h

theorem partsD_rep {ev : Operand → DV} {ρ : Operand → Value} (ps : List (Nat × Operand)) (h : ∀ x ∈ ps.map (·.2), R β (ev x) (ρ x)) :
    (ps.map fun p => (p.1, ev p.2)).map (·.1) = (ps.map fun p => (p.1, ρ p.2)).map (·.1) ∧ RL β ((ps.map fun p => (p.1, ev p.2)).map (·.2)) ((ps.map fun p => (p.1, ρ p.2)).map (·.2)) := by
  induction ps with
  | nil => simp [RL]
  | cons p ps ih =>
    have ih' := ih fun x hx => h x (by simp only [List.map_cons, List.mem_cons]; exact .inr hx)
    refine ⟨by simp, ?_⟩
    simp only [List.map_cons, RL]
    exact ⟨_, _, rfl, h p.2 (by simp), ih'.2⟩

theorem buildD_sound {P : Program} {T : TT} (hT : T.Ok P) {ev : Operand → DV} {ρ : Operand → Value} (w : World) {t : TypeId} {ps : Array (Nat × Operand)} {r : DV}
    (h : buildD T t (partsD ev ps) = some r) (he : ∀ x ∈ ps.toList.map (·.2), R β (ev x) (ρ x)) :
    ∃ v, (Instr.build t (ps.map fun p => (p.1, ρ p.2))).run P w = .ok v w ∧ R β r v := by
  unfold buildD at h
  split at h
  · rename_i ti hti
    have hk := hT.get hti
    split at h
    · rename_i fs hfs
      split at h
      · rename_i l hl
        cases hf : fillD (fun (i : Nat) => l[i]?) (zeroD ti) (partsD ev ps) with
        | none => simp [hf] at h
        | some out =>
          simp only [hf, Option.map_some, Option.some.injEq] at h
          subst h
          obtain ⟨h1, h2⟩ := partsD_rep (β := β) ps.toList he
          have hu := hk.rund w
          rw [hfs] at hu
          obtain ⟨cs', hfill, hrep, _⟩ := fillD_sound (cs := ti.zero.cells) (vals := ps.toList.map fun (p : Nat × Operand) => (p.1, ρ p.2)) hf (consts_rep _) h1 h2
          refine ⟨.agg cs', ?_, by simp only [R]; exact ⟨cs', rfl, hrep⟩⟩
          have hpl : (fs.mapM fun f => (do pure (f.offset, ← sizeOf f.type) : Sem (Nat × Nat))).run P w = .ok l.toArray w := by
            rw [Array.mapM_eq_mapM_toList, Sem.run_map, places_run hT w hl]
            rfl
          have hgl : (fun (i : Nat) => l.toArray[i]?) = fun (i : Nat) => l[i]? := by funext i; simp
          simp only [Instr.build, Sem.run_bind, hk.rzero w, Result.andThen_ok, hu, hpl, Array.toList_map]
          have e3 : Instr.fill (fun (i : Nat) => l.toArray[i]?) ti.zero.cells (ps.toList.map fun p => (p.1, ρ p.2)) = some cs' := by rw [hgl]; exact hfill
          rw [e3]
          rfl
      · cases h
    · cases h
  · cases h
end

/-! Trees. -/
theorem Tr.get_set {α : Type} : ∀ (n : Nat) (t : Tr α) (k : Nat) (x : α) (j : Nat), (Tr.set n t k x).get j = none ∨ (j = k ∧ (Tr.set n t k x).get j = some x) ∨ (j ≠ k ∧ (Tr.set n t k x).get j = t.get j)
  | 0, _, _, _, _ => .inl rfl
  | n + 1, t, k, x, j => by
    have key : ∀ (l : Tr α) (v : Option α) (r : Tr α), t.get j = (Tr.node l v r).get j → Tr.set (n + 1) t k x = (bif Nat.beq k 0 then .node l (some x) r else bif Nat.beq (k % 2) 1 then .node (Tr.set n l (k / 2) x) v r else .node l v (Tr.set n r (k / 2 - 1) x)) →
        (Tr.set (n + 1) t k x).get j = none ∨ (j = k ∧ (Tr.set (n + 1) t k x).get j = some x) ∨ (j ≠ k ∧ (Tr.set (n + 1) t k x).get j = t.get j) := by
      intro l v r ht hs
      rw [hs, ht]
      cases h0 : Nat.beq k 0 with
      | true =>
        have hk := Nat.eq_of_beq_eq_true h0
        simp only [cond_true, Tr.get]
        cases g0 : Nat.beq j 0 with
        | true =>
          have hj := Nat.eq_of_beq_eq_true g0
          exact .inr (.inl ⟨by omega, rfl⟩)
        | false =>
          have hj := Nat.ne_of_beq_eq_false g0
          exact .inr (.inr ⟨by omega, rfl⟩)
      | false =>
        have hk := Nat.ne_of_beq_eq_false h0
        cases h1 : Nat.beq (k % 2) 1 with
        | true =>
          have hk1 := Nat.eq_of_beq_eq_true h1
          simp only [cond_false, cond_true, Tr.get]
          cases g0 : Nat.beq j 0 with
          | true =>
            have hj := Nat.eq_of_beq_eq_true g0
            exact .inr (.inr ⟨by omega, rfl⟩)
          | false =>
            have hj := Nat.ne_of_beq_eq_false g0
            cases g1 : Nat.beq (j % 2) 1 with
            | true =>
              have hj1 := Nat.eq_of_beq_eq_true g1
              simp only [cond_false, cond_true]
              rcases Tr.get_set n l (k / 2) x (j / 2) with h | ⟨h, e⟩ | ⟨h, e⟩
              · exact .inl h
              · exact .inr (.inl ⟨by omega, e⟩)
              · exact .inr (.inr ⟨by omega, e⟩)
            | false =>
              have hj1 := Nat.ne_of_beq_eq_false g1
              simp only [cond_false]
              exact .inr (.inr ⟨fun e => hj1 (e ▸ hk1), trivial⟩)
        | false =>
          have hk1 := Nat.ne_of_beq_eq_false h1
          simp only [cond_false, Tr.get]
          cases g0 : Nat.beq j 0 with
          | true =>
            have hj := Nat.eq_of_beq_eq_true g0
            exact .inr (.inr ⟨by omega, rfl⟩)
          | false =>
            have hj := Nat.ne_of_beq_eq_false g0
            cases g1 : Nat.beq (j % 2) 1 with
            | true =>
              have hj1 := Nat.eq_of_beq_eq_true g1
              simp only [cond_false, cond_true]
              exact .inr (.inr ⟨fun e => hk1 (e ▸ hj1), trivial⟩)
            | false =>
              have hj1 := Nat.ne_of_beq_eq_false g1
              simp only [cond_false]
              rcases Tr.get_set n r (k / 2 - 1) x (j / 2 - 1) with h | ⟨h, e⟩ | ⟨h, e⟩
              · exact .inl h
              · exact .inr (.inl ⟨by omega, e⟩)
              · exact .inr (.inr ⟨by omega, e⟩)
    cases t with
    | nil =>
      refine key .nil none .nil ?_ rfl
      simp only [Tr.get]
      cases Nat.beq j 0 <;> cases Nat.beq (j % 2) 1 <;> rfl
    | node l v r => exact key l v r rfl rfl

theorem look_set {h : Tr (Option Blk)} {id : Nat} {x : Option Blk} {j : Nat} {k : Blk} (e : lookB (h.set 24 id x) j = some k) : (j = id ∧ x = some k) ∨ (j ≠ id ∧ lookB h j = some k) := by
  unfold lookB at e ⊢
  rcases Tr.get_set 24 h id x j with hn | ⟨rfl, hs⟩ | ⟨hne, hs⟩
  · rw [hn] at e; cases e
  · rw [hs] at e; exact .inl ⟨rfl, e⟩
  · rw [hs] at e; exact .inr ⟨hne, e⟩

/-- How deep a tree is. -/
def Tr.fits {α : Type} : Nat → Tr α → Prop
  | _, .nil => True
  | 0, .node _ _ _ => False
  | n + 1, .node l _ r => l.fits n ∧ r.fits n

theorem Tr.set_fits {α : Type} : ∀ (n : Nat) (t : Tr α) (k : Nat) (x : α), t.fits n → (Tr.set n t k x).fits n
  | 0, _, _, _, _ => by simp [Tr.set, Tr.fits]
  | n + 1, .nil, k, x, _ => by
    simp only [Tr.set]
    cases Nat.beq k 0 <;> cases Nat.beq (k % 2) 1 <;> simp only [cond_true, cond_false, Tr.fits] <;>
      first | exact ⟨trivial, trivial⟩ | exact ⟨Tr.set_fits n .nil _ x (by simp [Tr.fits]), trivial⟩ | exact ⟨trivial, Tr.set_fits n .nil _ x (by simp [Tr.fits])⟩ | (cases n <;> simp [Tr.fits])
  | n + 1, .node l v r, k, x, h => by
    simp only [Tr.fits] at h
    simp only [Tr.set]
    cases Nat.beq k 0 <;> cases Nat.beq (k % 2) 1 <;> simp only [cond_true, cond_false, Tr.fits] <;>
      first | exact h | exact ⟨Tr.set_fits n l _ x h.1, h.2⟩ | exact ⟨h.1, Tr.set_fits n r _ x h.2⟩

/-- What is set is there. -/
theorem Tr.get_same {α : Type} : ∀ (n : Nat) (t : Tr α) (k : Nat) (x : α), k + 1 < 2 ^ n → (Tr.set n t k x).get k = some x
  | 0, _, k, _, h => by simp at h
  | n + 1, t, k, x, h => by
    have key : ∀ (l : Tr α) (v : Option α) (r : Tr α), ((bif Nat.beq k 0 then Tr.node l (some x) r else bif Nat.beq (k % 2) 1 then .node (Tr.set n l (k / 2) x) v r else .node l v (Tr.set n r (k / 2 - 1) x)) : Tr α).get k = some x := by
      intro l v r
      have hp : 2 ^ (n + 1) = 2 * 2 ^ n := by rw [Nat.pow_succ]; omega
      cases h0 : Nat.beq k 0 with
      | true => simp [Tr.get, h0]
      | false =>
        have hk := Nat.ne_of_beq_eq_false h0
        cases h1 : Nat.beq (k % 2) 1 with
        | true =>
          have hk1 := Nat.eq_of_beq_eq_true h1
          simp only [cond_false, cond_true, Tr.get, h0, h1]
          exact Tr.get_same n l (k / 2) x (by omega)
        | false =>
          have := Nat.ne_of_beq_eq_false h1
          simp only [cond_false, Tr.get, h0, h1]
          exact Tr.get_same n r (k / 2 - 1) x (by omega)
    cases t with
    | nil => exact key .nil none .nil
    | node l v r => exact key l v r

/-- What is not set stays. -/
theorem Tr.get_other {α : Type} : ∀ (n : Nat) (t : Tr α) (k : Nat) (x : α) (j : Nat), t.fits n → j ≠ k → (k + 1 < 2 ^ n) → (Tr.set n t k x).get j = t.get j
  | 0, _, k, _, _, _, _, h => by simp at h
  | n + 1, t, k, x, j, hf, hj, h => by
    have hp : 2 ^ (n + 1) = 2 * 2 ^ n := by rw [Nat.pow_succ]; omega
    have key : ∀ (l : Tr α) (v : Option α) (r : Tr α), l.fits n → r.fits n → ((bif Nat.beq k 0 then Tr.node l (some x) r else bif Nat.beq (k % 2) 1 then .node (Tr.set n l (k / 2) x) v r else .node l v (Tr.set n r (k / 2 - 1) x)) : Tr α).get j = (Tr.node l v r).get j := by
      intro l v r hl hr
      cases h0 : Nat.beq k 0 with
      | true =>
        have hk := Nat.eq_of_beq_eq_true h0
        have g0 : Nat.beq j 0 = false := by cases g : Nat.beq j 0 with | false => rfl | true => exact absurd (Nat.eq_of_beq_eq_true g) (by omega)
        simp [Tr.get, g0]
      | false =>
        have hk := Nat.ne_of_beq_eq_false h0
        cases h1 : Nat.beq (k % 2) 1 with
        | true =>
          have hk1 := Nat.eq_of_beq_eq_true h1
          simp only [cond_false, cond_true, Tr.get]
          cases g0 : Nat.beq j 0 with
          | true => rfl
          | false =>
            cases g1 : Nat.beq (j % 2) 1 with
            | true =>
              have hj1 := Nat.eq_of_beq_eq_true g1
              simp only [cond_false, cond_true]
              exact Tr.get_other n l (k / 2) x (j / 2) hl (by omega) (by omega)
            | false => rfl
        | false =>
          have hk1 := Nat.ne_of_beq_eq_false h1
          simp only [cond_false, Tr.get]
          cases g0 : Nat.beq j 0 with
          | true => rfl
          | false =>
            have hj0 := Nat.ne_of_beq_eq_false g0
            cases g1 : Nat.beq (j % 2) 1 with
            | true => rfl
            | false =>
              have hj1 := Nat.ne_of_beq_eq_false g1
              simp only [cond_false]
              exact Tr.get_other n r (k / 2 - 1) x (j / 2 - 1) hr (by omega) (by omega)
    cases t with
    | nil =>
      have e := key .nil none .nil (by cases n <;> simp [Tr.fits]) (by cases n <;> simp [Tr.fits])
      have e2 : (Tr.node .nil none .nil : Tr α).get j = (Tr.nil : Tr α).get j := by
        simp only [Tr.get]
        cases Nat.beq j 0 <;> cases Nat.beq (j % 2) 1 <;> rfl
      exact e.trans e2
    | node l v r =>
      simp only [Tr.fits] at hf
      exact key l v r hf.1 hf.2

/-! The world. -/
def BOk (β : Be) (w : World) (id : Nat) (k : Blk) : Prop :=
  ∃ b c arr fz, β id = some (b, c) ∧ w.heap[b]? = some (.cells arr k.e fz) ∧ (k.wr = true → fz = (0, 0)) ∧ k.cells.length ≤ arr.size ∧ RL β k.cells (arr.toList.take k.cells.length) ∧
    (∀ m, k.cap = some m → c = m) ∧ (k.sz ≠ 0 → arr.size = c * k.sz)

/-- W0: the world that the run began with. B: blocks that are not the run's to touch now. -/
structure WR (W0 : World) (B : Nat → Option Go.Obj) (β : Be) (H : Hp) (w : World) : Prop where
  os : w.os = W0.os
  tape : w.tape = W0.tape
  output : w.output = W0.output
  size : W0.heap.size ≤ w.heap.size
  prot : ∀ b o, B b = some o → w.heap[b]? = some o
  dom : ∀ id b c, β id = some (b, c) → id < H.nx ∧ b < w.heap.size
  blk : ∀ id k, lookB H.h id = some k → BOk β w id k
  own : ∀ id k b c, lookB H.h id = some k → β id = some (b, c) → B b = none
  inj : ∀ id id' k k' b c c', lookB H.h id = some k → lookB H.h id' = some k' → β id = some (b, c) → β id' = some (b, c') → id = id'
  fit : H.h.fits 24

/-- Nothing but one block is other than it was. -/
structure Fr (w w' : World) (b : Nat) : Prop where
  os : w'.os = w.os
  tape : w'.tape = w.tape
  output : w'.output = w.output
  size : w.heap.size ≤ w'.heap.size
  other : ∀ b', b' ≠ b → b' < w.heap.size → w'.heap[b']? = w.heap[b']?

theorem Fr.setRow (w : World) (b : Nat) (arr : Array Value) : Fr w (w.setRow b arr) b :=
  ⟨rfl, rfl, rfl, by simp, fun b' h _ => setRow_other w b b' _ h⟩

theorem Fr.alloc (w : World) (hd : World) (hdw : hd = w ∨ hd = w.drew) (o : Go.Obj) : Fr w (hd.alloc o) w.heap.size := by
  have e1 : hd.heap = w.heap := by rcases hdw with rfl | rfl <;> rfl
  have hsz : hd.heap.size = w.heap.size := by rw [e1]
  refine ⟨by rcases hdw with rfl | rfl <;> rfl, by rcases hdw with rfl | rfl <;> rfl, by rcases hdw with rfl | rfl <;> rfl, ?_, fun b' _ hb' => ?_⟩
  · rw [size_alloc, hsz]; omega
  · rw [heap_alloc_old hd _ (by rw [hsz]; exact hb'), e1]

def updB (β : Be) (k : Nat) (x : Nat × Nat) : Be := fun j => if j = k then some x else β j

section
variable {W0 : World} {B : Nat → Option Go.Obj} {β : Be} {H : Hp} {w : World}

theorem WR.drew (hw : WR W0 B β H w) : WR W0 B β H w.drew :=
  ⟨hw.os, hw.tape, hw.output, hw.size, hw.prot, hw.dom, hw.blk, hw.own, hw.inj, hw.fit⟩

theorem WR.fresh (hw : WR W0 B β H w) : B w.heap.size = none := by
  cases h : B w.heap.size with
  | none => rfl
  | some o =>
    have := (Array.getElem?_eq_some_iff.1 (hw.prot _ _ h)).1
    exact absurd this (Nat.lt_irrefl _)

theorem le_upd {id : Nat} (hid : β id = none) (x : Nat × Nat) : β.le (updB β id x) := by
  intro j y hj
  simp only [updB]
  by_cases e : j = id
  · subst e; rw [hid] at hj; cases hj
  · rw [if_neg e]; exact hj

theorem ext_upd {id : Nat} (hid : β id = none) (x : Nat × Nat) : Ext β (updB β id x) id (id + 1) :=
  ⟨le_upd hid x, fun j hj => by simp only [updB]; rw [if_neg (by omega)], Nat.le_succ _⟩

theorem WR.nx_none (hw : WR W0 B β H w) : β H.nx = none := by
  cases h : β H.nx with
  | none => rfl
  | some x => exact absurd (hw.dom _ x.1 x.2 h).1 (Nat.lt_irrefl _)

/-- A block of the run's own gets a number; it is not one that bears a number now. -/
theorem WR.put (hw : WR W0 B β H w) {w' : World} {b c id nx : Nat} {arr : Array Value} {fz : Nat × Nat} {k : Blk} (hid : β id = none) (hnx : H.nx ≤ nx) (hlt : id < nx) (hlook : ∀ k, lookB H.h id ≠ some k) (hB : B b = none) (hfree : ∀ j k c, lookB H.h j = some k → β j ≠ some (b, c))
    (hf : Fr w w' b) (hnew : w'.heap[b]? = some (.cells arr k.e fz))
    (hfz : k.wr = true → fz = (0, 0)) (hlen : k.cells.length ≤ arr.size) (hr : RL β k.cells (arr.toList.take k.cells.length)) (hc : ∀ m, k.cap = some m → c = m) (hs : k.sz ≠ 0 → arr.size = c * k.sz) :
    WR W0 B (updB β id (b, c)) ⟨H.h.set 24 id (some k), nx⟩ w' := by
  have hle := le_upd hid (b, c)
  have hbl : b < w'.heap.size := (Array.getElem?_eq_some_iff.1 hnew).1
  have same : ∀ j b' c', j ≠ id → updB β id (b, c) j = some (b', c') → β j = some (b', c') := by
    intro j b' c' hj h
    simpa only [updB, if_neg hj] using h
  have new : ∀ b' c', updB β id (b, c) id = some (b', c') → b' = b ∧ c' = c := by
    intro b' c' h
    simp only [updB, if_true, Option.some.injEq, Prod.mk.injEq] at h
    exact ⟨h.1.symm, h.2.symm⟩
  refine ⟨hf.os.trans hw.os, hf.tape.trans hw.tape, hf.output.trans hw.output, Nat.le_trans hw.size hf.size, ?_, ?_, ?_, ?_, ?_, Tr.set_fits _ _ _ _ hw.fit⟩
  · intro b' o hb'
    have h1 := hw.prot b' o hb'
    rw [hf.other b' (fun e => by rw [e, hB] at hb'; cases hb') (Array.getElem?_eq_some_iff.1 h1).1]
    exact h1
  · intro j b' c' hj
    show j < nx ∧ _
    by_cases e : j = id
    · subst e
      obtain ⟨rfl, rfl⟩ := new _ _ hj
      exact ⟨hlt, hbl⟩
    · obtain ⟨h1, h2⟩ := hw.dom j b' c' (same j b' c' e hj)
      exact ⟨by omega, Nat.lt_of_lt_of_le h2 hf.size⟩
  · intro j k' hj
    rcases look_set hj with ⟨rfl, e⟩ | ⟨hne, e⟩
    · cases e
      exact ⟨b, c, arr, fz, by simp [updB], hnew, hfz, hlen, hr.mono hle, hc, hs⟩
    · obtain ⟨b', c', arr', fz', h1, h2, h3, h4, h5, h6, h7⟩ := hw.blk j k' e
      have hb' : b' ≠ b := fun eb => hfree j k' c' e (by rw [h1, eb])
      exact ⟨b', c', arr', fz', hle _ _ h1, (hf.other b' hb' (hw.dom j b' c' h1).2).trans h2, h3, h4, h5.mono hle, h6, h7⟩
  · intro j k' b' c' hj h1
    rcases look_set hj with ⟨e, _⟩ | ⟨e, hk⟩
    · rw [e] at h1
      obtain ⟨rfl, _⟩ := new _ _ h1
      exact hB
    · exact hw.own j k' b' c' hk (same j _ _ e h1)
  · intro j j' k1 k2 b1 c1 c2 hj hj' h1 h2
    rcases look_set hj with ⟨e, _⟩ | ⟨e, hk⟩ <;> rcases look_set hj' with ⟨e', _⟩ | ⟨e', hk'⟩
    · rw [e, e']
    · rw [e] at h1
      obtain ⟨rfl, _⟩ := new _ _ h1
      exact absurd (same j' _ _ e' h2) (hfree j' k2 c2 hk')
    · rw [e'] at h2
      obtain ⟨rfl, _⟩ := new _ _ h2
      exact absurd (same j _ _ e h1) (hfree j k1 c1 hk)
    · exact hw.inj j j' k1 k2 b1 c1 c2 hk hk' (same j _ _ e h1) (same j' _ _ e' h2)

theorem WR.nlook (hw : WR W0 B β H w) {id : Nat} (hid : β id = none) : ∀ k, lookB H.h id ≠ some k := by
  intro k h
  obtain ⟨b, c, _, _, h1, _⟩ := hw.blk id k h
  rw [hid] at h1
  cases h1

/-- A block that is new. -/
theorem WR.new (hw : WR W0 B β H w) (hd : World) (hdw : hd = w ∨ hd = w.drew) {c : Nat} {arr : Array Value} {fz : Nat × Nat} {k : Blk} (hfz : k.wr = true → fz = (0, 0)) (hlen : k.cells.length ≤ arr.size)
    (hr : RL β k.cells (arr.toList.take k.cells.length)) (hc : ∀ m, k.cap = some m → c = m) (hs : k.sz ≠ 0 → arr.size = c * k.sz) :
    Ext β (updB β H.nx (w.heap.size, c)) H.nx (H.nx + 1) ∧ WR W0 B (updB β H.nx (w.heap.size, c)) (newD H k) (hd.alloc (.cells arr k.e fz)) := by
  refine ⟨ext_upd hw.nx_none _, hw.put hw.nx_none (Nat.le_succ _) (Nat.lt_succ_self _) (hw.nlook hw.nx_none) hw.fresh (fun j k c _ h => absurd (hw.dom j _ _ h).2 (Nat.lt_irrefl _)) (Fr.alloc w hd hdw _) ?_ hfz hlen hr hc hs⟩
  have e1 : hd.heap.size = w.heap.size := by rcases hdw with rfl | rfl <;> rfl
  rw [← e1]
  exact heap_alloc_new hd _

/-- A block is written. -/
theorem WR.write (hw : WR W0 B β H w) {id b c : Nat} {k : Blk} (hid : lookB H.h id = some k) (hβ : β id = some (b, c)) {arr : Array Value} {cells : List DV} (hcur : ∃ cur, w.heap[b]? = some (.cells cur k.e (0, 0)) ∧ cur.size = arr.size)
    (hlen : cells.length ≤ arr.size) (hr : RL β cells (arr.toList.take cells.length)) : WR W0 B β ⟨H.h.set 24 id (some ⟨k.e, k.sz, k.cap, k.wr, cells⟩), H.nx⟩ (w.setRow b arr) := by
  obtain ⟨cur, hcur, hsz⟩ := hcur
  have old : ∀ j k', lookB (H.h.set 24 id (some ⟨k.e, k.sz, k.cap, k.wr, cells⟩)) j = some k' → ∃ k'', lookB H.h j = some k'' := by
    intro j k' hj
    rcases look_set hj with ⟨rfl, e⟩ | ⟨_, e⟩
    · exact ⟨k, hid⟩
    · exact ⟨k', e⟩
  refine ⟨hw.os, hw.tape, hw.output, by simpa using hw.size, fun b' o hb' => ?_, fun j b' c' hj => ?_, fun j k' hj => ?_, fun j k' b' c' hj h1 => ?_, fun j j' k1 k2 b1 c1 c2 hj hj' h1 h2 => ?_, Tr.set_fits _ _ _ _ hw.fit⟩
  · have hne : b' ≠ b := fun e => by
      rw [e, hw.own id k b c hid hβ] at hb'
      cases hb'
    rw [setRow_other w b b' _ hne]
    exact hw.prot b' o hb'
  · simpa using hw.dom j b' c' hj
  · obtain ⟨b0, c0, arr0, fz0, g1, g2, g3, g4, g5, g6, g7⟩ := hw.blk id k hid
    rw [hβ] at g1
    cases g1
    rw [hcur] at g2
    cases g2
    rcases look_set hj with ⟨rfl, e⟩ | ⟨hne, e⟩
    · cases e
      exact ⟨b, c, arr, (0, 0), hβ, setRow_heap w b cur arr _ _ hcur, fun _ => rfl, hlen, hr, g6, fun h => by rw [← hsz]; exact g7 h⟩
    · obtain ⟨b', c', arr', fz', h1, h2, h3⟩ := hw.blk j k' e
      have hb' : b' ≠ b := fun eb => hne (hw.inj j id k' k b c' c e hid (by rw [h1, eb]) hβ)
      exact ⟨b', c', arr', fz', h1, (setRow_other w b b' _ hb').trans h2, h3⟩
  · obtain ⟨k'', hk''⟩ := old j k' hj
    exact hw.own j k'' b' c' hk'' h1
  · obtain ⟨k1', hk1⟩ := old j k1 hj
    obtain ⟨k2', hk2⟩ := old j' k2 hj'
    exact hw.inj j j' k1' k2' b1 c1 c2 hk1 hk2 h1 h2

/-- A heap that says no more. -/
theorem WR.less (hw : WR W0 B β H w) {H' : Hp} (hl : ∀ id k, lookB H'.h id = some k → lookB H.h id = some k) (hnx : H.nx ≤ H'.nx) (hf : H'.h.fits 24) : WR W0 B β H' w :=
  ⟨hw.os, hw.tape, hw.output, hw.size, hw.prot, fun id b c h => ⟨Nat.lt_of_lt_of_le (hw.dom id b c h).1 hnx, (hw.dom id b c h).2⟩, fun j k' hj => hw.blk j k' (hl _ _ hj), fun j k b c hj => hw.own j k b c (hl _ _ hj),
    fun j j' k1 k2 b1 c1 c2 hj hj' => hw.inj j j' k1 k2 b1 c1 c2 (hl _ _ hj) (hl _ _ hj'), hf⟩

theorem look_drop {h : Tr (Option Blk)} {id j : Nat} {k : Blk} (e : lookB (h.set 24 id none) j = some k) : j ≠ id ∧ lookB h j = some k := by
  rcases look_set e with ⟨_, e1⟩ | ⟨hne, e1⟩
  · cases e1
  · exact ⟨hne, e1⟩

/-- A block's number is given up. -/
theorem WR.drop (hw : WR W0 B β H w) (id : Nat) : WR W0 B β ⟨H.h.set 24 id none, H.nx⟩ w :=
  hw.less (fun _ _ h => (look_drop h).2) (Nat.le_refl _) (Tr.set_fits _ _ _ _ hw.fit)

/-- What lies in a block's cells. -/
theorem WR.cell (hw : WR W0 B β H w) {id b c : Nat} {k : Blk} (hid : lookB H.h id = some k) (hβ : β id = some (b, c)) :
    ∃ xs : List Value, RL β k.cells xs ∧ ∀ (j : Nat) (x : Value), xs[j]? = some x → w.cell? ⟨b, j, none⟩ = some x := by
  obtain ⟨b0, c0, arr, fz, g1, g2, g3, g4, g5, _⟩ := hw.blk id k hid
  rw [hβ] at g1
  cases g1
  refine ⟨_, g5, fun j x hj => ?_⟩
  rw [cell_of_row w b j arr k.e fz g2]
  rw [List.getElem?_take] at hj
  split at hj
  · simpa using hj
  · cases hj
end
end Go.Cx
/- Closed evaluation, part D: the operations that leave the heap asQ it is. -/
namespace Go.Cx
open Go Go.Ab
open Go.RowKit (Below)

section
variable {P : Program} {T : TT} (hT : T.Ok P) {W0 : World} {B : Nat → Option Go.Obj} {β : Be} {H : Hp} {w : World}
include hT

omit hT in
theorem scalarEqD_sound {d : Nat} {t : TypeId} {ti : TInfo} (hti : ti.Ok P t) {p q : DV} {x y : Value} (hp : R β p x) (hq : R β q y) {b : Bool} (h : scalarEqD ti.desc p q = some b) :
    isAggD ti.desc = false ∧ (Op.equalIn (d + 1) t x y).run P w = .ok b w := by
  obtain ⟨desc, size, bytes, zero, eqf⟩ := ti
  have hu := hti.und
  simp only at hu h ⊢
  unfold scalarEqD at h
  split at h
  · rename_i k0 k a k' b'
    simp only [R] at hp hq
    subst hp hq
    cases hk : decide (k = k') with
    | false => simp [hk] at h
    | true =>
      simp only [hk, cond_true, Option.some.injEq] at h
      have := of_decide_eq_true hk
      subst this h
      exact ⟨rfl, run_equalIn_int w d t k k0 a b' hu⟩
  · simp only [R] at hp hq
    subst hp hq
    simp only [Option.some.injEq] at h
    subst h
    exact ⟨rfl, run_equalIn_bool' w d t _ _ hu⟩
  · rename_i a b'
    simp only [R] at hp hq
    subst hp hq
    simp only [Option.some.injEq] at h
    subst h
    refine ⟨rfl, ?_⟩
    have := run_equalIn_string (P := P) w d t ⟨a.toArray⟩ ⟨b'.toArray⟩ hu
    simpa using this
  · cases h

theorem eqCellsD_sound {d : Nat} {xs ys : List DV} {cs ds : Array Value} (hx : RL β xs cs.toList) (hy : RL β ys ds.toList) :
    ∀ (fs : List Field) (eqf : List (Nat × Nat)) (b : Bool), fieldsMeet fs eqf → eqCellsD T eqf xs ys = some b → (Op.eqFields (d + 1) cs ds fs).run P w = .ok b w
  | [], [], b, _, h => by simp only [eqCellsD, Option.some.injEq] at h; subst h; simp [Op.eqFields]
  | f :: fs, (t, o) :: r, b, hm, h => by
    simp only [fieldsMeet] at hm
    obtain ⟨hn, rfl, rfl, hm⟩ := hm
    simp only [eqCellsD] at h
    split at h
    · rename_i ti p q hti hp hq
      split at h
      · rename_i b1 b2 h1 h2
        simp only [Option.some.injEq] at h
        subst h
        obtain ⟨x, hx1, hx2⟩ := hx.get _ _ hp
        obtain ⟨y, hy1, hy2⟩ := hy.get _ _ hq
        obtain ⟨hag, heq⟩ := scalarEqD_sound (w := w) (d := d) (hT.get hti) hx2 hy2 h1
        have hpx : ∀ (c : Array Value) (z : Value), c.toList[f.offset]? = some z → (part f.type c f.offset).run P w = .ok z w := by
          intro c z hz
          rw [Array.getElem?_toList] at hz
          simp [part, (hT.get hti).ragg w, hag, hz]
        have ih := eqCellsD_sound (d := d) hx hy fs r b2 hm h2
        simp only [Op.eqFields, if_pos (show f.name ≠ "_" from hn), Sem.run_bind, hpx _ _ hx1, hpx _ _ hy1, Result.andThen_ok, heq]
        cases b1 <;> simp [ih]
      · cases h
    · cases h
  | [], _ :: _, b, hm, _ => by simp [fieldsMeet] at hm
  | _ :: _, [], b, hm, _ => by simp [fieldsMeet] at hm

theorem binD_sound {op : BinOp} {t : TypeId} {p q r : DV} (h : binD T op t p q = some r) {x y : Value} (hp : R β p x) (hq : R β q y) (xo yo : Operand) :
    ∃ v, (do eqGuard op t xo yo x y; binOp op t x y : Sem Value).run P w = .ok v w ∧ R β r v := by
  unfold binD at h
  split at h
  · rename_i k a k' b
    simp only [R] at hp hq
    subst hp hq
    cases hk : decide (k = k') with
    | false => simp [hk] at h
    | true =>
      have := of_decide_eq_true hk
      subst this
      simp only [decide_true, cond_true] at h
      have hg : (eqGuard op t xo yo (.int k a) (.int k b)).run P w = .ok () w := by unfold eqGuard; split <;> simp
      rw [Sem.run_bind, hg, Result.andThen_ok]
      cases op <;> simp only [cmpInt, Option.map_some, Option.map_none, Option.some.injEq, reduceCtorEq] at h <;>
        (try split at h) <;> (try (simp only [Option.some.injEq, reduceCtorEq] at h)) <;> (try subst h) <;>
        simp_all [binOp, Op.intArith, Op.intDiv, Op.intCmp, R]
  · rename_i a b
    simp only [R] at hp hq
    subst hp hq
    have hg : (eqGuard op t xo yo (.string ⟨a.toArray⟩) (.string ⟨b.toArray⟩)).run P w = .ok () w := by unfold eqGuard; split <;> simp
    rw [Sem.run_bind, hg, Result.andThen_ok]
    have hs : ∀ l : List UInt8, (ByteArray.mk l.toArray).size = l.length := fun l => by simp [ByteArray.size]
    cases op <;> simp only [cmpStr, Option.map_some, Option.map_none, Option.some.injEq, reduceCtorEq] at h <;>
      (try split at h) <;> (try (simp only [Option.some.injEq, reduceCtorEq] at h)) <;> (try subst h) <;> (try cases h) <;>
      simp [binOp, Op.stringOp, R]
    rename_i hle
    have h63 : ¬ ((9223372036854775807 : Int) < (a.length : Int) + (b.length : Int)) := by
      unfold maxStr at hle
      omega
    rw [hs, hs, if_neg h63, ByteArray.mk_append_mk]
  · rename_i a b
    simp only [R] at hp hq
    subst hp hq
    split at h
    · rename_i hti
      have hu := (hT.get hti).und
      simp only [Option.some.injEq] at h
      subst h
      have hg : (eqGuard .eql t xo yo (.bool a) (.bool b)).run P w = .ok () w := by simp [eqGuard]
      rw [Sem.run_bind, hg, Result.andThen_ok]
      refine ⟨.bool (a == b), ?_, by simp only [R]⟩
      simp only [binOp, Op.equal, Op.maxDepth]
      rw [Sem.run_bind, run_equalIn_bool' w 9999 t a b hu]
      rfl
    · rename_i hti
      have hu := (hT.get hti).und
      simp only [Option.some.injEq] at h
      subst h
      have hg : (eqGuard .neq t xo yo (.bool a) (.bool b)).run P w = .ok () w := by simp [eqGuard]
      rw [Sem.run_bind, hg, Result.andThen_ok]
      refine ⟨.bool (!(a == b)), ?_, by simp only [R]⟩
      simp only [binOp, Op.equal, Op.maxDepth]
      rw [Sem.run_bind, run_equalIn_bool' w 9999 t a b hu]
      rfl
    · cases h
  · rename_i xs ys
    simp only [R] at hp hq
    obtain ⟨cs, rfl, hc⟩ := hp
    obtain ⟨ds, rfl, hd⟩ := hq
    split at h
    · rename_i ti hti
      cases he : ti.eqf.isEmpty with
      | true => simp [he] at h
      | false =>
        simp only [he, cond_false] at h
        obtain ⟨h1, h2, h3, h4⟩ := (hT.get hti).eqs (by intro h0; simp [h0] at he)
        rw [Sem.run_bind, run_eqGuard_agg w op t xo yo cs ds h2, Result.andThen_ok]
        split at h
        · cases hb : eqCellsD T ti.eqf xs ys with
          | none => simp [hb] at h
          | some b =>
            simp only [hb, Option.map_some, Option.some.injEq] at h
            subst h
            refine ⟨.bool b, ?_, by simp only [R]⟩
            rw [run_eql_struct w t cs ds, show (10000 : Nat) = 9998 + 1 + 1 from rfl, run_equalIn_agg w (9998 + 1) t cs ds h4 h1, eqCellsD_sound hT (d := 9998) hc hd _ _ b h3 hb]
            rfl
        · cases hb : eqCellsD T ti.eqf xs ys with
          | none => simp [hb] at h
          | some b =>
            simp only [hb, Option.map_some, Option.some.injEq] at h
            subst h
            refine ⟨.bool (!b), ?_, by simp only [R]⟩
            rw [run_neq_struct w t cs ds, show (10000 : Nat) = 9998 + 1 + 1 from rfl, run_equalIn_agg w (9998 + 1) t cs ds h4 h1, eqCellsD_sound hT (d := 9998) hc hd _ _ b h3 hb]
            rfl
        · cases h
    · cases h
  · cases h

theorem nilD_sound {op : BinOp} {t : TypeId} {a : Act} {x y : Operand} {p r : DV} {xv : Value} (h : nilD T op t y p = some r) (hp : R β p xv) :
    ∃ v, (do eqGuard op t x y xv (a.eval y); binOp op t xv (a.eval y) : Sem Value).run P w = .ok v w ∧ R β r v := by
  unfold nilD at h
  split at h
  · simp only [R] at hp
    subst hp
    have ey : a.eval (.const .nilIface) = .nilIface := rfl
    split at h
    · rename_i ti hti
      have hu := (hT.get hti).und
      have hE : ∀ d, ∀ ms, ti.desc = .interface ms → (Op.equalIn (d + 1) t .nilIface .nilIface).run P w = .ok true w := by
        intro d ms hd
        rw [hd] at hu
        simp [Op.equalIn, run_underlying hu]
      split at h
      · rename_i ms hd
        simp only [Option.some.injEq] at h
        subst h
        refine ⟨.bool true, ?_, by simp only [R]⟩
        have hg : (eqGuard .eql t x (.const .nilIface) .nilIface .nilIface).run P w = .ok () w := by simp [eqGuard]
        rw [ey, Sem.run_bind, hg, Result.andThen_ok]
        simp only [binOp, Op.equal, Op.maxDepth]
        rw [Sem.run_bind, hE 9999 _ hd]
        rfl
      · rename_i ms hd
        simp only [Option.some.injEq] at h
        subst h
        refine ⟨.bool false, ?_, by simp only [R]⟩
        have hg : (eqGuard .neq t x (.const .nilIface) .nilIface .nilIface).run P w = .ok () w := by simp [eqGuard]
        rw [ey, Sem.run_bind, hg, Result.andThen_ok]
        simp only [binOp, Op.equal, Op.maxDepth]
        rw [Sem.run_bind, hE 9999 _ hd]
        rfl
      · cases h
    · cases h
  · split at h
    · rename_i ti hti
      have hu := (hT.get hti).und
      have key : ∀ e ad len c, ti.desc = .slice e → xv = .slice ad len c → ∃ v, (do eqGuard .eql t x (.const (.slice none 0 0)) xv (a.eval (.const (.slice none 0 0))); binOp .eql t xv (a.eval (.const (.slice none 0 0))) : Sem Value).run P w = .ok v w ∧ v = .bool ad.isNone := by
        intro e ad len c hd hv
        rw [hd] at hu
        have h1 := run_equal_slice_nil (P := P) w t e ad len c hu
        have h2 : (eqGuard .eql t x (.const (.slice none 0 0)) (.slice ad len c) (.slice none 0 0)).run P w = .ok () w := by unfold eqGuard; split <;> simp
        refine ⟨_, ?_, rfl⟩
        simp only [hv, show a.eval (.const (.slice none 0 0)) = .slice none 0 0 from rfl, Sem.run_bind, h2, Result.andThen_ok, binOp, h1]
        rfl
      split at h
      · rename_i e hd
        simp only [Option.some.injEq] at h
        subst h
        simp only [R] at hp
        obtain ⟨v, h1, h2⟩ := key e _ _ _ hd hp
        exact ⟨v, h1, by simp only [R]; exact h2⟩
      · rename_i e _ _ _ _ hd
        simp only [Option.some.injEq] at h
        subst h
        simp only [R] at hp
        obtain ⟨b, c, _, _, hv⟩ := hp
        obtain ⟨v, h1, h2⟩ := key e _ _ _ hd hv
        exact ⟨v, h1, by simp only [R]; exact h2⟩
      · rename_i e _ _ hd
        simp only [Option.some.injEq] at h
        subst h
        simp only [R] at hp
        obtain ⟨b, c, _, hv⟩ := hp
        obtain ⟨v, h1, h2⟩ := key e _ _ _ hd hv
        exact ⟨v, h1, by simp only [R]; exact h2⟩
      · cases h
    · cases h
  · cases h

omit hT in
theorem isZ_sound {o : Option Operand} (h : isZ o = true) : o = some (.const (.int .i64 0)) := by
  unfold isZ at h
  split at h
  · rename_i n
    have : n = 0 := by simpa using h
    rw [this]
  · cases h

theorem emptyD_sound {t : TypeId} {ti : TInfo} (hti : T.get t = some ti) {p r : DV} {v : Value} (h : emptyD T ti.desc p = some r) (hp : R β p v) :
    ∃ u, (Instr.sliceAt t v (some (.int .i64 0)) (some (.int .i64 0)) (some (.int .i64 0))).run P w = .ok u w ∧ R β r u := by
  have hu := (hT.get hti).und
  unfold emptyD at h
  split at h
  · rename_i e hd
    rw [hd] at hu
    have key : ∀ ei ad len c, T.get e = some ei → v = .slice ad len c → (Instr.sliceAt t v (some (.int .i64 0)) (some (.int .i64 0)) (some (.int .i64 0))).run P w = .ok (.slice ad 0 0) w := by
      intro ei ad len c hei hv
      subst hv
      simp [Instr.sliceAt, Instr.slice, run_underlying hu, Instr.sliceBounds, Instr.sliceBound, asIntOf, (hT.get hei).rsize w]
    split at h
    · rename_i ei id off row len hei
      simp only [Option.some.injEq] at h
      subst h
      simp only [R] at hp
      obtain ⟨b, c, hβ, _, hv⟩ := hp
      exact ⟨_, key ei _ _ _ hei hv, by simp only [R]; exact ⟨b, c, hβ, rfl⟩⟩
    · rename_i ei id off hei
      simp only [Option.some.injEq] at h
      subst h
      simp only [R] at hp
      obtain ⟨b, c, hβ, hv⟩ := hp
      exact ⟨_, key ei _ _ _ hei hv, by simp only [R]; exact ⟨b, c, hβ, rfl⟩⟩
    · rename_i ei hei
      simp only [Option.some.injEq] at h
      subst h
      simp only [R] at hp
      exact ⟨_, key ei _ _ _ hei hp, by simp only [R]⟩
    · cases h
  · cases h

theorem readD_load {k : Nat} {ti : TInfo} (hk : T.get k = some ti) (b off : Nat) (cells : List DV) (xs : List Value)
    (hrep : RL β cells xs) (hmem : ∀ (j : Nat) (x : Value), xs[j]? = some x → w.cell? ⟨b, j, none⟩ = some x) {r : DV} (hr : readD ti off cells = some r) :
    ∃ v, (loadVar k ⟨b, off, none⟩).run P w = .ok v w ∧ R β r v := by
  have hk := hT.get hk
  unfold readD at hr
  cases hd : isAggD ti.desc with
  | true =>
    simp only [hd, cond_true] at hr
    cases hl : Nat.ble (off + ti.size) cells.length with
    | false => simp [hl] at hr
    | true =>
      simp only [hl, cond_true, Option.some.injEq] at hr
      subst hr
      have hle : off + ti.size ≤ cells.length := Nat.le_of_ble_eq_true hl
      have hx : xs.length = cells.length := hrep.length
      have hlen : ((xs.drop off).take ti.size).length = ti.size := by simp [hx]; omega
      have hload := run_loadCells_list (P := P) w ⟨b, off, none⟩ ((xs.drop off).take ti.size) (fun j v hv => by
        rw [add_off]
        rw [List.getElem?_take] at hv
        split at hv
        · rw [List.getElem?_drop] at hv
          exact hmem _ _ hv
        · cases hv)
      rw [hlen] at hload
      refine ⟨.agg ((xs.drop off).take ti.size).toArray, ?_, ?_⟩
      · simp [loadVar, hk.ragg w, hd, hk.rsize w, hload]
      · simp only [R]
        exact ⟨_, rfl, by simpa using (hrep.drop off).take ti.size⟩
  | false =>
    simp only [hd, cond_false] at hr
    obtain ⟨x, hx, hrx⟩ := hrep.get off r hr
    refine ⟨x, ?_, hrx⟩
    simp [loadVar, hk.ragg w, hd, hmem off x hx]

theorem loadD_sound {t : TypeId} {ti : TInfo} (hti : T.get t = some ti) (hw : WR W0 B β H w) {p r : DV} {v : Value} (hp : R β p v) (h : loadD H.h ti p = some r) :
    ∃ b o, v = .pointer (some ⟨b, o, none⟩) ∧ ∃ u, (loadVar t ⟨b, o, none⟩).run P w = .ok u w ∧ R β r u := by
  cases p with
  | p id off =>
    simp only [R] at hp
    obtain ⟨b, c, hβ, rfl⟩ := hp
    simp only [loadD] at h
    split at h
    · rename_i k hk
      obtain ⟨xs, h1, h2⟩ := hw.cell hk hβ
      exact ⟨b, off, rfl, readD_load hT hti b off k.cells xs h1 h2 h⟩
    · cases h
  | _ => cases h

theorem sliceD_sound {t : TypeId} {ti : TInfo} (hti : T.get t = some ti) {p r : DV} {lo hi : Option DV} {ov oh : Option Value} (h : sliceD T ti.desc p lo hi = some r) {v : Value} (hp : R β p v)
    (h1 : ∀ q, lo = some q → ∃ x, ov = some x ∧ R β q x) (h1' : lo = none → ov = none) (h2 : ∀ q, hi = some q → ∃ x, oh = some x ∧ R β q x) (h2' : hi = none → oh = none) :
    ∃ u, (Instr.sliceAt t v ov oh none).run P w = .ok u w ∧ R β r u := by
  have hk := hT.get hti
  have hu := hk.rund w
  have bound : ∀ (q : Option DV) (o : Option Value) (d : Nat) (n : Int), boundD q d = some n → (∀ p, q = some p → ∃ x, o = some x ∧ R β p x) → (q = none → o = none) →
      (o = none ∧ n = d) ∨ ∃ k, o = some (.int k n) := by
    intro q o d n hb ha hn
    cases q with
    | none => simp only [boundD, Option.some.injEq] at hb; exact .inl ⟨hn rfl, hb.symm⟩
    | some q =>
      obtain ⟨x, rfl, hx⟩ := ha q rfl
      unfold boundD at hb
      split at hb
      · rename_i hq; cases hq
      · rename_i k n' hq
        simp only [Option.some.injEq] at hq hb
        subst hq hb
        simp only [R] at hx
        subst hx
        exact .inr ⟨_, rfl⟩
      · cases hb
  have sb : ∀ (k : IntKind) (n : Int) (y : Nat) (c : BoundsCode), 0 ≤ n → n ≤ y → (Instr.sliceBound (.int k n) y c).run P w = .ok n.toNat w := by
    intro k n y c h0 hy
    simp [Instr.sliceBound, asIntOf, h0, hy]
  unfold sliceD at h
  split at h
  · rename_i l hd
    simp only [R] at hp
    subst hp
    split at h
    · rename_i a b ha hb
      split at h
      · rename_i hc
        simp only [Option.some.injEq] at h
        subst h
        have hz : (ByteArray.mk l.toArray).size = l.length := by simp [ByteArray.size]
        have hbs : (Instr.sliceBounds false (ByteArray.mk l.toArray).size (ByteArray.mk l.toArray).size ov oh none).run P w = .ok (a.toNat, b.toNat, l.length) w := by
          have e1 := bound lo ov 0 a ha h1 h1'
          have e2 := bound hi oh l.length b hb h2 h2'
          rw [hz]
          have b1 : ∀ k c, (Instr.sliceBound (.int k b) l.length c).run P w = .ok b.toNat w := fun k c => sb k b _ c (by omega) hc.2.2
          have b2 : ∀ k c, (Instr.sliceBound (.int k a) b.toNat c).run P w = .ok a.toNat w := fun k c => sb k a _ c hc.1 (by omega)
          rcases e1 with ⟨rfl, rfl⟩ | ⟨k, rfl⟩ <;> rcases e2 with ⟨rfl, rfl⟩ | ⟨k', rfl⟩ <;> simp_all [Instr.sliceBounds]
        refine ⟨.string ((ByteArray.mk l.toArray).extract a.toNat b.toNat), ?_, ?_⟩
        · rw [hd] at hu
          simp [Instr.sliceAt, Instr.slice, hu, hbs]
        · simp only [R]
          congr 1
          apply ByteArray.ext
          simp [ByteArray.data_extract, List.extract_eq_take_drop, List.drop_take]
      · cases h
    · cases h
  · rename_i e id off row len hd
    simp only [R] at hp
    obtain ⟨bb, c0, hβ, hrl, rfl⟩ := hp
    split at h
    · rename_i a b ei ha hb hei
      split at h
      · rename_i hc
        simp only [Option.some.injEq] at h
        subst h
        have hbs : (Instr.sliceBounds true len (c0 - row) ov oh none).run P w = .ok (a.toNat, b.toNat, c0 - row) w := by
          have e1 := bound lo ov 0 a ha h1 h1'
          have e2 := bound hi oh len b hb h2 h2'
          have b1 : ∀ k cc, (Instr.sliceBound (.int k b) (c0 - row) cc).run P w = .ok b.toNat w := fun k cc => sb k b _ cc (by omega) (by omega)
          have b2 : ∀ k cc, (Instr.sliceBound (.int k a) b.toNat cc).run P w = .ok a.toNat w := fun k cc => sb k a _ cc hc.1 (by omega)
          rcases e1 with ⟨rfl, rfl⟩ | ⟨k, rfl⟩ <;> rcases e2 with ⟨rfl, rfl⟩ | ⟨k', rfl⟩ <;> simp_all [Instr.sliceBounds]
        have hsz := (hT.get hei).rsize w
        rw [hd] at hu
        refine ⟨.slice (if c0 - row = a.toNat then some ⟨bb, off, none⟩ else (some (⟨bb, off, none⟩ : Addr)).map (·.add (a.toNat * ei.size))) (b.toNat - a.toNat) (c0 - row - a.toNat), ?_, ?_⟩
        · simp [Instr.sliceAt, Instr.slice, hu, hbs, hsz]
        · simp only [R]
          refine ⟨bb, c0, hβ, by omega, ?_⟩
          have e3 : c0 - row - a.toNat = c0 - (row + a.toNat) := by omega
          rw [e3]
          congr 1
          split
          · have : a.toNat = 0 := by omega
            simp [this]
          · simp [add_off]
      · cases h
    · cases h
  · cases h

theorem callD_sound {c : Call} {type : TypeId} {ev : Operand → DV} {ρ : Operand → Value} {r : DV} (h : callD T c ev = some r) (he : ∀ x ∈ c.operands, R β (ev x) (ρ x)) :
    ∃ u, (do let d ← resolve ρ c type; invoke d.target d.args : Sem Next).run P w = .ok (.value u) w ∧ R β r u := by
  obtain ⟨callee, args, argTypes⟩ := c
  have hargs : ∀ x ∈ args.toList, R β (ev x) (ρ x) := fun x hx => he x (by simp only [Call.operands]; cases callee <;> simp_all)
  unfold callD at h
  simp only at h
  split at h
  · rename_i x t r' ha hat
    have hx := hargs x (by rw [ha]; simp)
    have ha' : args = #[x] := by rw [← Array.toArray_toList (xs := args), ha]
    have hat' : argTypes[0]? = some t := by rw [← Array.getElem?_toList, hat]; rfl
    subst ha'
    split at h
    · rename_i ti hti
      have hu := (hT.get hti).rund w
      split at h
      · rename_i l hd hl
        simp only [Option.some.injEq] at h
        subst h
        rw [hl] at hx
        simp only [R] at hx
        refine ⟨.int .i64 l.length, ?_, by simp only [R]⟩
        rw [hd] at hu
        have hz : (ByteArray.mk l.toArray).size = l.length := by simp [ByteArray.size]
        simp [resolve, invoke, builtin, Builtin.len_, hat', hu, hx, goInt, hz]
      · rename_i e hd
        have hu' := hu
        rw [hd] at hu'
        cases hn : lenD (ev x) with
        | none => simp [hn] at h
        | some n =>
          simp only [hn, Option.bind_some, Option.some.injEq] at h
          subst h
          have hlen : ∃ ad c, ρ x = .slice ad n c := by
            generalize ev x = p at *
            unfold lenD at hn
            split at hn
            · simp only [Option.some.injEq] at hn; subst hn
              simp only [R] at hx
              obtain ⟨b, c, _, _, h1⟩ := hx
              exact ⟨_, _, h1⟩
            · simp only [Option.some.injEq] at hn; subst hn
              simp only [R] at hx
              obtain ⟨b, c, _, h1⟩ := hx
              exact ⟨_, _, h1⟩
            · simp only [Option.some.injEq] at hn; subst hn
              simp only [R] at hx
              exact ⟨_, _, hx⟩
            · cases hn
          obtain ⟨ad, c, hv⟩ := hlen
          refine ⟨.int .i64 n, ?_, by simp only [R]⟩
          simp [resolve, invoke, builtin, Builtin.len_, hat', hu', hv, goInt]
      · cases h
    · cases h
  · rename_i x y ha
    have hx := hargs x (by rw [ha]; simp)
    have hy := hargs y (by rw [ha]; simp)
    have ha' : args = #[x, y] := by rw [← Array.toArray_toList (xs := args), ha]
    subst ha'
    split at h
    · rename_i k a k' b h1 h2
      simp only [Option.some.injEq] at h
      subst h
      rw [h1] at hx
      rw [h2] at hy
      simp only [R] at hx hy
      refine ⟨.int k (if b < a then b else a), ?_, by simp only [R]⟩
      simp [resolve, invoke, builtin, Builtin.min_, Builtin.min2, hx, hy]
    · cases h
  · rename_i x y ha
    have hx := hargs x (by rw [ha]; simp)
    have hy := hargs y (by rw [ha]; simp)
    have ha' : args = #[x, y] := by rw [← Array.toArray_toList (xs := args), ha]
    subst ha'
    split at h
    · rename_i k a k' b h1 h2
      simp only [Option.some.injEq] at h
      subst h
      rw [h1] at hx
      rw [h2] at hy
      simp only [R] at hx hy
      refine ⟨.int k (if b > a then b else a), ?_, by simp only [R]⟩
      simp [resolve, invoke, builtin, Builtin.max_, Builtin.max2, hx, hy]
    · cases h
  · cases h

omit hT in
theorem rl_map {ev : Operand → DV} {ρ : Operand → Value} (l : List Operand) (h : ∀ x ∈ l, R β (ev x) (ρ x)) : RL β (l.map ev) (l.map ρ) := by
  induction l with
  | nil => simp [RL]
  | cons x l ih =>
    simp only [List.map_cons, RL]
    exact ⟨_, _, rfl, h x (by simp), ih fun y hy => h y (by simp [hy])⟩

theorem quiet_sound {o : Oper} {ev : Operand → DV} {r : DV} (h : quietD T H.h o.op ev = some r) {a : Act} (hw : WR W0 B β H w) (he : ∀ x ∈ o.op.operands, R β (ev x) (a.eval x)) :
    ∃ v, (execOp a.eval o).run P w = .ok (.value v) w ∧ R β r v := by
  obtain ⟨dst, op, type, pos, after, guard⟩ := o
  simp only at he h
  cases op <;> simp only [quietD, reduceCtorEq] at h <;> simp only [execOp, Op.operands] at he ⊢
  case move x =>
    simp only [Option.some.injEq] at h; subst h
    exact ⟨_, rfl, he x (by simp)⟩
  case assign x =>
    simp only [Option.some.injEq] at h; subst h
    exact ⟨_, rfl, he x (by simp)⟩
  case pick c x y =>
    have hc := he c (by simp)
    split at h
    · rename_i hq
      simp only [Option.some.injEq] at h; subst h
      rw [hq] at hc
      simp only [R] at hc
      exact ⟨_, by simp [hc, asBool], he x (by simp)⟩
    · rename_i hq
      simp only [Option.some.injEq] at h; subst h
      rw [hq] at hc
      simp only [R] at hc
      exact ⟨_, by simp [hc, asBool], he y (by simp)⟩
    · cases h
  case load t x =>
    split at h
    · rename_i ti hti
      obtain ⟨b, o, hv, u, h1, h2⟩ := loadD_sound hT hti hw (he x (by simp)) h
      exact ⟨u, by simp [hv, Instr.loadAt, Instr.sureAddr, h1], h2⟩
    · cases h
  case fieldAddr t x f =>
    split at h
    · rename_i ti hti
      split at h
      · rename_i fs hd
        split at h
        · rename_i fd hf
          split at h
          · rename_i fi hfi
            cases hz : Nat.beq fi.size 0 with
            | true => simp [hz] at h
            | false =>
              simp only [hz, cond_false] at h
              have hx := he x (by simp)
              unfold offD at h
              split at h
              · rename_i id off hq
                simp only [Option.some.injEq] at h
                subst h
                rw [hq] at hx
                simp only [R] at hx
                obtain ⟨b, c, hβ, hv⟩ := hx
                have hu := (hT.get hti).rund w
                rw [hd] at hu
                have hz' : fi.size ≠ 0 := fun e => by rw [e] at hz; cases hz
                refine ⟨.pointer (some ⟨b, off + fd.offset, none⟩), ?_, by simp only [R]; exact ⟨b, c, hβ, rfl⟩⟩
                simp [Instr.fieldAt, hv, hu, hf, Instr.sureAddr, fieldPlace, (hT.get hfi).rsize w, hz', add_off]
              · cases h
          · cases h
        · cases h
      · cases h
    · cases h
  case field t x f =>
    split at h
    · rename_i ti hti
      split at h
      · rename_i fs hd
        split at h
        · rename_i fd hf
          split at h
          · rename_i fi cells hfi hx
            have hxr := he x (by simp)
            rw [hx] at hxr
            simp only [R] at hxr
            obtain ⟨cs, hv, hcs⟩ := hxr
            have hk := hT.get hfi
            have hu := (hT.get hti).rund w
            rw [hd] at hu
            unfold readD at h
            cases hdd : isAggD fi.desc with
            | true =>
              simp only [hdd, cond_true] at h
              cases hl : Nat.ble (fd.offset + fi.size) cells.length with
              | false => simp [hl] at h
              | true =>
                simp only [hl, cond_true, Option.some.injEq] at h
                subst h
                refine ⟨.agg (cs.extract fd.offset (fd.offset + fi.size)), ?_, ?_⟩
                · simp [Instr.field, hu, hf, hv, asAgg, part, hk.ragg w, hdd, hk.rsize w]
                · simp only [R]
                  refine ⟨_, rfl, ?_⟩
                  have := (hcs.drop fd.offset).take fi.size
                  simpa [List.extract_eq_take_drop] using this
            | false =>
              simp only [hdd, cond_false] at h
              obtain ⟨y, hy, hry⟩ := hcs.get _ r h
              refine ⟨y, ?_, hry⟩
              rw [Array.getElem?_toList] at hy
              simp [Instr.field, hu, hf, hv, asAgg, part, hk.ragg w, hdd, hy]
          · cases h
        · cases h
      · cases h
    · cases h
  case indexAddr t x i =>
    split at h
    · rename_i ti id off row len k n hti hx hn
      have hu := (hT.get hti).rund w
      have hxr := he x (by simp)
      have hnr := he i (by simp)
      rw [hx] at hxr
      rw [hn] at hnr
      simp only [R] at hxr hnr
      obtain ⟨b, c, hβ, hrl, hv⟩ := hxr
      split at h
      · rename_i e hd
        split at h
        · rename_i ei hei
          split at h
          · rename_i hc
            simp only [Option.some.injEq] at h
            subst h
            rw [hd] at hu
            refine ⟨.pointer (some ⟨b, off + n.toNat * ei.size, none⟩), ?_, by simp only [R]; exact ⟨b, c, hβ, rfl⟩⟩
            simp [Instr.indexAt, hnr, hv, asIntOf, hu, hc.1, hc.2, (hT.get hei).rsize w, add_off]
          · cases h
        · cases h
      · cases h
    · rename_i ti id off k n hti hx hn
      have hu := (hT.get hti).rund w
      have hxr := he x (by simp)
      have hnr := he i (by simp)
      rw [hx] at hxr
      rw [hn] at hnr
      simp only [R] at hxr hnr
      obtain ⟨b, c, hβ, hv⟩ := hxr
      split at h
      · rename_i len e hd
        split at h
        · rename_i ei hei
          split at h
          · rename_i hc
            simp only [Option.some.injEq] at h
            subst h
            rw [hd] at hu
            refine ⟨.pointer (some ⟨b, off + n.toNat * ei.size, none⟩), ?_, by simp only [R]; exact ⟨b, c, hβ, rfl⟩⟩
            simp [Instr.indexAt, hnr, hv, asIntOf, hu, Instr.sureAddr, hc.1, hc.2, (hT.get hei).rsize w, add_off]
          · cases h
        · cases h
      · cases h
    · cases h
  case index t x i =>
    split at h
    · rename_i ti l k n hti hx hn
      have hu := (hT.get hti).rund w
      have hxr := he x (by simp)
      have hnr := he i (by simp)
      rw [hx] at hxr
      rw [hn] at hnr
      simp only [R] at hxr hnr
      split at h
      · rename_i hd
        rw [hd] at hu
        split at h
        · rename_i h0
          cases hg : l[n.toNat]? with
          | none => simp [hg] at h
          | some c =>
            simp only [hg, Option.map_some, Option.some.injEq] at h
            subst h
            refine ⟨.int .u8 c.toNat, ?_, by simp only [R]⟩
            have hlt : n.toNat < l.length := (List.getElem?_eq_some_iff.1 hg).1
            have hb : (ByteArray.mk l.toArray)[n.toNat]? = some c := by
              have hz : (ByteArray.mk l.toArray).size = l.length := by simp [ByteArray.size]
              rw [getElem?_pos _ _ (by rw [hz]; exact hlt)]
              have := (List.getElem?_eq_some_iff.1 hg).2
              show some ((l.toArray)[n.toNat]'_) = some c
              simp [this]
            simp [Instr.index, hnr, hxr, asIntOf, hu, h0, hb]
        · cases h
      · cases h
    · cases h
  case binOp op t x y u =>
    split at h
    · rename_i r' hnil
      simp only [Option.some.injEq] at h
      subst h
      obtain ⟨v, h1, h2⟩ := nilD_sound (a := a) (x := x) hT hnil (he x (by simp))
      exact ⟨v, by rw [Sem.run_bind, h1]; rfl, h2⟩
    obtain ⟨v, h1, h2⟩ := binD_sound hT h (he x (by simp)) (he y (by simp)) x y
    exact ⟨v, by rw [Sem.run_bind, h1]; rfl, h2⟩
  case unOp op t x =>
    have hx := he x (by simp)
    split at h
    · rename_i b hq
      simp only [Option.some.injEq] at h; subst h
      rw [hq] at hx
      simp only [R] at hx
      exact ⟨.bool (!b), by simp [hx, Op.unary], by simp only [R]⟩
    · rename_i k n hq
      simp only [Option.some.injEq] at h; subst h
      rw [hq] at hx
      simp only [R] at hx
      exact ⟨.int k (k.wrap (0 - n)), by simp [hx, Op.unary, Op.intArith], by simp only [R]⟩
    · cases h
  case convert src dst x =>
    have hx := he x (by simp)
    split at h
    · rename_i si ti k n hsi hti hq
      rw [hq] at hx
      simp only [R] at hx
      have hs := (hT.get hsi).rund w
      have hu := (hT.get hti).rund w
      split at h
      · rename_i k' hd
        simp only [Option.some.injEq] at h; subst h
        rw [hd] at hu
        exact ⟨.int k' (k'.wrap n), by simp [convert, hs, hu, hx, Conv.intToInt], by simp only [R]⟩
      · cases h
    · rename_i si ti l hsi hti hq
      rw [hq] at hx
      simp only [R] at hx
      have hs := (hT.get hsi).rund w
      have hu := (hT.get hti).rund w
      split at h
      · rename_i hd
        simp only [Option.some.injEq] at h; subst h
        rw [hd] at hu
        refine ⟨.string ⟨l.toArray⟩, ?_, by simp only [R]⟩
        simp only [convert, Sem.run_bind, hs, hu, hx, Result.andThen_ok]
        cases si.desc <;> rfl
      · cases h
    · cases h
  case extract x i =>
    have hx := he x (by simp)
    split at h
    · rename_i vs hq
      rw [hq] at hx
      simp only [R] at hx
      obtain ⟨cs, hv, hcs⟩ := hx
      obtain ⟨y, hy, hr⟩ := hcs.get i r h
      rw [Array.getElem?_toList] at hy
      exact ⟨y, by simp [Instr.extract, hv, hy], hr⟩
    · cases h
  case build t ps =>
    obtain ⟨v, h1, h2⟩ := buildD_sound (ev := ev) (ρ := a.eval) hT w h (fun x hx => he x (by simpa using hx))
    refine ⟨v, ?_, h2⟩
    rw [Sem.run_bind, map_pairs, h1]
    rfl
  case slice t x lo hi' mx =>
    split at h
    · rename_i ti hti
      cases mx with
      | some m =>
        simp only at h
        generalize hz : (isZ lo && isZ hi' && isZ (some m)) = z at h
        cases z with
        | false => simp at h
        | true =>
          simp only [cond_true] at h
          simp only [Bool.and_eq_true] at hz
          have e1 := isZ_sound hz.1.1
          have e2 := isZ_sound hz.1.2
          have e3 := isZ_sound hz.2
          simp only [Option.some.injEq] at e3
          subst e1 e2 e3
          obtain ⟨u, h1, h2⟩ := emptyD_sound (w := w) hT hti h (he x (by simp))
          refine ⟨u, ?_, h2⟩
          simp only [Option.map_some, show ∀ v, a.eval (.const v) = v from fun _ => rfl, Sem.run_bind, h1]
          rfl
      | none =>
        simp only at h
        obtain ⟨u, h1, h2⟩ := sliceD_sound hT (w := w) (ov := lo.map a.eval) (oh := hi'.map a.eval) hti h (he x (by simp))
          (fun q hq => by
            cases lo with
            | none => cases hq
            | some y => simp only [Option.map_some, Option.some.injEq] at hq; subst hq; exact ⟨_, rfl, he y (by simp)⟩)
          (fun hq => by cases lo <;> simp_all)
          (fun q hq => by
            cases hi' with
            | none => cases hq
            | some y => simp only [Option.map_some, Option.some.injEq] at hq; subst hq; exact ⟨_, rfl, he y (by simp)⟩)
          (fun hq => by cases hi' <;> simp_all)
        exact ⟨u, by simp [h1], h2⟩
    · cases h
  case makeFunc fn first caps =>
    cases fn <;> simp only [reduceCtorEq] at h
    rename_i f
    cases hf : first.isEmpty with
    | false => simp [hf] at h
    | true =>
      simp only [hf, cond_true, Option.some.injEq] at h
      subst h
      have hfe : first = #[] := by simpa using hf
      subst hfe
      refine ⟨.func (.func f) #[] (caps.map a.eval), by simp [Instr.makeFunc], ?_⟩
      simp only [R]
      exact ⟨_, rfl, by simpa using rl_map caps.toList fun x hx => he x (by simp_all)⟩
  case nilCheck x =>
    have hx := he x (by simp)
    cases hn : noNilD (ev x) with
    | false => simp [hn] at h
    | true =>
      simp only [hn, cond_true, Option.some.injEq] at h
      subst h
      refine ⟨a.eval x, ?_, hx⟩
      generalize ev x = p at *
      cases p <;> simp only [noNilD, reduceCtorEq] at hn <;> simp only [R] at hx
      · obtain ⟨b, c, _, hv⟩ := hx; rw [hv]; rfl
      · obtain ⟨cs, hv, _⟩ := hx; rw [hv]; rfl
  case call c => exact callD_sound hT h he
end
end Go.Cx
