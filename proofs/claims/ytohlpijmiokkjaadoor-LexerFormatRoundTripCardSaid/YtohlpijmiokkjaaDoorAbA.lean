/- The abstract layer, part A: pure values, frozen memory, and what it means that a machine value represents a pure value. -/
import Derived.WalkKit
import Derived.Laws.StructEq
namespace Go.Ab

structure OwnRef where
  blk : Option Nat
  cap : Nat

def OwnRef.val (g : OwnRef) (len : Nat) : Value := .slice (g.blk.map fun b => ⟨b, 0, none⟩) len g.cap

inductive PV where
  | any
  | val (v : Value)
  | str (l : List UInt8)
  | list (e : TypeId) (rows : List (List PV))
  | agg (cells : List PV)
  | tup (vs : List PV)
  | ptr (cells : List PV)
  | fn (f : FuncId) (caps : List PV)
  | box (tag b off : Nat)
  | own (tag : Nat) (g : OwnRef) (len : Nat)
  | optr (tag : Nat) (g : OwnRef) (k row off : Nat)
  | err (b : Bool)

abbrev Mem := Nat → Nat → Option Value

/-- No string that the layer speaks of is longer. -/
def maxStr : Nat := 2 ^ 61

mutual
def Rep (P : Program) (M : Mem) (s : Bool) : PV → Value → Prop
  | .any, _ => s = true
  | .val v, x => x = v
  | .str l, x => x = .string ⟨l.toArray⟩ ∧ l.length ≤ maxStr
  | .list e rows, x => ∃ a c i, x = .slice a rows.length c ∧ rows.length ≤ c ∧ c ≤ maxLen ∧ P.info? e = some i ∧
      rows.length * i.bytes ≤ 2 ^ 47 ∧ (rows ≠ [] → ∃ b o, a = some ⟨b, o, none⟩ ∧ RepRows P M i.size b o rows)
  | .agg cells, x => ∃ cs : Array Value, x = .agg cs ∧ RepAll P M s cells cs.toList
  | .tup vs, x => ∃ cs : Array Value, x = .tuple cs ∧ RepAll P M s vs cs.toList
  | .ptr cells, x => ∃ b o, x = .pointer (some ⟨b, o, none⟩) ∧ RepAt P M b o cells
  | .fn f caps, x => ∃ cs : Array Value, x = .func (.func f) #[] cs ∧ RepAll P M s caps cs.toList
  | .box _ b off, x => s = true ∧ x = .pointer (some ⟨b, off, none⟩)
  | .own _ g len, x => s = true ∧ x = g.val len
  | .optr _ g k row off, x => s = true ∧ ∃ b, g.blk = some b ∧ x = .pointer (some ⟨b, row * k + off, none⟩)
  | .err b, x => (b = false ∧ x = .nilIface) ∨ (b = true ∧ ∃ t p, x = .iface t p)
def RepAll (P : Program) (M : Mem) (s : Bool) : List PV → List Value → Prop
  | [], vs => vs = []
  | p :: ps, vs => ∃ x xs, vs = x :: xs ∧ Rep P M s p x ∧ RepAll P M s ps xs
def RepAt (P : Program) (M : Mem) (b : Nat) : Nat → List PV → Prop
  | _, [] => True
  | o, p :: ps => (∃ x, M b o = some x ∧ x.oneCell' = true ∧ Rep P M false p x) ∧ RepAt P M b (o + 1) ps
def RepRows (P : Program) (M : Mem) (k b : Nat) : Nat → List (List PV) → Prop
  | _, [] => True
  | o, r :: rs => r.length = k ∧ RepAt P M b o r ∧ RepRows P M k b (o + k) rs
end

def Mem.le (M M' : Mem) : Prop := ∀ b o v, M b o = some v → M' b o = some v

theorem Mem.le_refl (M : Mem) : M.le M := fun _ _ _ h => h
theorem Mem.le_trans {M M' M'' : Mem} (h : M.le M') (h' : M'.le M'') : M.le M'' := fun b o v x => h' b o v (h b o v x)

section mono
variable {P : Program} {M M' : Mem}
mutual
theorem Rep.mono (hle : M.le M') {s : Bool} : ∀ {p : PV} {x : Value}, Rep P M s p x → Rep P M' s p x
  | .any, _, h => by simpa only [Rep] using h
  | .val _, _, h => by simpa only [Rep] using h
  | .str _, _, h => by simpa only [Rep] using h
  | .list e rows, x, h => by
    simp only [Rep] at h ⊢
    obtain ⟨a, c, i, h1, h2, h3, h4, h5, h6⟩ := h
    exact ⟨a, c, i, h1, h2, h3, h4, h5, fun hne => let ⟨b, o, e1, e2⟩ := h6 hne; ⟨b, o, e1, RepRows.mono hle e2⟩⟩
  | .agg cells, x, h => by
    simp only [Rep] at h ⊢
    obtain ⟨cs, h1, h2⟩ := h
    exact ⟨cs, h1, RepAll.mono hle h2⟩
  | .tup cells, x, h => by
    simp only [Rep] at h ⊢
    obtain ⟨cs, h1, h2⟩ := h
    exact ⟨cs, h1, RepAll.mono hle h2⟩
  | .ptr cells, x, h => by
    simp only [Rep] at h ⊢
    obtain ⟨b, o, h1, h2⟩ := h
    exact ⟨b, o, h1, RepAt.mono hle h2⟩
  | .fn f caps, x, h => by
    simp only [Rep] at h ⊢
    obtain ⟨cs, h1, h2⟩ := h
    exact ⟨cs, h1, RepAll.mono hle h2⟩
  | .box _ _ _, _, h => by simpa only [Rep] using h
  | .own _ _ _, _, h => by simpa only [Rep] using h
  | .optr _ _ _ _ _, _, h => by simpa only [Rep] using h
  | .err _, _, h => by simpa only [Rep] using h
theorem RepAll.mono (hle : M.le M') {s : Bool} : ∀ {ps : List PV} {xs : List Value}, RepAll P M s ps xs → RepAll P M' s ps xs
  | [], _, h => by simpa only [RepAll] using h
  | p :: ps, _, h => by
    simp only [RepAll] at h ⊢
    obtain ⟨x, xs, h1, h2, h3⟩ := h
    exact ⟨x, xs, h1, Rep.mono hle h2, RepAll.mono hle h3⟩
theorem RepAt.mono (hle : M.le M') {b : Nat} : ∀ {o : Nat} {ps : List PV}, RepAt P M b o ps → RepAt P M' b o ps
  | _, [], _ => by simp only [RepAt]
  | o, p :: ps, h => by
    simp only [RepAt] at h ⊢
    obtain ⟨⟨x, h1, h0, h2⟩, h3⟩ := h
    exact ⟨⟨x, hle _ _ _ h1, h0, Rep.mono hle h2⟩, RepAt.mono hle h3⟩
theorem RepRows.mono (hle : M.le M') {k b : Nat} : ∀ {o : Nat} {rs : List (List PV)}, RepRows P M k b o rs → RepRows P M' k b o rs
  | _, [], _ => by simp only [RepRows]
  | o, r :: rs, h => by
    simp only [RepRows] at h ⊢
    exact ⟨h.1, RepAt.mono hle h.2.1, RepRows.mono hle h.2.2⟩
end
end mono

section slot
variable {P : Program} {M : Mem}
mutual
/-- What a frozen value represents, it represents in a slot. -/
theorem Rep.slot : ∀ {p : PV} {x : Value}, Rep P M false p x → Rep P M true p x
  | .any, _, _ => by simp only [Rep]
  | .val _, _, h => by simpa only [Rep] using h
  | .str _, _, h => by simpa only [Rep] using h
  | .list _ _, _, h => by simpa only [Rep] using h
  | .agg cells, x, h => by
    simp only [Rep] at h ⊢
    obtain ⟨cs, h1, h2⟩ := h
    exact ⟨cs, h1, RepAll.slot h2⟩
  | .tup cells, x, h => by
    simp only [Rep] at h ⊢
    obtain ⟨cs, h1, h2⟩ := h
    exact ⟨cs, h1, RepAll.slot h2⟩
  | .ptr _, _, h => by simpa only [Rep] using h
  | .fn f caps, x, h => by
    simp only [Rep] at h ⊢
    obtain ⟨cs, h1, h2⟩ := h
    exact ⟨cs, h1, RepAll.slot h2⟩
  | .box _ _ _, _, h => by simp [Rep] at h
  | .own _ _ _, _, h => by simp [Rep] at h
  | .optr _ _ _ _ _, _, h => by simp [Rep] at h
  | .err _, _, h => by simpa only [Rep] using h
theorem RepAll.slot : ∀ {ps : List PV} {xs : List Value}, RepAll P M false ps xs → RepAll P M true ps xs
  | [], _, h => by simpa only [RepAll] using h
  | p :: ps, _, h => by
    simp only [RepAll] at h ⊢
    obtain ⟨x, xs, h1, h2, h3⟩ := h
    exact ⟨x, xs, h1, Rep.slot h2, RepAll.slot h3⟩
end

theorem RepAll.length {s : Bool} : ∀ {ps : List PV} {xs : List Value}, RepAll P M s ps xs → xs.length = ps.length
  | [], _, h => by simp only [RepAll] at h; simp [h]
  | p :: ps, _, h => by
    simp only [RepAll] at h
    obtain ⟨x, xs, rfl, _, h3⟩ := h
    simp [RepAll.length h3]

theorem RepAll.get {s : Bool} : ∀ {ps : List PV} {xs : List Value}, RepAll P M s ps xs → ∀ (j : Nat) (p : PV), ps[j]? = some p → ∃ x, xs[j]? = some x ∧ Rep P M s p x
  | [], _, _, j, p, hp => by simp at hp
  | q :: ps, _, h, j, p, hp => by
    simp only [RepAll] at h
    obtain ⟨x, xs, rfl, h2, h3⟩ := h
    cases j with
    | zero => simp at hp; subst hp; exact ⟨x, rfl, h2⟩
    | succ j => simpa using RepAll.get h3 j p (by simpa using hp)

theorem RepAll.append {s : Bool} : ∀ {ps qs : List PV} {xs ys : List Value}, RepAll P M s ps xs → RepAll P M s qs ys → RepAll P M s (ps ++ qs) (xs ++ ys)
  | [], _, _, _, h, h' => by simp only [RepAll] at h; subst h; simpa using h'
  | p :: ps, _, _, _, h, h' => by
    simp only [RepAll] at h
    obtain ⟨x, xs, rfl, h2, h3⟩ := h
    simp only [List.cons_append, RepAll]
    exact ⟨x, _, rfl, h2, RepAll.append h3 h'⟩

theorem RepAll.take {s : Bool} : ∀ {ps : List PV} {xs : List Value} (n : Nat), RepAll P M s ps xs → RepAll P M s (ps.take n) (xs.take n)
  | [], _, n, h => by simp only [RepAll] at h; subst h; simp [RepAll]
  | p :: ps, _, 0, h => by simp [RepAll]
  | p :: ps, _, n + 1, h => by
    simp only [RepAll] at h
    obtain ⟨x, xs, rfl, h2, h3⟩ := h
    simp only [List.take_succ_cons, RepAll]
    exact ⟨x, _, rfl, h2, RepAll.take n h3⟩

theorem RepAll.drop {s : Bool} : ∀ {ps : List PV} {xs : List Value} (n : Nat), RepAll P M s ps xs → RepAll P M s (ps.drop n) (xs.drop n)
  | [], _, n, h => by simp only [RepAll] at h; subst h; simp [RepAll]
  | p :: ps, _, 0, h => by simpa using h
  | p :: ps, _, n + 1, h => by
    simp only [RepAll] at h
    obtain ⟨x, xs, rfl, h2, h3⟩ := h
    simp only [List.drop_succ_cons]
    exact RepAll.drop n h3

theorem RepAt.get {b : Nat} : ∀ {o : Nat} {ps : List PV}, RepAt P M b o ps → ∀ (j : Nat) (p : PV), ps[j]? = some p → ∃ x, M b (o + j) = some x ∧ x.oneCell' = true ∧ Rep P M false p x
  | _, [], _, j, p, hp => by simp at hp
  | o, q :: ps, h, j, p, hp => by
    simp only [RepAt] at h
    cases j with
    | zero => simp at hp; subst hp; exact h.1
    | succ j =>
      have := RepAt.get h.2 j p (by simpa using hp)
      rw [show o + (j + 1) = o + 1 + j from by omega]
      exact this

theorem RepAt.drop {b : Nat} : ∀ {o : Nat} {ps : List PV} (n : Nat), RepAt P M b o ps → RepAt P M b (o + n) (ps.drop n)
  | _, [], n, _ => by simp [RepAt]
  | o, q :: ps, 0, h => by simpa using h
  | o, q :: ps, n + 1, h => by
    simp only [RepAt] at h
    rw [show o + (n + 1) = o + 1 + n from by omega]
    simpa using RepAt.drop n h.2

theorem RepAt.take {b : Nat} : ∀ {o : Nat} {ps : List PV} (n : Nat), RepAt P M b o ps → RepAt P M b o (ps.take n)
  | _, [], n, _ => by simp [RepAt]
  | o, q :: ps, 0, h => by simp [RepAt]
  | o, q :: ps, n + 1, h => by
    simp only [RepAt, List.take_succ_cons] at h ⊢
    exact ⟨h.1, RepAt.take n h.2⟩

/-- The values that stand in a row of frozen cells. -/
theorem RepAt.vals {b : Nat} : ∀ {o : Nat} {ps : List PV}, RepAt P M b o ps →
    ∃ xs : List Value, RepAll P M false ps xs ∧ (∀ x ∈ xs, x.oneCell' = true) ∧ ∀ (j : Nat) (x : Value), xs[j]? = some x → M b (o + j) = some x
  | _, [], _ => ⟨[], by simp [RepAll], by simp, by simp⟩
  | o, q :: ps, h => by
    simp only [RepAt] at h
    obtain ⟨⟨x, h1, h0, h2⟩, h3⟩ := h
    obtain ⟨xs, h4, h6, h5⟩ := RepAt.vals h3
    refine ⟨x :: xs, by simp only [RepAll]; exact ⟨x, xs, rfl, h2, h4⟩, by simpa using ⟨h0, h6⟩, fun j y hy => ?_⟩
    cases j with
    | zero => simp at hy; subst hy; exact h1
    | succ j =>
      rw [show o + (j + 1) = o + 1 + j from by omega]
      exact h5 j y (by simpa using hy)

theorem RepRows.get {k b : Nat} : ∀ {o : Nat} {rs : List (List PV)}, RepRows P M k b o rs → ∀ (j : Nat) (r : List PV), rs[j]? = some r → r.length = k ∧ RepAt P M b (o + j * k) r
  | _, [], _, j, r, hr => by simp at hr
  | o, q :: rs, h, j, r, hr => by
    simp only [RepRows] at h
    cases j with
    | zero => simp at hr; subst hr; exact ⟨h.1, by simpa using h.2.1⟩
    | succ j =>
      have := RepRows.get h.2.2 j r (by simpa using hr)
      rw [show o + (j + 1) * k = o + k + j * k from by rw [Nat.add_mul]; omega]
      exact this

theorem RepRows.drop {k b : Nat} : ∀ {o : Nat} {rs : List (List PV)} (n : Nat), RepRows P M k b o rs → RepRows P M k b (o + n * k) (rs.drop n)
  | _, [], n, _ => by simp [RepRows]
  | o, q :: rs, 0, h => by simpa using h
  | o, q :: rs, n + 1, h => by
    simp only [RepRows] at h
    rw [show o + (n + 1) * k = o + k + n * k from by rw [Nat.add_mul]; omega]
    simpa using RepRows.drop n h.2.2

theorem RepRows.take {k b : Nat} : ∀ {o : Nat} {rs : List (List PV)} (n : Nat), RepRows P M k b o rs → RepRows P M k b o (rs.take n)
  | _, [], n, _ => by simp [RepRows]
  | o, q :: rs, 0, h => by simp [RepRows]
  | o, q :: rs, n + 1, h => by
    simp only [RepRows, List.take_succ_cons] at h ⊢
    exact ⟨h.1, h.2.1, RepRows.take n h.2.2⟩

/-- All cells of the rows, one behind the other. -/
theorem RepRows.flat {k b : Nat} : ∀ {o : Nat} {rs : List (List PV)}, RepRows P M k b o rs → RepAt P M b o rs.flatten ∧ rs.flatten.length = rs.length * k
  | _, [], _ => by simp [RepAt]
  | o, q :: rs, h => by
    simp only [RepRows] at h
    obtain ⟨h1, h2⟩ := RepRows.flat h.2.2
    constructor
    · simp only [List.flatten_cons]
      have aux : ∀ (o : Nat) (l : List PV), RepAt P M b o l → RepAt P M b (o + l.length) rs.flatten → RepAt P M b o (l ++ rs.flatten) := by
        intro o l
        induction l generalizing o with
        | nil => intro _ h; simpa using h
        | cons x l ih =>
          intro hl hr
          simp only [RepAt, List.cons_append, List.length_cons] at hl hr ⊢
          exact ⟨hl.1, ih (o + 1) hl.2 (by rw [show o + 1 + l.length = o + (l.length + 1) from by omega]; exact hr)⟩
      exact aux o q h.2.1 (by rw [h.1]; exact h1)
    · simp [h2, h.1, Nat.add_mul]; omega

theorem RepRows.lens {k b : Nat} : ∀ {o : Nat} {rs : List (List PV)}, RepRows P M k b o rs → ∀ r ∈ rs, r.length = k
  | _, [], _ => by simp
  | o, q :: rs, h => by
    simp only [RepRows] at h
    intro r hr
    rcases List.mem_cons.1 hr with rfl | hr
    · exact h.1
    · exact RepRows.lens h.2.2 r hr

theorem RepRows.of_flat {k b : Nat} : ∀ {o : Nat} {rs : List (List PV)}, (∀ r ∈ rs, r.length = k) → RepAt P M b o rs.flatten → RepRows P M k b o rs
  | _, [], _, _ => by simp [RepRows]
  | o, q :: rs, hl, h => by
    simp only [RepRows, List.flatten_cons] at h ⊢
    have hq := hl q (by simp)
    have h1 := RepAt.take q.length h
    have h2 := RepAt.drop q.length h
    simp at h1 h2
    rw [hq] at h2
    exact ⟨hq, h1, RepRows.of_flat (fun r hr => hl r (by simp [hr])) h2⟩
end slot

/-- One cell each: what may stand in a cell of memory. -/
def PV.one : PV → Bool
  | .val v => v.oneCell'
  | .any | .agg _ | .tup _ => false
  | _ => true

theorem Rep.oneCell {P : Program} {M : Mem} {s : Bool} {p : PV} {x : Value} (h1 : p.one = true) (h : Rep P M s p x) : x.oneCell' = true := by
  cases p with
  | any => simp [PV.one] at h1
  | val v => simp only [Rep] at h; subst h; simpa [PV.one] using h1
  | str l => simp only [Rep] at h; rw [h.1]; rfl
  | list e rows => simp only [Rep] at h; obtain ⟨a, c, i, rfl, _⟩ := h; rfl
  | agg cs => simp [PV.one] at h1
  | tup cs => simp [PV.one] at h1
  | ptr cs => simp only [Rep] at h; obtain ⟨b, o, rfl, _⟩ := h; rfl
  | fn f cs => simp only [Rep] at h; obtain ⟨c, rfl, _⟩ := h; rfl
  | box t b o => simp only [Rep] at h; obtain ⟨_, rfl⟩ := h; rfl
  | own t g l => simp only [Rep] at h; obtain ⟨_, rfl⟩ := h; rfl
  | optr t g k r o => simp only [Rep] at h; obtain ⟨_, b, _, rfl⟩ := h; rfl
  | err b => simp only [Rep] at h; rcases h with ⟨_, rfl⟩ | ⟨_, _, _, rfl⟩ <;> rfl

theorem RepAll.oneCell {P : Program} {M : Mem} {s : Bool} : ∀ {ps : List PV} {xs : List Value}, ps.all PV.one = true → RepAll P M s ps xs → ∀ x ∈ xs, x.oneCell' = true
  | [], _, _, h => by simp only [RepAll] at h; subst h; simp
  | p :: ps, _, h1, h => by
    simp only [RepAll] at h
    obtain ⟨x, xs, rfl, h2, h3⟩ := h
    simp only [List.all_cons, Bool.and_eq_true] at h1
    intro y hy
    rcases List.mem_cons.1 hy with rfl | hy
    · exact Rep.oneCell h1.1 h2
    · exact RepAll.oneCell h1.2 h3 y hy

end Go.Ab
