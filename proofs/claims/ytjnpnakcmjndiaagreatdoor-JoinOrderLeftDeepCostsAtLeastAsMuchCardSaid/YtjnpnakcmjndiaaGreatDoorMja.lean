/- The abstract layer, part A: pure values, frozen memory, and what it means that a machine value represents a pure value. -/
import Derived.WalkKit
import Derived.Laws.StructEq
import Derived.Laws.Concat
namespace Go.Ab

structure OwnRef where
  blk : Option Nat
  cap : Nat

def OwnRef.val (g : OwnRef) (len : Nat) : Value := .slice (g.blk.map fun b => ⟨b, 0, none⟩) len g.cap

inductive PV where
  | any
  | val (v : Value)
  | str (l : List UInt8)
  | list (e : TypeId) (rows : List (List PV))
  | agg (cells : List PV)
  | tup (vs : List PV)
  | ptr (cells : List PV)
  | fn (f : FuncId) (caps : List PV)
  | box (tag b off : Nat)
  | own (tag : Nat) (g : OwnRef) (len : Nat)
  | optr (tag : Nat) (g : OwnRef) (k row off : Nat)
  | err (b : Bool)

abbrev Mem := Nat → Nat → Option Value

/-- No string that the layer speaks of is longer. -/
def maxStr : Nat := 2 ^ 61

mutual
def Rep (P : Program) (M : Mem) (s : Bool) : PV → Value → Prop
  | .any, _ => s = true
  | .val v, x => x = v
  | .str l, x => x = .string ⟨l.toArray⟩ ∧ l.length ≤ maxStr
  | .list e rows, x => ∃ a c i, x = .slice a rows.length c ∧ rows.length ≤ c ∧ c ≤ maxLen ∧ P.info? e = some i ∧
      rows.length * i.bytes ≤ 2 ^ 47 ∧ (rows ≠ [] → ∃ b o, a = some ⟨b, o, none⟩ ∧ RepRows P M i.size b o rows)
  | .agg cells, x => ∃ cs : Array Value, x = .agg cs ∧ RepAll P M s cells cs.toList
  | .tup vs, x => ∃ cs : Array Value, x = .tuple cs ∧ RepAll P M s vs cs.toList
  | .ptr cells, x => ∃ b o, x = .pointer (some ⟨b, o, none⟩) ∧ RepAt P M b o cells
  | .fn f caps, x => ∃ cs : Array Value, x = .func (.func f) #[] cs ∧ RepAll P M s caps cs.toList
  | .box _ b off, x => s = true ∧ x = .pointer (some ⟨b, off, none⟩)
  | .own _ g len, x => s = true ∧ x = g.val len
  | .optr _ g k row off, x => s = true ∧ ∃ b, g.blk = some b ∧ x = .pointer (some ⟨b, row * k + off, none⟩)
  | .err b, x => (b = false ∧ x = .nilIface) ∨ (b = true ∧ ∃ t p, x = .iface t p)
def RepAll (P : Program) (M : Mem) (s : Bool) : List PV → List Value → Prop
  | [], vs => vs = []
  | p :: ps, vs => ∃ x xs, vs = x :: xs ∧ Rep P M s p x ∧ RepAll P M s ps xs
def RepAt (P : Program) (M : Mem) (b : Nat) : Nat → List PV → Prop
  | _, [] => True
  | o, p :: ps => (∃ x, M b o = some x ∧ x.oneCell' = true ∧ Rep P M false p x) ∧ RepAt P M b (o + 1) ps
def RepRows (P : Program) (M : Mem) (k b : Nat) : Nat → List (List PV) → Prop
  | _, [] => True
  | o, r :: rs => r.length = k ∧ RepAt P M b o r ∧ RepRows P M k b (o + k) rs
end

def Mem.le (M M' : Mem) : Prop := ∀ b o v, M b o = some v → M' b o = some v

theorem Mem.le_refl (M : Mem) : M.le M := fun _ _ _ h => h
theorem Mem.le_trans {M M' M'' : Mem} (h : M.le M') (h' : M'.le M'') : M.le M'' := fun b o v x => h' b o v (h b o v x)

section mono
variable {P : Program} {M M' : Mem}
mutual
theorem Rep.mono (hle : M.le M') {s : Bool} : ∀ {p : PV} {x : Value}, Rep P M s p x → Rep P M' s p x
  | .any, _, h => by simpa only [Rep] using h
  | .val _, _, h => by simpa only [Rep] using h
  | .str _, _, h => by simpa only [Rep] using h
  | .list e rows, x, h => by
    simp only [Rep] at h ⊢
    obtain ⟨a, c, i, h1, h2, h3, h4, h5, h6⟩ := h
    exact ⟨a, c, i, h1, h2, h3, h4, h5, fun hne => let ⟨b, o, e1, e2⟩ := h6 hne; ⟨b, o, e1, RepRows.mono hle e2⟩⟩
  | .agg cells, x, h => by
    simp only [Rep] at h ⊢
    obtain ⟨cs, h1, h2⟩ := h
    exact ⟨cs, h1, RepAll.mono hle h2⟩
  | .tup cells, x, h => by
    simp only [Rep] at h ⊢
    obtain ⟨cs, h1, h2⟩ := h
    exact ⟨cs, h1, RepAll.mono hle h2⟩
  | .ptr cells, x, h => by
    simp only [Rep] at h ⊢
    obtain ⟨b, o, h1, h2⟩ := h
    exact ⟨b, o, h1, RepAt.mono hle h2⟩
  | .fn f caps, x, h => by
    simp only [Rep] at h ⊢
    obtain ⟨cs, h1, h2⟩ := h
    exact ⟨cs, h1, RepAll.mono hle h2⟩
  | .box _ _ _, _, h => by simpa only [Rep] using h
  | .own _ _ _, _, h => by simpa only [Rep] using h
  | .optr _ _ _ _ _, _, h => by simpa only [Rep] using h
  | .err _, _, h => by simpa only [Rep] using h
theorem RepAll.mono (hle : M.le M') {s : Bool} : ∀ {ps : List PV} {xs : List Value}, RepAll P M s ps xs → RepAll P M' s ps xs
  | [], _, h => by simpa only [RepAll] using h
  | p :: ps, _, h => by
    simp only [RepAll] at h ⊢
    obtain ⟨x, xs, h1, h2, h3⟩ := h
    exact ⟨x, xs, h1, Rep.mono hle h2, RepAll.mono hle h3⟩
theorem RepAt.mono (hle : M.le M') {b : Nat} : ∀ {o : Nat} {ps : List PV}, RepAt P M b o ps → RepAt P M' b o ps
  | _, [], _ => by simp only [RepAt]
  | o, p :: ps, h => by
    simp only [RepAt] at h ⊢
    obtain ⟨⟨x, h1, h0, h2⟩, h3⟩ := h
    exact ⟨⟨x, hle _ _ _ h1, h0, Rep.mono hle h2⟩, RepAt.mono hle h3⟩
theorem RepRows.mono (hle : M.le M') {k b : Nat} : ∀ {o : Nat} {rs : List (List PV)}, RepRows P M k b o rs → RepRows P M' k b o rs
  | _, [], _ => by simp only [RepRows]
  | o, r :: rs, h => by
    simp only [RepRows] at h ⊢
    exact ⟨h.1, RepAt.mono hle h.2.1, RepRows.mono hle h.2.2⟩
end
end mono

section slot
variable {P : Program} {M : Mem}
mutual
/-- What a frozen value represents, it represents in a slot. -/
theorem Rep.slot : ∀ {p : PV} {x : Value}, Rep P M false p x → Rep P M true p x
  | .any, _, _ => by simp only [Rep]
  | .val _, _, h => by simpa only [Rep] using h
  | .str _, _, h => by simpa only [Rep] using h
  | .list _ _, _, h => by simpa only [Rep] using h
  | .agg cells, x, h => by
    simp only [Rep] at h ⊢
    obtain ⟨cs, h1, h2⟩ := h
    exact ⟨cs, h1, RepAll.slot h2⟩
  | .tup cells, x, h => by
    simp only [Rep] at h ⊢
    obtain ⟨cs, h1, h2⟩ := h
    exact ⟨cs, h1, RepAll.slot h2⟩
  | .ptr _, _, h => by simpa only [Rep] using h
  | .fn f caps, x, h => by
    simp only [Rep] at h ⊢
    obtain ⟨cs, h1, h2⟩ := h
    exact ⟨cs, h1, RepAll.slot h2⟩
  | .box _ _ _, _, h => by simp [Rep] at h
  | .own _ _ _, _, h => by simp [Rep] at h
  | .optr _ _ _ _ _, _, h => by simp [Rep] at h
  | .err _, _, h => by simpa only [Rep] using h
theorem RepAll.slot : ∀ {ps : List PV} {xs : List Value}, RepAll P M false ps xs → RepAll P M true ps xs
  | [], _, h => by simpa only [RepAll] using h
  | p :: ps, _, h => by
    simp only [RepAll] at h ⊢
    obtain ⟨x, xs, h1, h2, h3⟩ := h
    exact ⟨x, xs, h1, Rep.slot h2, RepAll.slot h3⟩
end

theorem RepAll.length {s : Bool} : ∀ {ps : List PV} {xs : List Value}, RepAll P M s ps xs → xs.length = ps.length
  | [], _, h => by simp only [RepAll] at h; simp [h]
  | p :: ps, _, h => by
    simp only [RepAll] at h
    obtain ⟨x, xs, rfl, _, h3⟩ := h
    simp [RepAll.length h3]

theorem RepAll.get {s : Bool} : ∀ {ps : List PV} {xs : List Value}, RepAll P M s ps xs → ∀ (j : Nat) (p : PV), ps[j]? = some p → ∃ x, xs[j]? = some x ∧ Rep P M s p x
  | [], _, _, j, p, hp => by simp at hp
  | q :: ps, _, h, j, p, hp => by
    simp only [RepAll] at h
    obtain ⟨x, xs, rfl, h2, h3⟩ := h
    cases j with
    | zero => simp at hp; subst hp; exact ⟨x, rfl, h2⟩
    | succ j => simpa using RepAll.get h3 j p (by simpa using hp)

theorem RepAll.append {s : Bool} : ∀ {ps qs : List PV} {xs ys : List Value}, RepAll P M s ps xs → RepAll P M s qs ys → RepAll P M s (ps ++ qs) (xs ++ ys)
  | [], _, _, _, h, h' => by simp only [RepAll] at h; subst h; simpa using h'
  | p :: ps, _, _, _, h, h' => by
    simp only [RepAll] at h
    obtain ⟨x, xs, rfl, h2, h3⟩ := h
    simp only [List.cons_append, RepAll]
    exact ⟨x, _, rfl, h2, RepAll.append h3 h'⟩

theorem RepAll.take {s : Bool} : ∀ {ps : List PV} {xs : List Value} (n : Nat), RepAll P M s ps xs → RepAll P M s (ps.take n) (xs.take n)
  | [], _, n, h => by simp only [RepAll] at h; subst h; simp [RepAll]
  | p :: ps, _, 0, h => by simp [RepAll]
  | p :: ps, _, n + 1, h => by
    simp only [RepAll] at h
    obtain ⟨x, xs, rfl, h2, h3⟩ := h
    simp only [List.take_succ_cons, RepAll]
    exact ⟨x, _, rfl, h2, RepAll.take n h3⟩

theorem RepAll.drop {s : Bool} : ∀ {ps : List PV} {xs : List Value} (n : Nat), RepAll P M s ps xs → RepAll P M s (ps.drop n) (xs.drop n)
  | [], _, n, h => by simp only [RepAll] at h; subst h; simp [RepAll]
  | p :: ps, _, 0, h => by simpa using h
  | p :: ps, _, n + 1, h => by
    simp only [RepAll] at h
    obtain ⟨x, xs, rfl, h2, h3⟩ := h
    simp only [List.drop_succ_cons]
    exact RepAll.drop n h3

theorem RepAt.get {b : Nat} : ∀ {o : Nat} {ps : List PV}, RepAt P M b o ps → ∀ (j : Nat) (p : PV), ps[j]? = some p → ∃ x, M b (o + j) = some x ∧ x.oneCell' = true ∧ Rep P M false p x
  | _, [], _, j, p, hp => by simp at hp
  | o, q :: ps, h, j, p, hp => by
    simp only [RepAt] at h
    cases j with
    | zero => simp at hp; subst hp; exact h.1
    | succ j =>
      have := RepAt.get h.2 j p (by simpa using hp)
      rw [show o + (j + 1) = o + 1 + j from by omega]
      exact this

theorem RepAt.drop {b : Nat} : ∀ {o : Nat} {ps : List PV} (n : Nat), RepAt P M b o ps → RepAt P M b (o + n) (ps.drop n)
  | _, [], n, _ => by simp [RepAt]
  | o, q :: ps, 0, h => by simpa using h
  | o, q :: ps, n + 1, h => by
    simp only [RepAt] at h
    rw [show o + (n + 1) = o + 1 + n from by omega]
    simpa using RepAt.drop n h.2

theorem RepAt.take {b : Nat} : ∀ {o : Nat} {ps : List PV} (n : Nat), RepAt P M b o ps → RepAt P M b o (ps.take n)
  | _, [], n, _ => by simp [RepAt]
  | o, q :: ps, 0, h => by simp [RepAt]
  | o, q :: ps, n + 1, h => by
    simp only [RepAt, List.take_succ_cons] at h ⊢
    exact ⟨h.1, RepAt.take n h.2⟩

/-- The values that stand in a row of frozen cells. -/
theorem RepAt.vals {b : Nat} : ∀ {o : Nat} {ps : List PV}, RepAt P M b o ps →
    ∃ xs : List Value, RepAll P M false ps xs ∧ (∀ x ∈ xs, x.oneCell' = true) ∧ ∀ (j : Nat) (x : Value), xs[j]? = some x → M b (o + j) = some x
  | _, [], _ => ⟨[], by simp [RepAll], by simp, by simp⟩
  | o, q :: ps, h => by
    simp only [RepAt] at h
    obtain ⟨⟨x, h1, h0, h2⟩, h3⟩ := h
    obtain ⟨xs, h4, h6, h5⟩ := RepAt.vals h3
    refine ⟨x :: xs, by simp only [RepAll]; exact ⟨x, xs, rfl, h2, h4⟩, by simpa using ⟨h0, h6⟩, fun j y hy => ?_⟩
    cases j with
    | zero => simp at hy; subst hy; exact h1
    | succ j =>
      rw [show o + (j + 1) = o + 1 + j from by omega]
      exact h5 j y (by simpa using hy)

theorem RepRows.get {k b : Nat} : ∀ {o : Nat} {rs : List (List PV)}, RepRows P M k b o rs → ∀ (j : Nat) (r : List PV), rs[j]? = some r → r.length = k ∧ RepAt P M b (o + j * k) r
  | _, [], _, j, r, hr => by simp at hr
  | o, q :: rs, h, j, r, hr => by
    simp only [RepRows] at h
    cases j with
    | zero => simp at hr; subst hr; exact ⟨h.1, by simpa using h.2.1⟩
    | succ j =>
      have := RepRows.get h.2.2 j r (by simpa using hr)
      rw [show o + (j + 1) * k = o + k + j * k from by rw [Nat.add_mul]; omega]
      exact this

theorem RepRows.drop {k b : Nat} : ∀ {o : Nat} {rs : List (List PV)} (n : Nat), RepRows P M k b o rs → RepRows P M k b (o + n * k) (rs.drop n)
  | _, [], n, _ => by simp [RepRows]
  | o, q :: rs, 0, h => by simpa using h
  | o, q :: rs, n + 1, h => by
    simp only [RepRows] at h
    rw [show o + (n + 1) * k = o + k + n * k from by rw [Nat.add_mul]; omega]
    simpa using RepRows.drop n h.2.2

theorem RepRows.take {k b : Nat} : ∀ {o : Nat} {rs : List (List PV)} (n : Nat), RepRows P M k b o rs → RepRows P M k b o (rs.take n)
  | _, [], n, _ => by simp [RepRows]
  | o, q :: rs, 0, h => by simp [RepRows]
  | o, q :: rs, n + 1, h => by
    simp only [RepRows, List.take_succ_cons] at h ⊢
    exact ⟨h.1, h.2.1, RepRows.take n h.2.2⟩

/-- All cells of the rows, one behind the other. -/
theorem RepRows.flat {k b : Nat} : ∀ {o : Nat} {rs : List (List PV)}, RepRows P M k b o rs → RepAt P M b o rs.flatten ∧ rs.flatten.length = rs.length * k
  | _, [], _ => by simp [RepAt]
  | o, q :: rs, h => by
    simp only [RepRows] at h
    obtain ⟨h1, h2⟩ := RepRows.flat h.2.2
    constructor
    · simp only [List.flatten_cons]
      have aux : ∀ (o : Nat) (l : List PV), RepAt P M b o l → RepAt P M b (o + l.length) rs.flatten → RepAt P M b o (l ++ rs.flatten) := by
        intro o l
        induction l generalizing o with
        | nil => intro _ h; simpa using h
        | cons x l ih =>
          intro hl hr
          simp only [RepAt, List.cons_append, List.length_cons] at hl hr ⊢
          exact ⟨hl.1, ih (o + 1) hl.2 (by rw [show o + 1 + l.length = o + (l.length + 1) from by omega]; exact hr)⟩
      exact aux o q h.2.1 (by rw [h.1]; exact h1)
    · simp [h2, h.1, Nat.add_mul]; omega

theorem RepRows.lens {k b : Nat} : ∀ {o : Nat} {rs : List (List PV)}, RepRows P M k b o rs → ∀ r ∈ rs, r.length = k
  | _, [], _ => by simp
  | o, q :: rs, h => by
    simp only [RepRows] at h
    intro r hr
    rcases List.mem_cons.1 hr with rfl | hr
    · exact h.1
    · exact RepRows.lens h.2.2 r hr

theorem RepRows.of_flat {k b : Nat} : ∀ {o : Nat} {rs : List (List PV)}, (∀ r ∈ rs, r.length = k) → RepAt P M b o rs.flatten → RepRows P M k b o rs
  | _, [], _, _ => by simp [RepRows]
  | o, q :: rs, hl, h => by
    simp only [RepRows, List.flatten_cons] at h ⊢
    have hq := hl q (by simp)
    have h1 := RepAt.take q.length h
    have h2 := RepAt.drop q.length h
    simp at h1 h2
    rw [hq] at h2
    exact ⟨hq, h1, RepRows.of_flat (fun r hr => hl r (by simp [hr])) h2⟩
end slot

/-- One cell each: what may stand in a cell of memory. -/
def PV.one : PV → Bool
  | .val v => v.oneCell'
  | .any | .agg _ | .tup _ => false
  | _ => true

theorem Rep.oneCell {P : Program} {M : Mem} {s : Bool} {p : PV} {x : Value} (h1 : p.one = true) (h : Rep P M s p x) : x.oneCell' = true := by
  cases p with
  | any => simp [PV.one] at h1
  | val v => simp only [Rep] at h; subst h; simpa [PV.one] using h1
  | str l => simp only [Rep] at h; rw [h.1]; rfl
  | list e rows => simp only [Rep] at h; obtain ⟨a, c, i, rfl, _⟩ := h; rfl
  | agg cs => simp [PV.one] at h1
  | tup cs => simp [PV.one] at h1
  | ptr cs => simp only [Rep] at h; obtain ⟨b, o, rfl, _⟩ := h; rfl
  | fn f cs => simp only [Rep] at h; obtain ⟨c, rfl, _⟩ := h; rfl
  | box t b o => simp only [Rep] at h; obtain ⟨_, rfl⟩ := h; rfl
  | own t g l => simp only [Rep] at h; obtain ⟨_, rfl⟩ := h; rfl
  | optr t g k r o => simp only [Rep] at h; obtain ⟨_, b, _, rfl⟩ := h; rfl
  | err b => simp only [Rep] at h; rcases h with ⟨_, rfl⟩ | ⟨_, _, _, rfl⟩ <;> rfl

theorem RepAll.oneCell {P : Program} {M : Mem} {s : Bool} : ∀ {ps : List PV} {xs : List Value}, ps.all PV.one = true → RepAll P M s ps xs → ∀ x ∈ xs, x.oneCell' = true
  | [], _, _, h => by simp only [RepAll] at h; subst h; simp
  | p :: ps, _, h1, h => by
    simp only [RepAll] at h
    obtain ⟨x, xs, rfl, h2, h3⟩ := h
    simp only [List.all_cons, Bool.and_eq_true] at h1
    intro y hy
    rcases List.mem_cons.1 hy with rfl | hy
    · exact Rep.oneCell h1.1 h2
    · exact RepAll.oneCell h1.2 h3 y hy

end Go.Ab
/- The abstract layer, part B: a function's own heap, the invariant that ties a pure state to the machine, and how it is kept. -/
namespace Go.Ab

structure Box where
  b : Nat
  cells : List PV

structure Obj where
  g : OwnRef
  e : TypeId
  rows : List (List PV)
  wr : Bool

structure Heap where
  bx : Nat → Option Box
  ob : Nat → Option Obj

def Heap.empty : Heap := ⟨fun _ => none, fun _ => none⟩

def upd {α : Type} (f : Nat → α) (k : Nat) (v : α) : Nat → α := fun t => bif Nat.beq t k then v else f t

theorem upd_same {α : Type} (f : Nat → α) (k : Nat) (v : α) : upd f k v k = v := by simp [upd]
theorem upd_ne {α : Type} (f : Nat → α) {k t : Nat} (v : α) (h : t ≠ k) : upd f k v t = f t := by
  have : Nat.beq t k = false := by cases hb : Nat.beq t k with
    | false => rfl
    | true => exact absurd (Nat.eq_of_beq_eq_true hb) h
  simp [upd, this]
theorem upd_eq {α : Type} (f : Nat → α) (k t : Nat) (v : α) : upd f k v t = if t = k then v else f t := by
  by_cases h : t = k
  · subst h; simp [upd_same]
  · simp [upd_ne f v h, h]

theorem upd_comm {α : Type} (f : Nat → α) {k l : Nat} (v w : α) (h : k ≠ l) : upd (upd f k v) l w = upd (upd f l w) k v := by
  funext t
  simp only [upd_eq]
  by_cases h1 : t = l
  · subst h1; simp [Ne.symm h]
  · simp [h1]

/-- The package's variables that hold an interface value; its tables of unsigned integers, with what they hold; those that hold an int. -/
def glI : List Nat := []
def glT : List (Nat × IntKind × List Int) := [(1, .u8, [0, 1, 56, 2, 57, 49, 28, 3, 61, 58, 42, 50, 38, 29, 17, 4, 62, 47, 59, 36, 45, 43, 51, 22, 53, 39, 33, 30, 24, 18, 12, 5, 63, 55, 48, 27, 60, 41, 37, 16, 46, 35, 44, 21, 52, 32, 23, 11, 54, 26, 40, 15, 34, 20, 31, 10, 25, 14, 19, 9, 13, 8, 7, 6])]
def glN : List Nat := []

/-- What the package's variables hold. -/
def GlW (w : World) : Prop := (∀ b ∈ glI, ∃ tp p, w.cell? ⟨b, 0, none⟩ = some (.iface tp p)) ∧ (∀ x ∈ glT, ∃ t fz, w.heap[x.1]? = some (.cells (x.2.2.map fun v => Value.int x.2.1 v).toArray t fz)) ∧ ∀ b ∈ glN, ∃ m, w.cell? ⟨b, 0, none⟩ = some (.int .i64 m)
def glB : List Nat := glI ++ glT.map (·.1) ++ glN
def Gl (w : World) (own : List Nat) : Prop := GlW w ∧ ∀ b ∈ glB, b < w.heap.size ∧ b ∉ own

theorem GlW.same {w w' : World} (h : GlW w) (hs : ∀ b ∈ glB, w'.heap[b]? = w.heap[b]?) : GlW w' := by
  have hc : ∀ b ∈ glB, w'.cell? ⟨b, 0, none⟩ = w.cell? ⟨b, 0, none⟩ := fun b hb => by simp only [World.cell?, hs b hb]
  refine ⟨fun b hb => ?_, fun x hx => ?_, fun b hb => ?_⟩
  · rw [hc b (by simp [glB, hb])]; exact h.1 b hb
  · rw [hs x.1 (by simp only [glB, List.mem_append, List.mem_map]; exact .inl (.inr ⟨x, hx, rfl⟩))]; exact h.2.1 x hx
  · rw [hc b (by simp [glB, hb])]; exact h.2.2 b hb

/-- Where a call began: the world, the blocks that were handed over to it, the memory that is frozen. -/
structure Ctx where
  w0 : World
  own0 : List Nat
  M0 : Mem
  gl : Gl w0 own0

def Ctx.mine (C : Ctx) (b : Nat) : Prop := C.w0.heap.size ≤ b ∨ b ∈ C.own0

def BoxOk (P : Program) (C : Ctx) (M : Mem) (w : World) (x : Box) : Prop :=
  C.mine x.b ∧ (∃ cs e, w.heap[x.b]? = some (.cells cs e (0, 0)) ∧ RepAll P M true x.cells cs.toList) ∧ ∀ o, M x.b o = none

def ObjOk (P : Program) (C : Ctx) (M : Mem) (w : World) (x : Obj) : Prop :=
  (∃ i, P.info? x.e = some i ∧ x.rows.length * i.bytes ≤ 2 ^ 47 ∧ (∀ r ∈ x.rows, r.length = i.size) ∧
    ((x.g.blk = none ∧ x.rows = [] ∧ x.g.cap = 0) ∨
     ∃ b cur, x.g.blk = some b ∧ C.mine b ∧ w.heap[b]? = some (.cells cur x.e (0, 0)) ∧ cur.size = x.g.cap * i.size ∧
      x.rows.length ≤ x.g.cap ∧ x.g.cap ≤ maxLen ∧ RepAll P M false x.rows.flatten (cur.toList.take (x.rows.length * i.size)) ∧
      (∀ v ∈ cur.toList.take (x.rows.length * i.size), v.oneCell' = true) ∧
      (x.wr = true → ∀ o, M b o = none) ∧ ∀ o, x.rows.length * i.size ≤ o → M b o = none))

structure InvH (P : Program) (C : Ctx) (M : Mem) (H : Heap) (w : World) : Prop where
  mem : ∀ b o v, M b o = some v → w.cell? ⟨b, o, none⟩ = some v
  ext : C.M0.le M
  new : ∀ b o v, M b o = some v → C.M0 b o = some v ∨ C.mine b
  os : w.os = C.w0.os
  tape : w.tape = C.w0.tape
  output : w.output = C.w0.output
  size : C.w0.heap.size ≤ w.heap.size
  frame : ∀ b, b < C.w0.heap.size → b ∉ C.own0 → w.heap[b]? = C.w0.heap[b]?
  boxes : ∀ t x, H.bx t = some x → BoxOk P C M w x
  objs : ∀ t x, H.ob t = some x → ObjOk P C M w x
  dbox : ∀ t t' x x', H.bx t = some x → H.bx t' = some x' → x.b = x'.b → t = t'
  dobj : ∀ t t' x x' b, H.ob t = some x → H.ob t' = some x' → x.g.blk = some b → x'.g.blk = some b → t = t'
  dmix : ∀ t t' x x', H.bx t = some x → H.ob t' = some x' → x'.g.blk ≠ some x.b



section
variable {P : Program} {C : Ctx} {M : Mem} {H : Heap} {w : World}

theorem InvH.gl (h : InvH P C M H w) {own : List Nat} (ho : ∀ b ∈ own, C.mine b) : Gl w own :=
  ⟨C.gl.1.same fun b hb => h.frame b (C.gl.2 b hb).1 (C.gl.2 b hb).2, fun b hb => ⟨Nat.lt_of_lt_of_le (C.gl.2 b hb).1 h.size, fun hx => by
    have h1 := C.gl.2 b hb
    rcases ho b hx with h2 | h2
    · exact absurd h1.1 (Nat.not_lt.2 h2)
    · exact h1.2 h2⟩⟩

theorem InvH.mem_lt (h : InvH P C M H w) {b o : Nat} {v : Value} (hm : M b o = some v) : b < w.heap.size :=
  block_lt_of_cell (h.mem b o v hm)

theorem InvH.fresh (h : InvH P C M H w) (o : Nat) : M w.heap.size o = none := by
  cases hm : M w.heap.size o with
  | none => rfl
  | some v => exact absurd (h.mem_lt hm) (Nat.lt_irrefl _)

theorem InvH.box_lt (h : InvH P C M H w) {t : Nat} {x : Box} (hx : H.bx t = some x) : x.b < w.heap.size := by
  obtain ⟨_, ⟨cs, e, hc, _⟩, _⟩ := h.boxes t x hx
  exact (Array.getElem?_eq_some_iff.1 hc).1

theorem InvH.obj_lt (h : InvH P C M H w) {t : Nat} {x : Obj} (hx : H.ob t = some x) {b : Nat} (hb : x.g.blk = some b) : b < w.heap.size := by
  obtain ⟨i, _, _, _, hn | ⟨b', cur, hb', _, hc, _⟩⟩ := h.objs t x hx
  · rw [hn.1] at hb; cases hb
  · rw [hb'] at hb; cases hb; exact (Array.getElem?_eq_some_iff.1 hc).1

/-- Only the count of draws has moved. -/
theorem InvH.drew (h : InvH P C M H w) : InvH P C M H { w with drawn := w.drawn + 1 } := ⟨h.mem, h.ext, h.new, h.os, h.tape, h.output, h.size, h.frame, h.boxes, h.objs, h.dbox, h.dobj, h.dmix⟩

/-- Fewer own things are known. -/
theorem InvH.less (h : InvH P C M H w) {H' : Heap} (hb : ∀ t x, H'.bx t = some x → H.bx t = some x) (ho : ∀ t x, H'.ob t = some x → H.ob t = some x) : InvH P C M H' w :=
  ⟨h.mem, h.ext, h.new, h.os, h.tape, h.output, h.size, h.frame, fun t x hx => h.boxes t x (hb t x hx), fun t x hx => h.objs t x (ho t x hx),
   fun t t' x x' hx hx' => h.dbox t t' x x' (hb _ _ hx) (hb _ _ hx'), fun t t' x x' b hx hx' => h.dobj t t' x x' b (ho _ _ hx) (ho _ _ hx'),
   fun t t' x x' hx hx' => h.dmix t t' x x' (hb _ _ hx) (ho _ _ hx')⟩

theorem BoxOk.keep {M' : Mem} {w' : World} {x : Box} (h : BoxOk P C M w x) (hle : M.le M') (hn : ∀ o, M x.b o = none → M' x.b o = none) (hw : w'.heap[x.b]? = w.heap[x.b]?) : BoxOk P C M' w' x := by
  obtain ⟨h1, ⟨cs, e, h2, h3⟩, h4⟩ := h
  exact ⟨h1, ⟨cs, e, hw.trans h2, RepAll.mono hle h3⟩, fun o => hn o (h4 o)⟩

theorem ObjOk.keep {M' : Mem} {w' : World} {x : Obj} (h : ObjOk P C M w x) (hle : M.le M') (hn : ∀ b o, x.g.blk = some b → M b o = none → M' b o = none) (hw : ∀ b, x.g.blk = some b → w'.heap[b]? = w.heap[b]?) : ObjOk P C M' w' x := by
  obtain ⟨i, h1, h2, h3, h4⟩ := h
  refine ⟨i, h1, h2, h3, ?_⟩
  rcases h4 with h4 | ⟨b, cur, hb, h5, h6, h7, h8, h9, h10, h13, h11, h12⟩
  · exact .inl h4
  · exact .inr ⟨b, cur, hb, h5, (hw b hb).trans h6, h7, h8, h9, RepAll.mono hle h10, h13, fun hr o => hn b o hb (h11 hr o), fun o ho => hn b o hb (h12 o ho)⟩

/-- The memory, with the cells of a new block frozen. -/
def Mem.add (M : Mem) (b : Nat) (cs : Array Value) : Mem := fun k o => if k = b then cs[o]? else M k o

theorem cell_alloc_old (w : World) (o : Go.Obj) {b k : Nat} (h : b < w.heap.size) : (w.alloc o).cell? ⟨b, k, none⟩ = w.cell? ⟨b, k, none⟩ := by
  have := heap_alloc_old w o h
  simp [World.cell?, this]

theorem InvH.add_le (h : InvH P C M H w) (cs : Array Value) : M.le (M.add w.heap.size cs) := by
  intro b o v hm
  have := h.mem_lt hm
  simp [Mem.add, Nat.ne_of_lt this, hm]

theorem size_alloc (w : World) (o : Go.Obj) : (w.alloc o).heap.size = w.heap.size + 1 := by show (w.heap.push o).size = _; simp

/-- A new block whose cells are frozen at once. -/
theorem InvH.alloc_frozen (h : InvH P C M H w) (cs : Array Value) (e : TypeId) : InvH P C (M.add w.heap.size cs) H (w.alloc (.cells cs e)) := by
  have hle := h.add_le cs
  refine ⟨?_, Mem.le_trans h.ext hle, ?_, h.os, h.tape, h.output, ?_, ?_, ?_, ?_, h.dbox, h.dobj, h.dmix⟩
  · intro b o v hm
    by_cases hb : b = w.heap.size
    · subst hb
      rw [cell_of_row (w.alloc (.cells cs e)) w.heap.size o cs e (0, 0) (heap_alloc_new w _)]
      simpa [Mem.add] using hm
    · simp only [Mem.add, hb, if_false] at hm
      rw [cell_alloc_old w _ (h.mem_lt hm)]
      exact h.mem b o v hm
  · intro b o v hm
    by_cases hb : b = w.heap.size
    · exact .inr (.inl (hb ▸ h.size))
    · simp only [Mem.add, hb, if_false] at hm
      exact h.new b o v hm
  · rw [size_alloc]; exact Nat.le_succ_of_le h.size
  · intro b hb hn
    rw [heap_alloc_old w _ (Nat.lt_of_lt_of_le hb h.size)]
    exact h.frame b hb hn
  · intro t x hx
    have hlt := h.box_lt hx
    exact (h.boxes t x hx).keep hle (fun o ho => by simp [Mem.add, Nat.ne_of_lt hlt, ho]) (heap_alloc_old w _ hlt)
  · intro t x hx
    exact (h.objs t x hx).keep hle (fun b o hb ho => by simp [Mem.add, Nat.ne_of_lt (h.obj_lt hx hb), ho]) (fun b hb => heap_alloc_old w _ (h.obj_lt hx hb))

theorem InvH.alloc_plain (h : InvH P C M H w) (o : Go.Obj) : InvH P C M H (w.alloc o) := by
  refine ⟨?_, h.ext, h.new, h.os, h.tape, h.output, ?_, ?_, ?_, ?_, h.dbox, h.dobj, h.dmix⟩
  · intro b k v hm
    rw [cell_alloc_old w _ (h.mem_lt hm)]
    exact h.mem b k v hm
  · rw [size_alloc]; exact Nat.le_succ_of_le h.size
  · intro b hb hn
    rw [heap_alloc_old w _ (Nat.lt_of_lt_of_le hb h.size)]
    exact h.frame b hb hn
  · intro t x hx
    exact (h.boxes t x hx).keep (Mem.le_refl M) (fun o ho => ho) (heap_alloc_old w _ (h.box_lt hx))
  · intro t x hx
    exact (h.objs t x hx).keep (Mem.le_refl M) (fun b o hb ho => ho) (fun b hb => heap_alloc_old w _ (h.obj_lt hx hb))

/-- A new box. -/
theorem InvH.alloc_box (h : InvH P C M H w) (tag : Nat) (cells : List PV) (cs : Array Value) (e : TypeId) (hr : RepAll P M true cells cs.toList) :
    InvH P C M ⟨upd H.bx tag (some ⟨w.heap.size, cells⟩), H.ob⟩ (w.alloc (.cells cs e)) := by
  have h' := h.alloc_plain (.cells cs e)
  have key : ∀ t x, upd H.bx tag (some ⟨w.heap.size, cells⟩) t = some x → (t = tag ∧ x = ⟨w.heap.size, cells⟩) ∨ (t ≠ tag ∧ H.bx t = some x) := by
    intro t x hx
    by_cases ht : t = tag
    · subst ht; rw [upd_same] at hx; exact .inl ⟨rfl, (Option.some.inj hx).symm⟩
    · rw [upd_ne _ _ ht] at hx; exact .inr ⟨ht, hx⟩
  refine ⟨h'.mem, h'.ext, h'.new, h'.os, h'.tape, h'.output, h'.size, h'.frame, ?_, h'.objs, ?_, h'.dobj, ?_⟩
  · intro t x hx
    rcases key t x hx with ⟨_, rfl⟩ | ⟨_, hx⟩
    · exact ⟨.inl h.size, ⟨cs, e, heap_alloc_new w _, hr⟩, h.fresh⟩
    · exact h'.boxes t x hx
  · intro t t' x x' hx hx' hb
    rcases key t x hx with ⟨h1, h2⟩ | ⟨_, hy⟩ <;> rcases key t' x' hx' with ⟨h3, h4⟩ | ⟨_, hy'⟩
    · rw [h1, h3]
    · subst h2; exact absurd (h.box_lt hy') (by rw [← hb]; exact Nat.lt_irrefl _)
    · subst h4; exact absurd (h.box_lt hy) (by rw [hb]; exact Nat.lt_irrefl _)
    · exact h.dbox t t' x x' hy hy' hb
  · intro t t' x x' hx hx' hb
    rcases key t x hx with ⟨_, h2⟩ | ⟨_, hy⟩
    · subst h2; exact Nat.lt_irrefl _ (h.obj_lt hx' hb)
    · exact h.dmix t t' x x' hy hx' hb

/-- A new slice of the call's own. -/
theorem InvH.alloc_obj (h : InvH P C M H w) (tag : Nat) (e : TypeId) (rows : List (List PV)) (wr : Bool) (cap : Nat) (cs : Array Value) (i : TypeInfo) (hi : P.info? e = some i)
    (hby : rows.length * i.bytes ≤ 2 ^ 47) (hl : ∀ r ∈ rows, r.length = i.size) (hs : cs.size = cap * i.size) (hc : rows.length ≤ cap) (hm : cap ≤ maxLen)
    (hr : RepAll P M false rows.flatten (cs.toList.take (rows.length * i.size))) (h1c : ∀ v ∈ cs.toList.take (rows.length * i.size), v.oneCell' = true) :
    InvH P C M ⟨H.bx, upd H.ob tag (some ⟨⟨some w.heap.size, cap⟩, e, rows, wr⟩)⟩ (w.alloc (.cells cs e)) := by
  have h' := h.alloc_plain (.cells cs e)
  have key : ∀ t x, upd H.ob tag (some ⟨⟨some w.heap.size, cap⟩, e, rows, wr⟩) t = some x → (t = tag ∧ x = ⟨⟨some w.heap.size, cap⟩, e, rows, wr⟩) ∨ (t ≠ tag ∧ H.ob t = some x) := by
    intro t x hx
    by_cases ht : t = tag
    · subst ht; rw [upd_same] at hx; exact .inl ⟨rfl, (Option.some.inj hx).symm⟩
    · rw [upd_ne _ _ ht] at hx; exact .inr ⟨ht, hx⟩
  refine ⟨h'.mem, h'.ext, h'.new, h'.os, h'.tape, h'.output, h'.size, h'.frame, h'.boxes, ?_, h'.dbox, ?_, ?_⟩
  · intro t x hx
    rcases key t x hx with ⟨_, rfl⟩ | ⟨_, hx⟩
    · exact ⟨i, hi, hby, hl, .inr ⟨w.heap.size, cs, rfl, .inl h.size, heap_alloc_new w _, hs, hc, hm, hr, h1c, fun _ => h.fresh, fun o _ => h.fresh o⟩⟩
    · exact h'.objs t x hx
  · intro t t' x x' b hx hx' hb hb'
    rcases key t x hx with ⟨h1, h2⟩ | ⟨_, hy⟩ <;> rcases key t' x' hx' with ⟨h3, h4⟩ | ⟨_, hy'⟩
    · rw [h1, h3]
    · subst h2; cases hb; exact absurd (h.obj_lt hy' hb') (Nat.lt_irrefl _)
    · subst h4; cases hb'; exact absurd (h.obj_lt hy hb) (Nat.lt_irrefl _)
    · exact h.dobj t t' x x' b hy hy' hb hb'
  · intro t t' x x' hx hx' hb
    rcases key t' x' hx' with ⟨_, h4⟩ | ⟨_, hy'⟩
    · subst h4
      have hb' : w.heap.size = x.b := by simpa using hb
      exact Nat.lt_irrefl _ (hb' ▸ h.box_lt hx)
    · exact h.dmix t t' x x' hx hy' hb

theorem cell_setRow_ne (w : World) (g : Nat) (cs : Array Value) {b k : Nat} (h : b ≠ g) : (w.setRow g cs).cell? ⟨b, k, none⟩ = w.cell? ⟨b, k, none⟩ := by
  have := setRow_other w g b cs h
  simp [World.cell?, this]

/-- A box is written. -/
theorem InvH.set_box (h : InvH P C M H w) (tag : Nat) (x : Box) (hx : H.bx tag = some x) (cells : List PV) (cs : Array Value) (hr : RepAll P M true cells cs.toList) :
    InvH P C M ⟨upd H.bx tag (some ⟨x.b, cells⟩), H.ob⟩ (w.setRow x.b cs) := by
  obtain ⟨hmine, ⟨old, e, hold, _⟩, hnone⟩ := h.boxes tag x hx
  have key : ∀ t y, upd H.bx tag (some ⟨x.b, cells⟩) t = some y → (t = tag ∧ y = ⟨x.b, cells⟩) ∨ (t ≠ tag ∧ H.bx t = some y) := by
    intro t y hy
    by_cases ht : t = tag
    · subst ht; rw [upd_same] at hy; exact .inl ⟨rfl, (Option.some.inj hy).symm⟩
    · rw [upd_ne _ _ ht] at hy; exact .inr ⟨ht, hy⟩
  refine ⟨?_, h.ext, h.new, h.os, h.tape, h.output, ?_, ?_, ?_, ?_, ?_, h.dobj, ?_⟩
  · intro b o v hm
    have hne : b ≠ x.b := fun e => by rw [e, hnone] at hm; cases hm
    rw [cell_setRow_ne w _ _ hne]
    exact h.mem b o v hm
  · simpa using h.size
  · intro b hb hn
    have hne : b ≠ x.b := fun e => by
      rcases hmine with hm | hm
      · omega
      · exact hn (e ▸ hm)
    rw [setRow_other w _ b _ hne]
    exact h.frame b hb hn
  · intro t y hy
    rcases key t y hy with ⟨_, rfl⟩ | ⟨ht, hy⟩
    · exact ⟨hmine, ⟨cs, e, setRow_heap w x.b old cs e _ hold, hr⟩, hnone⟩
    · exact (h.boxes t y hy).keep (Mem.le_refl M) (fun o ho => ho) (setRow_other w _ _ _ fun e => ht (h.dbox t tag y x hy hx e))
  · intro t y hy
    exact (h.objs t y hy).keep (Mem.le_refl M) (fun b o hb ho => ho) (fun b hb => setRow_other w _ _ _ fun e => h.dmix tag t x y hx hy (e ▸ hb))
  · intro t t' y y' hy hy' hb
    rcases key t y hy with ⟨h1, h2⟩ | ⟨_, hz⟩ <;> rcases key t' y' hy' with ⟨h3, h4⟩ | ⟨_, hz'⟩
    · rw [h1, h3]
    · subst h1; subst h2; exact h.dbox _ t' x y' hx hz' hb
    · subst h3; subst h4; exact h.dbox t _ y x hz hx hb
    · exact h.dbox t t' y y' hz hz' hb
  · intro t t' y y' hy hy' hb
    rcases key t y hy with ⟨h1, h2⟩ | ⟨_, hz⟩
    · subst h1; subst h2; exact h.dmix _ t' x y' hx hy' hb
    · exact h.dmix t t' y y' hz hy' hb

/-- A slice of the call's own is written, or grows in its place. -/
theorem InvH.set_obj (h : InvH P C M H w) (tag : Nat) (x : Obj) (hx : H.ob tag = some x) (b : Nat) (hb : x.g.blk = some b) (rows : List (List PV)) (wr : Bool) (cs : Array Value) (i : TypeInfo)
    (hi : P.info? x.e = some i) (hby : rows.length * i.bytes ≤ 2 ^ 47) (hl : ∀ r ∈ rows, r.length = i.size) (hs : cs.size = x.g.cap * i.size) (hc : rows.length ≤ x.g.cap) (hm : x.g.cap ≤ maxLen)
    (hr : RepAll P M false rows.flatten (cs.toList.take (rows.length * i.size))) (h1c : ∀ v ∈ cs.toList.take (rows.length * i.size), v.oneCell' = true)
    (hkeep : ∀ o v, M b o = some v → cs[o]? = some v) (hwr : wr = true → ∀ o, M b o = none) (hlen : ∀ o, rows.length * i.size ≤ o → M b o = none) :
    InvH P C M ⟨H.bx, upd H.ob tag (some ⟨x.g, x.e, rows, wr⟩)⟩ (w.setRow b cs) := by
  obtain ⟨i', hi', _, _, hn | ⟨b', cur, hb', hmine, hold, _⟩⟩ := h.objs tag x hx
  · rw [hn.1] at hb; cases hb
  rw [hb] at hb'; cases hb'
  have key : ∀ t y, upd H.ob tag (some ⟨x.g, x.e, rows, wr⟩) t = some y → (t = tag ∧ y = ⟨x.g, x.e, rows, wr⟩) ∨ (t ≠ tag ∧ H.ob t = some y) := by
    intro t y hy
    by_cases ht : t = tag
    · subst ht; rw [upd_same] at hy; exact .inl ⟨rfl, (Option.some.inj hy).symm⟩
    · rw [upd_ne _ _ ht] at hy; exact .inr ⟨ht, hy⟩
  refine ⟨?_, h.ext, h.new, h.os, h.tape, h.output, ?_, ?_, ?_, ?_, h.dbox, ?_, ?_⟩
  · intro k o v hm
    by_cases hk : k = b
    · subst hk
      rw [cell_of_row (w.setRow k cs) k o cs x.e (0, 0) (setRow_heap w k cur cs _ _ hold)]
      exact hkeep o v hm
    · rw [cell_setRow_ne w _ _ hk]
      exact h.mem k o v hm
  · simpa using h.size
  · intro k hk hn
    have hne : k ≠ b := fun e => by
      rcases hmine with hm | hm
      · omega
      · exact hn (e ▸ hm)
    rw [setRow_other w _ k _ hne]
    exact h.frame k hk hn
  · intro t y hy
    exact (h.boxes t y hy).keep (Mem.le_refl M) (fun o ho => ho) (setRow_other w _ _ _ fun e => h.dmix t tag y x hy hx (e ▸ hb))
  · intro t y hy
    rcases key t y hy with ⟨_, rfl⟩ | ⟨ht, hy⟩
    · exact ⟨i, hi, hby, hl, .inr ⟨b, cs, hb, hmine, setRow_heap w b cur cs _ _ hold, hs, hc, hm, hr, h1c, hwr, hlen⟩⟩
    · exact (h.objs t y hy).keep (Mem.le_refl M) (fun k o hk ho => ho) (fun k hk => setRow_other w _ _ _ fun e => ht (h.dobj t tag y x b hy hx (e ▸ hk) hb))
  · intro t t' y y' k hy hy' hk hk'
    rcases key t y hy with ⟨h1, h2⟩ | ⟨_, hz⟩ <;> rcases key t' y' hy' with ⟨h3, h4⟩ | ⟨_, hz'⟩
    · rw [h1, h3]
    · subst h1; subst h2; exact h.dobj _ t' x y' k hx hz' hk hk'
    · subst h3; subst h4; exact h.dobj t _ y x k hz hx hk hk'
    · exact h.dobj t t' y y' k hz hz' hk hk'
  · intro t t' y y' hy hy' hk
    rcases key t' y' hy' with ⟨h1, h2⟩ | ⟨_, hz'⟩
    · subst h1; subst h2; exact h.dmix t _ y x hy hx hk
    · exact h.dmix t t' y y' hy hz' hk
end

/-- The pure state of a function on its way: slots, boxes, slices of its own. -/
structure PState where
  n : Nat
  s : Nat → PV
  bx : Nat → Option Box
  ob : Nat → Option Obj

def PState.heap (st : PState) : Heap := ⟨st.bx, st.ob⟩

def Slots (P : Program) (M : Mem) (n : Nat) (s : Nat → PV) (a : Act) : Prop :=
  a.tmps.size = n ∧ a.defers = [] ∧ ∀ t, Rep P M true (s t) (a.tmps.getD t undef)

def InvS (P : Program) (C : Ctx) (M : Mem) (st : PState) (a : Act) (w : World) : Prop :=
  Slots P M st.n st.s a ∧ InvH P C M st.heap w

def constPV : Value → PV
  | .string s => bif Nat.ble s.data.toList.length maxStr then .str s.data.toList else .val (.string s)
  | v => .val v

def evS (s : Nat → PV) : Operand → PV
  | .tmp t => s t
  | .const v => constPV v
  | .global _ => .any
  | .func f => .fn f []

theorem Rep.constPV {P : Program} {M : Mem} {b : Bool} (v : Value) : Rep P M b (constPV v) v := by
  cases v
  case string x =>
    simp only [Ab.constPV]
    cases h : Nat.ble x.data.toList.length maxStr
    · simp [Rep]
    · simp only [cond_true, Rep]
      exact ⟨by simp, by simpa [Nat.ble_eq] using h⟩
  all_goals simp [Ab.constPV, Rep]

theorem Slots.ev {P : Program} {M : Mem} {n : Nat} {s : Nat → PV} {a : Act} (h : Slots P M n s a) (x : Operand) : Rep P M true (evS s x) (a.eval x) := by
  cases x with
  | tmp t => exact h.2.2 t
  | const v => exact Rep.constPV v
  | global g => simp [evS, Rep]
  | func f => simp only [evS, Act.eval, Rep]; exact ⟨#[], rfl, by simp [RepAll]⟩

theorem Slots.mono {P : Program} {M M' : Mem} {n : Nat} {s : Nat → PV} {a : Act} (h : Slots P M n s a) (hle : M.le M') : Slots P M' n s a :=
  ⟨h.1, h.2.1, fun t => Rep.mono hle (h.2.2 t)⟩

theorem Slots.put {P : Program} {M : Mem} {n : Nat} {s : Nat → PV} {a : Act} (h : Slots P M n s a) {d : Nat} (hd : d < n) {p : PV} {v : Value} (hr : Rep P M true p v) :
    Slots P M n (upd s d p) (a.put (some d) v) := by
  refine ⟨by simp [Act.put, h.1], by simp [Act.put, h.2.1], fun t => ?_⟩
  by_cases ht : t = d
  · subst ht
    rw [upd_same]
    simpa [Act.put, h.1, hd] using hr
  · rw [upd_ne _ _ ht]
    have := h.2.2 t
    simp only [Array.getD_eq_getD_getElem?] at this ⊢
    simpa [Act.put, Array.getElem?_setIfInBounds_ne (Ne.symm ht)] using this

/-- The state with the destination's slot set (a destination beyond the frame is no state at all). -/
def putD (n : Nat) (s : Nat → PV) (dst : Option Tmp) (p : PV) : Option (Nat → PV) :=
  match dst with
  | none => some s
  | some d => bif Nat.blt d n then some (upd s d p) else none

theorem Slots.putD {P : Program} {M : Mem} {n : Nat} {s s' : Nat → PV} {a : Act} (h : Slots P M n s a) {dst : Option Tmp} {p : PV} {v : Value} (hs : putD n s dst p = some s') (hr : Rep P M true p v) :
    Slots P M n s' (a.put dst v) := by
  cases dst with
  | none => simp only [Ab.putD, Option.some.injEq] at hs; subst hs; exact h
  | some d =>
    simp only [Ab.putD] at hs
    cases hb : Nat.blt d n with
    | false => simp [hb] at hs
    | true =>
      simp only [hb, cond_true, Option.some.injEq] at hs
      subst hs
      exact h.put (by simpa [Nat.blt_eq] using hb) hr
end Go.Ab
/- The abstract layer, part C: the operations whose result is a function of their operands (and of the boxes that they read). -/
namespace Go.Ab

/-- What an operation does, seen from the pure state: whatever machine state is represented, it comes to a value and a heap that K holds of. -/
def Eff (P : Program) (o : Oper) (ev : Operand → PV) (H : Heap) (K : PV → Heap → Prop) : Prop :=
  ∀ C M a w (next : Act → World → Prop) (Q : Exit → Act → World → Prop), InvH P C M H w → (∀ x ∈ o.op.operands, Rep P M true (ev x) (a.eval x)) →
    (∀ v u H' M' w', K u H' → M.le M' → InvH P C M' H' w' → Rep P M' true u v → next (a.put o.dst v) w') → o.wp P a w next Q

theorem Eff.mono {P : Program} {o : Oper} {ev : Operand → PV} {H : Heap} {K K' : PV → Heap → Prop} (h : Eff P o ev H K) (hk : ∀ u H', K u H' → K' u H') : Eff P o ev H K' :=
  fun C M a w next Q hi he hn => h C M a w next Q hi he fun v u H' M' w' hK => hn v u H' M' w' (hk u H' hK)

structure TInfo where
  desc : TypeDesc
  size : Nat
  bytes : Nat
  zero : Value
  eqf : List (Nat × Nat)

inductive TT where
  | leaf
  | node (k : Nat) (v : TInfo) (l r : TT)

def TT.get : TT → Nat → Option TInfo
  | .leaf, _ => none
  | .node k v l r, t => bif Nat.beq t k then some v else bif Nat.blt t k then l.get t else r.get t

def fieldsMeet : List Field → List (Nat × Nat) → Prop
  | [], [] => True
  | f :: fs, (t, o) :: r => f.name ≠ "_" ∧ f.type = t ∧ f.offset = o ∧ fieldsMeet fs r
  | _, _ => False

structure TInfo.Ok (P : Program) (k : Nat) (v : TInfo) : Prop where
  info : ∃ i, P.info? k = some i ∧ i.size = v.size ∧ i.bytes = v.bytes ∧ i.zero = some v.zero
  und : P.underlying k = some v.desc
  eqs : v.eqf ≠ [] → P.stoodInHeld k = false ∧ P.eqGuardType P.depth k = false ∧ fieldsMeet (P.fieldsOf k).toList v.eqf ∧ P.underlying k = some (.struct (P.fieldsOf k))

def TT.Ok (P : Program) : TT → Prop
  | .leaf => True
  | .node k v l r => v.Ok P k ∧ l.Ok P ∧ r.Ok P

theorem TT.Ok.get {P : Program} : ∀ {T : TT} (_ : T.Ok P) {t : Nat} {v : TInfo}, T.get t = some v → v.Ok P t
  | .leaf, _, t, v, h => by simp [TT.get] at h
  | .node k u l r, hT, t, v, h => by
    simp only [TT.get] at h
    cases h1 : Nat.beq t k with
    | true =>
      simp only [h1, cond_true, Option.some.injEq] at h
      rw [Nat.eq_of_beq_eq_true h1, ← h]
      exact hT.1
    | false =>
      simp only [h1, cond_false] at h
      cases h2 : Nat.blt t k with
      | true => simp only [h2, cond_true] at h; exact TT.Ok.get hT.2.1 h
      | false => simp only [h2, cond_false] at h; exact TT.Ok.get hT.2.2 h

def isAggD : TypeDesc → Bool
  | .struct _ | .array _ _ => true
  | _ => false

section facts
variable {P : Program} {k : Nat} {v : TInfo} (h : v.Ok P k) (w : World)
include h
theorem TInfo.Ok.rund : (underlying k).run P w = .ok v.desc w := run_underlying h.und w
theorem TInfo.Ok.rsize : (sizeOf k).run P w = .ok v.size w := by
  obtain ⟨i, hi, hs, _⟩ := h.info
  simp [sizeOf, typeInfo, hi, hs]
theorem TInfo.Ok.rzero : (zeroValue k).run P w = .ok v.zero w := by
  obtain ⟨i, hi, _, _, hz⟩ := h.info
  simp [zeroValue, typeInfo, hi, hz]
theorem TInfo.Ok.ragg : (isAgg k).run P w = .ok (isAggD v.desc) w := by
  unfold isAgg
  rw [Sem.run_bind, h.rund w]
  cases v.desc <;> rfl
end facts

def head1 : PV → Option PV
  | .any => some .any
  | .val v => some (.val v)
  | .str l => some (.str l)
  | .list e r => some (.list e r)
  | .agg cs => some (.agg cs)
  | .tup cs => some (.tup cs)
  | .ptr cs => some (.ptr cs)
  | .fn f cs => some (.fn f cs)
  | .box t b o => some (.box t b o)
  | .own t g l => some (.own t g l)
  | .optr t g k r o => some (.optr t g k r o)
  | .err b => some (.err b)

theorem head1_eq (p : PV) : head1 p = some p := by cases p <;> rfl

def forceL : List PV → Option (List PV)
  | [] => some []
  | p :: ps => match head1 p, forceL ps with
    | some q, some qs => some (q :: qs)
    | _, _ => none

theorem forceL_eq : ∀ l, forceL l = some l
  | [] => rfl
  | p :: ps => by simp [forceL, head1_eq, forceL_eq ps]

/-- The same value, written out to its head (a struct's cells, too). -/
def force : PV → Option PV
  | .any => some .any
  | .val v => some (.val v)
  | .str l => some (.str l)
  | .list e r => some (.list e r)
  | .agg cs => match forceL cs with
    | some l => some (.agg l)
    | none => none
  | .tup cs => match forceL cs with
    | some l => some (.tup l)
    | none => none
  | .ptr cs => match forceL cs with
    | some l => some (.ptr l)
    | none => none
  | .fn f cs => some (.fn f cs)
  | .box t b o => some (.box t b o)
  | .own t g l => some (.own t g l)
  | .optr t g k r o => some (.optr t g k r o)
  | .err b => some (.err b)

theorem force_eq (p : PV) : force p = some p := by cases p <;> simp [force, forceL_eq]

def readCells (ti : TInfo) (off : Nat) (cells : List PV) : Option PV :=
  bif isAggD ti.desc then (bif Nat.ble (off + ti.size) cells.length then some (.agg ((cells.drop off).take ti.size)) else none)
  else cells[off]?

theorem add_off (b o n : Nat) : (⟨b, o, none⟩ : Addr).add n = ⟨b, o + n, none⟩ := by
  unfold Addr.add
  split
  · subst_vars; rfl
  · rfl

/-- Loading out of a row of cells that are known one by one. -/
theorem run_load_cells {P : Program} {M : Mem} {s : Bool} {k : Nat} {ti : TInfo} (hk : ti.Ok P k) (w : World) (b o off : Nat) (cells : List PV) (xs : List Value)
    (hrep : RepAll P M s cells xs) (hmem : ∀ (j : Nat) (x : Value), xs[j]? = some x → w.cell? ⟨b, o + j, none⟩ = some x)
    {r : PV} (hr : readCells ti off cells = some r) :
    ∃ v, (loadVar k ⟨b, o + off, none⟩).run P w = .ok v w ∧ Rep P M s r v := by
  unfold readCells at hr
  cases hd : isAggD ti.desc with
  | true =>
    simp only [hd, cond_true] at hr
    cases hl : Nat.ble (off + ti.size) cells.length with
    | false => simp [hl] at hr
    | true =>
      simp only [hl, cond_true, Option.some.injEq] at hr
      subst hr
      have hle : off + ti.size ≤ cells.length := Nat.le_of_ble_eq_true hl
      have hx : xs.length = cells.length := hrep.length
      have hlen : ((xs.drop off).take ti.size).length = ti.size := by simp [hx]; omega
      have hload := run_loadCells_list (P := P) w ⟨b, o + off, none⟩ ((xs.drop off).take ti.size) (fun j v hv => by
        rw [add_off]
        rw [List.getElem?_take] at hv
        split at hv
        · rw [List.getElem?_drop] at hv
          have := hmem _ _ hv
          rwa [← Nat.add_assoc] at this
        · cases hv)
      rw [hlen] at hload
      refine ⟨.agg ((xs.drop off).take ti.size).toArray, ?_, ?_⟩
      · simp [loadVar, hk.ragg w, hd, hk.rsize w, hload]
      · simp only [Rep]
        exact ⟨_, rfl, by simpa using (hrep.drop off).take ti.size⟩
  | false =>
    simp only [hd, cond_false] at hr
    obtain ⟨x, hx, hrx⟩ := hrep.get off r hr
    refine ⟨x, ?_, hrx⟩
    simp [loadVar, hk.ragg w, hd, hmem off x hx]

def scalarEq : TypeDesc → PV → PV → Option Bool
  | .int _, .val (.int k a), .val (.int k' b) => bif decide (k = k') then some (a == b) else none
  | .bool, .val (.bool a), .val (.bool b) => some (a == b)
  | .string, .str a, .str b => some (a == b)
  | _, _, _ => none

def eqCells (T : TT) : List (Nat × Nat) → List PV → List PV → Option Bool
  | [], _, _ => some true
  | (t, off) :: r, xs, ys => match T.get t, xs[off]?, ys[off]? with
    | some ti, some p, some q => match scalarEq ti.desc p q, eqCells T r xs ys with
      | some b, some c => some (b && c)
      | _, _ => none
    | _, _, _ => none

def cmpInt (op : BinOp) (a b : Int) : Option Bool :=
  match op with
  | .eql => some (a == b)
  | .neq => some (a != b)
  | .lss => some (decide (a < b))
  | .leq => some (decide (a ≤ b))
  | .gtr => some (decide (a > b))
  | .geq => some (decide (a ≥ b))
  | _ => none

def cmpStr (op : BinOp) (a b : List UInt8) : Option Bool :=
  match op with
  | .eql => some (a == b)
  | .neq => some (!(a == b))
  | .lss => some (Op.bytesLess a b)
  | .leq => some (Op.bytesLess a b || a == b)
  | .gtr => some (!(Op.bytesLess a b || a == b))
  | .geq => some (!(Op.bytesLess a b))
  | _ => none

def qbin (T : TT) (op : BinOp) (t : TypeId) (p q : PV) : Option PV :=
  match p, q with
  | .val (.int k a), .val (.int k' b) =>
    bif decide (k = k') then
      match op with
      | .add => some (.val (.int k (k.wrap (a + b))))
      | .sub => some (.val (.int k (k.wrap (a - b))))
      | .mul => some (.val (.int k (k.wrap (a * b))))
      | .quo => if b = 0 then none else some (.val (.int k (k.wrap (a.tdiv b))))
      | .rem => if b = 0 then none else some (.val (.int k (a.tmod b)))
      | op => (cmpInt op a b).map fun c => .val (.bool c)
    else none
  | .str a, .str b => match op with
    | .add => if a.length + b.length ≤ maxStr then some (.str (a ++ b)) else none
    | op => (cmpStr op a b).map fun c => .val (.bool c)
  | .val (.bool a), .val (.bool b) => match T.get t, op with
    | some ⟨.bool, _, _, _, _⟩, .eql => some (.val (.bool (a == b)))
    | some ⟨.bool, _, _, _, _⟩, .neq => some (.val (.bool (!(a == b))))
    | _, _ => none
  | .agg xs, .agg ys => match T.get t with
    | some ti => bif ti.eqf.isEmpty then none else
      match op with
      | .eql => (eqCells T ti.eqf xs ys).map fun c => .val (.bool c)
      | .neq => (eqCells T ti.eqf xs ys).map fun c => .val (.bool (!c))
      | _ => none
    | none => none
  | _, _ => none

section bin
variable {P : Program} {T : TT} {M : Mem} (hT : T.Ok P) (w : World)
include hT

omit hT in
theorem scalarEq_sound {d : Nat} {t : TypeId} {ti : TInfo} (hti : ti.Ok P t) {p q : PV} {x y : Value} (hp : Rep P M true p x) (hq : Rep P M true q y) {b : Bool} (h : scalarEq ti.desc p q = some b) :
    isAggD ti.desc = false ∧ (Op.equalIn (d + 1) t x y).run P w = .ok b w := by
  obtain ⟨desc, size, bytes, zero, eqf⟩ := ti
  have hu := hti.und
  simp only at hu h ⊢
  unfold scalarEq at h
  split at h
  · rename_i k0 k a k' b'
    simp only [Rep] at hp hq
    subst hp hq
    cases hk : decide (k = k') with
    | false => simp [hk] at h
    | true =>
      simp only [hk, cond_true, Option.some.injEq] at h
      have := of_decide_eq_true hk
      subst this h
      exact ⟨rfl, run_equalIn_int w d t k k0 a b' hu⟩
  · simp only [Rep] at hp hq
    subst hp hq
    simp only [Option.some.injEq] at h
    subst h
    exact ⟨rfl, run_equalIn_bool' w d t _ _ hu⟩
  · rename_i a b'
    simp only [Rep] at hp hq
    obtain ⟨rfl, _⟩ := hp
    obtain ⟨rfl, _⟩ := hq
    simp only [Option.some.injEq] at h
    subst h
    refine ⟨rfl, ?_⟩
    have := run_equalIn_string (P := P) w d t ⟨a.toArray⟩ ⟨b'.toArray⟩ hu
    simpa using this
  · cases h

theorem eqCells_sound {d : Nat} {xs ys : List PV} {cs ds : Array Value} (hx : RepAll P M true xs cs.toList) (hy : RepAll P M true ys ds.toList) :
    ∀ (fs : List Field) (eqf : List (Nat × Nat)) (b : Bool), fieldsMeet fs eqf → eqCells T eqf xs ys = some b → (Op.eqFields (d + 1) cs ds fs).run P w = .ok b w
  | [], [], b, _, h => by simp only [eqCells, Option.some.injEq] at h; subst h; simp [Op.eqFields]
  | f :: fs, (t, o) :: r, b, hm, h => by
    simp only [fieldsMeet] at hm
    obtain ⟨hn, rfl, rfl, hm⟩ := hm
    simp only [eqCells] at h
    split at h
    · rename_i ti p q hti hp hq
      split at h
      · rename_i b1 b2 h1 h2
        simp only [Option.some.injEq] at h
        subst h
        obtain ⟨x, hx1, hx2⟩ := hx.get _ _ hp
        obtain ⟨y, hy1, hy2⟩ := hy.get _ _ hq
        obtain ⟨hag, heq⟩ := scalarEq_sound w (d := d) (hT.get hti) hx2 hy2 h1
        have hpx : ∀ (c : Array Value) (z : Value), c.toList[f.offset]? = some z → (part f.type c f.offset).run P w = .ok z w := by
          intro c z hz
          rw [Array.getElem?_toList] at hz
          simp [part, (hT.get hti).ragg w, hag, hz]
        have ih := eqCells_sound (d := d) hx hy fs r b2 hm h2
        simp only [Op.eqFields, if_pos (show f.name ≠ "_" from hn), Sem.run_bind, hpx _ _ hx1, hpx _ _ hy1, Result.andThen_ok, heq]
        cases b1 <;> simp [ih]
      · cases h
    · cases h
  | [], _ :: _, b, hm, _ => by simp [fieldsMeet] at hm
  | _ :: _, [], b, hm, _ => by simp [fieldsMeet] at hm

theorem qbin_sound {op : BinOp} {t : TypeId} {p q r : PV} (h : qbin T op t p q = some r) {x y : Value} (hp : Rep P M true p x) (hq : Rep P M true q y) (xo yo : Operand) :
    ∃ v, (do eqGuard op t xo yo x y; binOp op t x y : Sem Value).run P w = .ok v w ∧ Rep P M true r v := by
  unfold qbin at h
  split at h
  · rename_i k a k' b
    simp only [Rep] at hp hq
    subst hp hq
    cases hk : decide (k = k') with
    | false => simp [hk] at h
    | true =>
      have := of_decide_eq_true hk
      subst this
      simp only [decide_true, cond_true] at h
      have hg : (eqGuard op t xo yo (.int k a) (.int k b)).run P w = .ok () w := by unfold eqGuard; split <;> simp
      rw [Sem.run_bind, hg, Result.andThen_ok]
      cases op <;> simp only [cmpInt, Option.map_some, Option.map_none, Option.some.injEq, reduceCtorEq] at h <;>
        (try split at h) <;> (try (simp only [Option.some.injEq, reduceCtorEq] at h)) <;> (try subst h) <;>
        simp_all [binOp, Op.intArith, Op.intDiv, Op.intCmp, Rep]
  · rename_i a b
    simp only [Rep] at hp hq
    obtain ⟨rfl, _⟩ := hp
    obtain ⟨rfl, _⟩ := hq
    have hg : (eqGuard op t xo yo (.string ⟨a.toArray⟩) (.string ⟨b.toArray⟩)).run P w = .ok () w := by unfold eqGuard; split <;> simp
    rw [Sem.run_bind, hg, Result.andThen_ok]
    have hs : ∀ l : List UInt8, (ByteArray.mk l.toArray).size = l.length := fun l => by simp [ByteArray.size]
    cases op <;> simp only [cmpStr, Option.map_some, Option.map_none, Option.some.injEq, reduceCtorEq] at h <;>
      (try split at h) <;> (try (simp only [Option.some.injEq, reduceCtorEq] at h)) <;> (try subst h) <;> (try cases h) <;>
      simp [binOp, Op.stringOp, Rep]
    rename_i hle
    have h63 : ¬ ((9223372036854775807 : Int) < (a.length : Int) + (b.length : Int)) := by
      unfold maxStr at hle
      omega
    rw [hs, hs, if_neg h63, ByteArray.mk_append_mk]
    simp [hle]
  · rename_i a b
    simp only [Rep] at hp hq
    subst hp hq
    split at h
    · rename_i hti
      have hu := (hT.get hti).und
      simp only [Option.some.injEq] at h
      subst h
      have hg : (eqGuard .eql t xo yo (.bool a) (.bool b)).run P w = .ok () w := by simp [eqGuard]
      rw [Sem.run_bind, hg, Result.andThen_ok]
      refine ⟨.bool (a == b), ?_, by simp only [Rep]⟩
      simp only [binOp, Op.equal, Op.maxDepth]
      rw [Sem.run_bind, run_equalIn_bool' w 9999 t a b hu]
      rfl
    · rename_i hti
      have hu := (hT.get hti).und
      simp only [Option.some.injEq] at h
      subst h
      have hg : (eqGuard .neq t xo yo (.bool a) (.bool b)).run P w = .ok () w := by simp [eqGuard]
      rw [Sem.run_bind, hg, Result.andThen_ok]
      refine ⟨.bool (!(a == b)), ?_, by simp only [Rep]⟩
      simp only [binOp, Op.equal, Op.maxDepth]
      rw [Sem.run_bind, run_equalIn_bool' w 9999 t a b hu]
      rfl
    · cases h
  · rename_i xs ys
    simp only [Rep] at hp hq
    obtain ⟨cs, rfl, hc⟩ := hp
    obtain ⟨ds, rfl, hd⟩ := hq
    split at h
    · rename_i ti hti
      cases he : ti.eqf.isEmpty with
      | true => simp [he] at h
      | false =>
        simp only [he, cond_false] at h
        obtain ⟨h1, h2, h3, h4⟩ := (hT.get hti).eqs (by intro h0; simp [h0] at he)
        rw [Sem.run_bind, run_eqGuard_agg w op t xo yo cs ds h2, Result.andThen_ok]
        split at h
        · cases hb : eqCells T ti.eqf xs ys with
          | none => simp [hb] at h
          | some b =>
            simp only [hb, Option.map_some, Option.some.injEq] at h
            subst h
            refine ⟨.bool b, ?_, by simp only [Rep]⟩
            rw [run_eql_struct w t cs ds, show (10000 : Nat) = 9998 + 1 + 1 from rfl, run_equalIn_agg w (9998 + 1) t cs ds h4 h1, eqCells_sound hT w (d := 9998) hc hd _ _ b h3 hb]
            rfl
        · cases hb : eqCells T ti.eqf xs ys with
          | none => simp [hb] at h
          | some b =>
            simp only [hb, Option.map_some, Option.some.injEq] at h
            subst h
            refine ⟨.bool (!b), ?_, by simp only [Rep]⟩
            rw [run_neq_struct w t cs ds, show (10000 : Nat) = 9998 + 1 + 1 from rfl, run_equalIn_agg w (9998 + 1) t cs ds h4 h1, eqCells_sound hT w (d := 9998) hc hd _ _ b h3 hb]
            rfl
        · cases h
    · cases h
  · cases h
end bin
end Go.Ab
/- The abstract layer, part D: the pure function of each operation that only computes, reads, or lays frozen memory; its soundness. -/
namespace Go.Ab

/-- The cells of a value that is stored. -/
def cellsPV : PV → Option (List PV)
  | .agg cs => some cs
  | p => bif p.one then some [p] else none

theorem cellsPV_sound {P : Program} {M : Mem} {s : Bool} {p : PV} {x : Value} {cs : List PV} (h : cellsPV p = some cs) (hr : Rep P M s p x) : RepAll P M s cs x.cells.toList := by
  have single : p.one = true → x.cells = #[x] := by
    intro h1
    have := Rep.oneCell h1 hr
    cases x <;> simp_all [Value.oneCell', Value.cells]
  cases p with
  | agg l =>
    simp only [cellsPV, Option.some.injEq] at h
    subst h
    simp only [Rep] at hr
    obtain ⟨c, rfl, hc⟩ := hr
    exact hc
  | _ =>
    simp only [cellsPV] at h
    cases ho : PV.one _ with
    | false => rw [ho] at h; simp at h
    | true =>
      rw [ho] at h
      simp only [cond_true, Option.some.injEq] at h
      subst h
      rw [single ho]
      simp only [RepAll]
      exact ⟨x, [], rfl, hr, rfl⟩

def splice (cells : List PV) (off : Nat) (new : List PV) : List PV := cells.take off ++ new ++ cells.drop (off + new.length)

theorem splice_rep {P : Program} {M : Mem} {s : Bool} {cells new : List PV} {cs ns : List Value} (hc : RepAll P M s cells cs) (hn : RepAll P M s new ns) (off : Nat) :
    RepAll P M s (splice cells off new) (cs.take off ++ ns ++ cs.drop (off + ns.length)) := by
  unfold splice
  rw [hn.length]
  exact ((hc.take off).append hn).append (hc.drop _)

/-- A struct, an array or a row of elements is filled: 'place' says where each part lies. -/
def fillPV (place : Nat → Option (Nat × Nat)) (cells : List PV) : List (Nat × PV) → Option (List PV)
  | [] => some cells
  | (i, p) :: r => match place i, cellsPV p with
    | some (off, size), some cs => bif Nat.beq cs.length size && Nat.ble (off + size) cells.length then fillPV place (splice cells off cs) r else none
    | _, _ => none

theorem foldl_set_eq (off : Nat) : ∀ (xs : List Value) (k : Nat) (cur : Array Value), off + k + xs.length ≤ cur.size →
    ((xs.zipIdx k).foldl (fun cs (c, j) => cs.setIfInBounds (off + j) c) cur).toList = cur.toList.take (off + k) ++ xs ++ cur.toList.drop (off + k + xs.length)
  | [], k, cur, _ => by simp
  | x :: xs, k, cur, h => by
    simp only [List.zipIdx_cons, List.foldl_cons]
    have := foldl_set_eq off xs (k + 1) (cur.setIfInBounds (off + k) x) (by simp at h ⊢; omega)
    rw [this]
    have e := list_seg_step cur.toList (off + k) x xs (by simp at h ⊢; omega)
    simpa [Array.toList_setIfInBounds, Nat.add_assoc] using e

theorem fillPV_sound {P : Program} {M : Mem} {s : Bool} {place : Nat → Option (Nat × Nat)} : ∀ {parts : List (Nat × PV)} {vals : List (Nat × Value)} {cells out : List PV} {cs : Array Value},
    fillPV place cells parts = some out → RepAll P M s cells cs.toList → parts.map (·.1) = vals.map (·.1) → RepAll P M s (parts.map (·.2)) (vals.map (·.2)) →
    ∃ cs', Instr.fill place cs vals = some cs' ∧ RepAll P M s out cs'.toList
  | [], vals, cells, out, cs, h, hc, hi, hv => by
    simp only [fillPV, Option.some.injEq] at h
    subst h
    have : vals = [] := by cases vals <;> simp_all
    subst this
    exact ⟨cs, rfl, hc⟩
  | (i, p) :: r, [], cells, out, cs, h, hc, hi, hv => by simp at hi
  | (i, p) :: r, (j, v) :: vs, cells, out, cs, h, hc, hi, hv => by
    simp only [List.map_cons, List.cons.injEq] at hi
    obtain ⟨rfl, hi⟩ := hi
    simp only [List.map_cons, RepAll] at hv
    obtain ⟨x, xs, hxe, hpx, hrest⟩ := hv
    simp only [List.cons.injEq] at hxe
    obtain ⟨rfl, rfl⟩ := hxe
    simp only [fillPV] at h
    split at h
    · rename_i off size pc hpl hpc
      cases hb : (Nat.beq pc.length size && Nat.ble (off + size) cells.length) with
      | false => simp [hb] at h
      | true =>
        simp only [hb, cond_true] at h
        simp only [Bool.and_eq_true] at hb
        have h1 : pc.length = size := Nat.eq_of_beq_eq_true hb.1
        have h2 : off + size ≤ cells.length := Nat.le_of_ble_eq_true hb.2
        have hpcr := cellsPV_sound hpc hpx
        have hvl : v.cells.size = size := by have := hpcr.length; simp at this; omega
        have hcl : cs.size = cells.length := by have := hc.length; simpa using this
        have hfold := foldl_set_eq off v.cells.toList 0 cs (by simp; omega)
        have hz : v.cells.zipIdx.foldl (fun cs (c, j) => cs.setIfInBounds (off + j) c) cs = (v.cells.toList.zipIdx 0).foldl (fun cs (c, j) => cs.setIfInBounds (off + j) c) cs := by
          rw [← Array.foldl_toList]
          simp
        have hrep : RepAll P M s (splice cells off pc) (v.cells.zipIdx.foldl (fun cs (c, j) => cs.setIfInBounds (off + j) c) cs).toList := by
          rw [hz, hfold]
          simpa using splice_rep hc hpcr off
        obtain ⟨cs', hf, ho⟩ := fillPV_sound h hrep hi hrest
        refine ⟨cs', ?_, ho⟩
        simp only [Instr.fill, hpl]
        rw [if_neg (by simp [hvl]; omega)]
        exact hf
    · cases h

def zeroPV (ti : TInfo) : List PV := ti.zero.cells.toList.map constPV

theorem zeroPV_rep {P : Program} {M : Mem} {s : Bool} (l : List Value) : RepAll P M s (l.map constPV) l := by
  induction l with
  | nil => simp [RepAll]
  | cons v l ih => simp only [List.map_cons, RepAll]; exact ⟨v, l, rfl, Rep.constPV v, ih⟩

/-- Where a struct's fields lie. -/
def places (T : TT) : List Field → Option (List (Nat × Nat))
  | [] => some []
  | f :: fs => match T.get f.type, places T fs with
    | some ti, some l => some ((f.offset, ti.size) :: l)
    | _, _ => none

theorem places_run {P : Program} {T : TT} (hT : T.Ok P) (w : World) : ∀ {fs : List Field} {l : List (Nat × Nat)}, places T fs = some l →
    (fs.mapM fun f => (do pure (f.offset, ← sizeOf f.type) : Sem (Nat × Nat))).run P w = .ok l w
  | [], l, h => by simp only [places, Option.some.injEq] at h; subst h; simp
  | f :: fs, l, h => by
    simp only [places] at h
    split at h
    · rename_i ti l' h1 h2
      simp only [Option.some.injEq] at h
      subst h
      have ih := places_run hT w h2
      rw [List.mapM_cons]
      simp only [Sem.run_bind, (hT.get h1).rsize w, Result.andThen_ok, Sem.run_pure, ih]
    · cases h

def evParts (ev : Operand → PV) (ps : Array (Nat × Operand)) : List (Nat × PV) := ps.toList.map fun p => (p.1, ev p.2)

def buildPV (T : TT) (t : TypeId) (parts : List (Nat × PV)) : Option PV :=
  match T.get t with
  | some ti => match ti.desc with
    | .struct fs => match places T fs.toList with
      | some l => (fillPV (fun (i : Nat) => l[i]?) (zeroPV ti) parts).map .agg
      | none => none
    | _ => none
  | none => none

theorem evParts_rep {P : Program} {M : Mem} {s : Bool} {ev : Operand → PV} {ρ : Operand → Value} (ps : List (Nat × Operand)) (h : ∀ x ∈ ps.map (·.2), Rep P M s (ev x) (ρ x)) :
    (ps.map fun p => (p.1, ev p.2)).map (·.1) = (ps.map fun p => (p.1, ρ p.2)).map (·.1) ∧ RepAll P M s ((ps.map fun p => (p.1, ev p.2)).map (·.2)) ((ps.map fun p => (p.1, ρ p.2)).map (·.2)) := by
  induction ps with
  | nil => simp [RepAll]
  | cons p ps ih =>
    have ih' := ih fun x hx => h x (by simp only [List.map_cons, List.mem_cons]; exact .inr hx)
    refine ⟨by simp, ?_⟩
    simp only [List.map_cons, RepAll]
    exact ⟨_, _, rfl, h p.2 (by simp), ih'.2⟩

theorem map_pairs (ρ : Operand → Value) (ps : Array (Nat × Operand)) : (ps.map fun (i, x) => (i, ρ x)) = ps.map fun p => (p.1, ρ p.2) := rfl

theorem buildPV_sound {P : Program} {T : TT} (hT : T.Ok P) {M : Mem} {s : Bool} {ev : Operand → PV} {ρ : Operand → Value} (w : World) {t : TypeId} {ps : Array (Nat × Operand)} {r : PV}
    (h : buildPV T t (evParts ev ps) = some r) (he : ∀ x ∈ ps.toList.map (·.2), Rep P M s (ev x) (ρ x)) :
    ∃ v, (Instr.build t (ps.map fun p => (p.1, ρ p.2))).run P w = .ok v w ∧ Rep P M s r v := by
  unfold buildPV at h
  split at h
  · rename_i ti hti
    have hk := hT.get hti
    split at h
    · rename_i fs hfs
      split at h
      · rename_i l hl
        cases hf : fillPV (fun (i : Nat) => l[i]?) (zeroPV ti) (evParts ev ps) with
        | none => simp [hf] at h
        | some out =>
          simp only [hf, Option.map_some, Option.some.injEq] at h
          subst h
          obtain ⟨h1, h2⟩ := evParts_rep (P := P) (M := M) (s := s) ps.toList he
          have hu := hk.rund w
          rw [hfs] at hu
          obtain ⟨cs', hfill, hrep⟩ := fillPV_sound (s := s) (cs := ti.zero.cells) (vals := ps.toList.map fun (p : Nat × Operand) => (p.1, ρ p.2)) hf (zeroPV_rep _) h1 h2
          refine ⟨.agg cs', ?_, by simp only [Rep]; exact ⟨cs', rfl, hrep⟩⟩
          have hpl : (fs.mapM fun f => (do pure (f.offset, ← sizeOf f.type) : Sem (Nat × Nat))).run P w = .ok l.toArray w := by
            rw [Array.mapM_eq_mapM_toList, Sem.run_map, places_run hT w hl]
            rfl
          have hgl : (fun (i : Nat) => l.toArray[i]?) = fun (i : Nat) => l[i]? := by funext i; simp
          simp only [Instr.build, Sem.run_bind, hk.rzero w, Result.andThen_ok, hu, hpl, Array.toList_map]
          have e3 : Instr.fill (fun (i : Nat) => l.toArray[i]?) ti.zero.cells (ps.toList.map fun p => (p.1, ρ p.2)) = some cs' := by rw [hgl]; exact hfill
          rw [e3]
          rfl
      · cases h
    · cases h
  · cases h

/-- The rows of a slice literal. -/
def fillRows (size : Nat) (rows : List (List PV)) : List (Nat × PV) → Option (List (List PV))
  | [] => some rows
  | (i, p) :: r => match cellsPV p with
    | some cs => bif Nat.beq cs.length size && Nat.blt i rows.length then fillRows size (rows.set i cs) r else none
    | none => none

def frozenPV : PV → Bool
  | .any | .box _ _ _ | .own _ _ _ | .optr _ _ _ _ _ | .agg _ | .tup _ => false
  | .fn _ caps => caps.isEmpty
  | _ => true

end Go.Ab
