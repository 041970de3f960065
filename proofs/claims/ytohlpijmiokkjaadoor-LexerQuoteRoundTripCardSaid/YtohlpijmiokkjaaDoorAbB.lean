/- The abstract layer, part B: a function's own heap, the invariant that ties a pure state to the machine, and how it is kept. -/
import Derived.Test.YtohlpijmiokkjaaDoorAbA
namespace Go.Ab

structure Box where
  b : Nat
  cells : List PV

structure Obj where
  g : OwnRef
  e : TypeId
  rows : List (List PV)
  wr : Bool

structure Heap where
  bx : Nat → Option Box
  ob : Nat → Option Obj

def Heap.empty : Heap := ⟨fun _ => none, fun _ => none⟩

def upd {α : Type} (f : Nat → α) (k : Nat) (v : α) : Nat → α := fun t => bif Nat.beq t k then v else f t

theorem upd_same {α : Type} (f : Nat → α) (k : Nat) (v : α) : upd f k v k = v := by simp [upd]
theorem upd_ne {α : Type} (f : Nat → α) {k t : Nat} (v : α) (h : t ≠ k) : upd f k v t = f t := by
  have : Nat.beq t k = false := by cases hb : Nat.beq t k with
    | false => rfl
    | true => exact absurd (Nat.eq_of_beq_eq_true hb) h
  simp [upd, this]
theorem upd_eq {α : Type} (f : Nat → α) (k t : Nat) (v : α) : upd f k v t = if t = k then v else f t := by
  by_cases h : t = k
  · subst h; simp [upd_same]
  · simp [upd_ne f v h, h]

theorem upd_comm {α : Type} (f : Nat → α) {k l : Nat} (v w : α) (h : k ≠ l) : upd (upd f k v) l w = upd (upd f l w) k v := by
  funext t
  simp only [upd_eq]
  by_cases h1 : t = l
  · subst h1; simp [Ne.symm h]
  · simp [h1]

/-- The package's variables that hold an interface value; its tables of unsigned integers, with what they hold; those that hold an int. -/
def glI : List Nat := [4, 5]
def glT : List (Nat × List Int) := [(3, [1, 10, 100, 1000, 10000, 100000, 1000000, 10000000, 100000000, 1000000000, 10000000000, 100000000000, 1000000000000, 10000000000000, 100000000000000, 1000000000000000, 10000000000000000, 100000000000000000, 1000000000000000000, 10000000000000000000])]
def glN : List Nat := [0]

/-- What the package's variables hold. -/
def GlW (w : World) : Prop := (∀ b ∈ glI, ∃ tp p, w.cell? ⟨b, 0, none⟩ = some (.iface tp p)) ∧ (∀ x ∈ glT, ∃ t fz, w.heap[x.1]? = some (.cells (x.2.map fun v => Value.int .u64 v).toArray t fz)) ∧ ∀ b ∈ glN, ∃ m, w.cell? ⟨b, 0, none⟩ = some (.int .i64 m)
def glB : List Nat := glI ++ glT.map (·.1) ++ glN
def Gl (w : World) (own : List Nat) : Prop := GlW w ∧ ∀ b ∈ glB, b < w.heap.size ∧ b ∉ own

theorem GlW.same {w w' : World} (h : GlW w) (hs : ∀ b ∈ glB, w'.heap[b]? = w.heap[b]?) : GlW w' := by
  have hc : ∀ b ∈ glB, w'.cell? ⟨b, 0, none⟩ = w.cell? ⟨b, 0, none⟩ := fun b hb => by simp only [World.cell?, hs b hb]
  refine ⟨fun b hb => ?_, fun x hx => ?_, fun b hb => ?_⟩
  · rw [hc b (by simp [glB, hb])]; exact h.1 b hb
  · rw [hs x.1 (by simp only [glB, List.mem_append, List.mem_map]; exact .inl (.inr ⟨x, hx, rfl⟩))]; exact h.2.1 x hx
  · rw [hc b (by simp [glB, hb])]; exact h.2.2 b hb

/-- Where a call began: the world, the blocks that were handed over to it, the memory that is frozen. -/
structure Ctx where
  w0 : World
  own0 : List Nat
  M0 : Mem
  gl : Gl w0 own0

def Ctx.mine (C : Ctx) (b : Nat) : Prop := C.w0.heap.size ≤ b ∨ b ∈ C.own0

def BoxOk (P : Program) (C : Ctx) (M : Mem) (w : World) (x : Box) : Prop :=
  C.mine x.b ∧ (∃ cs e, w.heap[x.b]? = some (.cells cs e (0, 0)) ∧ RepAll P M true x.cells cs.toList) ∧ ∀ o, M x.b o = none

def ObjOk (P : Program) (C : Ctx) (M : Mem) (w : World) (x : Obj) : Prop :=
  (∃ i, P.info? x.e = some i ∧ x.rows.length * i.bytes ≤ 2 ^ 47 ∧ (∀ r ∈ x.rows, r.length = i.size) ∧
    ((x.g.blk = none ∧ x.rows = [] ∧ x.g.cap = 0) ∨
     ∃ b cur, x.g.blk = some b ∧ C.mine b ∧ w.heap[b]? = some (.cells cur x.e (0, 0)) ∧ cur.size = x.g.cap * i.size ∧
      x.rows.length ≤ x.g.cap ∧ x.g.cap ≤ maxLen ∧ RepAll P M false x.rows.flatten (cur.toList.take (x.rows.length * i.size)) ∧
      (∀ v ∈ cur.toList.take (x.rows.length * i.size), v.oneCell' = true) ∧
      (x.wr = true → ∀ o, M b o = none) ∧ ∀ o, x.rows.length * i.size ≤ o → M b o = none))

structure InvH (P : Program) (C : Ctx) (M : Mem) (H : Heap) (w : World) : Prop where
  mem : ∀ b o v, M b o = some v → w.cell? ⟨b, o, none⟩ = some v
  ext : C.M0.le M
  new : ∀ b o v, M b o = some v → C.M0 b o = some v ∨ C.mine b
  os : w.os = C.w0.os
  tape : w.tape = C.w0.tape
  output : w.output = C.w0.output
  size : C.w0.heap.size ≤ w.heap.size
  frame : ∀ b, b < C.w0.heap.size → b ∉ C.own0 → w.heap[b]? = C.w0.heap[b]?
  boxes : ∀ t x, H.bx t = some x → BoxOk P C M w x
  objs : ∀ t x, H.ob t = some x → ObjOk P C M w x
  dbox : ∀ t t' x x', H.bx t = some x → H.bx t' = some x' → x.b = x'.b → t = t'
  dobj : ∀ t t' x x' b, H.ob t = some x → H.ob t' = some x' → x.g.blk = some b → x'.g.blk = some b → t = t'
  dmix : ∀ t t' x x', H.bx t = some x → H.ob t' = some x' → x'.g.blk ≠ some x.b



section
variable {P : Program} {C : Ctx} {M : Mem} {H : Heap} {w : World}

theorem InvH.gl (h : InvH P C M H w) {own : List Nat} (ho : ∀ b ∈ own, C.mine b) : Gl w own :=
  ⟨C.gl.1.same fun b hb => h.frame b (C.gl.2 b hb).1 (C.gl.2 b hb).2, fun b hb => ⟨Nat.lt_of_lt_of_le (C.gl.2 b hb).1 h.size, fun hx => by
    have h1 := C.gl.2 b hb
    rcases ho b hx with h2 | h2
    · exact absurd h1.1 (Nat.not_lt.2 h2)
    · exact h1.2 h2⟩⟩

theorem InvH.mem_lt (h : InvH P C M H w) {b o : Nat} {v : Value} (hm : M b o = some v) : b < w.heap.size :=
  block_lt_of_cell (h.mem b o v hm)

theorem InvH.fresh (h : InvH P C M H w) (o : Nat) : M w.heap.size o = none := by
  cases hm : M w.heap.size o with
  | none => rfl
  | some v => exact absurd (h.mem_lt hm) (Nat.lt_irrefl _)

theorem InvH.box_lt (h : InvH P C M H w) {t : Nat} {x : Box} (hx : H.bx t = some x) : x.b < w.heap.size := by
  obtain ⟨_, ⟨cs, e, hc, _⟩, _⟩ := h.boxes t x hx
  exact (Array.getElem?_eq_some_iff.1 hc).1

theorem InvH.obj_lt (h : InvH P C M H w) {t : Nat} {x : Obj} (hx : H.ob t = some x) {b : Nat} (hb : x.g.blk = some b) : b < w.heap.size := by
  obtain ⟨i, _, _, _, hn | ⟨b', cur, hb', _, hc, _⟩⟩ := h.objs t x hx
  · rw [hn.1] at hb; cases hb
  · rw [hb'] at hb; cases hb; exact (Array.getElem?_eq_some_iff.1 hc).1

/-- Only the count of draws has moved. -/
theorem InvH.drew (h : InvH P C M H w) : InvH P C M H { w with drawn := w.drawn + 1 } := ⟨h.mem, h.ext, h.new, h.os, h.tape, h.output, h.size, h.frame, h.boxes, h.objs, h.dbox, h.dobj, h.dmix⟩

/-- Fewer own things are known. -/
theorem InvH.less (h : InvH P C M H w) {H' : Heap} (hb : ∀ t x, H'.bx t = some x → H.bx t = some x) (ho : ∀ t x, H'.ob t = some x → H.ob t = some x) : InvH P C M H' w :=
  ⟨h.mem, h.ext, h.new, h.os, h.tape, h.output, h.size, h.frame, fun t x hx => h.boxes t x (hb t x hx), fun t x hx => h.objs t x (ho t x hx),
   fun t t' x x' hx hx' => h.dbox t t' x x' (hb _ _ hx) (hb _ _ hx'), fun t t' x x' b hx hx' => h.dobj t t' x x' b (ho _ _ hx) (ho _ _ hx'),
   fun t t' x x' hx hx' => h.dmix t t' x x' (hb _ _ hx) (ho _ _ hx')⟩

theorem BoxOk.keep {M' : Mem} {w' : World} {x : Box} (h : BoxOk P C M w x) (hle : M.le M') (hn : ∀ o, M x.b o = none → M' x.b o = none) (hw : w'.heap[x.b]? = w.heap[x.b]?) : BoxOk P C M' w' x := by
  obtain ⟨h1, ⟨cs, e, h2, h3⟩, h4⟩ := h
  exact ⟨h1, ⟨cs, e, hw.trans h2, RepAll.mono hle h3⟩, fun o => hn o (h4 o)⟩

theorem ObjOk.keep {M' : Mem} {w' : World} {x : Obj} (h : ObjOk P C M w x) (hle : M.le M') (hn : ∀ b o, x.g.blk = some b → M b o = none → M' b o = none) (hw : ∀ b, x.g.blk = some b → w'.heap[b]? = w.heap[b]?) : ObjOk P C M' w' x := by
  obtain ⟨i, h1, h2, h3, h4⟩ := h
  refine ⟨i, h1, h2, h3, ?_⟩
  rcases h4 with h4 | ⟨b, cur, hb, h5, h6, h7, h8, h9, h10, h13, h11, h12⟩
  · exact .inl h4
  · exact .inr ⟨b, cur, hb, h5, (hw b hb).trans h6, h7, h8, h9, RepAll.mono hle h10, h13, fun hr o => hn b o hb (h11 hr o), fun o ho => hn b o hb (h12 o ho)⟩

/-- The memory, with the cells of a new block frozen. -/
def Mem.add (M : Mem) (b : Nat) (cs : Array Value) : Mem := fun k o => if k = b then cs[o]? else M k o

theorem cell_alloc_old (w : World) (o : Go.Obj) {b k : Nat} (h : b < w.heap.size) : (w.alloc o).cell? ⟨b, k, none⟩ = w.cell? ⟨b, k, none⟩ := by
  have := heap_alloc_old w o h
  simp [World.cell?, this]

theorem InvH.add_le (h : InvH P C M H w) (cs : Array Value) : M.le (M.add w.heap.size cs) := by
  intro b o v hm
  have := h.mem_lt hm
  simp [Mem.add, Nat.ne_of_lt this, hm]

theorem size_alloc (w : World) (o : Go.Obj) : (w.alloc o).heap.size = w.heap.size + 1 := by show (w.heap.push o).size = _; simp

/-- A new block whose cells are frozen at once. -/
theorem InvH.alloc_frozen (h : InvH P C M H w) (cs : Array Value) (e : TypeId) : InvH P C (M.add w.heap.size cs) H (w.alloc (.cells cs e)) := by
  have hle := h.add_le cs
  refine ⟨?_, Mem.le_trans h.ext hle, ?_, h.os, h.tape, h.output, ?_, ?_, ?_, ?_, h.dbox, h.dobj, h.dmix⟩
  · intro b o v hm
    by_cases hb : b = w.heap.size
    · subst hb
      rw [cell_of_row (w.alloc (.cells cs e)) w.heap.size o cs e (0, 0) (heap_alloc_new w _)]
      simpa [Mem.add] using hm
    · simp only [Mem.add, hb, if_false] at hm
      rw [cell_alloc_old w _ (h.mem_lt hm)]
      exact h.mem b o v hm
  · intro b o v hm
    by_cases hb : b = w.heap.size
    · exact .inr (.inl (hb ▸ h.size))
    · simp only [Mem.add, hb, if_false] at hm
      exact h.new b o v hm
  · rw [size_alloc]; exact Nat.le_succ_of_le h.size
  · intro b hb hn
    rw [heap_alloc_old w _ (Nat.lt_of_lt_of_le hb h.size)]
    exact h.frame b hb hn
  · intro t x hx
    have hlt := h.box_lt hx
    exact (h.boxes t x hx).keep hle (fun o ho => by simp [Mem.add, Nat.ne_of_lt hlt, ho]) (heap_alloc_old w _ hlt)
  · intro t x hx
    exact (h.objs t x hx).keep hle (fun b o hb ho => by simp [Mem.add, Nat.ne_of_lt (h.obj_lt hx hb), ho]) (fun b hb => heap_alloc_old w _ (h.obj_lt hx hb))

theorem InvH.alloc_plain (h : InvH P C M H w) (o : Go.Obj) : InvH P C M H (w.alloc o) := by
  refine ⟨?_, h.ext, h.new, h.os, h.tape, h.output, ?_, ?_, ?_, ?_, h.dbox, h.dobj, h.dmix⟩
  · intro b k v hm
    rw [cell_alloc_old w _ (h.mem_lt hm)]
    exact h.mem b k v hm
  · rw [size_alloc]; exact Nat.le_succ_of_le h.size
  · intro b hb hn
    rw [heap_alloc_old w _ (Nat.lt_of_lt_of_le hb h.size)]
    exact h.frame b hb hn
  · intro t x hx
    exact (h.boxes t x hx).keep (Mem.le_refl M) (fun o ho => ho) (heap_alloc_old w _ (h.box_lt hx))
  · intro t x hx
    exact (h.objs t x hx).keep (Mem.le_refl M) (fun b o hb ho => ho) (fun b hb => heap_alloc_old w _ (h.obj_lt hx hb))

/-- A new box. -/
theorem InvH.alloc_box (h : InvH P C M H w) (tag : Nat) (cells : List PV) (cs : Array Value) (e : TypeId) (hr : RepAll P M true cells cs.toList) :
    InvH P C M ⟨upd H.bx tag (some ⟨w.heap.size, cells⟩), H.ob⟩ (w.alloc (.cells cs e)) := by
  have h' := h.alloc_plain (.cells cs e)
  have key : ∀ t x, upd H.bx tag (some ⟨w.heap.size, cells⟩) t = some x → (t = tag ∧ x = ⟨w.heap.size, cells⟩) ∨ (t ≠ tag ∧ H.bx t = some x) := by
    intro t x hx
    by_cases ht : t = tag
    · subst ht; rw [upd_same] at hx; exact .inl ⟨rfl, (Option.some.inj hx).symm⟩
    · rw [upd_ne _ _ ht] at hx; exact .inr ⟨ht, hx⟩
  refine ⟨h'.mem, h'.ext, h'.new, h'.os, h'.tape, h'.output, h'.size, h'.frame, ?_, h'.objs, ?_, h'.dobj, ?_⟩
  · intro t x hx
    rcases key t x hx with ⟨_, rfl⟩ | ⟨_, hx⟩
    · exact ⟨.inl h.size, ⟨cs, e, heap_alloc_new w _, hr⟩, h.fresh⟩
    · exact h'.boxes t x hx
  · intro t t' x x' hx hx' hb
    rcases key t x hx with ⟨h1, h2⟩ | ⟨_, hy⟩ <;> rcases key t' x' hx' with ⟨h3, h4⟩ | ⟨_, hy'⟩
    · rw [h1, h3]
    · subst h2; exact absurd (h.box_lt hy') (by rw [← hb]; exact Nat.lt_irrefl _)
    · subst h4; exact absurd (h.box_lt hy) (by rw [hb]; exact Nat.lt_irrefl _)
    · exact h.dbox t t' x x' hy hy' hb
  · intro t t' x x' hx hx' hb
    rcases key t x hx with ⟨_, h2⟩ | ⟨_, hy⟩
    · subst h2; exact Nat.lt_irrefl _ (h.obj_lt hx' hb)
    · exact h.dmix t t' x x' hy hx' hb

/-- A new slice of the call's own. -/
theorem InvH.alloc_obj (h : InvH P C M H w) (tag : Nat) (e : TypeId) (rows : List (List PV)) (wr : Bool) (cap : Nat) (cs : Array Value) (i : TypeInfo) (hi : P.info? e = some i)
    (hby : rows.length * i.bytes ≤ 2 ^ 47) (hl : ∀ r ∈ rows, r.length = i.size) (hs : cs.size = cap * i.size) (hc : rows.length ≤ cap) (hm : cap ≤ maxLen)
    (hr : RepAll P M false rows.flatten (cs.toList.take (rows.length * i.size))) (h1c : ∀ v ∈ cs.toList.take (rows.length * i.size), v.oneCell' = true) :
    InvH P C M ⟨H.bx, upd H.ob tag (some ⟨⟨some w.heap.size, cap⟩, e, rows, wr⟩)⟩ (w.alloc (.cells cs e)) := by
  have h' := h.alloc_plain (.cells cs e)
  have key : ∀ t x, upd H.ob tag (some ⟨⟨some w.heap.size, cap⟩, e, rows, wr⟩) t = some x → (t = tag ∧ x = ⟨⟨some w.heap.size, cap⟩, e, rows, wr⟩) ∨ (t ≠ tag ∧ H.ob t = some x) := by
    intro t x hx
    by_cases ht : t = tag
    · subst ht; rw [upd_same] at hx; exact .inl ⟨rfl, (Option.some.inj hx).symm⟩
    · rw [upd_ne _ _ ht] at hx; exact .inr ⟨ht, hx⟩
  refine ⟨h'.mem, h'.ext, h'.new, h'.os, h'.tape, h'.output, h'.size, h'.frame, h'.boxes, ?_, h'.dbox, ?_, ?_⟩
  · intro t x hx
    rcases key t x hx with ⟨_, rfl⟩ | ⟨_, hx⟩
    · exact ⟨i, hi, hby, hl, .inr ⟨w.heap.size, cs, rfl, .inl h.size, heap_alloc_new w _, hs, hc, hm, hr, h1c, fun _ => h.fresh, fun o _ => h.fresh o⟩⟩
    · exact h'.objs t x hx
  · intro t t' x x' b hx hx' hb hb'
    rcases key t x hx with ⟨h1, h2⟩ | ⟨_, hy⟩ <;> rcases key t' x' hx' with ⟨h3, h4⟩ | ⟨_, hy'⟩
    · rw [h1, h3]
    · subst h2; cases hb; exact absurd (h.obj_lt hy' hb') (Nat.lt_irrefl _)
    · subst h4; cases hb'; exact absurd (h.obj_lt hy hb) (Nat.lt_irrefl _)
    · exact h.dobj t t' x x' b hy hy' hb hb'
  · intro t t' x x' hx hx' hb
    rcases key t' x' hx' with ⟨_, h4⟩ | ⟨_, hy'⟩
    · subst h4
      have hb' : w.heap.size = x.b := by simpa using hb
      exact Nat.lt_irrefl _ (hb' ▸ h.box_lt hx)
    · exact h.dmix t t' x x' hx hy' hb

theorem cell_setRow_ne (w : World) (g : Nat) (cs : Array Value) {b k : Nat} (h : b ≠ g) : (w.setRow g cs).cell? ⟨b, k, none⟩ = w.cell? ⟨b, k, none⟩ := by
  have := setRow_other w g b cs h
  simp [World.cell?, this]

/-- A box is written. -/
theorem InvH.set_box (h : InvH P C M H w) (tag : Nat) (x : Box) (hx : H.bx tag = some x) (cells : List PV) (cs : Array Value) (hr : RepAll P M true cells cs.toList) :
    InvH P C M ⟨upd H.bx tag (some ⟨x.b, cells⟩), H.ob⟩ (w.setRow x.b cs) := by
  obtain ⟨hmine, ⟨old, e, hold, _⟩, hnone⟩ := h.boxes tag x hx
  have key : ∀ t y, upd H.bx tag (some ⟨x.b, cells⟩) t = some y → (t = tag ∧ y = ⟨x.b, cells⟩) ∨ (t ≠ tag ∧ H.bx t = some y) := by
    intro t y hy
    by_cases ht : t = tag
    · subst ht; rw [upd_same] at hy; exact .inl ⟨rfl, (Option.some.inj hy).symm⟩
    · rw [upd_ne _ _ ht] at hy; exact .inr ⟨ht, hy⟩
  refine ⟨?_, h.ext, h.new, h.os, h.tape, h.output, ?_, ?_, ?_, ?_, ?_, h.dobj, ?_⟩
  · intro b o v hm
    have hne : b ≠ x.b := fun e => by rw [e, hnone] at hm; cases hm
    rw [cell_setRow_ne w _ _ hne]
    exact h.mem b o v hm
  · simpa using h.size
  · intro b hb hn
    have hne : b ≠ x.b := fun e => by
      rcases hmine with hm | hm
      · omega
      · exact hn (e ▸ hm)
    rw [setRow_other w _ b _ hne]
    exact h.frame b hb hn
  · intro t y hy
    rcases key t y hy with ⟨_, rfl⟩ | ⟨ht, hy⟩
    · exact ⟨hmine, ⟨cs, e, setRow_heap w x.b old cs e _ hold, hr⟩, hnone⟩
    · exact (h.boxes t y hy).keep (Mem.le_refl M) (fun o ho => ho) (setRow_other w _ _ _ fun e => ht (h.dbox t tag y x hy hx e))
  · intro t y hy
    exact (h.objs t y hy).keep (Mem.le_refl M) (fun b o hb ho => ho) (fun b hb => setRow_other w _ _ _ fun e => h.dmix tag t x y hx hy (e ▸ hb))
  · intro t t' y y' hy hy' hb
    rcases key t y hy with ⟨h1, h2⟩ | ⟨_, hz⟩ <;> rcases key t' y' hy' with ⟨h3, h4⟩ | ⟨_, hz'⟩
    · rw [h1, h3]
    · subst h1; subst h2; exact h.dbox _ t' x y' hx hz' hb
    · subst h3; subst h4; exact h.dbox t _ y x hz hx hb
    · exact h.dbox t t' y y' hz hz' hb
  · intro t t' y y' hy hy' hb
    rcases key t y hy with ⟨h1, h2⟩ | ⟨_, hz⟩
    · subst h1; subst h2; exact h.dmix _ t' x y' hx hy' hb
    · exact h.dmix t t' y y' hz hy' hb

/-- A slice of the call's own is written, or grows in its place. -/
theorem InvH.set_obj (h : InvH P C M H w) (tag : Nat) (x : Obj) (hx : H.ob tag = some x) (b : Nat) (hb : x.g.blk = some b) (rows : List (List PV)) (wr : Bool) (cs : Array Value) (i : TypeInfo)
    (hi : P.info? x.e = some i) (hby : rows.length * i.bytes ≤ 2 ^ 47) (hl : ∀ r ∈ rows, r.length = i.size) (hs : cs.size = x.g.cap * i.size) (hc : rows.length ≤ x.g.cap) (hm : x.g.cap ≤ maxLen)
    (hr : RepAll P M false rows.flatten (cs.toList.take (rows.length * i.size))) (h1c : ∀ v ∈ cs.toList.take (rows.length * i.size), v.oneCell' = true)
    (hkeep : ∀ o v, M b o = some v → cs[o]? = some v) (hwr : wr = true → ∀ o, M b o = none) (hlen : ∀ o, rows.length * i.size ≤ o → M b o = none) :
    InvH P C M ⟨H.bx, upd H.ob tag (some ⟨x.g, x.e, rows, wr⟩)⟩ (w.setRow b cs) := by
  obtain ⟨i', hi', _, _, hn | ⟨b', cur, hb', hmine, hold, _⟩⟩ := h.objs tag x hx
  · rw [hn.1] at hb; cases hb
  rw [hb] at hb'; cases hb'
  have key : ∀ t y, upd H.ob tag (some ⟨x.g, x.e, rows, wr⟩) t = some y → (t = tag ∧ y = ⟨x.g, x.e, rows, wr⟩) ∨ (t ≠ tag ∧ H.ob t = some y) := by
    intro t y hy
    by_cases ht : t = tag
    · subst ht; rw [upd_same] at hy; exact .inl ⟨rfl, (Option.some.inj hy).symm⟩
    · rw [upd_ne _ _ ht] at hy; exact .inr ⟨ht, hy⟩
  refine ⟨?_, h.ext, h.new, h.os, h.tape, h.output, ?_, ?_, ?_, ?_, h.dbox, ?_, ?_⟩
  · intro k o v hm
    by_cases hk : k = b
    · subst hk
      rw [cell_of_row (w.setRow k cs) k o cs x.e (0, 0) (setRow_heap w k cur cs _ _ hold)]
      exact hkeep o v hm
    · rw [cell_setRow_ne w _ _ hk]
      exact h.mem k o v hm
  · simpa using h.size
  · intro k hk hn
    have hne : k ≠ b := fun e => by
      rcases hmine with hm | hm
      · omega
      · exact hn (e ▸ hm)
    rw [setRow_other w _ k _ hne]
    exact h.frame k hk hn
  · intro t y hy
    exact (h.boxes t y hy).keep (Mem.le_refl M) (fun o ho => ho) (setRow_other w _ _ _ fun e => h.dmix t tag y x hy hx (e ▸ hb))
  · intro t y hy
    rcases key t y hy with ⟨_, rfl⟩ | ⟨ht, hy⟩
    · exact ⟨i, hi, hby, hl, .inr ⟨b, cs, hb, hmine, setRow_heap w b cur cs _ _ hold, hs, hc, hm, hr, h1c, hwr, hlen⟩⟩
    · exact (h.objs t y hy).keep (Mem.le_refl M) (fun k o hk ho => ho) (fun k hk => setRow_other w _ _ _ fun e => ht (h.dobj t tag y x b hy hx (e ▸ hk) hb))
  · intro t t' y y' k hy hy' hk hk'
    rcases key t y hy with ⟨h1, h2⟩ | ⟨_, hz⟩ <;> rcases key t' y' hy' with ⟨h3, h4⟩ | ⟨_, hz'⟩
    · rw [h1, h3]
    · subst h1; subst h2; exact h.dobj _ t' x y' k hx hz' hk hk'
    · subst h3; subst h4; exact h.dobj t _ y x k hz hx hk hk'
    · exact h.dobj t t' y y' k hz hz' hk hk'
  · intro t t' y y' hy hy' hk
    rcases key t' y' hy' with ⟨h1, h2⟩ | ⟨_, hz'⟩
    · subst h1; subst h2; exact h.dmix t _ y x hy hx hk
    · exact h.dmix t t' y y' hy hz' hk
end

/-- The pure state of a function on its way: slots, boxes, slices of its own. -/
structure PState where
  n : Nat
  s : Nat → PV
  bx : Nat → Option Box
  ob : Nat → Option Obj

def PState.heap (st : PState) : Heap := ⟨st.bx, st.ob⟩

def Slots (P : Program) (M : Mem) (n : Nat) (s : Nat → PV) (a : Act) : Prop :=
  a.tmps.size = n ∧ a.defers = [] ∧ ∀ t, Rep P M true (s t) (a.tmps.getD t undef)

def InvS (P : Program) (C : Ctx) (M : Mem) (st : PState) (a : Act) (w : World) : Prop :=
  Slots P M st.n st.s a ∧ InvH P C M st.heap w

def constPV : Value → PV
  | .string s => bif Nat.ble s.data.toList.length maxStr then .str s.data.toList else .val (.string s)
  | v => .val v

def evS (s : Nat → PV) : Operand → PV
  | .tmp t => s t
  | .const v => constPV v
  | .global _ => .any
  | .func f => .fn f []

theorem Rep.constPV {P : Program} {M : Mem} {b : Bool} (v : Value) : Rep P M b (constPV v) v := by
  cases v
  case string x =>
    simp only [Ab.constPV]
    cases h : Nat.ble x.data.toList.length maxStr
    · simp [Rep]
    · simp only [cond_true, Rep]
      exact ⟨by simp, by simpa [Nat.ble_eq] using h⟩
  all_goals simp [Ab.constPV, Rep]

theorem Slots.ev {P : Program} {M : Mem} {n : Nat} {s : Nat → PV} {a : Act} (h : Slots P M n s a) (x : Operand) : Rep P M true (evS s x) (a.eval x) := by
  cases x with
  | tmp t => exact h.2.2 t
  | const v => exact Rep.constPV v
  | global g => simp [evS, Rep]
  | func f => simp only [evS, Act.eval, Rep]; exact ⟨#[], rfl, by simp [RepAll]⟩

theorem Slots.mono {P : Program} {M M' : Mem} {n : Nat} {s : Nat → PV} {a : Act} (h : Slots P M n s a) (hle : M.le M') : Slots P M' n s a :=
  ⟨h.1, h.2.1, fun t => Rep.mono hle (h.2.2 t)⟩

theorem Slots.put {P : Program} {M : Mem} {n : Nat} {s : Nat → PV} {a : Act} (h : Slots P M n s a) {d : Nat} (hd : d < n) {p : PV} {v : Value} (hr : Rep P M true p v) :
    Slots P M n (upd s d p) (a.put (some d) v) := by
  refine ⟨by simp [Act.put, h.1], by simp [Act.put, h.2.1], fun t => ?_⟩
  by_cases ht : t = d
  · subst ht
    rw [upd_same]
    simpa [Act.put, h.1, hd] using hr
  · rw [upd_ne _ _ ht]
    have := h.2.2 t
    simp only [Array.getD_eq_getD_getElem?] at this ⊢
    simpa [Act.put, Array.getElem?_setIfInBounds_ne (Ne.symm ht)] using this

/-- The state with the destination's slot set (a destination beyond the frame is no state at all). -/
def putD (n : Nat) (s : Nat → PV) (dst : Option Tmp) (p : PV) : Option (Nat → PV) :=
  match dst with
  | none => some s
  | some d => bif Nat.blt d n then some (upd s d p) else none

theorem Slots.putD {P : Program} {M : Mem} {n : Nat} {s s' : Nat → PV} {a : Act} (h : Slots P M n s a) {dst : Option Tmp} {p : PV} {v : Value} (hs : putD n s dst p = some s') (hr : Rep P M true p v) :
    Slots P M n s' (a.put dst v) := by
  cases dst with
  | none => simp only [Ab.putD, Option.some.injEq] at hs; subst hs; exact h
  | some d =>
    simp only [Ab.putD] at hs
    cases hb : Nat.blt d n with
    | false => simp [hb] at hs
    | true =>
      simp only [hb, cond_true, Option.some.injEq] at hs
      subst hs
      exact h.put (by simpa [Nat.blt_eq] using hb) hr
end Go.Ab
