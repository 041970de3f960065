/- The abstract layer, part V: variables and slices of the call's own are handed over to a callee, and come back. -/
import Derived.Test.YtohlpijmiokkjaaDoorAbS
namespace Go.Ab

/-- What is handed over, under the callee's names: pairs (the caller's name, the callee's). -/
def giveB (bx : Nat → Option Box) (m : List (Nat × Nat)) : Nat → Option Box := fun t => match m.find? (fun p => Nat.beq p.2 t) with
  | some p => bx p.1
  | none => none
def giveO (ob : Nat → Option Obj) (m : List (Nat × Nat)) : Nat → Option Obj := fun t => match m.find? (fun p => Nat.beq p.2 t) with
  | some p => ob p.1
  | none => none
theorem beqC (a b : Nat) : Nat.beq a b = Nat.beq b a := by
  cases h : Nat.beq a b with
  | true => rw [Nat.eq_of_beq_eq_true h]; exact (Nat.beq_refl b).symm
  | false =>
    cases h' : Nat.beq b a with
    | true => rw [Nat.eq_of_beq_eq_true h'] at h; rw [show Nat.beq a a = true from Nat.beq_refl a] at h; cases h
    | false => rfl
theorem giveB_nil (bx : Nat → Option Box) : giveB bx [] = fun _ => none := rfl
theorem giveO_nil (ob : Nat → Option Obj) : giveO ob [] = fun _ => none := rfl
theorem giveB_cons (bx : Nat → Option Box) (c k : Nat) (m : List (Nat × Nat)) : giveB bx ((c, k) :: m) = upd (giveB bx m) k (bx c) := by
  funext t
  simp only [giveB, upd, List.find?_cons]
  rw [beqC t k]
  cases Nat.beq k t <;> rfl
theorem giveO_cons (ob : Nat → Option Obj) (c k : Nat) (m : List (Nat × Nat)) : giveO ob ((c, k) :: m) = upd (giveO ob m) k (ob c) := by
  funext t
  simp only [giveO, upd, List.find?_cons]
  rw [beqC t k]
  cases Nat.beq k t <;> rfl

/-- What has come back, under the caller's names. -/
def backB (bx : Nat → Option Box) (m : List (Nat × Nat)) (bx' : Nat → Option Box) : Nat → Option Box := fun t => match m.find? (fun p => Nat.beq p.1 t) with
  | some p => bx' p.2
  | none => bx t
def backO (ob : Nat → Option Obj) (m : List (Nat × Nat)) (ob' : Nat → Option Obj) : Nat → Option Obj := fun t => match m.find? (fun p => Nat.beq p.1 t) with
  | some p => ob' p.2
  | none => ob t

def distinctN : List Nat → Bool
  | [] => true
  | a :: l => l.all (fun b => !Nat.beq a b) && distinctN l

theorem find_of_distinct {f : Nat × Nat → Nat} : ∀ {m : List (Nat × Nat)} {p : Nat × Nat}, distinctN (m.map f) = true → p ∈ m → m.find? (fun q => Nat.beq (f q) (f p)) = some p
  | [], _, _, h => by simp at h
  | q :: m, p, hd, h => by
    simp only [List.map_cons, distinctN, Bool.and_eq_true] at hd
    rw [List.find?_cons]
    rcases List.mem_cons.1 h with rfl | h
    · rw [show Nat.beq (f p) (f p) = true from Nat.beq_refl _]
    · have hne : Nat.beq (f q) (f p) = false := by
        have := (List.all_eq_true.1 hd.1) (f p) (List.mem_map.2 ⟨p, h, rfl⟩)
        simpa using this
      rw [hne]
      exact find_of_distinct hd.2 h

theorem find_mem {f : Nat × Nat → Nat} {m : List (Nat × Nat)} {t : Nat} {p : Nat × Nat} (h : m.find? (fun q => Nat.beq (f q) t) = some p) : p ∈ m ∧ f p = t :=
  ⟨List.mem_of_find?_eq_some h, by
    have := List.find?_some h
    exact Nat.eq_of_beq_eq_true this⟩

def ownOf (H : Heap) (mb mo : List (Nat × Nat)) : List Nat := mb.filterMap (fun p => (H.bx p.1).map Box.b) ++ mo.filterMap (fun p => (H.ob p.1).bind fun x => x.g.blk)

theorem mem_ownOf {H : Heap} {mb mo : List (Nat × Nat)} {b : Nat} (h : b ∈ ownOf H mb mo) : (∃ p x, p ∈ mb ∧ H.bx p.1 = some x ∧ x.b = b) ∨ ∃ p x, p ∈ mo ∧ H.ob p.1 = some x ∧ x.g.blk = some b := by
  simp only [ownOf, List.mem_append, List.mem_filterMap] at h
  rcases h with ⟨p, hp, h⟩ | ⟨p, hp, h⟩
  · rw [Option.map_eq_some_iff] at h
    obtain ⟨x, hx, rfl⟩ := h
    exact .inl ⟨p, x, hp, hx, rfl⟩
  · rw [Option.bind_eq_some_iff] at h
    obtain ⟨x, hx, h⟩ := h
    exact .inr ⟨p, x, hp, hx, h⟩
theorem ownOf_box {H : Heap} {mb mo : List (Nat × Nat)} {p : Nat × Nat} {x : Box} (hp : p ∈ mb) (hx : H.bx p.1 = some x) : x.b ∈ ownOf H mb mo := by
  simp only [ownOf, List.mem_append, List.mem_filterMap]
  exact .inl ⟨p, hp, by rw [hx]; rfl⟩
theorem ownOf_obj {H : Heap} {mb mo : List (Nat × Nat)} {p : Nat × Nat} {x : Obj} {b : Nat} (hp : p ∈ mo) (hx : H.ob p.1 = some x) (hb : x.g.blk = some b) : b ∈ ownOf H mb mo := by
  simp only [ownOf, List.mem_append, List.mem_filterMap]
  exact .inr ⟨p, hp, by rw [hx]; exact hb⟩

section
variable {P : Program} {C : Ctx} {M : Mem} {H : Heap} {w : World} {mb mo : List (Nat × Nat)}

theorem giveB_some {bx : Nat → Option Box} {m : List (Nat × Nat)} {t : Nat} {x : Box} (h : giveB bx m t = some x) : ∃ p, p ∈ m ∧ p.2 = t ∧ bx p.1 = some x := by
  unfold giveB at h
  split at h
  · rename_i p hp
    obtain ⟨h1, h2⟩ := find_mem (f := Prod.snd) hp
    exact ⟨p, h1, h2, h⟩
  · cases h
theorem giveO_some {ob : Nat → Option Obj} {m : List (Nat × Nat)} {t : Nat} {x : Obj} (h : giveO ob m t = some x) : ∃ p, p ∈ m ∧ p.2 = t ∧ ob p.1 = some x := by
  unfold giveO at h
  split at h
  · rename_i p hp
    obtain ⟨h1, h2⟩ := find_mem (f := Prod.snd) hp
    exact ⟨p, h1, h2, h⟩
  · cases h

theorem fst_inj {m : List (Nat × Nat)} (hd : distinctN (m.map Prod.fst) = true) {p q : Nat × Nat} (hp : p ∈ m) (hq : q ∈ m) (h : p.1 = q.1) : p = q := by
  have h1 := find_of_distinct (f := Prod.fst) hd hp
  have h2 := find_of_distinct (f := Prod.fst) hd hq
  rw [h] at h1
  rw [h1] at h2
  exact Option.some.inj h2

theorem InvH.ownMine (h : InvH P C M H w) : ∀ b ∈ ownOf H mb mo, C.mine b := by
  intro b hb
  rcases mem_ownOf hb with ⟨p, x, _, hx, rfl⟩ | ⟨p, x, _, hx, hb⟩
  · exact (h.boxes _ _ hx).1
  · obtain ⟨_, _, _, _, h4⟩ := h.objs _ _ hx
    rcases h4 with ⟨h5, _⟩ | ⟨b', _, h5, h6, _⟩
    · rw [h5] at hb; cases hb
    · rw [h5] at hb; cases hb; exact h6

/-- What the callee finds. -/
theorem InvH.enterH (h : InvH P C M H w) (hb1 : distinctN (mb.map Prod.fst) = true) (ho1 : distinctN (mo.map Prod.fst) = true) : InvH P ⟨w, ownOf H mb mo, M, h.gl h.ownMine⟩ M ⟨giveB H.bx mb, giveO H.ob mo⟩ w := by
  refine ⟨h.mem, Mem.le_refl M, fun _ _ _ hm => .inl hm, rfl, rfl, rfl, Nat.le_refl _, fun _ _ _ => rfl, ?_, ?_, ?_, ?_, ?_⟩
  · intro t x hx
    obtain ⟨p, hp, _, hx⟩ := giveB_some hx
    obtain ⟨_, h2, h3⟩ := h.boxes _ _ hx
    exact ⟨.inr (ownOf_box hp hx), h2, h3⟩
  · intro t x hx
    obtain ⟨p, hp, _, hx⟩ := giveO_some hx
    obtain ⟨i, h1, h2, h3, h4⟩ := h.objs _ _ hx
    refine ⟨i, h1, h2, h3, ?_⟩
    rcases h4 with h4 | ⟨b, cur, hb, _, h5⟩
    · exact .inl h4
    · exact .inr ⟨b, cur, hb, .inr (ownOf_obj hp hx hb), h5⟩
  · intro t t' x x' hx hx' hb
    obtain ⟨p, hp, e1, hy⟩ := giveB_some hx
    obtain ⟨q, hq, e2, hy'⟩ := giveB_some hx'
    rw [← e1, ← e2, fst_inj hb1 hp hq (h.dbox _ _ x x' hy hy' hb)]
  · intro t t' x x' b hx hx' hb hb'
    obtain ⟨p, hp, e1, hy⟩ := giveO_some hx
    obtain ⟨q, hq, e2, hy'⟩ := giveO_some hx'
    rw [← e1, ← e2, fst_inj ho1 hp hq (h.dobj _ _ x x' b hy hy' hb hb')]
  · intro t t' x x' hx hx' hb
    obtain ⟨p, hp, _, hy⟩ := giveB_some hx
    obtain ⟨q, hq, _, hy'⟩ := giveO_some hx'
    exact h.dmix _ _ x x' hy hy' hb

/-- Behind the call. -/
theorem InvH.afterH {M' : Mem} {H' : Heap} {w' : World} (h : InvH P C M H w) (hb1 : distinctN (mb.map Prod.fst) = true) (hb2 : distinctN (mb.map Prod.snd) = true) (ho1 : distinctN (mo.map Prod.fst) = true) (ho2 : distinctN (mo.map Prod.snd) = true)
    {hg : Gl w (ownOf H mb mo)} (h' : InvH P ⟨w, ownOf H mb mo, M, hg⟩ M' H' w') : InvH P C M' ⟨backB H.bx mb H'.bx, backO H.ob mo H'.ob⟩ w' := by
  have hown : ∀ b, b ∈ ownOf H mb mo → C.mine b := by
    intro b hb
    rcases mem_ownOf hb with ⟨p, x, _, hx, rfl⟩ | ⟨p, x, _, hx, hb⟩
    · exact (h.boxes _ _ hx).1
    · obtain ⟨_, _, _, _, h4⟩ := h.objs _ _ hx
      rcases h4 with ⟨h5, _⟩ | ⟨b', _, h5, h6, _⟩
      · rw [h5] at hb; cases hb
      · rw [h5] at hb; cases hb; exact h6
  have hup : ∀ b, (⟨w, ownOf H mb mo, M, hg⟩ : Ctx).mine b → C.mine b := fun b hb => by
    rcases hb with hb | hb
    · exact .inl (Nat.le_trans h.size hb)
    · exact hown b hb
  have hnone : ∀ b o, b < w.heap.size → b ∉ ownOf H mb mo → M b o = none → M' b o = none := by
    intro b o hb hno hn
    cases hm : M' b o with
    | none => rfl
    | some v =>
      rcases h'.new b o v hm with h1 | h1 | h1
      · rw [show M b o = some v from h1] at hn; cases hn
      · exact absurd hb (Nat.not_lt.2 h1)
      · exact absurd h1 hno
  have kb : ∀ t x, backB H.bx mb H'.bx t = some x → (∃ p, p ∈ mb ∧ p.1 = t ∧ H'.bx p.2 = some x) ∨ ((∀ p ∈ mb, p.1 ≠ t) ∧ H.bx t = some x) := by
    intro t x hx
    unfold backB at hx
    split at hx
    · rename_i p hp
      obtain ⟨h1, h2⟩ := find_mem (f := Prod.fst) hp
      exact .inl ⟨p, h1, h2, hx⟩
    · rename_i hp
      rw [List.find?_eq_none] at hp
      exact .inr ⟨fun p hp' e => hp p hp' (by rw [e]; exact Nat.beq_refl _), hx⟩
  have ko : ∀ t x, backO H.ob mo H'.ob t = some x → (∃ p, p ∈ mo ∧ p.1 = t ∧ H'.ob p.2 = some x) ∨ ((∀ p ∈ mo, p.1 ≠ t) ∧ H.ob t = some x) := by
    intro t x hx
    unfold backO at hx
    split at hx
    · rename_i p hp
      obtain ⟨h1, h2⟩ := find_mem (f := Prod.fst) hp
      exact .inl ⟨p, h1, h2, hx⟩
    · rename_i hp
      rw [List.find?_eq_none] at hp
      exact .inr ⟨fun p hp' e => hp p hp' (by rw [e]; exact Nat.beq_refl _), hx⟩
  -- what was kept is not among what was handed over
  have nb : ∀ t x, (∀ p ∈ mb, p.1 ≠ t) → H.bx t = some x → x.b ∉ ownOf H mb mo := by
    intro t x hn hx hm
    rcases mem_ownOf hm with ⟨p, y, hp, hy, e⟩ | ⟨p, y, hp, hy, e⟩
    · exact hn p hp (h.dbox _ _ y x hy hx e)
    · exact h.dmix _ _ x y hx hy e
  have no : ∀ t x b, (∀ p ∈ mo, p.1 ≠ t) → H.ob t = some x → x.g.blk = some b → b ∉ ownOf H mb mo := by
    intro t x b hn hx hb hm
    rcases mem_ownOf hm with ⟨p, y, hp, hy, e⟩ | ⟨p, y, hp, hy, e⟩
    · exact h.dmix _ _ y x hy hx (by rw [hb, e])
    · exact hn p hp (h.dobj _ _ y x b hy hx e hb)
  have mb' : ∀ t x, H'.bx t = some x → w.heap.size ≤ x.b ∨ x.b ∈ ownOf H mb mo := fun t x hx => (h'.boxes t x hx).1
  have mo' : ∀ t x b, H'.ob t = some x → x.g.blk = some b → w.heap.size ≤ b ∨ b ∈ ownOf H mb mo := by
    intro t x b hx hb
    obtain ⟨_, _, _, _, h4⟩ := h'.objs t x hx
    rcases h4 with ⟨h5, _⟩ | ⟨b', _, h5, h6, _⟩
    · rw [h5] at hb; cases hb
    · rw [h5] at hb; cases hb; exact h6
  have bz : ∀ t x b, H.ob t = some x → x.g.blk = some b → b < w.heap.size := fun t x b hx hb => h.obj_lt hx hb
  have snd_eq : ∀ {m : List (Nat × Nat)}, distinctN (m.map Prod.snd) = true → ∀ {p q : Nat × Nat}, p ∈ m → q ∈ m → p.2 = q.2 → p = q := by
    intro m hd p q hp hq e
    have h1 := find_of_distinct (f := Prod.snd) hd hp
    have h2 := find_of_distinct (f := Prod.snd) hd hq
    rw [e] at h1
    rw [h1] at h2
    exact Option.some.inj h2
  refine ⟨h'.mem, Mem.le_trans h.ext h'.ext, ?_, h'.os.trans h.os, h'.tape.trans h.tape, h'.output.trans h.output, Nat.le_trans h.size h'.size, ?_, ?_, ?_, ?_, ?_, ?_⟩
  · intro b o v hm
    rcases h'.new b o v hm with h1 | h1
    · exact h.new b o v h1
    · exact .inr (hup b h1)
  · intro b hb hn
    have hno : b ∉ ownOf H mb mo := fun hm => by
      rcases hown b hm with h1 | h1
      · omega
      · exact hn h1
    exact (h'.frame b (Nat.lt_of_lt_of_le hb h.size) hno).trans (h.frame b hb hn)
  · intro t x hx
    rcases kb t x hx with ⟨p, hp, _, hx⟩ | ⟨hn, hx⟩
    · obtain ⟨h1, h2, h3⟩ := h'.boxes _ _ hx
      exact ⟨hup _ h1, h2, h3⟩
    · have hno := nb t x hn hx
      exact (h.boxes t x hx).keep h'.ext (fun o ho => hnone _ o (h.box_lt hx) hno ho) (h'.frame _ (h.box_lt hx) hno)
  · intro t x hx
    rcases ko t x hx with ⟨p, hp, _, hx⟩ | ⟨hn, hx⟩
    · obtain ⟨i, h1, h2, h3, h4⟩ := h'.objs _ _ hx
      refine ⟨i, h1, h2, h3, ?_⟩
      rcases h4 with h4 | ⟨b, cur, h5, h6, h7⟩
      · exact .inl h4
      · exact .inr ⟨b, cur, h5, hup _ h6, h7⟩
    · exact (h.objs t x hx).keep h'.ext (fun b o hb ho => hnone _ o (h.obj_lt hx hb) (no t x b hn hx hb) ho) (fun b hb => h'.frame _ (h.obj_lt hx hb) (no t x b hn hx hb))
  · intro t t' x x' hx hx' hb
    rcases kb t x hx with ⟨p, hp, e, hx⟩ | ⟨hn, hx⟩ <;> rcases kb t' x' hx' with ⟨q, hq, e', hx'⟩ | ⟨hn', hx'⟩
    · have := snd_eq hb2 hp hq (h'.dbox _ _ x x' hx hx' hb)
      rw [← e, ← e', this]
    · rcases mb' _ _ hx with h1 | h1
      · have := h.box_lt hx'; omega
      · exact absurd (hb ▸ h1) (nb t' x' hn' hx')
    · rcases mb' _ _ hx' with h1 | h1
      · have := h.box_lt hx; omega
      · exact absurd (hb ▸ h1) (nb t x hn hx)
    · exact h.dbox t t' x x' hx hx' hb
  · intro t t' x x' b hx hx' hb hb'
    rcases ko t x hx with ⟨p, hp, e, hx⟩ | ⟨hn, hx⟩ <;> rcases ko t' x' hx' with ⟨q, hq, e', hx'⟩ | ⟨hn', hx'⟩
    · have := snd_eq ho2 hp hq (h'.dobj _ _ x x' b hx hx' hb hb')
      rw [← e, ← e', this]
    · rcases mo' _ _ b hx hb with h1 | h1
      · have := h.obj_lt hx' hb'; omega
      · exact absurd h1 (no t' x' b hn' hx' hb')
    · rcases mo' _ _ b hx' hb' with h1 | h1
      · have := h.obj_lt hx hb; omega
      · exact absurd h1 (no t x b hn hx hb)
    · exact h.dobj t t' x x' b hx hx' hb hb'
  · intro t t' x x' hx hx' hb
    rcases kb t x hx with ⟨p, hp, e, hx⟩ | ⟨hn, hx⟩ <;> rcases ko t' x' hx' with ⟨q, hq, e', hx'⟩ | ⟨hn', hx'⟩
    · exact h'.dmix _ _ x x' hx hx' hb
    · rcases mb' _ _ hx with h1 | h1
      · have := h.obj_lt hx' hb; omega
      · exact no t' x' _ hn' hx' hb h1
    · rcases mo' _ _ _ hx' hb with h1 | h1
      · have := h.box_lt hx; omega
      · exact nb t x hn hx h1
    · exact h.dmix t t' x x' hx hx' hb

theorem eff_callH {o : Oper} {ev : Operand → PV} {H : Heap} {fx : Operand} {as : Array Operand} {ts : Array TypeId} (ho : o.op = .call { callee := .value fx, args := as, argTypes := ts }) {g : FuncId} {caps : List PV}
    (hf : ev fx = .fn g caps) (hcall : ∀ vs w, (callFunc g vs).run P w = .ok (.enter g vs) w) (mb mo : List (Nat × Nat)) (hb1 : distinctN (mb.map Prod.fst) = true) (hb2 : distinctN (mb.map Prod.snd) = true) (ho1 : distinctN (mo.map Prod.fst) = true) (ho2 : distinctN (mo.map Prod.snd) = true)
    {args : List PV} (hle : PLeAll P (as.toList.map ev ++ caps) args) {R : PV → Heap → Prop} (hc : PCallsH P g args ⟨giveB H.bx mb, giveO H.ob mo⟩ R)
    {K : PV → Heap → Prop} (hk : ∀ u H', R u H' → K u ⟨backB H.bx mb H'.bx, backO H.ob mo H'.ob⟩) : Eff P o ev H K := by
  intro C M a w next Q hi he hn
  have hfr := he fx (by rw [ho]; simp [Op.operands, Call.operands])
  rw [hf] at hfr
  simp only [Rep] at hfr
  obtain ⟨cs, hv, hcaps⟩ := hfr
  have hargs : RepAll P M true (as.toList.map ev) (as.map a.eval).toList := by
    simpa using repAll_map as.toList fun x hx => he x (by rw [ho]; simp_all [Op.operands, Call.operands])
  have hrep := hle M _ (hargs.append hcaps)
  have hrun : (execOp a.eval o).run P w = .ok (.enter g (as.map a.eval ++ cs)) w := by
    simp [execOp, ho, resolve, hv, Deferred.ofValue, invoke, hcall]
  unfold Oper.wp
  rw [hrun]
  simp only [Oper.upon]
  refine (hc w M (ownOf H mb mo) (hi.gl hi.ownMine) _ (hi.enterH hb1 ho1) (by simpa using hrep)).mono ?_
  rintro e w' ⟨v, u, H', M', rfl, hR, hi', hr⟩
  exact hn v u _ M' w' (hk u H' hR) hi'.ext (hi.afterH hb1 hb2 ho1 ho2 hi') hr
end

section
variable {P : Program} {ops : Array Oper} {rest : List Oper} {o : Oper} {n : Nat} {s s' : Nat → PV} {bx bx1 : Nat → Option Box} {ob ob1 : Nat → Option Obj} {K : PState → Prop} {T : TT} {rb : RB} {k : Nat} {L : List Nat}

/-- A call to which variables and slices are handed over. -/
theorem AOps.callH (hg : guardA ops s o = some true) {fx : Operand} {as : Array Operand} {ts : Array TypeId} (ho : o.op = .call { callee := .value fx, args := as, argTypes := ts }) {g : FuncId} {caps : List PV}
    (hf : evS s fx = .fn g caps) (hcall : ∀ vs w, (callFunc g vs).run P w = .ok (.enter g vs) w) (mb mo : List (Nat × Nat)) (hb1 : distinctN (mb.map Prod.fst) = true) (hb2 : distinctN (mb.map Prod.snd) = true) (ho1 : distinctN (mo.map Prod.fst) = true) (ho2 : distinctN (mo.map Prod.snd) = true)
    {args : List PV} (hle : PLeAll P (as.toList.map (evS s) ++ caps) args) {Hin : Heap} (hin : Hin = ⟨giveB bx mb, giveO ob mo⟩) {R : PV → Heap → Prop} (hc : PCallsH P g args Hin R)
    (h : ∀ u H', R u H' → ∃ s', putD n s o.dst u = some s' ∧ AOps P ops rest ⟨n, s', backB bx mb H'.bx, backO ob mo H'.ob⟩ K) : AOps P ops (o :: rest) ⟨n, s, bx, ob⟩ K :=
  AOps.eff hg (eff_callH ho hf hcall mb mo hb1 hb2 ho1 ho2 hle (hin ▸ hc) h)

theorem DOps.callHO (hop0 : ops[k]? = some o) (hg : guardA ops s o = some true) {fx : Operand} {as : Array Operand} {ts : Array TypeId} (ho : o.op = .call { callee := .value fx, args := as, argTypes := ts }) {g : FuncId} {caps : List PV}
    (hf : evS s fx = .fn g caps) (hcall : ∀ vs w, (callFunc g vs).run P w = .ok (.enter g vs) w) (mo : List (Nat × Nat)) (ho1 : distinctN (mo.map Prod.fst) = true) (ho2 : distinctN (mo.map Prod.snd) = true)
    {args : List PV} (hle : PLeAll P (as.toList.map (evS s) ++ caps) args) {Hin : Heap} (hin : Hin = ⟨fun _ => none, giveO ob mo⟩) {R : PV → Heap → Prop} (hc : PCallsH P g args Hin R)
    (h : ∀ u H', R u H' → ∃ s', putD n s o.dst u = some s' ∧ DOps P T rb ops L ⟨n, s', bx, backO ob mo H'.ob⟩ K) : DOps P T rb ops (k :: L) ⟨n, s, bx, ob⟩ K := by
  refine ⟨o, hop0, true, hg, ?_⟩
  simp only [if_true, ho, clsOf]
  intro bx'
  refine eff_callH (H := ⟨bx', ob⟩) ho hf hcall [] mo rfl rfl ho1 ho2 hle (hin ▸ hc) fun u H' hR => ?_
  obtain ⟨s', h1, h2⟩ := h u H' hR
  exact ⟨rfl, s', h1, h2⟩

theorem giveB_eq {bx bx' : Nat → Option Box} {m : List (Nat × Nat)} (h : ∀ t, giveB bx m t = bx' t) : giveB bx m = bx' := funext h

theorem PLe2.own {t t' : Nat} {g : OwnRef} {l l' : Nat} (h : l = l') : PLe2 P (.own t g l) (.own t' g l') := by
  subst h
  intro M s x hx
  simpa only [Rep] using hx
theorem PLe2.boxT {t t' b o : Nat} : PLe2 P (.box t b o) (.box t' b o) := by
  intro M s x hx
  simpa only [Rep] using hx

/-- Returning with what was handed over. -/
theorem V.retH {fn : Func} {R : PV → Heap → Prop} {ks : List KI} {T : TT} (hT : T.Ok P) {rs : Array ResultVar} (hres : fn.results = rs) {ps : List PV} (h : ResAll T ⟨n, s, bx, ob⟩ rs.toList ps) {u : PV} (hu : PLe P (tupOf ps) u) (hR : R u ⟨bx, ob⟩) :
    V P fn R (.code .ret :: ks) ⟨n, s, bx, ob⟩ := V.ret hT hres h hu ⟨fun _ _ hx => hx, fun _ _ hx => hx⟩ hR

/-- The code's end, of a function without results. -/
theorem V.endH {fn : Func} {R : PV → Heap → Prop} (hres : fn.results = #[]) {u : PV} (hu : PLe P (.tup []) u) (hR : R u ⟨bx, ob⟩) : V P fn R [] ⟨n, s, bx, ob⟩ := by
  intro C M a w hi
  have hr : (results fn a.tmps).run P w = .ok (.tuple #[]) w := by
    rw [results_eq hres]
    simp
  exact ⟨hi.1.2.1, .tuple #[], hr, .tuple #[], u, ⟨bx, ob⟩, M, rfl, hR, hi.2, hu M _ (by simp [Rep, RepAll])⟩
theorem V.endP {fn : Func} {r : PV} (hres : fn.results = #[]) (hu : PLe P (.tup []) r) : V P fn (fun u H => u = r ∧ H = Heap.empty) [] ⟨n, s, bx, ob⟩ := by
  intro C M a w hi
  have hr : (results fn a.tmps).run P w = .ok (.tuple #[]) w := by
    rw [results_eq hres]
    simp
  exact ⟨hi.1.2.1, .tuple #[], hr, .tuple #[], r, Heap.empty, M, rfl, ⟨rfl, rfl⟩, hi.2.less (HSub.empty _).1 (HSub.empty _).2, hu M _ (by simp [Rep, RepAll])⟩
end
end Go.Ab
