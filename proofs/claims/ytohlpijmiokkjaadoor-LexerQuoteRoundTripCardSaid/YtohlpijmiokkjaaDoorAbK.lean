/- The abstract layer, part K: appends as steps, freezing, weakening, loops, facts on what a slot holds. -/
import Derived.Test.YtohlpijmiokkjaaDoorAbJ
namespace Go.Ab

section
variable {P : Program} {ops : Array Oper} {rest : List Oper} {o : Oper} {n : Nat} {s s' : Nat → PV} {bx : Nat → Option Box} {ob : Nat → Option Obj} {K : PState → Prop} {T : TT}

theorem AOps.appendO (hT : T.Ok P) (hg : guardA ops s o = some true) {x y : Operand} {t : TypeId} (ho : o.op = .call { callee := .builtin .append, args := #[x, y], argTypes := #[t, t] }) {d : Nat} (hdst : o.dst = some d) (hlt : Nat.blt d n = true) {ti ei : TInfo} {e : TypeId} (hti : T.get t = some ti) (hd : ti.desc = .slice e) (hei : T.get e = some ei)
    (hz : Nat.beq ei.zero.cells.size ei.size = true) (hsz : Nat.blt 0 ei.size = true) {tag : Nat} {g : OwnRef} {len : Nat} {rows rows2 : List (List PV)} {wr : Bool} (hx : evS s x = .own tag g len) (hob : ob tag = some ⟨g, e, rows, wr⟩) (hlen : len = rows.length) (hy : evS s y = .list e rows2)
    (hby : (rows.length + rows2.length) * ei.bytes ≤ 2 ^ 47) (hmx : rows.length + rows2.length ≤ maxLen) (h : ∀ g', AOps P ops rest ⟨n, upd s d (.own tag g' (rows ++ rows2).length), bx, upd ob tag (some ⟨g', e, rows ++ rows2, wr⟩)⟩ K) : AOps P ops (o :: rest) ⟨n, s, bx, ob⟩ K :=
  AOps.eff hg (eff_appendO hT ho hti hd hei hz hsz hx hob hlen hy hby hmx fun g' => ⟨_, by simp [hdst, putD, hlt], h g'⟩)

theorem AOps.appendN (hT : T.Ok P) (hg : guardA ops s o = some true) {x y : Operand} {t : TypeId} (ho : o.op = .call { callee := .builtin .append, args := #[x, y], argTypes := #[t, t] }) {d : Nat} (hdst : o.dst = some d) (hlt : Nat.blt d n = true) {ti ei : TInfo} {e : TypeId} (hti : T.get t = some ti) (hd : ti.desc = .slice e) (hei : T.get e = some ei)
    (hz : Nat.beq ei.zero.cells.size ei.size = true) (hsz : Nat.blt 0 ei.size = true) {rows2 : List (List PV)} (hx : evS s x = .val (.slice none 0 0)) (hy : evS s y = .list e rows2)
    (h : ∀ g', AOps P ops rest ⟨n, upd s d (.own d g' rows2.length), bx, upd ob d (some ⟨g', e, rows2, true⟩)⟩ K) : AOps P ops (o :: rest) ⟨n, s, bx, ob⟩ K :=
  AOps.eff hg (eff_appendN hT ho hti hd hei hz hsz d hx hy fun g' => ⟨_, by simp [hdst, putD, hlt], h g'⟩)
end

section
variable {P : Program} {C : Ctx} {M : Mem} {H : Heap} {w : World}

/-- The memory, with the first cells of a block frozen. -/
def Mem.addN (M : Mem) (b n : Nat) (cs : Array Value) : Mem := fun k o => if k = b ∧ o < n then cs[o]? else M k o

/-- A slice of the call's own is frozen as far as it goes; it may still grow. -/
theorem InvH.freezeO (h : InvH P C M H w) {tag : Nat} {x : Obj} (hx : H.ob tag = some x) :
    ∃ M', M.le M' ∧ InvH P C M' ⟨H.bx, upd H.ob tag (some { x with wr := false })⟩ w ∧ Rep P M' true (.list x.e x.rows) (x.g.val x.rows.length) := by
  obtain ⟨i, hinf, hxb, hxl, hxx⟩ := h.objs tag x hx
  have key : ∀ t y, upd H.ob tag (some { x with wr := false }) t = some y → (t = tag ∧ y = { x with wr := false }) ∨ (t ≠ tag ∧ H.ob t = some y) := by
    intro t y hy
    by_cases ht : t = tag
    · subst ht; rw [upd_same] at hy; exact .inl ⟨rfl, (Option.some.inj hy).symm⟩
    · rw [upd_ne _ _ ht] at hy; exact .inr ⟨ht, hy⟩
  have dobj' : ∀ t t' y y' k, upd H.ob tag (some { x with wr := false }) t = some y → upd H.ob tag (some { x with wr := false }) t' = some y' → y.g.blk = some k → y'.g.blk = some k → t = t' := by
    intro t t' y y' k hy hy' hk hk'
    rcases key t y hy with ⟨h1, h2⟩ | ⟨_, hz⟩ <;> rcases key t' y' hy' with ⟨h3, h4⟩ | ⟨_, hz'⟩
    · rw [h1, h3]
    · subst h1; subst h2; exact h.dobj _ t' x y' k hx hz' hk hk'
    · subst h3; subst h4; exact h.dobj t _ y x k hz hx hk hk'
    · exact h.dobj t t' y y' k hz hz' hk hk'
  have dmix' : ∀ t t' (y : Box) (y' : Obj), H.bx t = some y → upd H.ob tag (some { x with wr := false }) t' = some y' → y'.g.blk ≠ some y.b := by
    intro t t' y y' hy hy' hk
    rcases key t' y' hy' with ⟨h1, h2⟩ | ⟨_, hz'⟩
    · subst h1; subst h2; exact h.dmix t _ y x hy hx hk
    · exact h.dmix t t' y y' hy hz' hk
  rcases hxx with ⟨hbn, hrn, hcn⟩ | ⟨b, cur, hb, hmine, hcur, hcs, hlc, hcm, hcr, hc1, hw1, hw2⟩
  · refine ⟨M, Mem.le_refl M, ⟨h.mem, h.ext, h.new, h.os, h.tape, h.output, h.size, h.frame, h.boxes, ?_, h.dbox, dobj', dmix'⟩, ?_⟩
    · intro t y hy
      rcases key t y hy with ⟨_, rfl⟩ | ⟨_, hy⟩
      · exact ⟨i, hinf, hxb, hxl, .inl ⟨hbn, hrn, hcn⟩⟩
      · exact h.objs t y hy
    · simp only [Rep]
      exact ⟨none, 0, i, by simp [OwnRef.val, hbn, hcn], by simp [hrn], by simp, hinf, hxb, fun hne => absurd hrn hne⟩
  · have hsame : ∀ o v, M b o = some v → cur[o]? = some v := fun o v hm => by
      have := h.mem b o v hm
      rwa [cell_of_row w b o cur x.e (0, 0) hcur] at this
    have hle : M.le (M.addN b (x.rows.length * i.size) cur) := by
      intro k o v hm
      simp only [Mem.addN]
      split
      · rename_i hc; obtain ⟨rfl, _⟩ := hc; exact hsame o v hm
      · exact hm
    have hoth : ∀ k o, k ≠ b → M.addN b (x.rows.length * i.size) cur k o = M k o := fun k o hk => by simp [Mem.addN, hk]
    have hrows : RepRows P (M.addN b (x.rows.length * i.size) cur) i.size b 0 x.rows := by
      refine RepRows.of_flat hxl ?_
      have hcr' := RepAll.mono hle hcr
      have key2 : ∀ (ps : List PV) (xs : List Value) (o : Nat), (∀ j y, xs[j]? = some y → cur[o + j]? = some y ∧ o + j < x.rows.length * i.size) → (∀ v ∈ xs, v.oneCell' = true) → RepAll P (M.addN b (x.rows.length * i.size) cur) false ps xs → RepAt P (M.addN b (x.rows.length * i.size) cur) b o ps := by
        intro ps
        induction ps with
        | nil => intro xs o _ _ _; simp [RepAt]
        | cons p ps ih =>
          intro xs o hx h1 hr
          simp only [RepAll] at hr
          obtain ⟨y, ys, rfl, hp, hrest⟩ := hr
          simp only [RepAt]
          refine ⟨⟨y, ?_, h1 y (by simp), hp⟩, ih ys (o + 1) (fun j z hz => ?_) (fun v hv => h1 v (by simp [hv])) hrest⟩
          · have := hx 0 y rfl
            simp only [Nat.add_zero] at this
            simp [Mem.addN, this.1, this.2]
          · have := hx (j + 1) z (by simpa using hz)
            rwa [show o + 1 + j = o + (j + 1) from by omega]
      refine key2 _ _ 0 (fun j y hy => ?_) hc1 hcr'
      rw [List.getElem?_take] at hy
      split at hy
      · rename_i hlt
        exact ⟨by simpa using hy, by omega⟩
      · cases hy
    refine ⟨_, hle, ⟨?_, Mem.le_trans h.ext hle, ?_, h.os, h.tape, h.output, h.size, h.frame, ?_, ?_, h.dbox, dobj', dmix'⟩, ?_⟩
    · intro k o v hm
      simp only [Mem.addN] at hm
      split at hm
      · rename_i hc; obtain ⟨rfl, _⟩ := hc
        rw [cell_of_row w k o cur x.e (0, 0) hcur]
        exact hm
      · exact h.mem k o v hm
    · intro k o v hm
      by_cases hk : k = b
      · subst hk; exact .inr hmine
      · rw [hoth k o hk] at hm; exact h.new k o v hm
    · intro t y hy
      have hne : y.b ≠ b := fun e => h.dmix t tag y x hy hx (by rw [hb, e])
      exact (h.boxes t y hy).keep hle (fun o ho => by rw [hoth _ o hne]; exact ho) rfl
    · intro t y hy
      rcases key t y hy with ⟨_, rfl⟩ | ⟨ht, hy⟩
      · refine ⟨i, hinf, hxb, hxl, .inr ⟨b, cur, hb, hmine, hcur, hcs, hlc, hcm, RepAll.mono hle hcr, hc1, fun e => by simp at e, fun o ho => ?_⟩⟩
        have : ¬ o < x.rows.length * i.size := Nat.not_lt.2 ho
        simp only [Mem.addN, this, and_false, if_false]
        exact hw2 o ho
      · exact (h.objs t y hy).keep hle (fun k o hk ho => by rw [hoth k o fun e => ht (h.dobj t tag y x b hy hx (e ▸ hk) hb)]; exact ho) (fun _ _ => rfl)
    · simp only [Rep]
      exact ⟨_, _, i, by simp only [OwnRef.val, hb]; rfl, hlc, hcm, hinf, hxb, fun _ => ⟨b, 0, rfl, hrows⟩⟩

theorem InvH.dropO (h : InvH P C M H w) (tag : Nat) : InvH P C M ⟨H.bx, upd H.ob tag none⟩ w :=
  h.less (fun _ _ hx => hx) (fun t x hx => by
    simp only [upd_eq] at hx
    split at hx
    · cases hx
    · exact hx)

/-- A box is frozen: it is not written again. -/
theorem InvH.freezeB (h : InvH P C M H w) {tag : Nat} {x : Box} (hx : H.bx tag = some x) (hf : PV.frozL x.cells = true) (h1 : x.cells.all PV.one = true) :
    ∃ M', M.le M' ∧ InvH P C M' ⟨upd H.bx tag none, H.ob⟩ w ∧ RepAt P M' x.b 0 x.cells := by
  obtain ⟨hmine, ⟨cs, e, hcs, hr⟩, hnone⟩ := h.boxes tag x hx
  have hle : M.le (M.add x.b cs) := by
    intro k o v hm
    have hk : k ≠ x.b := fun e => by rw [e, hnone] at hm; cases hm
    simp [Mem.add, hk, hm]
  have hoth : ∀ k o, k ≠ x.b → M.add x.b cs k o = M k o := fun k o hk => by simp [Mem.add, hk]
  have hbk : ∀ t y, upd H.bx tag none t = some y → t ≠ tag ∧ H.bx t = some y := by
    intro t y hy
    rw [upd_eq] at hy
    split at hy
    · cases hy
    · rename_i ht; exact ⟨ht, hy⟩
  have hone := RepAll.oneCell h1 hr
  have hr' := RepAll.mono hle (RepAll.unslot hf hr)
  refine ⟨_, hle, ⟨?_, Mem.le_trans h.ext hle, ?_, h.os, h.tape, h.output, h.size, h.frame, ?_, ?_, ?_, h.dobj, ?_⟩, ?_⟩
  · intro k o v hm
    by_cases hk : k = x.b
    · subst hk
      rw [cell_of_row w x.b o cs e (0, 0) hcs]
      simpa [Mem.add] using hm
    · rw [hoth k o hk] at hm; exact h.mem k o v hm
  · intro k o v hm
    by_cases hk : k = x.b
    · subst hk; exact .inr hmine
    · rw [hoth k o hk] at hm; exact h.new k o v hm
  · intro t y hy
    obtain ⟨ht, hy⟩ := hbk t y hy
    exact (h.boxes t y hy).keep hle (fun o ho => by rw [hoth _ o fun e => ht (h.dbox t tag y x hy hx e)]; exact ho) rfl
  · intro t y hy
    exact (h.objs t y hy).keep hle (fun k o hk ho => by rw [hoth k o fun e => h.dmix tag t x y hx hy (e ▸ hk)]; exact ho) (fun _ _ => rfl)
  · intro t t' y y' hy hy' hb
    exact h.dbox t t' y y' (hbk t y hy).2 (hbk t' y' hy').2 hb
  · intro t t' y y' hy hy' hb
    exact h.dmix t t' y y' (hbk t y hy).2 hy' hb
  · have key2 : ∀ (ps : List PV) (xs : List Value) (o : Nat), (∀ j y, xs[j]? = some y → cs[o + j]? = some y) → (∀ v ∈ xs, v.oneCell' = true) → RepAll P (M.add x.b cs) false ps xs → RepAt P (M.add x.b cs) x.b o ps := by
      intro ps
      induction ps with
      | nil => intro xs o _ _ _; simp [RepAt]
      | cons p ps ih =>
        intro xs o hx h1 hr
        simp only [RepAll] at hr
        obtain ⟨y, ys, rfl, hp, hrest⟩ := hr
        simp only [RepAt]
        refine ⟨⟨y, ?_, h1 y (by simp), hp⟩, ih ys (o + 1) (fun j z hz => ?_) (fun v hv => h1 v (by simp [hv])) hrest⟩
        · have := hx 0 y rfl
          simpa [Mem.add] using this
        · have := hx (j + 1) z (by simpa using hz)
          rwa [show o + 1 + j = o + (j + 1) from by omega]
    exact key2 _ _ 0 (fun j y hy => by simpa using hy) hone hr'
end

/-! Steps that change only what is known. -/
section
variable {P : Program} {n : Nat} {s s' : Nat → PV} {bx bx' : Nat → Option Box} {ob ob' : Nat → Option Obj}

def SLe (P : Program) (s s' : Nat → PV) : Prop := ∀ t, PLe P (s t) (s' t)
theorem SLe.nil : SLe P s fun _ => .any := fun _ => PLe.any P _
theorem SLe.refl (P : Program) (s : Nat → PV) : SLe P s s := fun _ => PLe.refl P _
theorem SLe.cons {d : Nat} {p : PV} (h : PLe P (s d) p) (h' : SLe P s s') : SLe P s (upd s' d p) := fun t => by
  rw [upd_eq]
  split
  · rename_i e; subst e; exact h
  · exact h' t
theorem SLe.c {d : Nat} (h : SLe P s s') : SLe P s (upd s' d (s d)) := SLe.cons (fun _ _ h => h) h

def BLe (P : Program) (bx bx' : Nat → Option Box) : Prop := ∀ t x, bx' t = some x → ∃ y, bx t = some y ∧ y.b = x.b ∧ PLeAll P y.cells x.cells
theorem BLe.nil : BLe P bx fun _ => none := fun _ _ h => by simp at h
theorem BLe.refl (P : Program) (bx : Nat → Option Box) : BLe P bx bx := fun _ x h => ⟨x, h, rfl, PLeAll.refl P _⟩
theorem BLe.cons {d b : Nat} {cells cells' : List PV} (h : bx d = some ⟨b, cells⟩) (hc : PLeAll P cells cells') (h' : BLe P bx bx') : BLe P bx (upd bx' d (some ⟨b, cells'⟩)) := fun t x hx => by
  rw [upd_eq] at hx
  split at hx
  · rename_i e; subst e; cases hx; exact ⟨_, h, rfl, hc⟩
  · exact h' t x hx

def OLe (ob ob' : Nat → Option Obj) : Prop := ∀ t x, ob' t = some x → ob t = some x
theorem OLe.nil : OLe ob fun _ => none := fun _ _ h => by simp at h
theorem OLe.refl (ob : Nat → Option Obj) : OLe ob ob := fun _ _ h => h
theorem OLe.cons {d : Nat} {x : Obj} (h : ob d = some x) (h' : OLe ob ob') : OLe ob (upd ob' d (some x)) := fun t y hy => by
  rw [upd_eq] at hy
  split at hy
  · rename_i e; subst e; cases hy; exact h
  · exact h' t y hy
theorem OLe.c {d : Nat} (h : OLe ob ob') : OLe ob (upd ob' d (ob d)) := fun t y hy => by
  rw [upd_eq] at hy
  split at hy
  · rename_i e; subst e; exact hy
  · exact h t y hy

theorem Gh.le (hs : SLe P s s') (hb : BLe P bx bx') (ho : OLe ob ob') : Gh P ⟨n, s, bx, ob⟩ ⟨n, s', bx', ob'⟩ := by
  intro C M a w hi
  refine ⟨M, ⟨hi.1.1, hi.1.2.1, fun t => hs t M _ (hi.1.2.2 t)⟩, ?_⟩
  have h := hi.2
  refine ⟨h.mem, h.ext, h.new, h.os, h.tape, h.output, h.size, h.frame, ?_, fun t x hx => h.objs t x (ho t x hx), ?_, fun t t' x x' b hx hx' => h.dobj t t' x x' b (ho _ _ hx) (ho _ _ hx'), ?_⟩
  · intro t x hx
    obtain ⟨y, hy, hyb, hyc⟩ := hb t x hx
    obtain ⟨h1, ⟨cs, e, h2, h3⟩, h4⟩ := h.boxes t y hy
    exact ⟨hyb ▸ h1, ⟨cs, e, hyb ▸ h2, hyc M _ h3⟩, hyb ▸ h4⟩
  · intro t t' x x' hx hx' hbb
    obtain ⟨y, hy, hyb, _⟩ := hb t x hx
    obtain ⟨y', hy', hyb', _⟩ := hb t' x' hx'
    exact h.dbox t t' y y' hy hy' (by rw [hyb, hyb']; exact hbb)
  · intro t t' x x' hx hx' hbb
    obtain ⟨y, hy, hyb, _⟩ := hb t x hx
    exact h.dmix t t' y x' hy (ho _ _ hx') (by rw [hyb]; exact hbb)

/-- A nil slice in a slot, taken for one of the call's own. -/
theorem Gh.nilO {T : TT} (hT : T.Ok P) (d tag : Nat) {e : TypeId} {ei : TInfo} (hei : T.get e = some ei) (hs : s d = .val (.slice none 0 0)) :
    Gh P ⟨n, s, bx, ob⟩ ⟨n, upd s d (.own tag ⟨none, 0⟩ 0), bx, upd ob tag (some ⟨⟨none, 0⟩, e, [], true⟩)⟩ := by
  intro C M a w hi
  refine ⟨M, ⟨hi.1.1, hi.1.2.1, fun t => ?_⟩, hi.2.nilobj hT tag hei⟩
  simp only [upd_eq]
  have := hi.1.2.2 t
  simp only at this
  split
  · rename_i e; subst e; rw [hs] at this; simpa [Rep, OwnRef.val] using this
  · exact this

/-- A slice of the call's own in a slot: frozen; and it is given up. -/
theorem Gh.freezeO (d : Nat) {tag : Nat} {g : OwnRef} {len : Nat} {e : TypeId} {rows : List (List PV)} {wr : Bool} (hs : s d = .own tag g len) (hob : ob tag = some ⟨g, e, rows, wr⟩) (hlen : len = rows.length) :
    Gh P ⟨n, s, bx, ob⟩ ⟨n, upd s d (.list e rows), bx, upd ob tag (some ⟨g, e, rows, false⟩)⟩ := by
  subst hlen
  intro C M a w hi
  obtain ⟨M', hle, hi', hr⟩ := hi.2.freezeO (tag := tag) hob
  refine ⟨M', ⟨hi.1.1, hi.1.2.1, fun t => ?_⟩, hi'⟩
  have := hi.1.2.2 t
  simp only at this
  simp only [upd_eq]
  split
  · rename_i e; subst e; rw [hs] at this; simp only [Rep] at this; rw [this.2]; exact hr
  · exact Rep.mono hle this

theorem Gh.freezeB (d : Nat) {tag b : Nat} {cells : List PV} (hs : s d = .box tag b 0) (hb : bx tag = some ⟨b, cells⟩) (hf : PV.frozL cells = true) (h1 : cells.all PV.one = true) :
    Gh P ⟨n, s, bx, ob⟩ ⟨n, upd s d (.ptr cells), upd bx tag none, ob⟩ := by
  intro C M a w hi
  obtain ⟨M', hle, hi', hr⟩ := hi.2.freezeB (tag := tag) hb hf h1
  refine ⟨M', ⟨hi.1.1, hi.1.2.1, fun t => ?_⟩, hi'⟩
  have := hi.1.2.2 t
  simp only at this
  simp only [upd_eq]
  split
  · rename_i e; subst e; rw [hs] at this; simp only [Rep] at this ⊢; exact ⟨b, 0, this.2, hr⟩
  · exact Rep.mono hle this
end

section
variable {P : Program} {fn : Func} {R : PV → Heap → Prop} {k : List KI} {n : Nat} {s : Nat → PV} {bx : Nat → Option Box} {ob : Nat → Option Obj} {T : TT} {st : PState}

/-- A fact that what a slot holds brings with it. -/
theorem V.fact {Q : Prop} (d : Nat) {p : PV} (hs : st.s d = p) (hq : ∀ M x, Rep P M true p x → Q) (h : Q → V P fn R k st) : V P fn R k st := fun C M a w hi => by
  have := hi.1.2.2 d
  rw [hs] at this
  exact h (hq M _ this) C M a w hi

theorem Rep.listLen {M : Mem} {s : Bool} (hT : T.Ok P) {e : TypeId} {rows : List (List PV)} {ei : TInfo} (hei : T.get e = some ei) {x : Value} (h : Rep P M s (.list e rows) x) : rows.length ≤ maxLen ∧ rows.length * ei.bytes ≤ 2 ^ 47 := by
  simp only [Rep] at h
  obtain ⟨a, c, i, _, h1, h2, h3, h4, _⟩ := h
  obtain ⟨i', h5, _, h6, _⟩ := (hT.get hei).info
  rw [h3] at h5
  cases h5
  exact ⟨by omega, by rw [← h6]; exact h4⟩

theorem V.lenF (hT : T.Ok P) (d : Nat) {e : TypeId} {rows : List (List PV)} {ei : TInfo} (hei : T.get e = some ei) (hs : s d = .list e rows) (h : rows.length ≤ maxLen → rows.length * ei.bytes ≤ 2 ^ 47 → V P fn R k ⟨n, s, bx, ob⟩) : V P fn R k ⟨n, s, bx, ob⟩ :=
  V.fact (Q := rows.length ≤ maxLen ∧ rows.length * ei.bytes ≤ 2 ^ 47) d hs (fun _ _ hx => hx.listLen hT hei) fun hq => h hq.1 hq.2

theorem V.loopF {X : Type} (F : X → PState) (Cnd : X → Prop) (m : X → Nat) {c : Code} (x₀ : X) (hc₀ : Cnd x₀) (h₀ : Gh P st (F x₀))
    (round : ∀ x, Cnd x → V P fn R (.code c :: .stop (fun st' => ∃ y, m y < m x ∧ Cnd y ∧ st' = F y) :: k) (F x)) : V P fn R (.code (.loop c) :: k) st :=
  V.gh h₀ (V.loop (fun i st => ∃ x, m x = i ∧ Cnd x ∧ st = F x) ⟨x₀, rfl, hc₀, rfl⟩ (by
    rintro i st ⟨x, rfl, hx, rfl⟩
    have := round x hx
    have e : (fun st' => ∃ y, m y < m x ∧ Cnd y ∧ st' = F y) = (fun st' => ∃ i, i < m x ∧ ∃ y, m y = i ∧ Cnd y ∧ st' = F y) := by
      funext st'
      apply propext
      constructor
      · rintro ⟨y, h1, h2, h3⟩; exact ⟨_, h1, y, rfl, h2, h3⟩
      · rintro ⟨i, h1, y, h2, h3, h4⟩; exact ⟨y, by omega, h3, h4⟩
    rwa [e] at this))

theorem V.again {X : Type} {F : X → PState} {Cnd : X → Prop} {m : X → Nat} {x : X} (y : X) (hm : m y < m x) (hc : Cnd y) (h : Gh P st (F y)) : V P fn R (.stop (fun st' => ∃ y, m y < m x ∧ Cnd y ∧ st' = F y) :: k) st :=
  V.gh h (V.stop ⟨y, hm, hc, rfl⟩)

theorem InvH.pick {C : Ctx} {M : Mem} {H : Heap} {w : World} (h : InvH P C M H w) {tag : Nat} {x : Obj} (hx : H.ob tag = some x) (m : Nat) : InvH P C M ⟨fun _ => none, upd (fun _ => none) m (some x)⟩ w := by
  have key : ∀ t y, upd (fun _ => none) m (some x) t = some y → t = m ∧ y = x := by
    intro t y hy
    rw [upd_eq] at hy
    split at hy
    · rename_i e; exact ⟨e, (Option.some.inj hy).symm⟩
    · cases hy
  exact ⟨h.mem, h.ext, h.new, h.os, h.tape, h.output, h.size, h.frame, fun _ _ hy => by simp at hy, fun t y hy => (key t y hy).2 ▸ h.objs tag x hx, fun _ _ _ _ hy => by simp at hy,
    fun t t' y y' b hy hy' _ _ => by rw [(key t y hy).1, (key t' y' hy').1], fun _ _ _ _ hy => by simp at hy⟩

/-- Returning a slice of the call's own. -/
theorem V.retO (hT : T.Ok P) {t : Nat} (hres : fn.results = #[.tmp t]) {m : Nat} {e : TypeId} {rows rows' : List (List PV)} {tag : Nat} {g : OwnRef} {len : Nat} (hs : s t = .own tag g len) (hob : ob tag = some ⟨g, e, rows', true⟩) (hlen : len = rows'.length) (he : rows' = rows) :
    V P fn (OwnR m e rows) (.code .ret :: k) ⟨n, s, bx, ob⟩ := by
  subst he
  subst hlen
  intro C M a w hi
  refine wp_ret (after_ret ?_)
  obtain ⟨v, hv, hr⟩ := results_run (st := ⟨n, s, bx, ob⟩) hT hres (ps := [.own tag g rows'.length]) ⟨_, [], rfl, hs, rfl⟩ hi
  exact ⟨hi.1.2.1, v, hv, v, .own m g rows'.length, ⟨fun _ => none, upd (fun _ => none) m (some ⟨g, e, rows', true⟩)⟩, M, rfl, ⟨g, rfl, rfl⟩, hi.2.pick (tag := tag) hob m, by simpa [tupOf, Rep] using hr⟩

/-- What is handed back as the caller's own may be taken for frozen. -/
theorem PFun.of_own {f : FuncId} {args : List PV} {m : Nat} {e : TypeId} {rows : List (List PV)} (h : PCalls P f args (OwnR m e rows)) : PFun P f args (.list e rows) := by
  intro w M own hg vs hi ha
  refine (h w M own hg vs hi ha).mono ?_
  rintro e' w' ⟨v, u, H', M', rfl, ⟨g, rfl, rfl⟩, hi', hr⟩
  obtain ⟨M'', hle, hi'', hr''⟩ := hi'.freezeO (tag := m) (x := ⟨g, e, rows, true⟩) (by simp only; exact upd_same _ _ _)
  refine ⟨v, _, _, M'', rfl, ⟨rfl, rfl⟩, hi''.less (fun _ _ hx => by simp [Heap.empty] at hx) (fun _ _ hx => by simp [Heap.empty] at hx), ?_⟩
  simp only [Rep] at hr
  rw [hr.2]
  exact hr''
end
end Go.Ab
