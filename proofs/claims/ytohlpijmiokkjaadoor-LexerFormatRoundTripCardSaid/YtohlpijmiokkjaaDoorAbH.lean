/- The abstract layer, part H: contracts of functions, calls, and the code of a function as a list of things still to do. -/
import Derived.Test.YtohlpijmiokkjaaDoorAbG
namespace Go.Ab

/-- Called with values that represent 'args' (and with the blocks of 'Hin' handed over), the function returns; what it returns and leaves is as R says; nothing else has changed. -/
def PCallsH (P : Program) (f : FuncId) (args : List PV) (Hin : Heap) (R : PV → Heap → Prop) : Prop :=
  ∀ (w : World) (M : Mem) (own : List Nat) (hg : Gl w own) (vs : Array Value), InvH P ⟨w, own, M, hg⟩ M Hin w → RepAll P M true args vs.toList →
    Calls P f vs w fun e w' => ∃ v u H' M', e = .returned v ∧ R u H' ∧ InvH P ⟨w, own, M, hg⟩ M' H' w' ∧ Rep P M' true u v

def PCalls (P : Program) (f : FuncId) (args : List PV) (R : PV → Heap → Prop) : Prop := PCallsH P f args Heap.empty R

/-- The function returns just this. -/
def PFun (P : Program) (f : FuncId) (args : List PV) (r : PV) : Prop := PCalls P f args fun u H => u = r ∧ H = Heap.empty

/-- A slice of the caller's own from now on. -/
def OwnR (n : Nat) (e : TypeId) (rows : List (List PV)) (u : PV) (H : Heap) : Prop :=
  ∃ g, u = .own n g rows.length ∧ H = ⟨fun _ => none, upd (fun _ => none) n (some ⟨g, e, rows, true⟩)⟩

theorem PCallsH.mono {P : Program} {f : FuncId} {args : List PV} {Hin : Heap} {R R' : PV → Heap → Prop} (h : PCallsH P f args Hin R) (hr : ∀ u H, R u H → R' u H) : PCallsH P f args Hin R' :=
  fun w M own hg vs hi ha => (h w M own hg vs hi ha).mono fun _ _ ⟨v, u, H', M', h1, h2, h3⟩ => ⟨v, u, H', M', h1, hr u H' h2, h3⟩

def PLe (P : Program) (p q : PV) : Prop := ∀ M x, Rep P M true p x → Rep P M true q x
def PLeAll (P : Program) (ps qs : List PV) : Prop := ∀ M xs, RepAll P M true ps xs → RepAll P M true qs xs

theorem PLe.refl (P : Program) (p : PV) : PLe P p p := fun _ _ h => h
theorem PLe.any (P : Program) (p : PV) : PLe P p .any := fun _ _ _ => by simp [Rep]
theorem PLe.nil {P : Program} {T : TT} (hT : T.Ok P) {e : TypeId} {ti : TInfo} (hti : T.get e = some ti) : PLe P (.val (.slice none 0 0)) (.list e []) := fun M x h => by
  obtain ⟨i, hi, _⟩ := (hT.get hti).info
  simp only [Rep] at h ⊢
  subst h
  exact ⟨none, 0, i, by simp, by simp, by simp, hi, by simp, by simp⟩
theorem PLe.agg {P : Program} {ps qs : List PV} (h : PLeAll P ps qs) : PLe P (.agg ps) (.agg qs) := fun M x hx => by
  simp only [Rep] at hx ⊢
  obtain ⟨cs, rfl, hc⟩ := hx
  exact ⟨cs, rfl, h M _ hc⟩
theorem PLe.tup {P : Program} {ps qs : List PV} (h : PLeAll P ps qs) : PLe P (.tup ps) (.tup qs) := fun M x hx => by
  simp only [Rep] at hx ⊢
  obtain ⟨cs, rfl, hc⟩ := hx
  exact ⟨cs, rfl, h M _ hc⟩
theorem PLeAll.nil (P : Program) : PLeAll P [] [] := fun _ _ h => h
theorem PLeAll.refl (P : Program) (ps : List PV) : PLeAll P ps ps := fun _ _ h => h
theorem PLeAll.cons {P : Program} {p q : PV} {ps qs : List PV} (h : PLe P p q) (h' : PLeAll P ps qs) : PLeAll P (p :: ps) (q :: qs) := fun M xs hx => by
  simp only [RepAll] at hx ⊢
  obtain ⟨x, ys, rfl, h1, h2⟩ := hx
  exact ⟨x, ys, rfl, h M x h1, h' M ys h2⟩

def Heap.over (H H' : Heap) : Heap :=
  ⟨fun t => match H'.bx t with | some x => some x | none => H.bx t, fun t => match H'.ob t with | some x => some x | none => H.ob t⟩

theorem Heap.over_empty (H : Heap) : H.over Heap.empty = H := rfl
theorem Heap.over_one (H : Heap) (n : Nat) (x : Obj) : H.over ⟨fun _ => none, upd (fun _ => none) n (some x)⟩ = ⟨H.bx, upd H.ob n (some x)⟩ := by
  unfold Heap.over
  congr 1
  funext t
  simp only [upd_eq]
  by_cases h : t = n <;> simp [h]

section
variable {P : Program}

/-- What a callee finds when it is called: nothing is handed over. -/
theorem InvH.enter {C : Ctx} {M : Mem} {H : Heap} {w : World} (h : InvH P C M H w) : InvH P ⟨w, [], M, h.gl (by simp)⟩ M Heap.empty w :=
  ⟨h.mem, Mem.le_refl M, fun _ _ _ hm => .inl hm, rfl, rfl, rfl, Nat.le_refl _, fun _ _ _ => rfl, fun _ _ hx => by simp [Heap.empty] at hx, fun _ _ hx => by simp [Heap.empty] at hx,
   fun _ _ _ _ hx => by simp [Heap.empty] at hx, fun _ _ _ _ _ hx => by simp [Heap.empty] at hx, fun _ _ _ _ hx => by simp [Heap.empty] at hx⟩

/-- Behind a call to which nothing was handed over. -/
theorem InvH.after {C : Ctx} {M M' : Mem} {H H' : Heap} {w w' : World} (h : InvH P C M H w) {hg : Gl w []} (h' : InvH P ⟨w, [], M, hg⟩ M' H' w') : InvH P C M' (H.over H') w' := by
  have hmine : ∀ b, (⟨w, [], M, hg⟩ : Ctx).mine b → w.heap.size ≤ b := fun b hb => by
    rcases hb with hb | hb
    · exact hb
    · simp at hb
  have hup : ∀ b, (⟨w, [], M, hg⟩ : Ctx).mine b → C.mine b := fun b hb => .inl (Nat.le_trans h.size (hmine b hb))
  have hfr : ∀ b, b < w.heap.size → w'.heap[b]? = w.heap[b]? := fun b hb => h'.frame b hb (by simp)
  have hnone : ∀ b o, b < w.heap.size → M b o = none → M' b o = none := by
    intro b o hb hn
    cases hm : M' b o with
    | none => rfl
    | some v =>
      rcases h'.new b o v hm with h1 | h1
      · rw [show M b o = some v from h1] at hn; cases hn
      · have := hmine b h1; omega
  have kb : ∀ t x, (H.over H').bx t = some x → H'.bx t = some x ∨ H.bx t = some x := by
    intro t x hx
    simp only [Heap.over] at hx
    split at hx
    · rename_i y hy; exact .inl (by rw [hy]; exact hx)
    · exact .inr hx
  have ko : ∀ t x, (H.over H').ob t = some x → H'.ob t = some x ∨ H.ob t = some x := by
    intro t x hx
    simp only [Heap.over] at hx
    split at hx
    · rename_i y hy; exact .inl (by rw [hy]; exact hx)
    · exact .inr hx
  have nb : ∀ t x, H'.bx t = some x → w.heap.size ≤ x.b := fun t x hx => hmine _ (h'.boxes t x hx).1
  have no : ∀ t x b, H'.ob t = some x → x.g.blk = some b → w.heap.size ≤ b := by
    intro t x b hx hb
    obtain ⟨i, _, _, _, hn | ⟨b', cur, hb', hm, _⟩⟩ := h'.objs t x hx
    · rw [hn.1] at hb; cases hb
    · rw [hb'] at hb; cases hb; exact hmine _ hm
  refine ⟨h'.mem, Mem.le_trans h.ext h'.ext, ?_, h'.os.trans h.os, h'.tape.trans h.tape, h'.output.trans h.output, Nat.le_trans h.size h'.size, ?_, ?_, ?_, ?_, ?_, ?_⟩
  · intro b o v hm
    rcases h'.new b o v hm with h1 | h1
    · exact h.new b o v h1
    · exact .inr (hup b h1)
  · intro b hb hn
    exact (hfr b (Nat.lt_of_lt_of_le hb h.size)).trans (h.frame b hb hn)
  · intro t x hx
    rcases kb t x hx with hx | hx
    · obtain ⟨h1, h2, h3⟩ := h'.boxes t x hx
      exact ⟨hup _ h1, h2, h3⟩
    · exact (h.boxes t x hx).keep h'.ext (fun o ho => hnone _ o (h.box_lt hx) ho) (hfr _ (h.box_lt hx))
  · intro t x hx
    rcases ko t x hx with hx | hx
    · obtain ⟨i, h1, h2, h3, h4⟩ := h'.objs t x hx
      refine ⟨i, h1, h2, h3, ?_⟩
      rcases h4 with h4 | ⟨b, cur, h5, h6, h7⟩
      · exact .inl h4
      · exact .inr ⟨b, cur, h5, hup _ h6, h7⟩
    · exact (h.objs t x hx).keep h'.ext (fun b o hb ho => hnone _ o (h.obj_lt hx hb) ho) (fun b hb => hfr _ (h.obj_lt hx hb))
  · intro t t' x x' hx hx' hb
    rcases kb t x hx with hx | hx <;> rcases kb t' x' hx' with hx' | hx'
    · exact h'.dbox t t' x x' hx hx' hb
    · have := nb t x hx; have := h.box_lt hx'; omega
    · have := nb t' x' hx'; have := h.box_lt hx; omega
    · exact h.dbox t t' x x' hx hx' hb
  · intro t t' x x' b hx hx' hb hb'
    rcases ko t x hx with hx | hx <;> rcases ko t' x' hx' with hx' | hx'
    · exact h'.dobj t t' x x' b hx hx' hb hb'
    · have := no t x b hx hb; have := h.obj_lt hx' hb'; omega
    · have := no t' x' b hx' hb'; have := h.obj_lt hx hb; omega
    · exact h.dobj t t' x x' b hx hx' hb hb'
  · intro t t' x x' hx hx' hb
    rcases kb t x hx with hx | hx <;> rcases ko t' x' hx' with hx' | hx'
    · exact h'.dmix t t' x x' hx hx' hb
    · have := nb t x hx; have := h.obj_lt hx' hb; omega
    · have := no t' x' _ hx' hb; have := h.box_lt hx; omega
    · exact h.dmix t t' x x' hx hx' hb

theorem eff_call {o : Oper} {ev : Operand → PV} {H : Heap} {fx : Operand} {as : Array Operand} {ts : Array TypeId} (ho : o.op = .call { callee := .value fx, args := as, argTypes := ts }) {g : FuncId} {caps : List PV}
    (hf : ev fx = .fn g caps) (hcall : ∀ vs w, (callFunc g vs).run P w = .ok (.enter g vs) w) {args : List PV} (hle : PLeAll P (as.toList.map ev ++ caps) args) {R : PV → Heap → Prop} (hc : PCalls P g args R)
    {K : PV → Heap → Prop} (hk : ∀ u H', R u H' → K u (H.over H')) : Eff P o ev H K := by
  intro C M a w next Q hi he hn
  have hfr := he fx (by rw [ho]; simp [Op.operands, Call.operands])
  rw [hf] at hfr
  simp only [Rep] at hfr
  obtain ⟨cs, hv, hcaps⟩ := hfr
  have hargs : RepAll P M true (as.toList.map ev) (as.map a.eval).toList := by
    simpa using repAll_map as.toList fun x hx => he x (by rw [ho]; simp_all [Op.operands, Call.operands])
  have hrep := hle M _ (hargs.append hcaps)
  have hrun : (execOp a.eval o).run P w = .ok (.enter g (as.map a.eval ++ cs)) w := by
    simp [execOp, ho, resolve, hv, Deferred.ofValue, invoke, hcall]
  unfold Oper.wp
  rw [hrun]
  simp only [Oper.upon]
  refine (hc w M [] (hi.gl (by simp)) _ hi.enter (by simpa using hrep)).mono ?_
  rintro e w' ⟨v, u, H', M', rfl, hR, hi', hr⟩
  exact hn v u _ M' w' (hk u H' hR) hi'.ext (hi.after hi') hr

theorem eff_callP {o : Oper} {ev : Operand → PV} {H : Heap} {fx : Operand} {as : Array Operand} {ts : Array TypeId} (ho : o.op = .call { callee := .value fx, args := as, argTypes := ts }) {g : FuncId} {caps : List PV}
    (hf : ev fx = .fn g caps) (hcall : ∀ vs w, (callFunc g vs).run P w = .ok (.enter g vs) w) {args : List PV} (hle : PLeAll P (as.toList.map ev ++ caps) args) {r : PV} (hc : PFun P g args r)
    {K : PV → Heap → Prop} (hk : K r H) : Eff P o ev H K :=
  eff_call ho hf hcall hle hc fun u H' ⟨h1, h2⟩ => by subst h1; subst h2; exact hk
end

/-! The code of a function. -/

inductive KI where
  | code (c : Code)
  | blk (id : Nat)
  | stop (G : PState → Prop)

def after (P : Program) (C : Ctx) (Qf : Exit → Act → World → Prop) : List KI → Exit → Act → World → Prop
  | [], e, a, w => Qf e a w
  | .code c :: k, .normal, a, w => c.wp P (after P C Qf k) a w
  | .code _ :: k, e, a, w => after P C Qf k e a w
  | .blk id :: k, .exit j, a, w => if j = id then after P C Qf k .normal a w else after P C Qf k (.exit j) a w
  | .blk _ :: k, e, a, w => after P C Qf k e a w
  | .stop G :: _, .normal, a, w => ∃ st M, G st ∧ InvS P C M st a w
  | .stop _ :: k, e, a, w => after P C Qf k e a w

def Post (P : Program) (C : Ctx) (R : PV → Heap → Prop) (e : Ending) (w : World) : Prop :=
  ∃ v u H' M', e = .returned v ∧ R u H' ∧ InvH P C M' H' w ∧ Rep P M' true u v

/-- From this pure state on, with these things still to do, the function returns as R says. -/
def V (P : Program) (fn : Func) (R : PV → Heap → Prop) (k : List KI) (st : PState) : Prop :=
  ∀ C M a w, InvS P C M st a w → after P C (bodyPost P fn (Post P C R)) k .normal a w

def popTo (id : Nat) : List KI → Option (List KI)
  | [] => none
  | .blk j :: k => bif Nat.beq id j then some k else popTo id k
  | .code _ :: k => popTo id k
  | .stop _ :: k => popTo id k

section
variable {P : Program} {fn : Func} {R : PV → Heap → Prop} {k : List KI} {st : PState}

theorem after_then {C : Ctx} {Qf : Exit → Act → World → Prop} {c : Code} {k : List KI} : Exit.then (fun a w => after P C Qf (.code c :: k) .normal a w) (after P C Qf k) = fun e a w => after P C Qf (.code c :: k) e a w := by
  funext e a w
  cases e <;> rfl

theorem V.seq {x y : Code} (h : V P fn R (.code x :: .code y :: k) st) : V P fn R (.code (.seq x y) :: k) st := by
  intro C M a w hi
  have := h C M a w hi
  simp only [after] at this ⊢
  refine wp_seq (wp_mono this ?_)
  intro e a w he
  cases e <;> exact he

theorem V.skip (h : V P fn R k st) : V P fn R (.code .skip :: k) st := fun C M a w hi => wp_skip (h C M a w hi)

theorem V.gh {st' : PState} (hg : Gh P st st') (h : V P fn R k st') : V P fn R k st := fun C M a w hi =>
  let ⟨M', hi'⟩ := hg C M a w hi
  h C M' a w hi'

theorem V.region {id : Nat} {ops : Array Oper} (h : AOps P ops ops.toList st fun st' => V P fn R k st') : V P fn R (.code (.region id ops false) :: k) st := fun C M a w hi =>
  wp_region_list (h C M a w _ hi fun _ M' a' w' hV hi' => hV C M' a' w' hi')

theorem V.rq {id : Nat} {ops : Array Oper} {T : TT} {n : Nat} {s s' : Nat → PV} {bx : Nat → Option Box} {ob : Nat → Option Obj} (j : Nat) (hT : T.Ok P) (hq : qsteps T ops n bx j ops.toList s = some ([], s')) (h : V P fn R k ⟨n, s', bx, ob⟩) : V P fn R (.code (.region id ops false) :: k) ⟨n, s, bx, ob⟩ :=
  V.region (AOps.qs j hT hq (AOps.nil h))
theorem V.sr {id : Nat} {ops : Array Oper} {y : Code} {T : TT} {n : Nat} {s s' : Nat → PV} {bx : Nat → Option Box} {ob : Nat → Option Obj} (j : Nat) (hT : T.Ok P) (hq : qsteps T ops n bx j ops.toList s = some ([], s')) (h : V P fn R (.code y :: k) ⟨n, s', bx, ob⟩) : V P fn R (.code (.seq (.region id ops false) y) :: k) ⟨n, s, bx, ob⟩ :=
  V.seq (V.rq j hT hq h)

theorem V.condB {c : Operand} {x y : Code} {b : Bool} (hc : evS st.s c = .val (.bool b)) (h : V P fn R (.code (if b then x else y) :: k) st) : V P fn R (.code (.cond c x y) :: k) st := fun C M a w hi => by
  have := hi.1.ev c
  rw [hc] at this
  simp only [Rep] at this
  exact wp_cond this (h C M a w hi)

theorem V.condT {c : Operand} {x y : Code} (hc : evS st.s c = .val (.bool true)) (h : V P fn R (.code x :: k) st) : V P fn R (.code (.cond c x y) :: k) st := V.condB hc h
theorem V.condF {c : Operand} {x y : Code} (hc : evS st.s c = .val (.bool false)) (h : V P fn R (.code y :: k) st) : V P fn R (.code (.cond c x y) :: k) st := V.condB hc h
theorem V.cond {c : Operand} {x y : Code} {b : Bool} (hc : evS st.s c = .val (.bool b)) (ht : b = true → V P fn R (.code x :: k) st) (hf : b = false → V P fn R (.code y :: k) st) : V P fn R (.code (.cond c x y) :: k) st := by
  cases b
  · exact V.condB hc (hf rfl)
  · exact V.condB hc (ht rfl)

theorem V.block {id : Nat} {c : Code} (h : V P fn R (.code c :: .blk id :: k) st) : V P fn R (.code (.block id c) :: k) st := fun C M a w hi => by
  have := h C M a w hi
  simp only [after] at this ⊢
  refine wp_block (wp_mono this ?_)
  intro e a w he
  cases e with
  | exit j => simpa only [Exit.inBlock, after] using he
  | _ => exact he

theorem V.blk {id : Nat} (h : V P fn R k st) : V P fn R (.blk id :: k) st := fun C M a w hi => h C M a w hi

theorem V.stop {G : PState → Prop} (h : G st) : V P fn R (.stop G :: k) st := fun _ M _ _ hi => ⟨st, M, h, hi⟩

theorem after_pop {C : Ctx} {Qf : Exit → Act → World → Prop} {id : Nat} : ∀ {k k' : List KI}, popTo id k = some k' → ∀ {a : Act} {w : World}, after P C Qf k' .normal a w → after P C Qf k (.exit id) a w
  | [], k', h, _, _, _ => by simp [popTo] at h
  | .blk j :: k, k', h, a, w, hk => by
    simp only [popTo] at h
    cases hb : Nat.beq id j with
    | true =>
      simp only [hb, cond_true, Option.some.injEq] at h
      subst h
      have := Nat.eq_of_beq_eq_true hb
      simp only [after, if_pos this]
      exact hk
    | false =>
      simp only [hb, cond_false] at h
      have hne : id ≠ j := fun e => by subst e; simp at hb
      simp only [after, if_neg hne]
      exact after_pop h hk
  | .code _ :: k, k', h, a, w, hk => by
    simp only [popTo] at h
    simp only [after]
    exact after_pop h hk
  | .stop _ :: k, k', h, a, w, hk => by
    simp only [popTo] at h
    simp only [after]
    exact after_pop h hk

theorem V.exit {id : Nat} {k' : List KI} (hp : popTo id k = some k') (h : V P fn R k' st) : V P fn R (.code (.exit id) :: k) st := fun C M a w hi =>
  wp_exit (after_pop hp (h C M a w hi))

/-! Returning. -/
def ResOk (T : TT) (st : PState) : ResultVar → PV → Prop
  | .tmp t, p => st.s t = p
  | .cell a t, p => ∃ ti tag b off cells, T.get t = some ti ∧ st.s a = .box tag b off ∧ st.bx tag = some ⟨b, cells⟩ ∧ readCells ti off cells = some p

def resF (tmps : Array Value) : ResultVar → Sem Value
  | .tmp t => pure (tmps.getD t undef)
  | .cell c t => do loadVar t (← asAddr (tmps.getD c undef))

theorem results_eq {rs : Array ResultVar} (hres : fn.results = rs) (tmps : Array Value) :
    results fn tmps = (do let vs ← rs.mapM (resF tmps); pure (if h : vs.size = 1 then vs[0] else .tuple vs)) := by
  unfold results
  rw [hres]
  have : (fun x => match x with
    | ResultVar.tmp t => pure (tmps.getD t undef)
    | ResultVar.cell a t => do loadVar t (← asAddr (tmps.getD a undef))) = resF tmps := by
    funext x
    cases x <;> rfl
  rw [← this]
  rfl

theorem ResOk.run {T : TT} (hT : T.Ok P) {rv : ResultVar} {p : PV} (h : ResOk T st rv p) {C : Ctx} {M : Mem} {a : Act} {w : World} (hi : InvS P C M st a w) :
    ∃ v, (resF a.tmps rv).run P w = .ok v w ∧ Rep P M true p v := by
  cases rv with
  | tmp t =>
    simp only [ResOk] at h
    have := hi.1.2.2 t
    rw [h] at this
    exact ⟨_, rfl, this⟩
  | cell c t =>
    obtain ⟨ti, tag, b, off, cells, hti, hs, hb, hr⟩ := h
    have hp := hi.1.2.2 c
    rw [hs] at hp
    obtain ⟨u, h1, h2⟩ := det_load hT hti hi.2 (p := .box tag b off) hp (r := p) (by simp [loadPV, PState.heap, hb, hr])
    refine ⟨u, ?_, h2⟩
    simp only [Rep] at hp
    rw [hp.2] at h1
    simp only [resF, hp.2, asAddr]
    exact h1

def tupOf : List PV → PV
  | [p] => p
  | ps => .tup ps

def ResAll (T : TT) (st : PState) : List ResultVar → List PV → Prop
  | [], ps => ps = []
  | r :: rs, ps => ∃ p qs, ps = p :: qs ∧ ResOk T st r p ∧ ResAll T st rs qs

theorem results_run {T : TT} (hT : T.Ok P) {rs : Array ResultVar} (hres : fn.results = rs) {ps : List PV} (h : ResAll T st rs.toList ps) {C : Ctx} {M : Mem} {a : Act} {w : World} (hi : InvS P C M st a w) :
    ∃ v, (results fn a.tmps).run P w = .ok v w ∧ Rep P M true (tupOf ps) v := by
  have key : ∀ (l : List ResultVar) (ps : List PV), ResAll T st l ps → ∃ vs : List Value, (l.mapM (resF a.tmps)).run P w = .ok vs w ∧ RepAll P M true ps vs := by
    intro l
    induction l with
    | nil => intro ps h; simp only [ResAll] at h; subst h; exact ⟨[], by simp, by simp [RepAll]⟩
    | cons r l ih =>
      intro ps h
      simp only [ResAll] at h
      obtain ⟨p, qs, rfl, h1, h2⟩ := h
      obtain ⟨v, hv, hr⟩ := h1.run hT hi
      obtain ⟨vs, hvs, hrs⟩ := ih qs h2
      refine ⟨v :: vs, ?_, by simp only [RepAll]; exact ⟨v, vs, rfl, hr, hrs⟩⟩
      rw [List.mapM_cons, Sem.run_bind, hv, Result.andThen_ok, Sem.run_bind, hvs]
      rfl
  obtain ⟨vs, hvs, hrep⟩ := key rs.toList ps h
  have hm : (rs.mapM (resF a.tmps)).run P w = .ok vs.toArray w := by
    rw [Array.mapM_eq_mapM_toList, Sem.run_map, hvs]
    rfl
  have hlen := hrep.length
  refine ⟨if h : vs.toArray.size = 1 then vs.toArray[0] else .tuple vs.toArray, ?_, ?_⟩
  · rw [results_eq hres, Sem.run_bind, hm]
    rfl
  · match ps, vs, hrep, hlen with
    | [], [], hrep, _ => simp [tupOf, Rep, RepAll]
    | [p], [v], hrep, _ =>
      simp only [RepAll] at hrep
      obtain ⟨x, xs, he, hx, _⟩ := hrep
      simp only [List.cons.injEq] at he
      simpa [tupOf, he.1] using hx
    | p :: q :: ps, u :: v :: vs, hrep, _ =>
      simp only [tupOf, Rep]
      exact ⟨(u :: v :: vs).toArray, by simp, by simpa using hrep⟩

theorem after_ret {C : Ctx} {Qf : Exit → Act → World → Prop} : ∀ {k : List KI} {a : Act} {w : World}, Qf .ret a w → after P C Qf k .ret a w
  | [], _, _, h => h
  | .blk _ :: k, _, _, h => by simp only [after]; exact after_ret h
  | .code _ :: k, _, _, h => by simp only [after]; exact after_ret h
  | .stop _ :: k, _, _, h => by simp only [after]; exact after_ret h

/-- What stands behind the call, of what is known at its end. -/
def HSub (H' H : Heap) : Prop := (∀ t x, H'.bx t = some x → H.bx t = some x) ∧ (∀ t x, H'.ob t = some x → H.ob t = some x)

theorem HSub.empty (H : Heap) : HSub Heap.empty H := ⟨fun _ _ h => by simp [Heap.empty] at h, fun _ _ h => by simp [Heap.empty] at h⟩

theorem V.ret {T : TT} (hT : T.Ok P) {rs : Array ResultVar} (hres : fn.results = rs) {ps : List PV} (h : ResAll T st rs.toList ps) {u : PV} (hu : PLe P (tupOf ps) u) {H' : Heap} (hH : HSub H' st.heap) (hR : R u H') :
    V P fn R (.code .ret :: k) st := by
  intro C M a w hi
  refine wp_ret (after_ret ?_)
  obtain ⟨v, hv, hr⟩ := results_run hT hres h hi
  exact ⟨hi.1.2.1, v, hv, v, u, H', M, rfl, hR, hi.2.less hH.1 hH.2, hu M v hr⟩

theorem PLe.of_eq {p q : PV} (h : p = q) : PLe P p q := h ▸ PLe.refl P p

section
variable {n : Nat} {s : Nat → PV} {bx : Nat → Option Box} {ob : Nat → Option Obj} {r : PV}

theorem V.retP {T : TT} (hT : T.Ok P) {rs : Array ResultVar} (hres : fn.results = rs) {ps : List PV} (h : ResAll T ⟨n, s, bx, ob⟩ rs.toList ps) (hu : PLe P (tupOf ps) r) :
    V P fn (fun u H => u = r ∧ H = Heap.empty) (.code .ret :: k) ⟨n, s, bx, ob⟩ :=
  V.ret hT hres h hu (HSub.empty _) ⟨rfl, rfl⟩

theorem V.ret1 {T : TT} (hT : T.Ok P) {t : Nat} (hres : fn.results = #[.tmp t]) {p : PV} (hs : force (s t) = some p) (hu : PLe P p r) :
    V P fn (fun u H => u = r ∧ H = Heap.empty) (.code .ret :: k) ⟨n, s, bx, ob⟩ := by
  rw [force_eq, Option.some.injEq] at hs
  exact V.retP hT hres (ps := [p]) ⟨p, [], rfl, hs, rfl⟩ hu

theorem V.ret2 {T : TT} (hT : T.Ok P) {t t' : Nat} (hres : fn.results = #[.tmp t, .tmp t']) {p p' : PV} (hs : force (s t) = some p) (hs' : force (s t') = some p') (hu : PLe P (.tup [p, p']) r) :
    V P fn (fun u H => u = r ∧ H = Heap.empty) (.code .ret :: k) ⟨n, s, bx, ob⟩ := by
  rw [force_eq, Option.some.injEq] at hs hs'
  exact V.retP hT hres (ps := [p, p']) ⟨p, _, rfl, hs, p', [], rfl, hs', rfl⟩ hu

theorem V.ret3 {T : TT} (hT : T.Ok P) {t t' t'' : Nat} (hres : fn.results = #[.tmp t, .tmp t', .tmp t'']) {p p' p'' : PV} (hs : force (s t) = some p) (hs' : force (s t') = some p') (hs'' : force (s t'') = some p'') (hu : PLe P (.tup [p, p', p'']) r) :
    V P fn (fun u H => u = r ∧ H = Heap.empty) (.code .ret :: k) ⟨n, s, bx, ob⟩ := by
  rw [force_eq, Option.some.injEq] at hs hs' hs''
  exact V.retP hT hres (ps := [p, p', p'']) ⟨p, _, rfl, hs, p', _, rfl, hs', p'', [], rfl, hs'', rfl⟩ hu

theorem V.retC {T : TT} (hT : T.Ok P) {a t : Nat} (hres : fn.results = #[.cell a t]) {ti : TInfo} (hti : T.get t = some ti) {tag b off : Nat} {cells : List PV} (hs : s a = .box tag b off) (hb : bx tag = some ⟨b, cells⟩) {p : PV} (hr : (readCells ti off cells).bind force = some p) (hu : PLe P p r) :
    V P fn (fun u H => u = r ∧ H = Heap.empty) (.code .ret :: k) ⟨n, s, bx, ob⟩ := by
  have hr' : readCells ti off cells = some p := by
    cases hq : readCells ti off cells with
    | none => simp [hq] at hr
    | some q => rw [hq, Option.bind_some, force_eq] at hr; exact hr
  exact V.retP hT hres (ps := [p]) ⟨p, [], rfl, ⟨ti, tag, b, off, cells, hti, hs, hb, hr'⟩, rfl⟩ hu
end

/-! Loops. -/
theorem wp_loop_by {P : Program} {Q : Exit → Act → World → Prop} {c : Code} (I : Nat → Act → World → Prop) {n : Nat} {a : Act} {w : World} (h₀ : I n a w)
    (round : ∀ n a w, I n a w → c.wp P (Exit.then (fun a' w' => ∃ m, m < n ∧ I m a' w') Q) a w) : (Code.loop c).wp P Q a w := by
  intro b k cs
  have key : ∀ n a w, I n a w → ∃ e a' w', Q e a' w' ∧ Arrives P (lone (b.at a (.code c :: .inLoop c :: k)) cs w) b k cs e a' w' := by
    intro n
    induction n using Nat.strongRecOn with
    | _ n ih =>
      intro a w hI
      obtain ⟨e, a₁, w₁, hq, harr⟩ := round n a w hI b (.inLoop c :: k) cs
      cases e with
      | normal =>
        obtain ⟨m, hlt, hI₁⟩ := hq
        obtain ⟨e₂, a₂, w₂, hq₂, harr₂⟩ := ih m hlt a₁ w₁ hI₁
        exact ⟨e₂, a₂, w₂, hq₂, .of_steps (Steps.trans harr (.one step_inLoop)) harr₂⟩
      | exit id => exact ⟨_, a₁, w₁, hq, .pass (x := .inLoop c) rfl (fun _ _ => .inl (by simp)) harr⟩
      | goto l => exact ⟨_, a₁, w₁, hq, .pass (x := .inLoop c) rfl (fun _ _ => .inl (by simp)) harr⟩
      | ret => exact ⟨_, a₁, w₁, hq, .pass (x := .inLoop c) rfl (fun _ _ => .inl (by simp)) harr⟩
      | panic ch => exact ⟨_, a₁, w₁, hq, .pass (x := .inLoop c) rfl (fun _ _ => .inl (by simp)) harr⟩
      | outgrown => exact ⟨_, a₁, w₁, hq, .pass (x := .inLoop c) rfl (fun _ _ => .inl (by simp)) harr⟩
  obtain ⟨e, a', w', hq, harr⟩ := key n a w h₀
  exact ⟨e, a', w', hq, .of_steps (.one step_loop) harr⟩

/-- A loop: 'I n st': what holds at a round's head; n: a number that every round lowers. -/
theorem V.loop (I : Nat → PState → Prop) {c : Code} {n : Nat} (h₀ : I n st) (round : ∀ n st, I n st → V P fn R (.code c :: .stop (fun st' => ∃ m, m < n ∧ I m st') :: k) st) : V P fn R (.code (.loop c) :: k) st := by
  intro C M a w hi
  refine wp_loop_by (fun n a w => ∃ st M, I n st ∧ InvS P C M st a w) ⟨st, M, h₀, hi⟩ ?_
  rintro n a w ⟨st, M, hI, hi⟩
  have := round n st hI C M a w hi
  simp only [after] at this
  refine wp_mono this ?_
  intro e a w he
  cases e with
  | normal =>
    obtain ⟨st', M', ⟨m, hm, hI'⟩, hi'⟩ := he
    exact ⟨m, hm, st', M', hI', hi'⟩
  | _ => exact he

/-! From a function's code to its contract. -/
def initS (args : List PV) : Nat → PV := fun t => match args[t]? with | some p => p | none => .any

theorem PCallsH.intro {f : FuncId} {c : Code} (hf : P.funcs[f]? = some fn) (hb : fn.body = some c) {nt : Nat} (hn : fn.ntmps = nt) {args : List PV} {Hin : Heap} (hargs : Nat.ble args.length nt = true)
    (h : V P fn R [.code c] ⟨nt, initS args, Hin.bx, Hin.ob⟩) : PCallsH P f args Hin R := by
  intro w M own hg vs hi ha
  refine calls_of_wp hf hb ?_
  have hl := ha.length
  have hle := Nat.le_of_ble_eq_true hargs
  refine h ⟨w, own, M, hg⟩ M _ w ⟨⟨?_, rfl, fun t => ?_⟩, hi⟩
  · simp at hl; simp; omega
  · simp only [initS]
    cases hp : args[t]? with
    | none => simp [Rep]
    | some p =>
      obtain ⟨x, hx, hr⟩ := ha.get t p hp
      have hlt : t < vs.size := by
        have := (List.getElem?_eq_some_iff.1 hx).1
        simpa using this
      have : (vs ++ Array.replicate (fn.ntmps - vs.size) undef)[t]? = some x := by
        rw [Array.getElem?_append_left hlt, ← Array.getElem?_toList]
        exact hx
      simpa [this] using hr
end

end Go.Ab
