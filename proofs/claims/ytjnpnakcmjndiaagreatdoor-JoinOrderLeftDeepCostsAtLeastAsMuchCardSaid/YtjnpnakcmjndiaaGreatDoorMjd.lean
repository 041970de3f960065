/- The abstract layer, part L: regions that draw their order: one walk in a canonical order serves every order. -/
import Derived.Test.YtjnpnakcmjndiaaGreatDoorMjc
namespace Go.Ab

/-- The pure function of a quiet operation, slice literals and frozen variables included. -/
def det1 (T : TT) (bx : Nat → Option Box) (op : Op) (ev : Operand → PV) : Option PV :=
  match op with
  | .buildSlice t n ps => match T.get t with
    | some ti => match ti.desc with
      | .slice e => (bsRows T e n (evParts ev ps)).map (.list e)
      | _ => none
    | none => none
  | op => det0 T bx op ev

theorem det1_sound {P : Program} {T : TT} (hT : T.Ok P) {o : Oper} {ev : Operand → PV} {H : Heap} {r : PV} (h : det1 T H.bx o.op ev = some r) : DetOk P o ev H r := by
  cases ho : o.op
  case buildSlice t n ps =>
    rw [ho] at h
    simp only [det1] at h
    split at h
    · rename_i ti hti
      split at h
      · rename_i e hd
        cases hr : bsRows T e n (evParts ev ps) with
        | none => simp [hr] at h
        | some rows =>
          simp only [hr, Option.map_some, Option.some.injEq] at h
          subst h
          exact eff_bsF hT ho hti hd hr
      · cases h
    · cases h
  all_goals (rw [ho] at h; exact det0_sound hT (by rw [ho]; exact h))

theorem det1_congr {T : TT} {bx : Nat → Option Box} {op : Op} {ev ev' : Operand → PV} (h : ∀ x ∈ op.operands, ev x = ev' x) : det1 T bx op ev = det1 T bx op ev' := by
  have parts : ∀ ps : Array (Nat × Operand), (∀ x ∈ ps.toList.map (·.2), ev x = ev' x) → evParts ev ps = evParts ev' ps := by
    intro ps hp
    unfold evParts
    apply List.map_congr_left
    intro p hm
    rw [hp p.2 (List.mem_map.2 ⟨p, hm, rfl⟩)]
  cases op
  case buildSlice t n ps => simp only [det1]; rw [parts ps fun x hx => h x (by simpa [Op.operands] using hx)]
  case build t ps => simp only [det1, det0]; rw [parts ps fun x hx => h x (by simpa [Op.operands] using hx)]
  case makeFunc fn first caps =>
    have : caps.toList.map ev = caps.toList.map ev' := List.map_congr_left fun x hx => h x (by simp [Op.operands]; exact .inr (by simpa using hx))
    cases fn <;> simp only [det1, det0, this]
  case slice t x lo hi mx =>
    have hx := h x (by simp [Op.operands])
    cases mx with
    | some m => rfl
    | none =>
      have h1 : lo.map ev = lo.map ev' := by
        cases lo with
        | none => rfl
        | some y => simp [h y (by simp [Op.operands])]
      have h2 : hi.map ev = hi.map ev' := by
        cases hi with
        | none => rfl
        | some y => simp [h y (by simp [Op.operands])]
      simp only [det1, det0, hx, h1, h2]
  case call c =>
    obtain ⟨callee, args, argTypes⟩ := c
    have ha : ∀ x ∈ args.toList, ev x = ev' x := fun x hx => h x (by simp only [Op.operands, Call.operands]; cases callee <;> simp_all)
    simp only [det1, det0, callPV]
    split
    · rename_i x t r' e1 e2; rw [ha x (by rw [e1]; simp)]
    · rename_i x y e1; rw [ha x (by rw [e1]; simp), ha y (by rw [e1]; simp)]
    · rename_i x y e1; rw [ha x (by rw [e1]; simp), ha y (by rw [e1]; simp)]
    · rfl
  all_goals first
    | rfl
    | (simp only [Op.operands, List.mem_toArray, List.mem_cons, List.not_mem_nil, or_false, forall_eq_or_imp, forall_eq] at h; simp only [det1, det0, h])
    | (simp only [Op.operands] at h; simp_all [det1, det0])

theorem det1_mono {T : TT} {bx bx' : Nat → Option Box} {op : Op} {ev : Operand → PV} {r : PV} (h : det1 T bx op ev = some r) (hb : ∀ t x, bx t = some x → bx' t = some x) : det1 T bx' op ev = some r := by
  cases op
  case load t x =>
    simp only [det1, det0] at h ⊢
    split at h
    · generalize ev x = p at h ⊢
      unfold loadPV at h ⊢
      split at h
      · exact h
      · split at h
        · rename_i y hy
          simp only [hb _ y hy]
          exact h
        · cases h
      · cases h
    · cases h
  case makeFunc fn first caps => cases fn <;> exact h
  case slice t x lo hi mx => cases mx <;> exact h
  all_goals exact h

theorem det1_none {T : TT} {bx : Nat → Option Box} {op : Op} {ev : Operand → PV} {r : PV} (h : det1 T (fun _ => none) op ev = some r) : det1 T bx op ev = some r :=
  det1_mono h fun t x hx => by simp at hx

inductive Cls where
  | det | eff | alloc | store | bad
  deriving DecidableEq

def clsOf : Op → Cls
  | .move _ | .assign _ | .pick .. | .load .. | .fieldAddr .. | .field .. | .indexAddr .. | .index .. | .binOp .. | .unOp .. | .convert .. | .extract .. | .build .. | .slice .. | .makeFunc .. | .nilCheck _ | .buildSlice .. => .det
  | .call { callee := .builtin .len, .. } | .call { callee := .builtin .min, .. } | .call { callee := .builtin .max, .. } => .det
  | .call { callee := .value _, .. } | .call { callee := .builtin .append, .. } => .eff
  | .alloc _ => .alloc
  | .store .. => .store
  | _ => .bad

def isLoad : Op → Bool
  | .load .. => true
  | _ => false

/-- An operation that neither looks at boxes nor touches them. -/
def EffX (P : Program) (o : Oper) (ev : Operand → PV) (ob : Nat → Option Obj) (K : PV → (Nat → Option Obj) → Prop) : Prop :=
  ∀ bx, Eff P o ev ⟨bx, ob⟩ fun u H' => H'.bx = bx ∧ K u H'.ob

theorem EffX.mono {P : Program} {o : Oper} {ev : Operand → PV} {ob : Nat → Option Obj} {K K' : PV → (Nat → Option Obj) → Prop} (h : EffX P o ev ob K) (hk : ∀ u ob', K u ob' → K' u ob') : EffX P o ev ob K' :=
  fun bx => (h bx).mono fun u _ ⟨h1, h2⟩ => ⟨h1, hk u _ h2⟩

theorem EffX.congr {P : Program} {o : Oper} {ev ev' : Operand → PV} {ob : Nat → Option Obj} {K : PV → (Nat → Option Obj) → Prop} (h : EffX P o ev ob K) (he : ∀ x ∈ o.op.operands, ev x = ev' x) : EffX P o ev' ob K :=
  fun bx C M a w next Q hi hr hn => h bx C M a w next Q hi (fun x hx => by rw [he x hx]; exact hr x hx) hn

/-- What is asked of a store into a box. -/
def StoreOk (T : TT) (op : Op) (s : Nat → PV) (bx : Nat → Option Box) (K : (Nat → Option Box) → Prop) : Prop :=
  ∃ t x y ti tag b off cells cs, op = .store t x y ∧ T.get t = some ti ∧ evS s x = .box tag b off ∧ bx tag = some ⟨b, cells⟩ ∧ cellsPV (evS s y) = some cs ∧ cs.all PV.one = true ∧ cs.length = ti.size ∧ off + ti.size ≤ cells.length ∧
    K (upd bx tag (some ⟨b, splice cells off cs⟩))

/-- An operation whose value is r and that leaves the world asQ it was. -/
def DetS (P : Program) (o : Oper) (ev : Operand → PV) (H : Heap) (r : PV) : Prop :=
  ∀ (C : Ctx) (M : Mem) (a : Act) (w : World), InvH P C M H w → (∀ x ∈ o.op.operands, Rep P M true (ev x) (a.eval x)) → ∃ v, (execOp a.eval o).run P w = .ok (.value v) w ∧ Rep P M true r v

/-- What a region's loads may look at: variables, the call's own slices; the loads (by the slots that they fill) that look at neither. -/
structure RB where
  box : Bool
  own : Bool
  fz : List Nat
def RB.fr (rb : RB) (o : Oper) : Bool := match o.dst with | some d => rb.fz.any (Nat.beq d) | none => false
def RB.b (rb : RB) (o : Oper) : Bool := rb.box && !rb.fr o
def RB.o (rb : RB) (o : Oper) : Bool := rb.own && !rb.fr o

/-- What a quiet operation's value is: a function of its operands (and of the boxes), or shown by hand, with the call's own slices for a load. -/
def DetX (P : Program) (T : TT) (rb : RB) (o : Oper) (ev : Operand → PV) (bx : Nat → Option Box) (ob : Nat → Option Obj) (r : PV) : Prop :=
  det1 T (if rb.b o then bx else fun _ => none) o.op ev = some r ∨ ∀ bx', DetS P o ev ⟨bx', if rb.o o && isLoad o.op then ob else fun _ => none⟩ r

theorem DetS.congr {P : Program} {o : Oper} {ev ev' : Operand → PV} {H : Heap} {r : PV} (h : DetS P o ev H r) (he : ∀ x ∈ o.op.operands, ev x = ev' x) : DetS P o ev' H r :=
  fun C M a w hi hr => h C M a w hi fun x hx => by rw [he x hx]; exact hr x hx
theorem DetX.congr {P : Program} {T : TT} {rb : RB} {o : Oper} {ev ev' : Operand → PV} {bx : Nat → Option Box} {ob : Nat → Option Obj} {r : PV} (h : DetX P T rb o ev bx ob r) (he : ∀ x ∈ o.op.operands, ev x = ev' x) : DetX P T rb o ev' bx ob r :=
  h.imp (fun h => by rw [← det1_congr he]; exact h) fun h bx' => (h bx').congr he

def AStep (P : Program) (T : TT) (rb : RB) (ops : Array Oper) (i : Nat) (st : PState) (K : PState → Prop) : Prop :=
  ∃ o, ops[i]? = some o ∧ ∃ g, guardA ops st.s o = some g ∧
    if g then
      match clsOf o.op with
      | .det => ∃ r s', DetX P T rb o (evS st.s) st.bx st.ob r ∧ putD st.n st.s o.dst r = some s' ∧ K ⟨st.n, s', st.bx, st.ob⟩
      | .eff => EffX P o (evS st.s) st.ob fun u ob' => ∃ s', putD st.n st.s o.dst u = some s' ∧ K ⟨st.n, s', st.bx, ob'⟩
      | .alloc => ∃ t d ti, o.op = .alloc t ∧ o.dst = some d ∧ T.get t = some ti ∧ d < st.n ∧ st.bx d = none ∧ ∀ b, K ⟨st.n, upd st.s d (.box d b 0), upd st.bx d (some ⟨b, zeroPV ti⟩), st.ob⟩
      | .store => o.dst = none ∧ (StoreOk T o.op st.s st.bx (fun bx' => K ⟨st.n, st.s, bx', st.ob⟩) ∨ EffX P o (evS st.s) st.ob fun _ ob' => K ⟨st.n, st.s, st.bx, ob'⟩)
      | .bad => False
    else ∃ s', putD st.n st.s o.dst undefPV = some s' ∧ K ⟨st.n, s', st.bx, st.ob⟩

theorem AStep.mono {P : Program} {T : TT} {rb : RB} {ops : Array Oper} {i : Nat} {st : PState} {K K' : PState → Prop} (h : AStep P T rb ops i st K) (hk : ∀ st, K st → K' st) : AStep P T rb ops i st K' := by
  obtain ⟨o, ho, g, hg, h⟩ := h
  refine ⟨o, ho, g, hg, ?_⟩
  cases g
  · obtain ⟨s', h1, h2⟩ := h
    exact ⟨s', h1, hk _ h2⟩
  · simp only [if_true] at h ⊢
    cases hc : clsOf o.op <;> rw [hc] at h <;> simp only at h ⊢
    · obtain ⟨r, s', h1, h2, h3⟩ := h; exact ⟨r, s', h1, h2, hk _ h3⟩
    · exact h.mono fun u ob' ⟨s', h1, h2⟩ => ⟨s', h1, hk _ h2⟩
    · obtain ⟨t, d, ti, h1, h2, h3, h4, h5, h6⟩ := h; exact ⟨t, d, ti, h1, h2, h3, h4, h5, fun b => hk _ (h6 b)⟩
    · obtain ⟨h0, ⟨t, x, y, ti, tag, b, off, cells, cs, h1, h2, h3, h4, h5, h6, h7, h8, h9⟩ | h⟩ := h
      · exact ⟨h0, .inl ⟨t, x, y, ti, tag, b, off, cells, cs, h1, h2, h3, h4, h5, h6, h7, h8, hk _ h9⟩⟩
      · exact ⟨h0, .inr (h.mono fun _ _ hK => hk _ hK)⟩

/-! Carrying out a step, in the machine. -/
theorem AStep.sound {P : Program} {T : TT} (hT : T.Ok P) {rb : RB} {ops : Array Oper} {i : Nat} {st : PState} {K : PState → Prop} (h : AStep P T rb ops i st K) {C : Ctx} {M : Mem} {a : Act} {w : World} (hi : InvS P C M st a w) {Q : Exit → Act → World → Prop} :
    wpOp P ops Q i (fun a' w' => ∃ st' M', K st' ∧ InvS P C M' st' a' w') a w := by
  obtain ⟨o, ho, g, hg, h⟩ := h
  have hw := guardA_sound hi.1 hg
  unfold wpOp
  simp only [ho, hw]
  cases g
  · obtain ⟨s', h1, h2⟩ := h
    simp only [Bool.false_eq_true, if_false]
    exact ⟨_, M, h2, hi.1.putD h1 (by simp [Rep, RepAll, undef]), hi.2⟩
  · simp only [if_true] at h ⊢
    refine .inl ?_
    cases hc : clsOf o.op <;> rw [hc] at h <;> simp only at h
    · obtain ⟨r, s', h1, h2, h3⟩ := h
      have h1' : DetOk P o (evS st.s) st.heap r := by
        rcases h1 with h1 | h1
        · refine det1_sound hT ?_
          cases hbb : rb.b o
          · rw [hbb] at h1; exact det1_none h1
          · rw [hbb] at h1; exact h1
        · intro C M a w hi
          have h2 : InvH P C M ⟨st.bx, if rb.o o && isLoad o.op then st.ob else fun _ => none⟩ w := hi.less (fun _ _ hx => hx) (fun t x hx => by
            show st.ob t = some x
            split at hx
            · exact hx
            · cases hx)
          intro hr
          obtain ⟨v, e1, e2⟩ := h1 st.bx C M a w h2 hr
          exact ⟨v, M, w, e1, Mem.le_refl M, hi, e2⟩
      refine Eff.of_det h1' C M a w _ _ hi.2 (fun x _ => hi.1.ev x) ?_
      rintro v u H' M' w' ⟨rfl, rfl⟩ hle hi' hr
      exact ⟨_, M', h3, (hi.1.mono hle).putD h2 hr, hi'⟩
    · refine h st.bx C M a w _ _ hi.2 (fun x _ => hi.1.ev x) ?_
      rintro v u H' M' w' ⟨hbx, s', h1, h2⟩ hle hi' hr
      refine ⟨_, M', h2, (hi.1.mono hle).putD h1 hr, ?_⟩
      show InvH P C M' ⟨st.bx, H'.ob⟩ w'
      rw [← hbx]
      exact hi'
    · obtain ⟨t, d, ti, h1, h2, h3, h4, h5, h6⟩ := h
      refine eff_alloc (o := o) (H := st.heap) (ev := evS st.s) hT h1 d h3 (forceL_eq _) (K := fun u H' => ∃ b, u = .box d b 0 ∧ H' = ⟨upd st.bx d (some ⟨b, zeroPV ti⟩), st.ob⟩) (fun b => ⟨b, rfl, rfl⟩) C M a w _ _ hi.2 (fun x _ => hi.1.ev x) ?_
      rintro v u H' M' w' ⟨b, rfl, rfl⟩ hle hi' hr
      exact ⟨_, M', h6 b, (hi.1.mono hle).putD (by rw [h2]; exact (show putD st.n st.s (some d) (.box d b 0) = _ from by simp [putD, show Nat.blt d st.n = true from by rw [Nat.blt_eq]; exact h4])) hr, hi'⟩
    · obtain ⟨h0, h⟩ := h
      rcases h with h | h
      case inr =>
        refine h st.bx C M a w _ _ hi.2 (fun x _ => hi.1.ev x) ?_
        rintro v u H' M' w' ⟨hbx, hK⟩ hle hi' hr
        refine ⟨_, M', hK, (hi.1.mono hle).putD (p := .any) (by simp [h0, putD]) (by simp [Rep]), ?_⟩
        show InvH P C M' ⟨st.bx, H'.ob⟩ w'
        rw [← hbx]
        exact hi'
      obtain ⟨t, x, y, ti, tag, b, off, cells, cs, h1, h2, h3, h4, h5, h6, h7, h8, h9⟩ := h
      refine eff_storeBox (o := o) (H := st.heap) (ev := evS st.s) hT h1 h2 h3 h4 h5 h6 (by rw [h7]; simp) (by rw [Nat.ble_eq]; exact h8) (forceL_eq _) (K := fun u H' => H' = ⟨upd st.bx tag (some ⟨b, splice cells off cs⟩), st.ob⟩) rfl C M a w _ _ hi.2 (fun x _ => hi.1.ev x) ?_
      rintro v u H' M' w' rfl hle hi' hr
      exact ⟨_, M', h9, (hi.1.mono hle).putD (p := .any) (by simp [h0, putD]) (by simp [Rep]), hi'⟩

def AB (P : Program) (T : TT) (rb : RB) (ops : Array Oper) (K : PState → Prop) : Nat → Array Bool → PState → Prop
  | 0, listed, st => Region.ready .any ops listed = [] ∧ K st
  | f + 1, listed, st => (Region.ready .any ops listed = [] → K st) ∧ ∀ i ∈ Region.ready .any ops listed, AStep P T rb ops i st (AB P T rb ops K f (listed.setIfInBounds i true))

theorem AB.sound {P : Program} {T : TT} (hT : T.Ok P) {rb : RB} {ops : Array Oper} {K : PState → Prop} {C : Ctx} {Q : Exit → Act → World → Prop} (hq : ∀ st M a w, K st → InvS P C M st a w → Q .normal a w) :
    ∀ (f : Nat) (listed : Array Bool) (st : PState) (M : Mem) (a : Act) (w : World), AB P T rb ops K f listed st → InvS P C M st a w → wpAny P .any ops Q f listed a w
  | 0, _, st, M, a, w, h, hi => ⟨h.1, hq st M a w h.2 hi⟩
  | f + 1, _, st, M, a, w, h, hi => ⟨fun h0 => hq st M a w (h.1 h0) hi, fun i hr => wpOp_mono (fun a' w' ⟨st', M', h1, h2⟩ => AB.sound hT hq f _ st' M' a' w' h1 h2) ((h.2 i hr).sound hT hi)⟩

/-! Exchanging two steps. -/
def Oper.usesT (ops : Array Oper) (o : Oper) : List Tmp := o.looksAt ops

theorem evS_upd {s : Nat → PV} {d : Nat} {p : PV} {x : Operand} (h : x ≠ .tmp d) : evS (upd s d p) x = evS s x := by
  cases x with
  | tmp t => simp only [evS]; exact upd_ne _ _ fun e => h (by rw [e])
  | _ => rfl

theorem mem_looks {ops : Array Oper} {o : Oper} {d : Nat} (h : d ∉ o.looksAt ops) : ∀ x ∈ o.op.operands, x ≠ .tmp d := by
  intro x hx e
  subst e
  apply h
  simp only [Oper.looksAt, List.mem_append, List.mem_filterMap]
  exact .inl ⟨.tmp d, by simpa using hx, rfl⟩

theorem guardA_upd {ops : Array Oper} {s : Nat → PV} {o : Oper} {d : Nat} {p : PV} (h : d ∉ o.looksAt ops) : guardA ops (upd s d p) o = guardA ops s o := by
  unfold guardA
  split
  · rfl
  · rename_i j want hg
    split
    · rename_i e he
      have hne : e ≠ d := by
        intro e'
        subst e'
        apply h
        simp only [Oper.looksAt, List.mem_append]
        right
        rw [hg]
        simp [he]
      rw [upd_ne _ _ hne]
    · rfl

def swapOk (rb : RB) (ops : Array Oper) (x y : Oper) : Bool :=
  x.apart ops y && (match clsOf x.op, clsOf y.op with
    | .det, .det | .det, .alloc => true
    | .det, .eff => !(rb.o x && isLoad x.op)
    | .det, .store => !((rb.b x || rb.o x) && isLoad x.op)
    | .alloc, .alloc | .eff, .alloc => true
    | _, _ => false)

/-- What a step leaves in the slots. -/
theorem putD_some {n : Nat} {s s' : Nat → PV} {dst : Option Tmp} {p : PV} (h : putD n s dst p = some s') : (dst = none ∧ s' = s) ∨ ∃ d, dst = some d ∧ d < n ∧ s' = upd s d p := by
  cases dst with
  | none => simp only [putD, Option.some.injEq] at h; exact .inl ⟨rfl, h.symm⟩
  | some d =>
    simp only [putD] at h
    cases hb : Nat.blt d n with
    | false => simp [hb] at h
    | true => simp only [hb, cond_true, Option.some.injEq] at h; exact .inr ⟨d, rfl, by simpa [Nat.blt_eq] using hb, h.symm⟩

theorem putD_mk {n d : Nat} {s : Nat → PV} {p : PV} (h : d < n) : putD n s (some d) p = some (upd s d p) := by simp [putD, show Nat.blt d n = true from by rw [Nat.blt_eq]; exact h]


section
variable {P : Program} {T : TT} {rb : RB} {ops : Array Oper}

/-- A slot that an operation neither reads nor writes. -/
theorem swap {i j : Nat} {x y : Oper} (hx : ops[i]? = some x) (hy : ops[j]? = some y) (hsw : swapOk rb ops x y = true) {st : PState} {K : PState → Prop}
    (haf : clsOf y.op = .alloc → y.guard = none ∧ ∃ t d ti, y.op = .alloc t ∧ y.dst = some d ∧ T.get t = some ti ∧ d < st.n ∧ st.bx d = none)
    (h : AStep P T rb ops i st fun st2 => AStep P T rb ops j st2 K) : AStep P T rb ops j st fun st2 => AStep P T rb ops i st2 K := by
  simp only [swapOk, Bool.and_eq_true] at hsw
  obtain ⟨hap, hcl⟩ := hsw
  obtain ⟨a1, a2, a3⟩ := Oper.apart_spec hap
  obtain ⟨n, s, bx, ob⟩ := st
  obtain ⟨x', hx', g, hg, h⟩ := h
  rw [hx] at hx'
  cases hx'
  simp only at hg h
  -- what the first operation writes, the second does not look at; and the other way round
  have ga : ∀ {d : Nat} {p : PV}, x.dst = some d → ∀ s, guardA ops (upd s d p) y = guardA ops s y := fun hd s => guardA_upd (a1 _ hd)
  have gb : ∀ {d : Nat} {p : PV}, y.dst = some d → ∀ s, guardA ops (upd s d p) x = guardA ops s x := fun hd s => guardA_upd (a3 _ hd)
  have ea : ∀ {d : Nat} {p : PV}, x.dst = some d → ∀ s, ∀ z ∈ y.op.operands, evS (upd s d p) z = evS s z := fun hd s z hz => evS_upd (mem_looks (a1 _ hd) z hz)
  have eb : ∀ {d : Nat} {p : PV}, y.dst = some d → ∀ s, ∀ z ∈ x.op.operands, evS (upd s d p) z = evS s z := fun hd s z hz => evS_upd (mem_looks (a3 _ hd) z hz)
  have pc : ∀ {s s1 s2 : Nat → PV} {p q : PV}, putD n s x.dst p = some s1 → putD n s1 y.dst q = some s2 → ∃ s3, putD n s y.dst q = some s3 ∧ putD n s3 x.dst p = some s2 := by
    intro s s1 s2 p q h1 h2
    rcases putD_some h1 with ⟨e1, rfl⟩ | ⟨d, e1, hd, rfl⟩
    · exact ⟨s2, h2, by rw [e1]; rfl⟩
    · rcases putD_some h2 with ⟨e2, rfl⟩ | ⟨d', e2, hd', rfl⟩
      · exact ⟨s, by rw [e2]; rfl, by rw [e1]; exact putD_mk hd⟩
      · refine ⟨upd s d' q, by rw [e2]; exact putD_mk hd', ?_⟩
        rw [e1, upd_comm s p q (fun e => a2 d e1 (by rw [e2, e])), putD_mk hd]
  have gx : ∀ {s s1 : Nat → PV} {p : PV}, putD n s x.dst p = some s1 → guardA ops s1 y = guardA ops s y ∧ ∀ z ∈ y.op.operands, evS s1 z = evS s z := by
    intro s s1 p h1
    rcases putD_some h1 with ⟨_, rfl⟩ | ⟨d, e1, _, rfl⟩
    · exact ⟨rfl, fun _ _ => rfl⟩
    · exact ⟨ga e1 s, ea e1 s⟩
  have gy : ∀ {s s1 : Nat → PV} {p : PV}, putD n s y.dst p = some s1 → guardA ops s1 x = guardA ops s x ∧ ∀ z ∈ x.op.operands, evS s1 z = evS s z := by
    intro s s1 p h1
    rcases putD_some h1 with ⟨_, rfl⟩ | ⟨d, e1, _, rfl⟩
    · exact ⟨rfl, fun _ _ => rfl⟩
    · exact ⟨gb e1 s, eb e1 s⟩
  -- a first operation that only puts a known value into its slot
  have simple : ∀ (r : PV) (s1 : Nat → PV), putD n s x.dst r = some s1 → AStep P T rb ops j ⟨n, s1, bx, ob⟩ K →
      (∀ (s3 : Nat → PV) (bx3 : Nat → Option Box) (ob3 : Nat → Option Obj) (s4 : Nat → PV), guardA ops s3 x = guardA ops s x → (∀ z ∈ x.op.operands, evS s3 z = evS s z) →
        ((bx3 = bx ∧ ob3 = ob) ∨ (clsOf y.op = .eff ∧ bx3 = bx) ∨ (clsOf y.op = .alloc ∧ ob3 = ob ∧ ∀ t b, bx t = some b → bx3 t = some b) ∨ clsOf y.op = .store) → putD n s3 x.dst r = some s4 → K ⟨n, s4, bx3, ob3⟩ → AStep P T rb ops i ⟨n, s3, bx3, ob3⟩ K) →
      AStep P T rb ops j ⟨n, s, bx, ob⟩ fun st2 => AStep P T rb ops i st2 K := by
    intro r s1 h1 h2 redo
    obtain ⟨y', hy', g', hg', h2⟩ := h2
    rw [hy] at hy'
    cases hy'
    simp only at hg' h2
    obtain ⟨k1, k2⟩ := gx h1
    refine ⟨y, hy, g', by rw [← k1]; exact hg', ?_⟩
    cases g'
    · obtain ⟨s2, h3, h4⟩ := h2
      obtain ⟨s3, h5, h6⟩ := pc h1 h3
      obtain ⟨k3, k4⟩ := gy h5
      exact ⟨s3, h5, redo s3 bx ob s2 k3 k4 (.inl ⟨rfl, rfl⟩) h6 h4⟩
    · simp only [if_true] at h2 ⊢
      cases hc : clsOf y.op <;> rw [hc] at h2 <;> simp only at h2 ⊢
      · obtain ⟨q, s2, h3, h4, h5⟩ := h2
        obtain ⟨s3, h6, h7⟩ := pc h1 h4
        obtain ⟨k3, k4⟩ := gy h6
        exact ⟨q, s3, h3.congr k2, h6, redo s3 bx ob s2 k3 k4 (.inl ⟨rfl, rfl⟩) h7 h5⟩
      · refine (h2.congr k2).mono ?_
        rintro u ob' ⟨s2, h4, h5⟩
        obtain ⟨s3, h6, h7⟩ := pc h1 h4
        obtain ⟨k3, k4⟩ := gy h6
        exact ⟨s3, h6, redo s3 bx ob' s2 k3 k4 (.inr (.inl ⟨hc, rfl⟩)) h7 h5⟩
      · obtain ⟨t, d, ti, e1, e2, e3, e4, e5, e6⟩ := h2
        refine ⟨t, d, ti, e1, e2, e3, e4, e5, fun b => ?_⟩
        have h4 : putD n s1 y.dst (.box d b 0) = some (upd s1 d (.box d b 0)) := by rw [e2]; exact putD_mk e4
        obtain ⟨s3, h6, h7⟩ := pc h1 h4
        have h6' : s3 = upd s d (.box d b 0) := by rw [e2, putD_mk e4] at h6; exact (Option.some.inj h6).symm
        obtain ⟨k3, k4⟩ := gy h6
        subst h6'
        refine redo _ _ ob _ k3 k4 (.inr (.inr (.inl ⟨hc, rfl, fun t' b' hb' => ?_⟩))) h7 (e6 b)
        rw [upd_ne _ _ (fun e => by rw [e, e5] at hb'; cases hb')]
        exact hb'
      · obtain ⟨h0, h2⟩ := h2
        rcases h2 with h2 | h2
        case inr =>
          refine ⟨h0, .inr ((h2.congr k2).mono ?_)⟩
          intro u ob' hK
          exact redo s bx ob' s1 rfl (fun _ _ => rfl) (.inr (.inr (.inr hc))) h1 hK
        obtain ⟨t, xx, yy, ti, tag, b, off, cells, cs, e1, e2, e3, e4, e5, e6, e7, e8, e9⟩ := h2
        have o1 : xx ∈ y.op.operands := by rw [e1]; simp [Op.operands]
        have o2 : yy ∈ y.op.operands := by rw [e1]; simp [Op.operands]
        refine ⟨h0, .inl ⟨t, xx, yy, ti, tag, b, off, cells, cs, e1, e2, by rw [← k2 xx o1]; exact e3, e4, by rw [← k2 yy o2]; exact e5, e6, e7, e8, ?_⟩⟩
        exact redo s _ ob s1 rfl (fun _ _ => rfl) (.inr (.inr (.inr hc))) h1 e9
  cases g
  · -- shut out by its guard
    obtain ⟨s1, h1, h2⟩ := h
    refine simple undefPV s1 h1 h2 fun s3 bx3 ob3 s4 k3 k4 _ h7 hK => ⟨x, hx, false, by simp only; rw [k3]; exact hg, s4, h7, hK⟩
  · simp only [if_true] at h
    cases hc : clsOf x.op <;> rw [hc] at h hcl <;> simp only at h hcl
    · obtain ⟨r, s1, h0, h1, h2⟩ := h
      refine simple r s1 h1 h2 fun s3 bx3 ob3 s4 k3 k4 kb h7 hK => ⟨x, hx, true, by simp only; rw [k3]; exact hg, ?_⟩
      simp only [if_true, hc]
      refine ⟨r, s4, ?_, h7, hK⟩
      have h0' := h0.congr (ev' := evS s3) fun z hz => (k4 z hz).symm
      have nold : ∀ bxx obb, isLoad x.op = false → DetX P T rb x (evS s3) bxx obb r := by
        intro bxx obb hl
        rcases h0' with h0 | h0
        · left
          have : ∀ b1 b2, det1 T b1 x.op (evS s3) = det1 T b2 x.op (evS s3) := by
            intro b1 b2
            cases ho : x.op
            case load => rw [ho] at hl; simp [isLoad] at hl
            case makeFunc fn _ _ => cases fn <;> rfl
            case slice _ _ _ _ mx => cases mx <;> rfl
            all_goals rfl
          rw [this _ (if rb.b x then bx else fun _ => none)]
          exact h0
        · right
          intro bx'
          have := h0 bx'
          rw [hl, Bool.and_false] at this ⊢
          exact this
      rcases kb with ⟨rfl, rfl⟩ | ⟨kc, rfl⟩ | ⟨_, rfl, kb⟩ | kb
      · exact h0'
      · rw [kc] at hcl
        simp only [Bool.not_eq_true'] at hcl
        cases hl : isLoad x.op
        · exact nold _ _ hl
        · rcases h0' with h0 | h0
          · exact .inl h0
          · right
            intro bx'
            have := h0 bx'
            rw [hcl] at this ⊢
            exact this
      · rcases h0' with h0 | h0
        · left
          cases h1 : rb.b x
          · rw [h1] at h0; exact h0
          · rw [h1] at h0; exact det1_mono h0 kb
        · exact .inr h0
      · rw [kb] at hcl
        simp only [Bool.not_eq_true'] at hcl
        cases hl : isLoad x.op
        · exact nold _ _ hl
        · rw [hl, Bool.and_true] at hcl
          simp only [Bool.or_eq_false_iff] at hcl
          rcases h0' with h0 | h0
          · left
            rw [hcl.1] at h0 ⊢
            exact h0
          · right
            intro bx'
            have := h0 bx'
            rw [hcl.2] at this ⊢
            exact this
    · -- a call or an append, and a new variable
      have hya : clsOf y.op = .alloc := by
        cases hy' : clsOf y.op <;> rw [hy'] at hcl <;> simp_all
      obtain ⟨hgn, t, d, ti, e1, e2, e3, e4, e5⟩ := haf hya
      have hgt : ∀ s, guardA ops s y = some true := fun s => by simp [guardA, hgn]
      refine ⟨y, hy, true, hgt _, ?_⟩
      simp only [if_true, hya]
      refine ⟨t, d, ti, e1, e2, e3, e4, e5, fun b => ?_⟩
      have hput : putD n s y.dst (.box d b 0) = some (upd s d (.box d b 0)) := by rw [e2]; exact putD_mk e4
      obtain ⟨k3, k4⟩ := gy hput
      refine ⟨x, hx, true, by simp only; rw [k3]; exact hg, ?_⟩
      simp only [if_true, hc]
      refine (h.congr fun z hz => (k4 z hz).symm).mono ?_
      rintro u ob' ⟨s1, h1, y', hy', g', hg', h2⟩
      rw [hy] at hy'
      cases hy'
      simp only at hg' h2
      rw [hgt] at hg'
      cases hg'
      simp only [if_true, hya] at h2
      obtain ⟨t', d', ti', f1, f2, f3, f4, f5, f6⟩ := h2
      rw [e2] at f2; cases f2
      rw [e1] at f1; cases f1
      rw [e3] at f3; cases f3
      have h4 : putD n s1 y.dst (.box d b 0) = some (upd s1 d (.box d b 0)) := by rw [e2]; exact putD_mk e4
      obtain ⟨s3, h6, h7⟩ := pc h1 h4
      rw [hput] at h6
      cases h6
      exact ⟨_, h7, f6 b⟩
    · -- two new variables
      have hya : clsOf y.op = .alloc := by
        cases hy' : clsOf y.op <;> rw [hy'] at hcl <;> simp_all
      obtain ⟨hgn, t, d, ti, e1, e2, e3, e4, e5⟩ := haf hya
      have hgt : ∀ s, guardA ops s y = some true := fun s => by simp [guardA, hgn]
      obtain ⟨tx, dx, tix, c1, c2, c3, c4, c5, c6⟩ := h
      have hne : dx ≠ d := fun e => a2 dx c2 (by rw [e2, e])
      refine ⟨y, hy, true, hgt _, ?_⟩
      simp only [if_true, hya]
      refine ⟨t, d, ti, e1, e2, e3, e4, e5, fun b => ?_⟩
      have hput : putD n s y.dst (.box d b 0) = some (upd s d (.box d b 0)) := by rw [e2]; exact putD_mk e4
      obtain ⟨k3, k4⟩ := gy hput
      refine ⟨x, hx, true, by simp only; rw [k3]; exact hg, ?_⟩
      simp only [if_true, hc]
      refine ⟨tx, dx, tix, c1, c2, c3, c4, by rw [upd_ne _ _ hne]; exact c5, fun bb => ?_⟩
      obtain ⟨y', hy', g', hg', h2⟩ := c6 bb
      rw [hy] at hy'
      cases hy'
      simp only at hg' h2
      rw [hgt] at hg'
      cases hg'
      simp only [if_true, hya] at h2
      obtain ⟨t', d', ti', f1, f2, f3, f4, f5, f6⟩ := h2
      rw [e2] at f2; cases f2
      rw [e1] at f1; cases f1
      rw [e3] at f3; cases f3
      have := f6 b
      rwa [upd_comm s _ _ hne, upd_comm bx _ _ hne] at this
    · cases hcl

/-! One canonical order serves all. -/
def AllocAll (T : TT) (ops : Array Oper) (listed : Array Bool) (st : PState) : Prop :=
  ∀ j y, ops[j]? = some y → listed.getD j true = false → clsOf y.op = .alloc → y.guard = none ∧ ∃ t d ti, y.op = .alloc t ∧ y.dst = some d ∧ T.get t = some ti ∧ d < st.n ∧ st.bx d = none

theorem getD_set_same {l : Array Bool} {i : Nat} (h : i < l.size) : (l.setIfInBounds i true).getD i true = true := by simp [h]

/-- Behind a step, what was asked of the new variables to come still holds. -/
theorem AStep.keep {i : Nat} {x : Oper} (hx : ops[i]? = some x) {st : PState} {K : PState → Prop} {listed : Array Bool} (haf : AllocAll T ops listed st) (hd : ∀ j y d, ops[j]? = some y → j ≠ i → clsOf y.op = .alloc → y.dst = some d → x.dst ≠ some d)
    (h : AStep P T rb ops i st K) : AStep P T rb ops i st fun st' => K st' ∧ AllocAll T ops (listed.setIfInBounds i true) st' := by
  have less : ∀ j, (listed.setIfInBounds i true).getD j true = false → listed.getD j true = false ∧ j ≠ i := by
    intro j hj
    by_cases e : i = j
    · subst e
      rcases Nat.lt_or_ge i listed.size with h | h
      · rw [getD_set_same h] at hj; cases hj
      · rw [Array.getD_eq_getD_getElem?, Array.getElem?_eq_none (by simpa using h)] at hj; cases hj
    · rw [getD_set_ne true e] at hj
      exact ⟨hj, fun h => e h.symm⟩
  have easy : ∀ s' ob', AllocAll T ops (listed.setIfInBounds i true) ⟨st.n, s', st.bx, ob'⟩ := fun s' ob' j y hy hl hc => haf j y hy (less j hl).1 hc
  obtain ⟨x', hx', g, hg, h⟩ := h
  rw [hx] at hx'
  cases hx'
  refine ⟨x, hx, g, hg, ?_⟩
  cases g
  · obtain ⟨s', h1, h2⟩ := h
    exact ⟨s', h1, h2, easy _ _⟩
  · simp only [if_true] at h ⊢
    cases hc : clsOf x.op <;> rw [hc] at h <;> simp only at h ⊢
    · obtain ⟨r, s', h1, h2, h3⟩ := h
      exact ⟨r, s', h1, h2, h3, easy _ _⟩
    · exact h.mono fun u ob' ⟨s', h1, h2⟩ => ⟨s', h1, h2, easy _ _⟩
    · obtain ⟨t, d, ti, h1, h2, h3, h4, h5, h6⟩ := h
      refine ⟨t, d, ti, h1, h2, h3, h4, h5, fun b => ⟨h6 b, fun j y hy hl hcy => ?_⟩⟩
      obtain ⟨hgn, t', d', ti', f1, f2, f3, f4, f5⟩ := haf j y hy (less j hl).1 hcy
      refine ⟨hgn, t', d', ti', f1, f2, f3, f4, ?_⟩
      simp only
      rw [upd_ne _ _ (fun e => hd j y d' hy (less j hl).2 hcy f2 (by rw [h2, e]))]
      exact f5
    · obtain ⟨h0, h⟩ := h
      rcases h with h | h
      case inr => exact ⟨h0, .inr (h.mono fun u ob' hK => ⟨hK, easy _ _⟩)⟩
      obtain ⟨t, xx, yy, ti, tag, b, off, cells, cs, e1, e2, e3, e4, e5, e6, e7, e8, e9⟩ := h
      refine ⟨h0, .inl ⟨t, xx, yy, ti, tag, b, off, cells, cs, e1, e2, e3, e4, e5, e6, e7, e8, e9, fun j y hy hl hcy => ?_⟩⟩
      obtain ⟨hgn, t', d', ti', f1, f2, f3, f4, f5⟩ := haf j y hy (less j hl).1 hcy
      refine ⟨hgn, t', d', ti', f1, f2, f3, f4, ?_⟩
      simp only
      rw [upd_ne _ _ (fun e => by rw [e, e4] at f5; cases f5)]
      exact f5

/-- What has been listed is closed under 'must come before'. -/
def Closed (ops : Array Oper) (listed : Array Bool) : Prop := ∀ (j : Nat) (o : Oper), ops[j]? = some o → listed.getD j false = true → ∀ e ∈ o.after, Region.binds .any e = true → listed.getD e.on false = true

/-- 'm' tells, bit by bit, what must come before each operation: held against the edges. -/
def masks (m : Array Nat) (o : Oper) : Nat := o.after.toList.foldr (fun e s => if Region.binds .any e then (2 ^ e.on ||| m.getD e.on 0) ||| s else s) 0

def masksOk (ops : Array Oper) (m : Array Nat) : Bool := (List.range ops.size).all fun j => match ops[j]? with
  | some o => Nat.beq (m.getD j 0 ||| masks m o) (masks m o)
  | none => true

theorem masks_bit {m : Array Nat} {k : Nat} : ∀ {l : List Edge}, (l.foldr (fun e s => if Region.binds .any e then (2 ^ e.on ||| m.getD e.on 0) ||| s else s) 0).testBit k = true →
    ∃ e ∈ l, Region.binds .any e = true ∧ (e.on = k ∨ (m.getD e.on 0).testBit k = true)
  | [], h => by simp at h
  | e :: l, h => by
    simp only [List.foldr_cons] at h
    split at h
    · rename_i hb
      rw [Nat.testBit_or, Nat.testBit_or, Bool.or_eq_true, Bool.or_eq_true] at h
      rcases h with (h | h) | h
      · rw [Nat.testBit_two_pow] at h
        exact ⟨e, by simp, hb, .inl (by simpa using h)⟩
      · exact ⟨e, by simp, hb, .inr h⟩
      · obtain ⟨e', h1, h2⟩ := masks_bit h
        exact ⟨e', by simp [h1], h2⟩
    · obtain ⟨e', h1, h2⟩ := masks_bit h
      exact ⟨e', by simp [h1], h2⟩

theorem masks_step {m : Array Nat} (hm : masksOk ops m = true) {j k : Nat} {o : Oper} (ho : ops[j]? = some o) (hk : (m.getD j 0).testBit k = true) : ∃ e ∈ o.after, Region.binds .any e = true ∧ (e.on = k ∨ (m.getD e.on 0).testBit k = true) := by
  have hj : j < ops.size := (Array.getElem?_eq_some_iff.1 ho).1
  have h1 := (List.all_eq_true.1 hm) j (by simpa using hj)
  rw [ho] at h1
  have h1 := Nat.eq_of_beq_eq_true h1
  have h2 : (m.getD j 0 ||| masks m o).testBit k = true := by rw [Nat.testBit_or, hk]; rfl
  rw [h1] at h2
  obtain ⟨e, he, h3⟩ := masks_bit h2
  exact ⟨e, by simpa using he, h3⟩

/-- What must come before a listed operation is listed. -/
theorem listed_before {m : Array Nat} (hm : masksOk ops m = true) {listed : Array Bool} (hcl : Closed ops listed) (hlt : ∀ (j : Nat) (o : Oper), ops[j]? = some o → ∀ e ∈ o.after, Region.binds .any e = true → e.on < j) :
    ∀ (j : Nat) (o : Oper) (k : Nat), ops[j]? = some o → (∀ e ∈ o.after, Region.binds .any e = true → listed.getD e.on false = true) → (m.getD j 0).testBit k = true → listed.getD k false = true := by
  intro j
  induction j using Nat.strongRecOn with
  | _ j ih =>
    intro o k ho hall hk
    obtain ⟨e, he, hb, h⟩ := masks_step hm ho hk
    have hl := hall e he hb
    rcases h with rfl | h
    · exact hl
    · have hej := hlt j o ho e he hb
      have hjs : j < ops.size := (Array.getElem?_eq_some_iff.1 ho).1
      have hes : e.on < ops.size := Nat.lt_trans hej hjs
      exact ih e.on hej ops[e.on] k (by simp [hes]) (fun e' he' hb' => hcl e.on ops[e.on] (by simp [hes]) hl e' he' hb') h

theorem AB_first {m : Array Nat} (hm : masksOk ops m = true) (hlt : ∀ (j : Nat) (o : Oper), ops[j]? = some o → ∀ e ∈ o.after, Region.binds .any e = true → e.on < j) (hdst : ∀ (i j : Nat) (x y : Oper) (d : Nat), ops[i]? = some x → ops[j]? = some y → i ≠ j → clsOf y.op = .alloc → y.dst = some d → x.dst ≠ some d)
    {K : PState → Prop} {i : Nat} {x : Oper} (hx : ops[i]? = some x) : ∀ (f : Nat) (listed : Array Bool) (st : PState), listed.toList.count false ≤ f + 1 → Closed ops listed → AllocAll T ops listed st →
      (∀ j y, ops[j]? = some y → listed.getD j true = false → j ≠ i → (m.getD j 0).testBit i = false → swapOk rb ops x y = true) → i ∈ Region.ready .any ops listed →
      AStep P T rb ops i st (AB P T rb ops K f (listed.setIfInBounds i true)) → AB P T rb ops K (f + 1) listed st := by
  intro f
  induction f with
  | zero =>
    intro listed st hcnt hcl haf hfree hr h
    refine ⟨fun h0 => (by rw [h0] at hr; cases hr), fun j hj => ?_⟩
    by_cases hji : j = i
    · subst hji; exact h
    · exfalso
      have h1 := (mem_ready.1 hr).1
      have h2 := (mem_ready.1 hj).1
      have two : ∀ (l : List Bool) (a b : Nat), a ≠ b → l[a]? = some false → l[b]? = some false → 2 ≤ l.count false := by
        intro l
        induction l with
        | nil => intro a b _ ha; simp at ha
        | cons c l ih =>
          intro a b hab ha hb
          have one : ∀ (l : List Bool) (a : Nat), l[a]? = some false → 1 ≤ l.count false := fun l a ha => List.one_le_count_iff.2 (List.mem_of_getElem? ha)
          cases a with
          | zero =>
            cases b with
            | zero => exact absurd rfl hab
            | succ b => simp at ha; subst ha; have h9 := one l b (by simpa using hb); rw [List.count_cons]; simp only [beq_self_eq_true, if_true]; omega
          | succ a =>
            cases b with
            | zero => simp at hb; subst hb; have h9 := one l a (by simpa using ha); rw [List.count_cons]; simp only [beq_self_eq_true, if_true]; omega
            | succ b =>
              have := ih a b (by omega) (by simpa using ha) (by simpa using hb)
              rw [List.count_cons]; omega
      have conv : ∀ k, listed.getD k true = false → listed.toList[k]? = some false := by
        intro k hk
        rw [Array.getD_eq_getD_getElem?] at hk
        rw [Array.getElem?_toList]
        cases hq : listed[k]? with
        | none => rw [hq] at hk; cases hk
        | some b => rw [hq] at hk; simp at hk; rw [hk]
      have := two listed.toList i j (fun e => hji e.symm) (conv i h1) (conv j h2)
      omega
  | succ f ih =>
    intro listed st hcnt hcl haf hfree hr h
    refine ⟨fun h0 => (by rw [h0] at hr; cases hr), fun j hj => ?_⟩
    by_cases hji : j = i
    · subst hji; exact h
    · obtain ⟨hjun, y, hy, hall⟩ := mem_ready.1 hj
      have hiun := (mem_ready.1 hr).1
      have hbit : (m.getD j 0).testBit i = false := by
        cases hb : (m.getD j 0).testBit i with
        | false => rfl
        | true =>
          have := listed_before hm hcl hlt j y i hy hall hb
          rw [Array.getD_eq_getD_getElem?] at this hiun
          cases hq : listed[i]? with
          | none => rw [hq] at this; cases this
          | some b => rw [hq] at this hiun; simp at this hiun; rw [this] at hiun; cases hiun
      have hsw := hfree j y hy hjun hji hbit
      have h1 : AStep P T rb ops i st fun st2 => AStep P T rb ops j st2 (AB P T rb ops K f ((listed.setIfInBounds i true).setIfInBounds j true)) :=
        h.mono fun st2 h2 => h2.2 j (ready_mono hj hji)
      have h2 := swap hx hy hsw (haf j y hy hjun) h1
      have h3 := AStep.keep hy (listed := listed) haf (fun k z d hz hk hc hd => hdst j k y z d hy hz (fun e => hk e.symm) hc hd) h2
      refine h3.mono fun st2 ⟨h4, h5⟩ => ?_
      rw [Array.setIfInBounds_comm _ _ (fun e => hji e.symm)] at h4
      have hjs : j < listed.size := by
        rcases Nat.lt_or_ge j listed.size with h | h
        · exact h
        · rw [Array.getD_eq_getD_getElem?, Array.getElem?_eq_none h] at hjun; cases hjun
      refine ih (listed.setIfInBounds j true) st2 ?_ ?_ h5 ?_ (ready_mono hr (fun e => hji e.symm)) h4
      · have hjf : listed.toList[j]'(by simpa using hjs) = false := by
          rw [Array.getD_eq_getD_getElem?, Array.getElem?_eq_getElem hjs] at hjun
          simpa using hjun
        have := List.count_set (a := true) (b := false) (l := listed.toList) (i := j) (by simpa using hjs)
        rw [hjf] at this
        have hpos : 1 ≤ listed.toList.count false := List.one_le_count_iff.2 (hjf ▸ List.getElem_mem _)
        have e2 : (listed.toList.set j true).count false = listed.toList.count false - 1 := this.trans rfl
        rw [Array.toList_setIfInBounds, e2]
        omega
      · intro k o ho hk e he hb
        by_cases hkj : j = k
        · subst hkj
          rw [hy] at ho
          cases ho
          have := hall e he hb
          by_cases hej : j = e.on
          · rw [← hej]; simp [hjs]
          · rw [getD_set_ne false hej]; exact this
        · rw [getD_set_ne false hkj] at hk
          have := hcl k o ho hk e he hb
          by_cases hej : j = e.on
          · rw [← hej]; simp [hjs]
          · rw [getD_set_ne false hej]; exact this
      · intro k z hz hk hki hbk
        by_cases hkj : j = k
        · subst hkj; simp [hjs] at hk
        · rw [getD_set_ne true hkj] at hk
          exact hfree k z hz hk hki hbk

/-- The steps, one behind the other. -/
def DOps (P : Program) (T : TT) (rb : RB) (ops : Array Oper) : List Nat → PState → (PState → Prop) → Prop
  | [], st, K => K st
  | k :: L, st, K => AStep P T rb ops k st fun st' => DOps P T rb ops L st' K

def canonOk (rb : RB) (ops : Array Oper) (m : Array Nat) : Array Bool → List Nat → Bool
  | listed, [] => listed.all id
  | listed, k :: L => (match ops[k]? with
      | some x => !listed.getD k true && x.after.all (fun e => !Region.binds .any e || listed.getD e.on false) &&
          (List.range ops.size).all fun j => listed.getD j true || Nat.beq j k || (m.getD j 0).testBit k || (match ops[j]? with | some y => swapOk rb ops x y | none => true)
      | none => false) && canonOk rb ops m (listed.setIfInBounds k true) L

def drawOk (rb : RB) (ops : Array Oper) (L : List Nat) : Bool :=
  masksOk ops (Region.before ops) && (List.range ops.size).all (fun j => match ops[j]? with
    | some o => o.after.all fun e => !Region.binds .any e || Nat.blt e.on j
    | none => true) &&
  (List.range ops.size).all (fun j => match ops[j]? with
    | some y => clsOf y.op != .alloc || (y.guard.isNone && y.dst.isSome && (List.range ops.size).all fun i => Nat.beq i j || (match ops[i]? with | some x => x.dst != y.dst | none => true))
    | none => true) &&
  canonOk rb ops (Region.before ops) (Array.replicate ops.size false) L

theorem AB_lex {m : Array Nat} (hm : masksOk ops m = true) (hlt : ∀ (j : Nat) (o : Oper), ops[j]? = some o → ∀ e ∈ o.after, Region.binds .any e = true → e.on < j) (hdst : ∀ (i j : Nat) (x y : Oper) (d : Nat), ops[i]? = some x → ops[j]? = some y → i ≠ j → clsOf y.op = .alloc → y.dst = some d → x.dst ≠ some d)
    {K : PState → Prop} : ∀ (L : List Nat) (listed : Array Bool) (st : PState), listed.size = ops.size → listed.toList.count false ≤ L.length → Closed ops listed → AllocAll T ops listed st → canonOk rb ops m listed L = true → DOps P T rb ops L st K → AB P T rb ops K L.length listed st
  | [], listed, st, hsz, hcnt, hcl, haf, hc, h => by
    refine ⟨?_, h⟩
    simp only [canonOk] at hc
    cases hr : Region.ready .any ops listed with
    | nil => rfl
    | cons j r =>
      have hj := (mem_ready.1 (show j ∈ Region.ready .any ops listed from by rw [hr]; simp)).1
      rw [Array.getD_eq_getD_getElem?] at hj
      cases hq : listed[j]? with
      | none => rw [hq] at hj; cases hj
      | some b =>
        rw [hq] at hj
        simp at hj
        subst hj
        have := (Array.all_eq_true_iff_forall_mem.1 hc) false (Array.mem_of_getElem? hq)
        cases this
  | k :: L, listed, st, hsz, hcnt, hcl, haf, hc, h => by
    simp only [canonOk, Bool.and_eq_true] at hc
    obtain ⟨hk, hc'⟩ := hc
    cases hx : ops[k]? with
    | none => rw [hx] at hk; cases hk
    | some x =>
      rw [hx] at hk
      simp only [Bool.and_eq_true, Bool.not_eq_true'] at hk
      obtain ⟨⟨h1, h2⟩, h3⟩ := hk
      have hks : k < listed.size := by
        rw [hsz]; exact (Array.getElem?_eq_some_iff.1 hx).1
      have hall : ∀ e ∈ x.after, Region.binds .any e = true → listed.getD e.on false = true := by
        intro e he hb
        have := (Array.all_eq_true_iff_forall_mem.1 h2) e he
        rw [hb] at this
        simpa using this
      have hr : k ∈ Region.ready .any ops listed := mem_ready.2 ⟨h1, x, hx, hall⟩
      have hkf : listed.toList[k]'(by simpa using hks) = false := by
        rw [Array.getD_eq_getD_getElem?, Array.getElem?_eq_getElem hks] at h1
        simpa using h1
      have hcount := List.count_set (a := true) (b := false) (l := listed.toList) (i := k) (by simpa using hks)
      rw [hkf] at hcount
      have hpos : 1 ≤ listed.toList.count false := List.one_le_count_iff.2 (hkf ▸ List.getElem_mem _)
      have hcl' : Closed ops (listed.setIfInBounds k true) := by
        intro j o ho hj e he hb
        by_cases hkj : k = j
        · subst hkj
          rw [hx] at ho
          cases ho
          have := hall e he hb
          by_cases hej : k = e.on
          · rw [← hej]; simp [hks]
          · rw [getD_set_ne false hej]; exact this
        · rw [getD_set_ne false hkj] at hj
          have := hcl j o ho hj e he hb
          by_cases hej : k = e.on
          · rw [← hej]; simp [hks]
          · rw [getD_set_ne false hej]; exact this
      simp only [DOps] at h
      have h4 := AStep.keep hx (listed := listed) haf (fun j y d hy hj hcy hd => hdst k j x y d hx hy (fun e => hj e.symm) hcy hd) h
      refine AB_first hm hlt hdst hx L.length listed st (by simpa using hcnt) hcl haf ?_ hr (h4.mono fun st' ⟨h5, h6⟩ => AB_lex hm hlt hdst L _ st' (by simpa using hsz) ?_ hcl' h6 hc' h5)
      · intro j y hy hj hjk hb
        have hjs : j < ops.size := (Array.getElem?_eq_some_iff.1 hy).1
        have := (List.all_eq_true.1 h3) j (by simpa using hjs)
        rw [hj, hb, hy] at this
        have hne : Nat.beq j k = false := by cases hq : Nat.beq j k with
          | false => rfl
          | true => exact absurd (Nat.eq_of_beq_eq_true hq) hjk
        rw [hne] at this
        simpa using this
      · have e2 : (listed.toList.set k true).count false = listed.toList.count false - 1 := hcount.trans rfl
        rw [Array.toList_setIfInBounds, e2]
        simp only [List.length_cons] at hcnt
        omega

theorem V.draw {fn : Func} {R : PV → Heap → Prop} {k : List KI} {n : Nat} {s : Nat → PV} {bx : Nat → Option Box} {ob : Nat → Option Obj} (hT : T.Ok P) (hmix : P.follows .mixedOrders = true) (rb : RB) (L : List Nat) {id : Nat} {ops : Array Oper} (hL : L.length = ops.size)
    (hok : drawOk rb ops L = true) (hal : (ops.toList.all fun o => match o.op with | .alloc t => (match o.dst with | some d => Nat.blt d n && (bx d).isNone && (T.get t).isSome | none => false) | _ => true) = true)
    (h : DOps P T rb ops L ⟨n, s, bx, ob⟩ fun st' => V P fn R k st') : V P fn R (.code (.region id ops true) :: k) ⟨n, s, bx, ob⟩ := by
  intro C M a w hi
  simp only [after]
  refine wp_region_any hmix ?_
  simp only [drawOk, Bool.and_eq_true] at hok
  obtain ⟨⟨⟨h1, h2⟩, h3⟩, h4⟩ := hok
  have hlt : ∀ (j : Nat) (o : Oper), ops[j]? = some o → ∀ e ∈ o.after, Region.binds .any e = true → e.on < j := by
    intro j o ho e he hb
    have hj : j < ops.size := (Array.getElem?_eq_some_iff.1 ho).1
    have := (List.all_eq_true.1 h2) j (by simpa using hj)
    rw [ho] at this
    have := (Array.all_eq_true_iff_forall_mem.1 this) e he
    rw [hb] at this
    simpa [Nat.blt_eq] using this
  have hdst : ∀ (i j : Nat) (x y : Oper) (d : Nat), ops[i]? = some x → ops[j]? = some y → i ≠ j → clsOf y.op = .alloc → y.dst = some d → x.dst ≠ some d := by
    intro i j x y d hx hy hij hc hd e
    have hj : j < ops.size := (Array.getElem?_eq_some_iff.1 hy).1
    have hi : i < ops.size := (Array.getElem?_eq_some_iff.1 hx).1
    have := (List.all_eq_true.1 h3) j (by simpa using hj)
    rw [hy] at this
    simp only [hc, bne_self_eq_false, Bool.false_or, Bool.and_eq_true] at this
    have := (List.all_eq_true.1 this.2) i (by simpa using hi)
    rw [hx] at this
    have hne : Nat.beq i j = false := by cases hq : Nat.beq i j with
      | false => rfl
      | true => exact absurd (Nat.eq_of_beq_eq_true hq) hij
    simp only [hne, Bool.false_or] at this
    simp [e, hd] at this
  have haf : AllocAll T ops (Array.replicate ops.size false) ⟨n, s, bx, ob⟩ := by
    intro j y hy _ hc
    have hj : j < ops.size := (Array.getElem?_eq_some_iff.1 hy).1
    have a1 := (List.all_eq_true.1 h3) j (by simpa using hj)
    rw [hy] at a1
    simp only [hc, bne_self_eq_false, Bool.false_or, Bool.and_eq_true] at a1
    have a2 := (List.all_eq_true.1 hal) y (by simpa using Array.mem_of_getElem? hy)
    have hop : ∃ t, y.op = .alloc t := by
      cases ho : y.op <;> rw [ho] at hc <;> first
        | exact ⟨_, rfl⟩
        | (simp [clsOf] at hc; done)
        | (unfold clsOf at hc; split at hc <;> simp_all)
    obtain ⟨t, ht⟩ := hop
    rw [ht] at a2
    simp only at a2
    cases hd : y.dst with
    | none => rw [hd] at a2; cases a2
    | some d =>
      rw [hd] at a2
      simp only [Bool.and_eq_true, Option.isNone_iff_eq_none] at a2
      obtain ⟨⟨b1, b2⟩, b3⟩ := a2
      obtain ⟨ti, hti⟩ := Option.isSome_iff_exists.1 b3
      exact ⟨by simpa using a1.1.1, t, d, ti, ht, rfl, hti, by simpa [Nat.blt_eq] using b1, b2⟩
  have hAB := AB_lex (P := P) h1 hlt hdst L (Array.replicate ops.size false) ⟨n, s, bx, ob⟩ (by simp) (by simp [hL]) (fun j o _ hj => by
    rw [Array.getD_eq_getD_getElem?, Array.getElem?_replicate] at hj
    split at hj <;> simp at hj) haf h4 h
  have hfin := AB.sound hT (C := C) (K := fun st' => V P fn R k st') (fun st M a w hV hi => hV C M a w hi) L.length (Array.replicate ops.size false) _ M a _ hAB ⟨hi.1, hi.2.drew⟩
  rw [hL] at hfin
  exact hfin
end
end Go.Ab
/- The abstract layer, part M: the steps of a region that draws its order. -/
namespace Go.Ab

/-- One quiet operation of such a region, or one that its guard shuts out. -/
def dstep (T : TT) (rb : RB) (ops : Array Oper) (k n : Nat) (s : Nat → PV) (bx : Nat → Option Box) : Option (Nat → PV) :=
  match ops[k]? with
  | some o => match guardA ops s o with
    | some true => match clsOf o.op with
      | .det => match det1 T (if rb.b o then bx else fun _ => none) o.op (evS s) with
        | some r0 => match force r0 with
          | some r => putD n s o.dst r
          | none => none
        | none => none
      | _ => none
    | some false => putD n s o.dst undefPV
    | none => none
  | none => none

section
variable {P : Program} {T : TT} {rb : RB} {ops : Array Oper} {k : Nat} {L : List Nat} {n : Nat} {s s' : Nat → PV} {bx : Nat → Option Box} {ob : Nat → Option Obj} {K : PState → Prop} {o : Oper}

theorem AOps.quo {rest : List Oper} (hT : T.Ok P) (hg : guardA ops s o = some true) {t t' : TypeId} {x y : Operand} (ho : o.op = .binOp .quo t x y t') {kk : IntKind} {a b : Int} (hx : evS s x = .val (.int kk a)) (hy : evS s y = .val (.int kk b)) (hb : b ≠ 0)
    (hp : putD n s o.dst (.val (.int kk (kk.wrap (a.tdiv b)))) = some s') (h : AOps P ops rest ⟨n, s', bx, ob⟩ K) : AOps P ops (o :: rest) ⟨n, s, bx, ob⟩ K := by
  refine AOps.det hT hg (r := .val (.int kk (kk.wrap (a.tdiv b)))) ?_ hp h
  rw [ho]
  simp [det0, qbin, hx, hy, hb]

theorem AOps.rem {rest : List Oper} (hT : T.Ok P) (hg : guardA ops s o = some true) {t t' : TypeId} {x y : Operand} (ho : o.op = .binOp .rem t x y t') {kk : IntKind} {a b : Int} (hx : evS s x = .val (.int kk a)) (hy : evS s y = .val (.int kk b)) (hb : b ≠ 0)
    (hp : putD n s o.dst (.val (.int kk (a.tmod b))) = some s') (h : AOps P ops rest ⟨n, s', bx, ob⟩ K) : AOps P ops (o :: rest) ⟨n, s, bx, ob⟩ K := by
  refine AOps.det hT hg (r := .val (.int kk (a.tmod b))) ?_ hp h
  rw [ho]
  simp [det0, qbin, hx, hy, hb]

/-- The concatenation of two strings. -/
theorem AOps.cat {rest : List Oper} (hT : T.Ok P) (hg : guardA ops s o = some true) {t t' : TypeId} {x y : Operand} (ho : o.op = .binOp .add t x y t') {a b : List UInt8} (hx : evS s x = .str a) (hy : evS s y = .str b) (hb : a.length + b.length ≤ maxStr)
    (hp : putD n s o.dst (.str (a ++ b)) = some s') (h : AOps P ops rest ⟨n, s', bx, ob⟩ K) : AOps P ops (o :: rest) ⟨n, s, bx, ob⟩ K := by
  refine AOps.det hT hg (r := .str (a ++ b)) ?_ hp h
  rw [ho]
  simp [det0, qbin, hx, hy, hb]

theorem DOps.cat (ho : ops[k]? = some o) (hg : guardA ops s o = some true) {t t' : TypeId} {x y : Operand} (hop : o.op = .binOp .add t x y t') {a b : List UInt8} (hx : evS s x = .str a) (hy : evS s y = .str b) (hb : a.length + b.length ≤ maxStr)
    (hp : putD n s o.dst (.str (a ++ b)) = some s') (h : DOps P T rb ops L ⟨n, s', bx, ob⟩ K) : DOps P T rb ops (k :: L) ⟨n, s, bx, ob⟩ K := by
  refine ⟨o, ho, true, hg, ?_⟩
  have hc : clsOf o.op = .det := by rw [hop]; rfl
  simp only [if_true, hc]
  exact ⟨.str (a ++ b), s', .inl (by rw [hop]; simp [det1, det0, qbin, hx, hy, hb]), hp, h⟩

/-- For tactics: asks whether the guard lets the operation be carried out. -/
theorem AOps.decided {rest : List Oper} (_hg : guardA ops s o = some true) (h : AOps P ops (o :: rest) ⟨n, s, bx, ob⟩ K) : AOps P ops (o :: rest) ⟨n, s, bx, ob⟩ K := h

theorem DOps.decided (_ho : ops[k]? = some o) (_hg : guardA ops s o = some true) (h : DOps P T rb ops (k :: L) ⟨n, s, bx, ob⟩ K) : DOps P T rb ops (k :: L) ⟨n, s, bx, ob⟩ K := h

theorem DOps.nil {st : PState} (h : K st) : DOps P T rb ops [] st K := h

theorem DOps.q (hs : dstep T rb ops k n s bx = some s') (h : DOps P T rb ops L ⟨n, s', bx, ob⟩ K) : DOps P T rb ops (k :: L) ⟨n, s, bx, ob⟩ K := by
  unfold dstep at hs
  split at hs
  · rename_i o ho
    split at hs
    · rename_i hg
      split at hs
      · rename_i hc
        split at hs
        · rename_i r0 hd
          rw [force_eq] at hs
          refine ⟨o, ho, true, hg, ?_⟩
          simp only [if_true, hc]
          exact ⟨r0, s', .inl hd, hs, h⟩
        · cases hs
      · cases hs
    · rename_i hg
      refine ⟨o, ho, false, hg, ?_⟩
      simp only [Bool.false_eq_true, if_false]
      exact ⟨s', hs, h⟩
    · cases hs
  · cases hs

/-- A quiet operation whose value is shown by hand. -/
theorem DOps.by (ho : ops[k]? = some o) (hg : guardA ops s o = some true) (hc : clsOf o.op = .det) {r : PV} (hd : det1 T (if rb.b o then bx else fun _ => none) o.op (evS s) = some r) (hp : putD n s o.dst r = some s')
    (h : DOps P T rb ops L ⟨n, s', bx, ob⟩ K) : DOps P T rb ops (k :: L) ⟨n, s, bx, ob⟩ K := by
  refine ⟨o, ho, true, hg, ?_⟩
  simp only [if_true, hc]
  exact ⟨r, s', .inl hd, hp, h⟩

theorem DOps.loadBox (ho : ops[k]? = some o) (hrb : rb.b o = true) (hg : guardA ops s o = some true) {t : TypeId} {x : Operand} (hop : o.op = .load t x) {ti : TInfo} (hti : T.get t = some ti) {tag b off : Nat} {cells : List PV}
    (hx : evS s x = .box tag b off) (hb : bx tag = some ⟨b, cells⟩) {r : PV} (hr : (readCells ti off cells).bind force = some r) (hp : putD n s o.dst r = some s')
    (h : DOps P T rb ops L ⟨n, s', bx, ob⟩ K) : DOps P T rb ops (k :: L) ⟨n, s, bx, ob⟩ K := by
  have hr' : readCells ti off cells = some r := by
    cases hq : readCells ti off cells with
    | none => simp [hq] at hr
    | some q => rw [hq, Option.bind_some, force_eq] at hr; exact hr
  refine DOps.by ho hg (by rw [hop]; rfl) (r := r) ?_ hp h
  rw [hop, hrb]
  simp [det1, det0, hti, hx, loadPV, hb, hr']

theorem DOps.idx (ho : ops[k]? = some o) (hg : guardA ops s o = some true) {t : TypeId} {x i : Operand} (hop : o.op = .indexAddr t x i) {ti : TInfo} (hti : T.get t = some ti) {e : TypeId} (hd : ti.desc = .slice e) {rows : List (List PV)} (hx : evS s x = .list e rows) {kk : IntKind} {j : Int}
    (hi : evS s i = .val (.int kk j)) {r : List PV} (h0 : 0 ≤ j) (hr : rows[j.toNat]? = some r) (hp : putD n s o.dst (.ptr r) = some s') (h : DOps P T rb ops L ⟨n, s', bx, ob⟩ K) : DOps P T rb ops (k :: L) ⟨n, s, bx, ob⟩ K := by
  refine DOps.by ho hg (by rw [hop]; rfl) (r := .ptr r) ?_ hp h
  rw [hop]
  simp [det1, det0, hti, hx, hi, hd, h0, hr]

/-- So many quiet steps at once. -/
def dsteps (T : TT) (rb : RB) (ops : Array Oper) (n : Nat) (bx : Nat → Option Box) : Nat → List Nat → (Nat → PV) → Option (List Nat × (Nat → PV))
  | 0, l, s => some (l, s)
  | k + 1, o :: l, s => match dstep T rb ops o n s bx with
    | some s' => dsteps T rb ops n bx k l s'
    | none => none
  | _ + 1, [], _ => none
theorem DOps.qs : ∀ (k : Nat) {l rest : List Nat} {s s' : Nat → PV} (_ : dsteps T rb ops n bx k l s = some (rest, s')) (_ : DOps P T rb ops rest ⟨n, s', bx, ob⟩ K), DOps P T rb ops l ⟨n, s, bx, ob⟩ K
  | 0, l, rest, s, s', h, hk => by
    simp only [dsteps, Option.some.injEq, Prod.mk.injEq] at h
    rw [h.1, h.2]
    exact hk
  | k + 1, [], rest, s, s', h, hk => by cases h
  | k + 1, o :: l, rest, s, s', h, hk => by
    rw [dsteps] at h
    cases hq : dstep T rb ops o n s bx with
    | none => rw [hq] at h; cases h
    | some s1 =>
      rw [hq] at h
      exact DOps.q hq (DOps.qs k h hk)

theorem DOps.split {j : Nat} {want b : Bool} {d : Nat} (_ho : ops[k]? = some o) (_hg : o.guard = some (j, want)) (_hd : (ops[j]?).bind (·.dst) = some d) (hs : s d = .val (.bool b))
    (ht : b = true → DOps P T rb ops (k :: L) ⟨n, upd s d (.val (.bool true)), bx, ob⟩ K) (hf : b = false → DOps P T rb ops (k :: L) ⟨n, upd s d (.val (.bool false)), bx, ob⟩ K) : DOps P T rb ops (k :: L) ⟨n, s, bx, ob⟩ K := by
  cases b
  · have := hf rfl; rwa [upd_self _ _ _ hs] at this
  · have := ht rfl; rwa [upd_self _ _ _ hs] at this

theorem DOps.callP (ho : ops[k]? = some o) (hg : guardA ops s o = some true) {fx : Operand} {asQ : Array Operand} {ts : Array TypeId} (hop : o.op = .call { callee := .value fx, args := asQ, argTypes := ts }) {g : FuncId} {caps : List PV}
    (hf : evS s fx = .fn g caps) (hcall : ∀ vs w, (callFunc g vs).run P w = .ok (.enter g vs) w) {args : List PV} (hle : PLeAll P (asQ.toList.map (evS s) ++ caps) args) {r : PV} (hc : PFun P g args r)
    (hp : putD n s o.dst r = some s') (h : DOps P T rb ops L ⟨n, s', bx, ob⟩ K) : DOps P T rb ops (k :: L) ⟨n, s, bx, ob⟩ K := by
  refine ⟨o, ho, true, hg, ?_⟩
  simp only [if_true, hop, clsOf]
  exact fun bx' => eff_callP hop hf hcall hle hc ⟨rfl, s', hp, h⟩

theorem DOps.callO (ho : ops[k]? = some o) (hg : guardA ops s o = some true) {fx : Operand} {asQ : Array Operand} {ts : Array TypeId} (hop : o.op = .call { callee := .value fx, args := asQ, argTypes := ts }) {g : FuncId} {caps : List PV}
    (hf : evS s fx = .fn g caps) (hcall : ∀ vs w, (callFunc g vs).run P w = .ok (.enter g vs) w) {args : List PV} (hle : PLeAll P (asQ.toList.map (evS s) ++ caps) args) {d : Nat} (hd : o.dst = some d) (hlt : Nat.blt d n = true) {e : TypeId} {rows : List (List PV)} (hc : PCalls P g args (OwnR d e rows))
    (h : ∀ q, DOps P T rb ops L ⟨n, upd s d (.own d q rows.length), bx, upd ob d (some ⟨q, e, rows, true⟩)⟩ K) : DOps P T rb ops (k :: L) ⟨n, s, bx, ob⟩ K := by
  refine ⟨o, ho, true, hg, ?_⟩
  simp only [if_true, hop, clsOf]
  intro bx'
  refine eff_call hop hf hcall hle hc fun u H' ⟨q, hu, hH⟩ => ?_
  subst hu
  subst hH
  rw [Heap.over_one]
  exact ⟨rfl, _, by simp [hd, putD, hlt], h q⟩

theorem DOps.appendO (hT : T.Ok P) (ho : ops[k]? = some o) (hg : guardA ops s o = some true) {x y : Operand} {t : TypeId} (hop : o.op = .call { callee := .builtin .append, args := #[x, y], argTypes := #[t, t] }) {d : Nat} (hdst : o.dst = some d) (hlt : Nat.blt d n = true) {ti ei : TInfo} {e : TypeId} (hti : T.get t = some ti) (hd : ti.desc = .slice e) (hei : T.get e = some ei)
    (hz : Nat.beq ei.zero.cells.size ei.size = true) (hsz : Nat.blt 0 ei.size = true) {tag : Nat} {g : OwnRef} {len : Nat} {rows rows2 : List (List PV)} {wr : Bool} (hx : evS s x = .own tag g len) (hob : ob tag = some ⟨g, e, rows, wr⟩) (hlen : len = rows.length) (hy : evS s y = .list e rows2)
    (hby : (rows.length + rows2.length) * ei.bytes ≤ 2 ^ 47) (hmx : rows.length + rows2.length ≤ maxLen) (h : ∀ g', DOps P T rb ops L ⟨n, upd s d (.own tag g' (rows ++ rows2).length), bx, upd ob tag (some ⟨g', e, rows ++ rows2, wr⟩)⟩ K) : DOps P T rb ops (k :: L) ⟨n, s, bx, ob⟩ K := by
  refine ⟨o, ho, true, hg, ?_⟩
  simp only [if_true, hop, clsOf]
  exact fun bx' => eff_appendO hT hop hti hd hei hz hsz hx hob hlen hy hby hmx fun g' => ⟨rfl, _, by simp [hdst, putD, hlt], h g'⟩

theorem DOps.appendN (hT : T.Ok P) (ho : ops[k]? = some o) (hg : guardA ops s o = some true) {x y : Operand} {t : TypeId} (hop : o.op = .call { callee := .builtin .append, args := #[x, y], argTypes := #[t, t] }) {d : Nat} (hdst : o.dst = some d) (hlt : Nat.blt d n = true) {ti ei : TInfo} {e : TypeId} (hti : T.get t = some ti) (hd : ti.desc = .slice e) (hei : T.get e = some ei)
    (hz : Nat.beq ei.zero.cells.size ei.size = true) (hsz : Nat.blt 0 ei.size = true) {rows2 : List (List PV)} (hx : evS s x = .val (.slice none 0 0)) (hy : evS s y = .list e rows2)
    (h : ∀ g', DOps P T rb ops L ⟨n, upd s d (.own d g' rows2.length), bx, upd ob d (some ⟨g', e, rows2, true⟩)⟩ K) : DOps P T rb ops (k :: L) ⟨n, s, bx, ob⟩ K := by
  refine ⟨o, ho, true, hg, ?_⟩
  simp only [if_true, hop, clsOf]
  exact fun bx' => eff_appendN hT hop hti hd hei hz hsz d hx hy fun g' => ⟨rfl, _, by simp [hdst, putD, hlt], h g'⟩

theorem DOps.alloc (ho : ops[k]? = some o) (hg : guardA ops s o = some true) {t : TypeId} (hop : o.op = .alloc t) {d : Nat} (hd : o.dst = some d) {ti : TInfo} (hti : T.get t = some ti) {cs : List PV} (hc : forceL (zeroPV ti) = some cs) (hlt : Nat.blt d n = true) (hbx : bx d = none)
    (h : ∀ b, DOps P T rb ops L ⟨n, upd s d (.box d b 0), upd bx d (some ⟨b, cs⟩), ob⟩ K) : DOps P T rb ops (k :: L) ⟨n, s, bx, ob⟩ K := by
  rw [forceL_eq, Option.some.injEq] at hc
  subst hc
  refine ⟨o, ho, true, hg, ?_⟩
  simp only [if_true, hop, clsOf]
  exact ⟨t, d, ti, rfl, hd, hti, by simpa [Nat.blt_eq] using hlt, hbx, h⟩

theorem DOps.storeBox (ho : ops[k]? = some o) (hg : guardA ops s o = some true) {t : TypeId} {x y : Operand} (hop : o.op = .store t x y) (hd : o.dst = none) {ti : TInfo} (hti : T.get t = some ti) {tag b off : Nat} {cells : List PV} (hx : evS s x = .box tag b off) (hb : bx tag = some ⟨b, cells⟩)
    {cs : List PV} (hc : (cellsPV (evS s y)).bind forceL = some cs) (h1 : cs.all PV.one = true) (hl : Nat.beq cs.length ti.size = true) (hle : Nat.ble (off + ti.size) cells.length = true)
    {cells' : List PV} (hf : forceL (splice cells off cs) = some cells') (h : DOps P T rb ops L ⟨n, s, upd bx tag (some ⟨b, cells'⟩), ob⟩ K) : DOps P T rb ops (k :: L) ⟨n, s, bx, ob⟩ K := by
  have hc' : cellsPV (evS s y) = some cs := by
    cases hq : cellsPV (evS s y) with
    | none => simp [hq] at hc
    | some q => rw [hq, Option.bind_some, forceL_eq] at hc; exact hc
  rw [forceL_eq, Option.some.injEq] at hf
  subst hf
  refine ⟨o, ho, true, hg, ?_⟩
  simp only [if_true, hop, clsOf]
  exact ⟨hd, .inl ⟨t, x, y, ti, tag, b, off, cells, cs, rfl, hti, hx, hb, hc', h1, Nat.eq_of_beq_eq_true hl, Nat.le_of_ble_eq_true hle, h⟩⟩

theorem V.strF {fn : Func} {R : PV → Heap → Prop} {ks : List KI} (d : Nat) {l : List UInt8} (hs : s d = .str l) (h : l.length ≤ maxStr → V P fn R ks ⟨n, s, bx, ob⟩) : V P fn R ks ⟨n, s, bx, ob⟩ :=
  V.fact (Q := l.length ≤ maxStr) d hs (fun _ _ hx => by simp only [Rep] at hx; exact hx.2) h

theorem RepAll.mem {M : Mem} {b : Bool} : ∀ {ps : List PV} {xs : List Value}, RepAll P M b ps xs → ∀ p ∈ ps, ∃ x, Rep P M b p x
  | [], _, _, p, hp => by simp at hp
  | q :: ps, _, h, p, hp => by
    simp only [RepAll] at h
    obtain ⟨x, xs, rfl, h2, h3⟩ := h
    rcases List.mem_cons.1 hp with rfl | hp
    · exact ⟨x, h2⟩
    · exact h3.mem p hp

/-- What is known of a list that a slot holds: of its cells. -/
theorem V.listF {fn : Func} {R : PV → Heap → Prop} {ks : List KI} (d : Nat) {e : TypeId} {rows : List (List PV)} (hs : s d = .list e rows) {Q : PV → Prop} (hq : ∀ M x p, Rep P M false p x → Q p)
    (h : (∀ r ∈ rows, ∀ p ∈ r, Q p) → V P fn R ks ⟨n, s, bx, ob⟩) : V P fn R ks ⟨n, s, bx, ob⟩ :=
  V.fact (Q := ∀ r ∈ rows, ∀ p ∈ r, Q p) d hs (fun M x hx r hr p hp => by
    simp only [Rep] at hx
    obtain ⟨a, c, i, _, _, _, _, _, h6⟩ := hx
    obtain ⟨b, o, _, h7⟩ := h6 (List.ne_nil_of_mem hr)
    obtain ⟨j, hj⟩ := List.mem_iff_getElem?.1 hr
    obtain ⟨xs, h8, _, _⟩ := (h7.get j r hj).2.vals
    obtain ⟨y, hy⟩ := h8.mem p hp
    exact hq M y p hy) h

/-- The strings in the rows of a list that a slot holds. -/
theorem V.textF {fn : Func} {R : PV → Heap → Prop} {ks : List KI} (d : Nat) {e : TypeId} {rows : List (List PV)} (hs : s d = .list e rows)
    (h : (∀ r ∈ rows, ∀ l, PV.str l ∈ r → l.length ≤ maxStr) → V P fn R ks ⟨n, s, bx, ob⟩) : V P fn R ks ⟨n, s, bx, ob⟩ :=
  V.listF d hs (Q := fun p => ∀ l, p = .str l → l.length ≤ maxStr) (fun M x p hp l e => by subst e; simp only [Rep] at hp; exact hp.2) fun hq => h fun r hr l hl => hq r hr _ hl l rfl

theorem V.nilO {fn : Func} {R : PV → Heap → Prop} {ks : List KI} (hT : T.Ok P) (d tag : Nat) {e : TypeId} {ei : TInfo} (hei : T.get e = some ei) (hs : s d = .val (.slice none 0 0))
    (h : V P fn R ks ⟨n, upd s d (.own tag ⟨none, 0⟩ 0), bx, upd ob tag (some ⟨⟨none, 0⟩, e, [], true⟩)⟩) : V P fn R ks ⟨n, s, bx, ob⟩ :=
  V.gh (Gh.nilO hT d tag hei hs) h

theorem V.freezeO {fn : Func} {R : PV → Heap → Prop} {ks : List KI} (d : Nat) {tag : Nat} {g : OwnRef} {len : Nat} {e : TypeId} {rows : List (List PV)} {wr : Bool} (hs : s d = .own tag g len) (hob : ob tag = some ⟨g, e, rows, wr⟩) (hlen : len = rows.length)
    (h : V P fn R ks ⟨n, upd s d (.list e rows), bx, upd ob tag (some ⟨g, e, rows, false⟩)⟩) : V P fn R ks ⟨n, s, bx, ob⟩ :=
  V.gh (Gh.freezeO d hs hob hlen) h

theorem V.freezeB {fn : Func} {R : PV → Heap → Prop} {ks : List KI} (d : Nat) {tag b : Nat} {cells : List PV} (hs : s d = .box tag b 0) (hb : bx tag = some ⟨b, cells⟩) (hf : PV.frozL cells = true) (h1 : cells.all PV.one = true)
    (h : V P fn R ks ⟨n, upd s d (.ptr cells), upd bx tag none, ob⟩) : V P fn R ks ⟨n, s, bx, ob⟩ :=
  V.gh (Gh.freezeB d hs hb hf h1) h
end
end Go.Ab
/- The abstract layer, part N: weakening at both levels, inside frozen memory too. -/
namespace Go.Ab

/-- Whatever the first represents, the second represents: in a slot, and in memory. -/
def PLe2 (P : Program) (p q : PV) : Prop := ∀ M s x, Rep P M s p x → Rep P M s q x
def PLe2All (P : Program) (ps qs : List PV) : Prop := ∀ M s xs, RepAll P M s ps xs → RepAll P M s qs xs
def PLe2Row (P : Program) (ps qs : List PV) : Prop := ps.length = qs.length ∧ ∀ M b o, RepAt P M b o ps → RepAt P M b o qs
def PLe2Rows (P : Program) (rs qs : List (List PV)) : Prop := rs.length = qs.length ∧ ∀ M k b o, RepRows P M k b o rs → RepRows P M k b o qs

section
variable {P : Program}
theorem PLe2.refl (p : PV) : PLe2 P p p := fun _ _ _ h => h
theorem PLe2.of_eq {p q : PV} (h : p = q) : PLe2 P p q := h ▸ PLe2.refl p
theorem PLe2.nil {T : TT} (hT : T.Ok P) {e : TypeId} {ti : TInfo} (hti : T.get e = some ti) : PLe2 P (.val (.slice none 0 0)) (.list e []) := fun M s x h => by
  obtain ⟨i, hi, _⟩ := (hT.get hti).info
  simp only [Rep] at h ⊢
  subst h
  exact ⟨none, 0, i, by simp, by simp, by simp, hi, by simp, by simp⟩
theorem PLe2.agg {ps qs : List PV} (h : PLe2All P ps qs) : PLe2 P (.agg ps) (.agg qs) := fun M s x hx => by
  simp only [Rep] at hx ⊢
  obtain ⟨cs, rfl, hc⟩ := hx
  exact ⟨cs, rfl, h M s _ hc⟩
theorem PLe2.tup {ps qs : List PV} (h : PLe2All P ps qs) : PLe2 P (.tup ps) (.tup qs) := fun M s x hx => by
  simp only [Rep] at hx ⊢
  obtain ⟨cs, rfl, hc⟩ := hx
  exact ⟨cs, rfl, h M s _ hc⟩
theorem PLe2.ptr {ps qs : List PV} (h : PLe2Row P ps qs) : PLe2 P (.ptr ps) (.ptr qs) := fun M s x hx => by
  simp only [Rep] at hx ⊢
  obtain ⟨b, o, rfl, hc⟩ := hx
  exact ⟨b, o, rfl, h.2 M b o hc⟩
theorem PLe2.fn {f : FuncId} {ps qs : List PV} (h : PLe2All P ps qs) : PLe2 P (.fn f ps) (.fn f qs) := fun M s x hx => by
  simp only [Rep] at hx ⊢
  obtain ⟨cs, rfl, hc⟩ := hx
  exact ⟨cs, rfl, h M s _ hc⟩
theorem PLe2.list {e : TypeId} {rs qs : List (List PV)} (h : PLe2Rows P rs qs) : PLe2 P (.list e rs) (.list e qs) := fun M s x hx => by
  simp only [Rep] at hx ⊢
  obtain ⟨a, c, i, h1, h2, h3, h4, h5, h6⟩ := hx
  rw [← h.1]
  refine ⟨a, c, i, h1, h2, h3, h4, h5, fun hne => ?_⟩
  have : rs ≠ [] := by
    intro hr
    apply hne
    have := h.1
    rw [hr] at this
    exact List.length_eq_zero_iff.1 this.symm
  obtain ⟨b, o, h7, h8⟩ := h6 this
  exact ⟨b, o, h7, h.2 M _ b o h8⟩
theorem PLe2All.refl (ps : List PV) : PLe2All P ps ps := fun _ _ _ h => h
theorem PLe2All.nil : PLe2All P [] [] := fun _ _ _ h => h
theorem PLe2All.cons {p q : PV} {ps qs : List PV} (h : PLe2 P p q) (h' : PLe2All P ps qs) : PLe2All P (p :: ps) (q :: qs) := fun M s xs hx => by
  simp only [RepAll] at hx ⊢
  obtain ⟨x, ys, rfl, h1, h2⟩ := hx
  exact ⟨x, ys, rfl, h M s x h1, h' M s ys h2⟩
theorem PLe2Row.refl (ps : List PV) : PLe2Row P ps ps := ⟨rfl, fun _ _ _ h => h⟩
theorem PLe2Row.nil : PLe2Row P [] [] := ⟨rfl, fun _ _ _ h => h⟩
theorem PLe2Row.cons {p q : PV} {ps qs : List PV} (h : PLe2 P p q) (h' : PLe2Row P ps qs) : PLe2Row P (p :: ps) (q :: qs) := ⟨by simp [h'.1], fun M b o hx => by
  simp only [RepAt] at hx ⊢
  obtain ⟨⟨x, h1, h2, h3⟩, h4⟩ := hx
  exact ⟨⟨x, h1, h2, h M false x h3⟩, h'.2 M b _ h4⟩⟩
theorem PLe2Rows.refl (rs : List (List PV)) : PLe2Rows P rs rs := ⟨rfl, fun _ _ _ _ h => h⟩
theorem PLe2Rows.nil : PLe2Rows P [] [] := ⟨rfl, fun _ _ _ _ h => h⟩
theorem PLe2Rows.cons {r q : List PV} {rs qs : List (List PV)} (h : PLe2Row P r q) (h' : PLe2Rows P rs qs) : PLe2Rows P (r :: rs) (q :: qs) := ⟨by simp [h'.1], fun M k b o hx => by
  simp only [RepRows] at hx ⊢
  obtain ⟨h1, h2, h3⟩ := hx
  exact ⟨by rw [← h.1]; exact h1, h.2 M b o h2, h'.2 M k b _ h3⟩⟩
theorem PLe.of2 {p q : PV} (h : PLe2 P p q) : PLe P p q := fun M x hx => h M true x hx
theorem PLeAll.of2 {ps qs : List PV} (h : PLe2All P ps qs) : PLeAll P ps qs := fun M xs hx => h M true xs hx
end

section
variable {P : Program} {C : Ctx} {M : Mem} {H : Heap} {w : World}

theorem InvH.recell (h : InvH P C M H w) {tag b : Nat} {cells cells' : List PV} (hb : H.bx tag = some ⟨b, cells⟩) (hc : ∀ xs, RepAll P M true cells xs → RepAll P M true cells' xs) :
    InvH P C M ⟨upd H.bx tag (some ⟨b, cells'⟩), H.ob⟩ w := by
  have key : ∀ t x, upd H.bx tag (some ⟨b, cells'⟩) t = some x → ∃ y, H.bx t = some y ∧ y.b = x.b ∧ ∀ xs, RepAll P M true y.cells xs → RepAll P M true x.cells xs := by
    intro t x hx
    rw [upd_eq] at hx
    split at hx
    · rename_i e; subst e; cases hx; exact ⟨_, hb, rfl, hc⟩
    · exact ⟨x, hx, rfl, fun _ h => h⟩
  refine ⟨h.mem, h.ext, h.new, h.os, h.tape, h.output, h.size, h.frame, ?_, h.objs, ?_, h.dobj, ?_⟩
  · intro t x hx
    obtain ⟨y, hy, e1, e2⟩ := key t x hx
    obtain ⟨h1, ⟨cs, e, h2, h3⟩, h4⟩ := h.boxes t y hy
    rw [e1] at h1 h2 h4
    exact ⟨h1, ⟨cs, e, h2, e2 _ h3⟩, h4⟩
  · intro t t' x x' hx hx' hbb
    obtain ⟨y, hy, e1, _⟩ := key t x hx
    obtain ⟨y', hy', e1', _⟩ := key t' x' hx'
    exact h.dbox t t' y y' hy hy' (by rw [e1, e1']; exact hbb)
  · intro t t' x x' hx hx' hbb
    obtain ⟨y, hy, e1, _⟩ := key t x hx
    exact h.dmix t t' y x' hy hx' (by rw [e1]; exact hbb)

theorem RepAll.set {s : Bool} : ∀ {ps : List PV} {xs : List Value} {k : Nat} {p q : PV}, RepAll P M s ps xs → ps[k]? = some p → (∀ x, Rep P M s p x → Rep P M s q x) → RepAll P M s (ps.set k q) xs
  | [], _, _, _, _, _, hk, _ => by simp at hk
  | a :: ps, _, 0, p, q, h, hk, hq => by
    simp only [RepAll] at h
    obtain ⟨x, xs, rfl, h1, h2⟩ := h
    simp only [List.getElem?_cons_zero, Option.some.injEq] at hk
    subst hk
    simp only [List.set_cons_zero, RepAll]
    exact ⟨x, xs, rfl, hq x h1, h2⟩
  | a :: ps, _, k + 1, p, q, h, hk, hq => by
    simp only [RepAll] at h
    obtain ⟨x, xs, rfl, h1, h2⟩ := h
    simp only [List.set_cons_succ, RepAll]
    exact ⟨x, xs, rfl, h1, RepAll.set h2 (by simpa using hk) hq⟩
end

section
variable {P : Program} {fn : Func} {R : PV → Heap → Prop} {ks : List KI} {n : Nat} {s : Nat → PV} {bx : Nat → Option Box} {ob : Nat → Option Obj} {T : TT}

/-- A nil slice in a box's cell, taken for one of the call's own. -/
theorem V.nilOB (hT : T.Ok P) (tag k otag : Nat) {e : TypeId} {ei : TInfo} (hei : T.get e = some ei) {b : Nat} {cells cells' : List PV} (hb : bx tag = some ⟨b, cells⟩) (hk : cells[k]? = some (.val (.slice none 0 0)))
    (hf : forceL (cells.set k (.own otag ⟨none, 0⟩ 0)) = some cells') (h : V P fn R ks ⟨n, s, upd bx tag (some ⟨b, cells'⟩), upd ob otag (some ⟨⟨none, 0⟩, e, [], true⟩)⟩) : V P fn R ks ⟨n, s, bx, ob⟩ := by
  rw [forceL_eq, Option.some.injEq] at hf
  subst hf
  intro C M a w hi
  have h1 := hi.2.nilobj hT otag hei
  refine h C M a w ⟨hi.1, ?_⟩
  refine h1.recell (tag := tag) hb fun xs hx => hx.set hk fun x hx => ?_
  simp only [Rep] at hx ⊢
  exact ⟨trivial, by rw [hx]; rfl⟩

/-- A slice of the call's own in a box's cell, frozen. -/
theorem V.freezeOB (tag k : Nat) {tg : Nat} {g : OwnRef} {len : Nat} {e : TypeId} {rows : List (List PV)} {wr : Bool} {b : Nat} {cells cells' : List PV} (hb : bx tag = some ⟨b, cells⟩) (hk : cells[k]? = some (.own tg g len)) (hob : ob tg = some ⟨g, e, rows, wr⟩) (hlen : len = rows.length)
    (hf : forceL (cells.set k (.list e rows)) = some cells') (h : V P fn R ks ⟨n, s, upd bx tag (some ⟨b, cells'⟩), upd ob tg (some ⟨g, e, rows, false⟩)⟩) : V P fn R ks ⟨n, s, bx, ob⟩ := by
  rw [forceL_eq, Option.some.injEq] at hf
  subst hf
  subst hlen
  intro C M a w hi
  obtain ⟨M', hle, hi', hr⟩ := hi.2.freezeO (tag := tg) hob
  refine h C M' a w ⟨hi.1.mono hle, hi'.recell (tag := tag) hb fun xs hx => hx.set hk fun x hx => ?_⟩
  simp only [Rep] at hx
  rw [hx.2]
  exact hr

/-- Returning what a box holds, and a slot. -/
theorem V.retCT {r : PV} (hT : T.Ok P) {a t t' : Nat} (hres : fn.results = #[.cell a t, .tmp t']) {ti : TInfo} (hti : T.get t = some ti) {tag b off : Nat} {cells : List PV} (hs : s a = .box tag b off) (hb : bx tag = some ⟨b, cells⟩) {p p' : PV} (hr : (readCells ti off cells).bind force = some p) (hs' : force (s t') = some p')
    (hu : PLe P (.tup [p, p']) r) : V P fn (fun u H => u = r ∧ H = Heap.empty) (.code .ret :: ks) ⟨n, s, bx, ob⟩ := by
  have hr' : readCells ti off cells = some p := by
    cases hq : readCells ti off cells with
    | none => simp [hq] at hr
    | some q => rw [hq, Option.bind_some, force_eq] at hr; exact hr
  rw [force_eq, Option.some.injEq] at hs'
  exact V.retP hT hres (ps := [p, p']) ⟨p, _, rfl, ⟨ti, tag, b, off, cells, hti, hs, hb, hr'⟩, p', [], rfl, hs', rfl⟩ hu
end
end Go.Ab
