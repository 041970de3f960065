/- The abstract layer, part G: operations one behind the other; boxes, stores, slice literals. -/
import Derived.Test.YtohlpijmiokkjaaDoorAbF
import Derived.Tactics
namespace Go.Ab

mutual
def PV.froz : PV → Bool
  | .any | .box _ _ _ | .own _ _ _ | .optr _ _ _ _ _ => false
  | .agg cs | .tup cs | .fn _ cs => PV.frozL cs
  | _ => true
def PV.frozL : List PV → Bool
  | [] => true
  | p :: ps => p.froz && PV.frozL ps
end

section
variable {P : Program} {M : Mem}
mutual
theorem Rep.unslot : ∀ {p : PV} {x : Value}, p.froz = true → Rep P M true p x → Rep P M false p x
  | .any, _, h, _ => by simp [PV.froz] at h
  | .val _, _, _, h => by simpa only [Rep] using h
  | .str _, _, _, h => by simpa only [Rep] using h
  | .list _ _, _, _, h => by simpa only [Rep] using h
  | .agg cells, x, hf, h => by
    simp only [Rep] at h ⊢
    obtain ⟨cs, h1, h2⟩ := h
    exact ⟨cs, h1, RepAll.unslot (by simpa only [PV.froz] using hf) h2⟩
  | .tup cells, x, hf, h => by
    simp only [Rep] at h ⊢
    obtain ⟨cs, h1, h2⟩ := h
    exact ⟨cs, h1, RepAll.unslot (by simpa only [PV.froz] using hf) h2⟩
  | .ptr _, _, _, h => by simpa only [Rep] using h
  | .fn f caps, x, hf, h => by
    simp only [Rep] at h ⊢
    obtain ⟨cs, h1, h2⟩ := h
    exact ⟨cs, h1, RepAll.unslot (by simpa only [PV.froz] using hf) h2⟩
  | .box _ _ _, _, h, _ => by simp [PV.froz] at h
  | .own _ _ _, _, h, _ => by simp [PV.froz] at h
  | .optr _ _ _ _ _, _, h, _ => by simp [PV.froz] at h
  | .err _, _, _, h => by simpa only [Rep] using h
theorem RepAll.unslot : ∀ {ps : List PV} {xs : List Value}, PV.frozL ps = true → RepAll P M true ps xs → RepAll P M false ps xs
  | [], _, _, h => by simpa only [RepAll] using h
  | p :: ps, _, hf, h => by
    simp only [RepAll] at h ⊢
    simp only [PV.frozL, Bool.and_eq_true] at hf
    obtain ⟨x, xs, h1, h2, h3⟩ := h
    exact ⟨x, xs, h1, Rep.unslot hf.1 h2, RepAll.unslot hf.2 h3⟩
end
end

/-- What stands in the slot of an operation that its guard shut out. -/
abbrev undefPV : PV := .tup []

def guardA (ops : Array Oper) (s : Nat → PV) (o : Oper) : Option Bool :=
  match o.guard with
  | none => some true
  | some (j, want) => match (ops[j]?).bind (·.dst) with
    | some d => match s d with
      | .val (.bool b) => some (b == want)
      | .tup [] => some false
      | _ => none
    | none => none

theorem guardA_sound {P : Program} {M : Mem} {ops : Array Oper} {n : Nat} {s : Nat → PV} {a : Act} (h : Slots P M n s a) {o : Oper} {b : Bool} (hg : guardA ops s o = some b) : Region.wanted o (yielded ops a.tmps) = b := by
  unfold guardA at hg
  unfold Region.wanted
  split at hg
  · rename_i hn; rw [hn]; simpa using hg
  · rename_i j want hn
    rw [hn]
    split at hg
    · rename_i d hd
      split at hg
      · rename_i c hc
        simp only [Option.some.injEq] at hg
        have := h.2.2 d
        rw [hc] at this
        simp only [Rep] at this
        have hv : a.tmps[d]? = some (.bool c) := by
          cases ht : a.tmps[d]? with
          | none => simp [ht, undef] at this
          | some v => simpa [ht] using this
        simp [yielded, hd, hv, ← hg]
      · rename_i hc
        simp only [Option.some.injEq] at hg
        subst hg
        have := h.2.2 d
        rw [hc] at this
        simp only [Rep, RepAll] at this
        obtain ⟨cs, h1, h2⟩ := this
        have hcs : cs = #[] := by simpa using h2
        subst hcs
        have hy : yielded ops a.tmps j = none := by
          simp only [yielded, hd]
          cases ht : a.tmps[d]? with
          | none => simp [ht]
          | some v =>
            rw [Array.getD_eq_getD_getElem?, ht] at h1
            simp only [Option.getD_some] at h1
            subst h1
            simp [ht]
        simp [hy]
      · cases hg
    · cases hg

def AOps (P : Program) (ops : Array Oper) (rest : List Oper) (st : PState) (K : PState → Prop) : Prop :=
  ∀ C M a w Q, InvS P C M st a w → (∀ st' M' a' w', K st' → InvS P C M' st' a' w' → Q Exit.normal a' w') → wpList P ops Q rest a w

/-- A step that only changes what is known. -/
def Gh (P : Program) (st st' : PState) : Prop := ∀ C M a w, InvS P C M st a w → ∃ M', InvS P C M' st' a w

section
variable {P : Program} {ops : Array Oper} {rest : List Oper} {o : Oper} {st : PState} {K : PState → Prop}

theorem AOps.nil (h : K st) : AOps P ops [] st K := fun _ M a w _ hi hq => hq st M a w h hi

theorem AOps.gh {st' : PState} (hg : Gh P st st') (h : AOps P ops rest st' K) : AOps P ops rest st K := fun C M a w Q hi hq =>
  let ⟨M', hi'⟩ := hg C M a w hi
  h C M' a w Q hi' hq

theorem AOps.mono {K' : PState → Prop} (h : AOps P ops rest st K) (hk : ∀ st, K st → K' st) : AOps P ops rest st K' := fun C M a w Q hi hq =>
  h C M a w Q hi fun st' M' a' w' hK => hq st' M' a' w' (hk st' hK)

theorem AOps.skip {s' : Nat → PV} (hg : guardA ops st.s o = some false) (hp : putD st.n st.s o.dst undefPV = some s') (h : AOps P ops rest ⟨st.n, s', st.bx, st.ob⟩ K) : AOps P ops (o :: rest) st K := by
  intro C M a w Q hi hq
  simp only [wpList, guardA_sound hi.1 hg, Bool.false_eq_true, if_false]
  exact h C M _ w Q ⟨hi.1.putD hp (by simp [Rep, RepAll, undef]), hi.2⟩ hq

theorem AOps.eff (hg : guardA ops st.s o = some true)
    (he : Eff P o (evS st.s) st.heap fun u H' => ∃ s', putD st.n st.s o.dst u = some s' ∧ AOps P ops rest ⟨st.n, s', H'.bx, H'.ob⟩ K) : AOps P ops (o :: rest) st K := by
  intro C M a w Q hi hq
  simp only [wpList, guardA_sound hi.1 hg, if_true]
  refine .inl (he C M a w _ Q hi.2 (fun x _ => hi.1.ev x) ?_)
  intro v u H' M' w' ⟨s', hp, h⟩ hle hi' hr
  exact h C M' _ w' Q ⟨(hi.1.mono hle).putD hp hr, hi'⟩ hq

/-- One quiet operation, or one that its guard shuts out. -/
def qstep (T : TT) (ops : Array Oper) (n : Nat) (s : Nat → PV) (bx : Nat → Option Box) (o : Oper) : Option (Nat → PV) :=
  match guardA ops s o with
  | some true => match det0 T bx o.op (evS s) with
    | some r0 => match force r0 with
      | some r => putD n s o.dst r
      | none => none
    | none => none
  | some false => putD n s o.dst undefPV
  | none => none
end

section
variable {P : Program} {ops : Array Oper} {rest : List Oper} {o : Oper} {n : Nat} {s s' : Nat → PV} {bx : Nat → Option Box} {ob : Nat → Option Obj} {K : PState → Prop}

theorem AOps.det {T : TT} (hT : T.Ok P) (hg : guardA ops s o = some true) {r : PV} (hd : det0 T bx o.op (evS s) = some r) (hp : putD n s o.dst r = some s')
    (h : AOps P ops rest ⟨n, s', bx, ob⟩ K) : AOps P ops (o :: rest) ⟨n, s, bx, ob⟩ K :=
  AOps.eff hg ((Eff.of_det (det0_sound hT (H := ⟨bx, ob⟩) hd)).mono fun u H' ⟨hu, hH⟩ => by subst hu; subst hH; exact ⟨s', hp, h⟩)

theorem AOps.q {T : TT} (hT : T.Ok P) (hs : qstep T ops n s bx o = some s') (h : AOps P ops rest ⟨n, s', bx, ob⟩ K) : AOps P ops (o :: rest) ⟨n, s, bx, ob⟩ K := by
  unfold qstep at hs
  split at hs
  · rename_i hg
    split at hs
    · rename_i r0 hd
      rw [force_eq] at hs
      exact AOps.det hT hg hd hs h
    · cases hs
  · rename_i hg
    exact AOps.skip hg hs h
  · cases hs

/-- A load out of a box of the call's own. -/
theorem AOps.loadBox {T : TT} (hT : T.Ok P) (hg : guardA ops s o = some true) {t : TypeId} {x : Operand} (ho : o.op = .load t x) {ti : TInfo} (hti : T.get t = some ti) {tag b off : Nat} {cells : List PV}
    (hx : evS s x = .box tag b off) (hb : bx tag = some ⟨b, cells⟩) {r : PV} (hr : (readCells ti off cells).bind force = some r) (hp : putD n s o.dst r = some s')
    (h : AOps P ops rest ⟨n, s', bx, ob⟩ K) : AOps P ops (o :: rest) ⟨n, s, bx, ob⟩ K := by
  have hr' : readCells ti off cells = some r := by
    cases hq : readCells ti off cells with
    | none => simp [hq] at hr
    | some q => rw [hq, Option.bind_some, force_eq] at hr; exact hr
  refine AOps.det hT hg (r := r) ?_ hp h
  rw [ho]
  simp [det0, hti, hx, loadPV, hb, hr']

/-- So many quiet steps at once. -/
def qsteps (T : TT) (ops : Array Oper) (n : Nat) (bx : Nat → Option Box) : Nat → List Oper → (Nat → PV) → Option (List Oper × (Nat → PV))
  | 0, l, s => some (l, s)
  | k + 1, o :: l, s => match qstep T ops n s bx o with
    | some s' => qsteps T ops n bx k l s'
    | none => none
  | _ + 1, [], _ => none
theorem AOps.qs {T : TT} : ∀ (k : Nat) {l rest : List Oper} {s s' : Nat → PV} (_ : T.Ok P) (_ : qsteps T ops n bx k l s = some (rest, s')) (_ : AOps P ops rest ⟨n, s', bx, ob⟩ K), AOps P ops l ⟨n, s, bx, ob⟩ K
  | 0, l, rest, s, s', hT, h, hk => by
    simp only [qsteps, Option.some.injEq, Prod.mk.injEq] at h
    rw [h.1, h.2]
    exact hk
  | k + 1, [], rest, s, s', hT, h, hk => by cases h
  | k + 1, o :: l, rest, s, s', hT, h, hk => by
    rw [qsteps] at h
    cases hq : qstep T ops n s bx o with
    | none => rw [hq] at h; cases h
    | some s1 =>
      rw [hq] at h
      exact AOps.q hT hq (AOps.qs k hT h hk)

/-- A guard that is not decided yet: both ways. -/
theorem AOps.split {j : Nat} {want b : Bool} {d : Nat} (_hg : o.guard = some (j, want)) (_hd : (ops[j]?).bind (·.dst) = some d) (hs : s d = .val (.bool b))
    (ht : b = true → AOps P ops (o :: rest) ⟨n, upd s d (.val (.bool true)), bx, ob⟩ K) (hf : b = false → AOps P ops (o :: rest) ⟨n, upd s d (.val (.bool false)), bx, ob⟩ K) : AOps P ops (o :: rest) ⟨n, s, bx, ob⟩ K := by
  have same : upd s d (.val (.bool b)) = s := by
    funext t
    rw [upd_eq]
    split
    · rename_i h; subst h; exact hs.symm
    · rfl
  cases b
  · have := hf rfl; rwa [same] at this
  · have := ht rfl; rwa [same] at this

theorem AOps.eff' (hg : guardA ops s o = some true)
    (he : Eff P o (evS s) ⟨bx, ob⟩ fun u H' => ∃ s', putD n s o.dst u = some s' ∧ AOps P ops rest ⟨n, s', H'.bx, H'.ob⟩ K) : AOps P ops (o :: rest) ⟨n, s, bx, ob⟩ K := AOps.eff hg he
end

/-! Operations that make or write memory. -/
section
variable {P : Program} {T : TT} (hT : T.Ok P) {o : Oper} {ev : Operand → PV} {H : Heap}
include hT

omit hT in
theorem repAt_add {M : Mem} {w : World} {C : Ctx} {H : Heap} (hi : InvH P C M H w) (ps : List PV) (cs : Array Value) (h1 : ∀ v ∈ cs.toList, v.oneCell' = true) (hr : RepAll P M false ps cs.toList) :
    RepAt P (M.add w.heap.size cs) w.heap.size 0 ps := by
  have hr' := RepAll.mono (hi.add_le cs) hr
  have key : ∀ (ps : List PV) (xs : List Value) (o : Nat), (∀ j x, xs[j]? = some x → cs[o + j]? = some x) → (∀ v ∈ xs, v.oneCell' = true) → RepAll P (M.add w.heap.size cs) false ps xs → RepAt P (M.add w.heap.size cs) w.heap.size o ps := by
    intro ps
    induction ps with
    | nil => intro xs o _ _ _; simp [RepAt]
    | cons p ps ih =>
      intro xs o hx h1 hr
      simp only [RepAll] at hr
      obtain ⟨x, ys, rfl, hp, hrest⟩ := hr
      simp only [RepAt]
      refine ⟨⟨x, ?_, h1 x (by simp), hp⟩, ih ys (o + 1) (fun j y hy => ?_) (fun v hv => h1 v (by simp [hv])) hrest⟩
      · have := hx 0 x rfl
        simpa [Mem.add] using this
      · have := hx (j + 1) y (by simpa using hy)
        rwa [show o + 1 + j = o + (j + 1) from by omega]
  exact key ps cs.toList 0 (fun j x hx => by simpa using hx) h1 hr'


omit hT in
theorem eff_boxF {t : TypeId} {x : Operand} (ho : o.op = .box t x) {cs : List PV} (hc : cellsPV (ev x) = some cs) (hf : PV.frozL cs = true) (h1 : cs.all PV.one = true) {K : PV → Heap → Prop} (hk : K (.ptr cs) H) : Eff P o ev H K := by

  intro C M a w next Q hi he hn
  have hx := he x (by rw [ho]; simp [Op.operands])
  have hr := cellsPV_sound hc hx
  have hone := RepAll.oneCell h1 hr
  have hr' := RepAll.unslot hf hr
  have hrun : (execOp a.eval o).run P w = .ok (.value (.pointer (some ⟨w.heap.size, 0, none⟩))) (w.alloc (.cells (a.eval x).cells t)) := by
    simp [execOp, ho, Instr.box, newVar, newRow]
  unfold Oper.wp
  rw [hrun]
  refine hn _ _ _ _ _ hk (hi.add_le _) (hi.alloc_frozen (a.eval x).cells t) ?_
  simp only [Rep]
  exact ⟨_, _, rfl, repAt_add hi cs _ hone hr'⟩


omit hT in
theorem eff_box {t : TypeId} {x : Operand} (ho : o.op = .box t x) (tag : Nat) {cs : List PV} (hc : cellsPV (ev x) = some cs) {K : PV → Heap → Prop}
    (hk : ∀ b, K (.box tag b 0) ⟨upd H.bx tag (some ⟨b, cs⟩), H.ob⟩) : Eff P o ev H K := by

  intro C M a w next Q hi he hn
  have hx := he x (by rw [ho]; simp [Op.operands])
  have hr := cellsPV_sound hc hx
  have hrun : (execOp a.eval o).run P w = .ok (.value (.pointer (some ⟨w.heap.size, 0, none⟩))) (w.alloc (.cells (a.eval x).cells t)) := by
    simp [execOp, ho, Instr.box, newVar, newRow]
  unfold Oper.wp
  rw [hrun]
  exact hn _ _ _ _ _ (hk w.heap.size) (Mem.le_refl M) (hi.alloc_box tag cs _ t hr) (by simp [Rep])

theorem eff_alloc {t : TypeId} (ho : o.op = .alloc t) (tag : Nat) {ti : TInfo} (hti : T.get t = some ti) {cs : List PV} (hf : forceL (zeroPV ti) = some cs) {K : PV → Heap → Prop}
    (hk : ∀ b, K (.box tag b 0) ⟨upd H.bx tag (some ⟨b, cs⟩), H.ob⟩) : Eff P o ev H K := by
  rw [forceL_eq, Option.some.injEq] at hf
  subst hf
  intro C M a w next Q hi he hn
  have hrun : (execOp a.eval o).run P w = .ok (.value (.pointer (some ⟨w.heap.size, 0, none⟩))) (w.alloc (.cells ti.zero.cells t)) := by
    simp [execOp, ho, Instr.alloc, (hT.get hti).rzero w, newVar, newRow]
  unfold Oper.wp
  rw [hrun]
  exact hn _ _ _ _ _ (hk w.heap.size) (Mem.le_refl M) (hi.alloc_box tag _ _ t (zeroPV_rep _)) (by simp [Rep])

/-- A store into a box of the call's own. -/
theorem eff_storeBox {t : TypeId} {x y : Operand} (ho : o.op = .store t x y) {ti : TInfo} (hti : T.get t = some ti) {tag b off : Nat} {cells : List PV} (hx : ev x = .box tag b off) (hb : H.bx tag = some ⟨b, cells⟩)
    {cs : List PV} (hc : cellsPV (ev y) = some cs) (h1 : cs.all PV.one = true) (hl : Nat.beq cs.length ti.size = true) (hle : Nat.ble (off + ti.size) cells.length = true)
    {cells' : List PV} (hf : forceL (splice cells off cs) = some cells') {K : PV → Heap → Prop} (hk : K .any ⟨upd H.bx tag (some ⟨b, cells'⟩), H.ob⟩) : Eff P o ev H K := by
  rw [forceL_eq, Option.some.injEq] at hf
  subst hf
  have hl := Nat.eq_of_beq_eq_true hl
  have hle := Nat.le_of_ble_eq_true hle
  intro C M a w next Q hi he hn
  have hxr := he x (by rw [ho]; simp [Op.operands])
  have hyr := he y (by rw [ho]; simp [Op.operands])
  rw [hx] at hxr
  simp only [Rep] at hxr
  have hr := cellsPV_sound hc hyr
  have hone := RepAll.oneCell h1 hr
  obtain ⟨_, ⟨cur, e, hcur, hcr⟩, _⟩ := hi.boxes tag _ hb
  have hvs : (a.eval y).cells.size = ti.size := by have := hr.length; simp at this; omega
  have hcs : cur.size = cells.length := by have := hcr.length; simpa using this
  have hst := run_storeCells_at P b off e (a.eval y).cells.toList 0 cur w hcur (by simp; omega) hone
  have hrun : (execOp a.eval o).run P w = .ok .skip (w.setRow b (cur.toList.take off ++ (a.eval y).cells.toList ++ cur.toList.drop (off + (a.eval y).cells.toList.length)).toArray) := by
    simp only [execOp, ho, Instr.storeAt, hxr.2, Instr.sureAddr, Sem.run_bind, Sem.run_pure, Result.andThen_ok, storeVar, (hT.get hti).rsize w, hvs]
    simp only [ne_eq, not_true_eq_false, if_false]
    simp only [Nat.add_zero] at hst
    rw [hst]
    rfl
  unfold Oper.wp
  rw [hrun]
  refine hn undef _ _ M _ hk (Mem.le_refl M) (hi.set_box tag _ hb _ _ ?_) (by simp [Rep])
  simpa using splice_rep hcr hr off
end

section
variable {P : Program} {ops : Array Oper} {rest : List Oper} {o : Oper} {n : Nat} {s s' : Nat → PV} {bx : Nat → Option Box} {ob : Nat → Option Obj} {K : PState → Prop} {T : TT}

theorem AOps.boxF (hg : guardA ops s o = some true) {t : TypeId} {x : Operand} (ho : o.op = .box t x) {cs : List PV} (hc : (cellsPV (evS s x)).bind forceL = some cs) (hf : PV.frozL cs = true) (h1 : cs.all PV.one = true)
    (hp : putD n s o.dst (.ptr cs) = some s') (h : AOps P ops rest ⟨n, s', bx, ob⟩ K) : AOps P ops (o :: rest) ⟨n, s, bx, ob⟩ K := by
  have hc' : cellsPV (evS s x) = some cs := by
    cases hq : cellsPV (evS s x) with
    | none => simp [hq] at hc
    | some q => rw [hq, Option.bind_some, forceL_eq] at hc; exact hc
  exact AOps.eff hg (eff_boxF ho hc' hf h1 ⟨s', hp, h⟩)

theorem AOps.box (hg : guardA ops s o = some true) {t : TypeId} {x : Operand} (ho : o.op = .box t x) {d : Nat} (hd : o.dst = some d) {cs : List PV} (hc : (cellsPV (evS s x)).bind forceL = some cs) (hlt : Nat.blt d n = true)
    (h : ∀ b, AOps P ops rest ⟨n, upd s d (.box d b 0), upd bx d (some ⟨b, cs⟩), ob⟩ K) : AOps P ops (o :: rest) ⟨n, s, bx, ob⟩ K := by
  have hc' : cellsPV (evS s x) = some cs := by
    cases hq : cellsPV (evS s x) with
    | none => simp [hq] at hc
    | some q => rw [hq, Option.bind_some, forceL_eq] at hc; exact hc
  exact AOps.eff hg (eff_box ho d hc' fun b => ⟨_, by simp [hd, putD, hlt], h b⟩)

theorem AOps.alloc (hT : T.Ok P) (hg : guardA ops s o = some true) {t : TypeId} (ho : o.op = .alloc t) {d : Nat} (hd : o.dst = some d) {ti : TInfo} (hti : T.get t = some ti) {cs : List PV} (hc : forceL (zeroPV ti) = some cs) (hlt : Nat.blt d n = true)
    (h : ∀ b, AOps P ops rest ⟨n, upd s d (.box d b 0), upd bx d (some ⟨b, cs⟩), ob⟩ K) : AOps P ops (o :: rest) ⟨n, s, bx, ob⟩ K :=
  AOps.eff hg (eff_alloc hT ho d hti hc fun b => ⟨_, by simp [hd, putD, hlt], h b⟩)

theorem AOps.storeBox (hT : T.Ok P) (hg : guardA ops s o = some true) {t : TypeId} {x y : Operand} (ho : o.op = .store t x y) (hd : o.dst = none) {ti : TInfo} (hti : T.get t = some ti) {tag b off : Nat} {cells : List PV} (hx : evS s x = .box tag b off) (hb : bx tag = some ⟨b, cells⟩)
    {cs : List PV} (hc : (cellsPV (evS s y)).bind forceL = some cs) (h1 : cs.all PV.one = true) (hl : Nat.beq cs.length ti.size = true) (hle : Nat.ble (off + ti.size) cells.length = true)
    {cells' : List PV} (hf : forceL (splice cells off cs) = some cells') (h : AOps P ops rest ⟨n, s, upd bx tag (some ⟨b, cells'⟩), ob⟩ K) : AOps P ops (o :: rest) ⟨n, s, bx, ob⟩ K := by
  have hc' : cellsPV (evS s y) = some cs := by
    cases hq : cellsPV (evS s y) with
    | none => simp [hq] at hc
    | some q => rw [hq, Option.bind_some, forceL_eq] at hc; exact hc
  exact AOps.eff hg (eff_storeBox hT ho hti hx hb hc' h1 hl hle hf ⟨s, by simp [hd, putD], h⟩)
end
end Go.Ab
