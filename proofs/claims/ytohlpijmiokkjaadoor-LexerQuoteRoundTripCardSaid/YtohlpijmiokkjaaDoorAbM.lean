/- The abstract layer, part M: the steps of a region that draws its order. -/
import Derived.Test.YtohlpijmiokkjaaDoorAbL
namespace Go.Ab

/-- One quiet operation of such a region, or one that its guard shuts out. -/
def dstep (T : TT) (rb : RB) (ops : Array Oper) (k n : Nat) (s : Nat → PV) (bx : Nat → Option Box) : Option (Nat → PV) :=
  match ops[k]? with
  | some o => match guardA ops s o with
    | some true => match clsOf o.op with
      | .det => match det1 T (if rb.b o then bx else fun _ => none) o.op (evS s) with
        | some r0 => match force r0 with
          | some r => putD n s o.dst r
          | none => none
        | none => none
      | _ => none
    | some false => putD n s o.dst undefPV
    | none => none
  | none => none

section
variable {P : Program} {T : TT} {rb : RB} {ops : Array Oper} {k : Nat} {L : List Nat} {n : Nat} {s s' : Nat → PV} {bx : Nat → Option Box} {ob : Nat → Option Obj} {K : PState → Prop} {o : Oper}

theorem AOps.quo {rest : List Oper} (hT : T.Ok P) (hg : guardA ops s o = some true) {t t' : TypeId} {x y : Operand} (ho : o.op = .binOp .quo t x y t') {kk : IntKind} {a b : Int} (hx : evS s x = .val (.int kk a)) (hy : evS s y = .val (.int kk b)) (hb : b ≠ 0)
    (hp : putD n s o.dst (.val (.int kk (kk.wrap (a.tdiv b)))) = some s') (h : AOps P ops rest ⟨n, s', bx, ob⟩ K) : AOps P ops (o :: rest) ⟨n, s, bx, ob⟩ K := by
  refine AOps.det hT hg (r := .val (.int kk (kk.wrap (a.tdiv b)))) ?_ hp h
  rw [ho]
  simp [det0, qbin, hx, hy, hb]

theorem AOps.rem {rest : List Oper} (hT : T.Ok P) (hg : guardA ops s o = some true) {t t' : TypeId} {x y : Operand} (ho : o.op = .binOp .rem t x y t') {kk : IntKind} {a b : Int} (hx : evS s x = .val (.int kk a)) (hy : evS s y = .val (.int kk b)) (hb : b ≠ 0)
    (hp : putD n s o.dst (.val (.int kk (a.tmod b))) = some s') (h : AOps P ops rest ⟨n, s', bx, ob⟩ K) : AOps P ops (o :: rest) ⟨n, s, bx, ob⟩ K := by
  refine AOps.det hT hg (r := .val (.int kk (a.tmod b))) ?_ hp h
  rw [ho]
  simp [det0, qbin, hx, hy, hb]

/-- The concatenation of two strings. -/
theorem AOps.cat {rest : List Oper} (hT : T.Ok P) (hg : guardA ops s o = some true) {t t' : TypeId} {x y : Operand} (ho : o.op = .binOp .add t x y t') {a b : List UInt8} (hx : evS s x = .str a) (hy : evS s y = .str b) (hb : a.length + b.length ≤ maxStr)
    (hp : putD n s o.dst (.str (a ++ b)) = some s') (h : AOps P ops rest ⟨n, s', bx, ob⟩ K) : AOps P ops (o :: rest) ⟨n, s, bx, ob⟩ K := by
  refine AOps.det hT hg (r := .str (a ++ b)) ?_ hp h
  rw [ho]
  simp [det0, qbin, hx, hy, hb]

theorem DOps.cat (ho : ops[k]? = some o) (hg : guardA ops s o = some true) {t t' : TypeId} {x y : Operand} (hop : o.op = .binOp .add t x y t') {a b : List UInt8} (hx : evS s x = .str a) (hy : evS s y = .str b) (hb : a.length + b.length ≤ maxStr)
    (hp : putD n s o.dst (.str (a ++ b)) = some s') (h : DOps P T rb ops L ⟨n, s', bx, ob⟩ K) : DOps P T rb ops (k :: L) ⟨n, s, bx, ob⟩ K := by
  refine ⟨o, ho, true, hg, ?_⟩
  have hc : clsOf o.op = .det := by rw [hop]; rfl
  simp only [if_true, hc]
  exact ⟨.str (a ++ b), s', .inl (by rw [hop]; simp [det1, det0, qbin, hx, hy, hb]), hp, h⟩

/-- For tactics: asks whether the guard lets the operation be carried out. -/
theorem AOps.decided {rest : List Oper} (_hg : guardA ops s o = some true) (h : AOps P ops (o :: rest) ⟨n, s, bx, ob⟩ K) : AOps P ops (o :: rest) ⟨n, s, bx, ob⟩ K := h

theorem DOps.decided (_ho : ops[k]? = some o) (_hg : guardA ops s o = some true) (h : DOps P T rb ops (k :: L) ⟨n, s, bx, ob⟩ K) : DOps P T rb ops (k :: L) ⟨n, s, bx, ob⟩ K := h

theorem DOps.nil {st : PState} (h : K st) : DOps P T rb ops [] st K := h

theorem DOps.q (hs : dstep T rb ops k n s bx = some s') (h : DOps P T rb ops L ⟨n, s', bx, ob⟩ K) : DOps P T rb ops (k :: L) ⟨n, s, bx, ob⟩ K := by
  unfold dstep at hs
  split at hs
  · rename_i o ho
    split at hs
    · rename_i hg
      split at hs
      · rename_i hc
        split at hs
        · rename_i r0 hd
          rw [force_eq] at hs
          refine ⟨o, ho, true, hg, ?_⟩
          simp only [if_true, hc]
          exact ⟨r0, s', .inl hd, hs, h⟩
        · cases hs
      · cases hs
    · rename_i hg
      refine ⟨o, ho, false, hg, ?_⟩
      simp only [Bool.false_eq_true, if_false]
      exact ⟨s', hs, h⟩
    · cases hs
  · cases hs

/-- A quiet operation whose value is shown by hand. -/
theorem DOps.by (ho : ops[k]? = some o) (hg : guardA ops s o = some true) (hc : clsOf o.op = .det) {r : PV} (hd : det1 T (if rb.b o then bx else fun _ => none) o.op (evS s) = some r) (hp : putD n s o.dst r = some s')
    (h : DOps P T rb ops L ⟨n, s', bx, ob⟩ K) : DOps P T rb ops (k :: L) ⟨n, s, bx, ob⟩ K := by
  refine ⟨o, ho, true, hg, ?_⟩
  simp only [if_true, hc]
  exact ⟨r, s', .inl hd, hp, h⟩

theorem DOps.loadBox (ho : ops[k]? = some o) (hrb : rb.b o = true) (hg : guardA ops s o = some true) {t : TypeId} {x : Operand} (hop : o.op = .load t x) {ti : TInfo} (hti : T.get t = some ti) {tag b off : Nat} {cells : List PV}
    (hx : evS s x = .box tag b off) (hb : bx tag = some ⟨b, cells⟩) {r : PV} (hr : (readCells ti off cells).bind force = some r) (hp : putD n s o.dst r = some s')
    (h : DOps P T rb ops L ⟨n, s', bx, ob⟩ K) : DOps P T rb ops (k :: L) ⟨n, s, bx, ob⟩ K := by
  have hr' : readCells ti off cells = some r := by
    cases hq : readCells ti off cells with
    | none => simp [hq] at hr
    | some q => rw [hq, Option.bind_some, force_eq] at hr; exact hr
  refine DOps.by ho hg (by rw [hop]; rfl) (r := r) ?_ hp h
  rw [hop, hrb]
  simp [det1, det0, hti, hx, loadPV, hb, hr']

theorem DOps.idx (ho : ops[k]? = some o) (hg : guardA ops s o = some true) {t : TypeId} {x i : Operand} (hop : o.op = .indexAddr t x i) {ti : TInfo} (hti : T.get t = some ti) {e : TypeId} (hd : ti.desc = .slice e) {rows : List (List PV)} (hx : evS s x = .list e rows) {kk : IntKind} {j : Int}
    (hi : evS s i = .val (.int kk j)) {r : List PV} (h0 : 0 ≤ j) (hr : rows[j.toNat]? = some r) (hp : putD n s o.dst (.ptr r) = some s') (h : DOps P T rb ops L ⟨n, s', bx, ob⟩ K) : DOps P T rb ops (k :: L) ⟨n, s, bx, ob⟩ K := by
  refine DOps.by ho hg (by rw [hop]; rfl) (r := .ptr r) ?_ hp h
  rw [hop]
  simp [det1, det0, hti, hx, hi, hd, h0, hr]

/-- So many quiet steps at once. -/
def dsteps (T : TT) (rb : RB) (ops : Array Oper) (n : Nat) (bx : Nat → Option Box) : Nat → List Nat → (Nat → PV) → Option (List Nat × (Nat → PV))
  | 0, l, s => some (l, s)
  | k + 1, o :: l, s => match dstep T rb ops o n s bx with
    | some s' => dsteps T rb ops n bx k l s'
    | none => none
  | _ + 1, [], _ => none
theorem DOps.qs : ∀ (k : Nat) {l rest : List Nat} {s s' : Nat → PV} (_ : dsteps T rb ops n bx k l s = some (rest, s')) (_ : DOps P T rb ops rest ⟨n, s', bx, ob⟩ K), DOps P T rb ops l ⟨n, s, bx, ob⟩ K
  | 0, l, rest, s, s', h, hk => by
    simp only [dsteps, Option.some.injEq, Prod.mk.injEq] at h
    rw [h.1, h.2]
    exact hk
  | k + 1, [], rest, s, s', h, hk => by cases h
  | k + 1, o :: l, rest, s, s', h, hk => by
    rw [dsteps] at h
    cases hq : dstep T rb ops o n s bx with
    | none => rw [hq] at h; cases h
    | some s1 =>
      rw [hq] at h
      exact DOps.q hq (DOps.qs k h hk)

theorem DOps.split {j : Nat} {want b : Bool} {d : Nat} (_ho : ops[k]? = some o) (_hg : o.guard = some (j, want)) (_hd : (ops[j]?).bind (·.dst) = some d) (hs : s d = .val (.bool b))
    (ht : b = true → DOps P T rb ops (k :: L) ⟨n, upd s d (.val (.bool true)), bx, ob⟩ K) (hf : b = false → DOps P T rb ops (k :: L) ⟨n, upd s d (.val (.bool false)), bx, ob⟩ K) : DOps P T rb ops (k :: L) ⟨n, s, bx, ob⟩ K := by
  cases b
  · have := hf rfl; rwa [upd_self _ _ _ hs] at this
  · have := ht rfl; rwa [upd_self _ _ _ hs] at this

theorem DOps.callP (ho : ops[k]? = some o) (hg : guardA ops s o = some true) {fx : Operand} {as : Array Operand} {ts : Array TypeId} (hop : o.op = .call { callee := .value fx, args := as, argTypes := ts }) {g : FuncId} {caps : List PV}
    (hf : evS s fx = .fn g caps) (hcall : ∀ vs w, (callFunc g vs).run P w = .ok (.enter g vs) w) {args : List PV} (hle : PLeAll P (as.toList.map (evS s) ++ caps) args) {r : PV} (hc : PFun P g args r)
    (hp : putD n s o.dst r = some s') (h : DOps P T rb ops L ⟨n, s', bx, ob⟩ K) : DOps P T rb ops (k :: L) ⟨n, s, bx, ob⟩ K := by
  refine ⟨o, ho, true, hg, ?_⟩
  simp only [if_true, hop, clsOf]
  exact fun bx' => eff_callP hop hf hcall hle hc ⟨rfl, s', hp, h⟩

theorem DOps.callO (ho : ops[k]? = some o) (hg : guardA ops s o = some true) {fx : Operand} {as : Array Operand} {ts : Array TypeId} (hop : o.op = .call { callee := .value fx, args := as, argTypes := ts }) {g : FuncId} {caps : List PV}
    (hf : evS s fx = .fn g caps) (hcall : ∀ vs w, (callFunc g vs).run P w = .ok (.enter g vs) w) {args : List PV} (hle : PLeAll P (as.toList.map (evS s) ++ caps) args) {d : Nat} (hd : o.dst = some d) (hlt : Nat.blt d n = true) {e : TypeId} {rows : List (List PV)} (hc : PCalls P g args (OwnR d e rows))
    (h : ∀ q, DOps P T rb ops L ⟨n, upd s d (.own d q rows.length), bx, upd ob d (some ⟨q, e, rows, true⟩)⟩ K) : DOps P T rb ops (k :: L) ⟨n, s, bx, ob⟩ K := by
  refine ⟨o, ho, true, hg, ?_⟩
  simp only [if_true, hop, clsOf]
  intro bx'
  refine eff_call hop hf hcall hle hc fun u H' ⟨q, hu, hH⟩ => ?_
  subst hu
  subst hH
  rw [Heap.over_one]
  exact ⟨rfl, _, by simp [hd, putD, hlt], h q⟩

theorem DOps.appendO (hT : T.Ok P) (ho : ops[k]? = some o) (hg : guardA ops s o = some true) {x y : Operand} {t : TypeId} (hop : o.op = .call { callee := .builtin .append, args := #[x, y], argTypes := #[t, t] }) {d : Nat} (hdst : o.dst = some d) (hlt : Nat.blt d n = true) {ti ei : TInfo} {e : TypeId} (hti : T.get t = some ti) (hd : ti.desc = .slice e) (hei : T.get e = some ei)
    (hz : Nat.beq ei.zero.cells.size ei.size = true) (hsz : Nat.blt 0 ei.size = true) {tag : Nat} {g : OwnRef} {len : Nat} {rows rows2 : List (List PV)} {wr : Bool} (hx : evS s x = .own tag g len) (hob : ob tag = some ⟨g, e, rows, wr⟩) (hlen : len = rows.length) (hy : evS s y = .list e rows2)
    (hby : (rows.length + rows2.length) * ei.bytes ≤ 2 ^ 47) (hmx : rows.length + rows2.length ≤ maxLen) (h : ∀ g', DOps P T rb ops L ⟨n, upd s d (.own tag g' (rows ++ rows2).length), bx, upd ob tag (some ⟨g', e, rows ++ rows2, wr⟩)⟩ K) : DOps P T rb ops (k :: L) ⟨n, s, bx, ob⟩ K := by
  refine ⟨o, ho, true, hg, ?_⟩
  simp only [if_true, hop, clsOf]
  exact fun bx' => eff_appendO hT hop hti hd hei hz hsz hx hob hlen hy hby hmx fun g' => ⟨rfl, _, by simp [hdst, putD, hlt], h g'⟩

theorem DOps.appendN (hT : T.Ok P) (ho : ops[k]? = some o) (hg : guardA ops s o = some true) {x y : Operand} {t : TypeId} (hop : o.op = .call { callee := .builtin .append, args := #[x, y], argTypes := #[t, t] }) {d : Nat} (hdst : o.dst = some d) (hlt : Nat.blt d n = true) {ti ei : TInfo} {e : TypeId} (hti : T.get t = some ti) (hd : ti.desc = .slice e) (hei : T.get e = some ei)
    (hz : Nat.beq ei.zero.cells.size ei.size = true) (hsz : Nat.blt 0 ei.size = true) {rows2 : List (List PV)} (hx : evS s x = .val (.slice none 0 0)) (hy : evS s y = .list e rows2)
    (h : ∀ g', DOps P T rb ops L ⟨n, upd s d (.own d g' rows2.length), bx, upd ob d (some ⟨g', e, rows2, true⟩)⟩ K) : DOps P T rb ops (k :: L) ⟨n, s, bx, ob⟩ K := by
  refine ⟨o, ho, true, hg, ?_⟩
  simp only [if_true, hop, clsOf]
  exact fun bx' => eff_appendN hT hop hti hd hei hz hsz d hx hy fun g' => ⟨rfl, _, by simp [hdst, putD, hlt], h g'⟩

theorem DOps.alloc (ho : ops[k]? = some o) (hg : guardA ops s o = some true) {t : TypeId} (hop : o.op = .alloc t) {d : Nat} (hd : o.dst = some d) {ti : TInfo} (hti : T.get t = some ti) {cs : List PV} (hc : forceL (zeroPV ti) = some cs) (hlt : Nat.blt d n = true) (hbx : bx d = none)
    (h : ∀ b, DOps P T rb ops L ⟨n, upd s d (.box d b 0), upd bx d (some ⟨b, cs⟩), ob⟩ K) : DOps P T rb ops (k :: L) ⟨n, s, bx, ob⟩ K := by
  rw [forceL_eq, Option.some.injEq] at hc
  subst hc
  refine ⟨o, ho, true, hg, ?_⟩
  simp only [if_true, hop, clsOf]
  exact ⟨t, d, ti, rfl, hd, hti, by simpa [Nat.blt_eq] using hlt, hbx, h⟩

theorem DOps.storeBox (ho : ops[k]? = some o) (hg : guardA ops s o = some true) {t : TypeId} {x y : Operand} (hop : o.op = .store t x y) (hd : o.dst = none) {ti : TInfo} (hti : T.get t = some ti) {tag b off : Nat} {cells : List PV} (hx : evS s x = .box tag b off) (hb : bx tag = some ⟨b, cells⟩)
    {cs : List PV} (hc : (cellsPV (evS s y)).bind forceL = some cs) (h1 : cs.all PV.one = true) (hl : Nat.beq cs.length ti.size = true) (hle : Nat.ble (off + ti.size) cells.length = true)
    {cells' : List PV} (hf : forceL (splice cells off cs) = some cells') (h : DOps P T rb ops L ⟨n, s, upd bx tag (some ⟨b, cells'⟩), ob⟩ K) : DOps P T rb ops (k :: L) ⟨n, s, bx, ob⟩ K := by
  have hc' : cellsPV (evS s y) = some cs := by
    cases hq : cellsPV (evS s y) with
    | none => simp [hq] at hc
    | some q => rw [hq, Option.bind_some, forceL_eq] at hc; exact hc
  rw [forceL_eq, Option.some.injEq] at hf
  subst hf
  refine ⟨o, ho, true, hg, ?_⟩
  simp only [if_true, hop, clsOf]
  exact ⟨hd, .inl ⟨t, x, y, ti, tag, b, off, cells, cs, rfl, hti, hx, hb, hc', h1, Nat.eq_of_beq_eq_true hl, Nat.le_of_ble_eq_true hle, h⟩⟩

theorem V.strF {fn : Func} {R : PV → Heap → Prop} {ks : List KI} (d : Nat) {l : List UInt8} (hs : s d = .str l) (h : l.length ≤ maxStr → V P fn R ks ⟨n, s, bx, ob⟩) : V P fn R ks ⟨n, s, bx, ob⟩ :=
  V.fact (Q := l.length ≤ maxStr) d hs (fun _ _ hx => by simp only [Rep] at hx; exact hx.2) h

theorem RepAll.mem {M : Mem} {b : Bool} : ∀ {ps : List PV} {xs : List Value}, RepAll P M b ps xs → ∀ p ∈ ps, ∃ x, Rep P M b p x
  | [], _, _, p, hp => by simp at hp
  | q :: ps, _, h, p, hp => by
    simp only [RepAll] at h
    obtain ⟨x, xs, rfl, h2, h3⟩ := h
    rcases List.mem_cons.1 hp with rfl | hp
    · exact ⟨x, h2⟩
    · exact h3.mem p hp

/-- What is known of a list that a slot holds: of its cells. -/
theorem V.listF {fn : Func} {R : PV → Heap → Prop} {ks : List KI} (d : Nat) {e : TypeId} {rows : List (List PV)} (hs : s d = .list e rows) {Q : PV → Prop} (hq : ∀ M x p, Rep P M false p x → Q p)
    (h : (∀ r ∈ rows, ∀ p ∈ r, Q p) → V P fn R ks ⟨n, s, bx, ob⟩) : V P fn R ks ⟨n, s, bx, ob⟩ :=
  V.fact (Q := ∀ r ∈ rows, ∀ p ∈ r, Q p) d hs (fun M x hx r hr p hp => by
    simp only [Rep] at hx
    obtain ⟨a, c, i, _, _, _, _, _, h6⟩ := hx
    obtain ⟨b, o, _, h7⟩ := h6 (List.ne_nil_of_mem hr)
    obtain ⟨j, hj⟩ := List.mem_iff_getElem?.1 hr
    obtain ⟨xs, h8, _, _⟩ := (h7.get j r hj).2.vals
    obtain ⟨y, hy⟩ := h8.mem p hp
    exact hq M y p hy) h

/-- The strings in the rows of a list that a slot holds. -/
theorem V.textF {fn : Func} {R : PV → Heap → Prop} {ks : List KI} (d : Nat) {e : TypeId} {rows : List (List PV)} (hs : s d = .list e rows)
    (h : (∀ r ∈ rows, ∀ l, PV.str l ∈ r → l.length ≤ maxStr) → V P fn R ks ⟨n, s, bx, ob⟩) : V P fn R ks ⟨n, s, bx, ob⟩ :=
  V.listF d hs (Q := fun p => ∀ l, p = .str l → l.length ≤ maxStr) (fun M x p hp l e => by subst e; simp only [Rep] at hp; exact hp.2) fun hq => h fun r hr l hl => hq r hr _ hl l rfl

theorem V.nilO {fn : Func} {R : PV → Heap → Prop} {ks : List KI} (hT : T.Ok P) (d tag : Nat) {e : TypeId} {ei : TInfo} (hei : T.get e = some ei) (hs : s d = .val (.slice none 0 0))
    (h : V P fn R ks ⟨n, upd s d (.own tag ⟨none, 0⟩ 0), bx, upd ob tag (some ⟨⟨none, 0⟩, e, [], true⟩)⟩) : V P fn R ks ⟨n, s, bx, ob⟩ :=
  V.gh (Gh.nilO hT d tag hei hs) h

theorem V.freezeO {fn : Func} {R : PV → Heap → Prop} {ks : List KI} (d : Nat) {tag : Nat} {g : OwnRef} {len : Nat} {e : TypeId} {rows : List (List PV)} {wr : Bool} (hs : s d = .own tag g len) (hob : ob tag = some ⟨g, e, rows, wr⟩) (hlen : len = rows.length)
    (h : V P fn R ks ⟨n, upd s d (.list e rows), bx, upd ob tag (some ⟨g, e, rows, false⟩)⟩) : V P fn R ks ⟨n, s, bx, ob⟩ :=
  V.gh (Gh.freezeO d hs hob hlen) h

theorem V.freezeB {fn : Func} {R : PV → Heap → Prop} {ks : List KI} (d : Nat) {tag b : Nat} {cells : List PV} (hs : s d = .box tag b 0) (hb : bx tag = some ⟨b, cells⟩) (hf : PV.frozL cells = true) (h1 : cells.all PV.one = true)
    (h : V P fn R ks ⟨n, upd s d (.ptr cells), upd bx tag none, ob⟩) : V P fn R ks ⟨n, s, bx, ob⟩ :=
  V.gh (Gh.freezeB d hs hb hf h1) h
end
end Go.Ab
