/- The abstract layer: values of an error's type; calls that are met by a contract of the library's. -/
import Derived.Test.YtjnpnakcmjndiaaGreatDoorMjk
import Derived.Below
namespace Go.Ab
open Go.RowKit (Below)

/-- An error that is not nil, or nil. -/
abbrev pErr (b : Bool) : PV := .err b

section
variable {P : Program} {T : TT} {rb : RB} {ops : Array Oper} {rest : List Oper} {L : List Nat} {k : Nat} {o : Oper} {n : Nat} {s s' : Nat → PV} {bx : Nat → Option Box} {ob : Nat → Option Obj} {K : PState → Prop}

theorem rep_pErr {M : Mem} {q : Bool} {b : Bool} {x : Value} (h : Rep P M q (pErr b) x) : (b = false ∧ x = .nilIface) ∨ (b = true ∧ ∃ t p, x = .iface t p) := by
  simpa only [pErr, Rep] using h

theorem run_equalIn_nilR (w : World) (d : Nat) {t : TypeId} {ms : Array (String × TypeId)} (hu : P.underlying t = some (.interface ms)) (b : Bool) {v : Value} (hv : (b = false ∧ v = .nilIface) ∨ (b = true ∧ ∃ t p, v = .iface t p)) : (Op.equalIn (d + 1) t v .nilIface).run P w = .ok (!b) w := by
  rcases hv with ⟨rfl, rfl⟩ | ⟨rfl, t1, p1, rfl⟩ <;> simp [Op.equalIn, run_underlying hu]
theorem run_eqlNil (w : World) {t : TypeId} {ms : Array (String × TypeId)} (hu : P.underlying t = some (.interface ms)) (b : Bool) {v : Value} (hv : (b = false ∧ v = .nilIface) ∨ (b = true ∧ ∃ t p, v = .iface t p)) : (binOp .eql t v .nilIface).run P w = .ok (.bool (!b)) w := by
  have h := run_equalIn_nilR w 9999 hu b hv
  rcases hv with ⟨rfl, rfl⟩ | ⟨rfl, t1, p1, rfl⟩
  · simp only [binOp, Op.equal, Op.maxDepth]
    rw [Sem.run_bind, h]
    rfl
  · simp only [binOp, Op.equal, Op.maxDepth]
    rw [Sem.run_bind, h]
    rfl

/-- 'err == nil' -/
theorem detS_errN {t t' : TypeId} {x : Operand} (ho : o.op = .binOp .eql t x (.const .nilIface) t') {ms : Array (String × TypeId)} (hu : P.underlying t = some (.interface ms)) {ev : Operand → PV} {H : Heap} {b : Bool} (hx : ev x = pErr b) : DetS P o ev H (.val (.bool (!b))) := by
  intro C M a w _ he
  have hxr := he x (by rw [ho]; simp [Op.operands])
  rw [hx] at hxr
  have hv := rep_pErr hxr
  refine ⟨.bool (!b), ?_, by simp only [Rep]⟩
  have hn : a.eval (.const .nilIface) = .nilIface := rfl
  have hq : (eqGuard .eql t x (.const .nilIface) (a.eval x) .nilIface).run P w = .ok () w := by
    rcases hv with ⟨_, hv⟩ | ⟨_, t1, p1, hv⟩ <;> rw [hv] <;> simp [eqGuard]
  simp only [execOp, ho, hn, Sem.run_bind, hq, Result.andThen_ok, run_eqlNil w hu b hv]
  rfl

theorem AOps.errN (hg : guardA ops s o = some true) {t t' : TypeId} {x : Operand} (ho : o.op = .binOp .eql t x (.const .nilIface) t') {ms : Array (String × TypeId)} (hu : P.underlying t = some (.interface ms)) {b : Bool} (hx : evS s x = pErr b)
    (hp : putD n s o.dst (.val (.bool (!b))) = some s') (h : AOps P ops rest ⟨n, s', bx, ob⟩ K) : AOps P ops (o :: rest) ⟨n, s, bx, ob⟩ K := AOps.detS hg (detS_errN ho hu hx) hp h
theorem DOps.errN (ho : ops[k]? = some o) (hg : guardA ops s o = some true) {t t' : TypeId} {x : Operand} (hop : o.op = .binOp .eql t x (.const .nilIface) t') {ms : Array (String × TypeId)} (hu : P.underlying t = some (.interface ms)) {b : Bool} (hx : evS s x = pErr b)
    (hp : putD n s o.dst (.val (.bool (!b))) = some s') (h : DOps P T rb ops L ⟨n, s', bx, ob⟩ K) : DOps P T rb ops (k :: L) ⟨n, s, bx, ob⟩ K := DOps.detS ho hg (by rw [hop]; rfl) (fun _ => detS_errN hop hu hx) hp h
end

section
variable {P : Program}

/-- A contract of the library's, asQ the layer has it: it asks of the world only what the package's variables hold. -/
theorem PFun.ofCalls {f : FuncId} {args : List PV} {r : PV}
    (h : ∀ (w : World) (M : Mem) (vs : Array Value), GlW w → RepAll P M true args vs.toList → (∀ b o v, M b o = some v → w.cell? ⟨b, o, none⟩ = some v) → Calls P f vs w fun e w' => ∃ v, e = .returned v ∧ Below w.heap.size w w' ∧ Rep P M true r v) :
    PFun P f args r := by
  intro w M own hg vs hi ha
  have hi0 : InvH P ⟨w, own, M, hg⟩ M Heap.empty w := hi
  refine (h w M vs hg.1 ha hi.mem).mono ?_
  rintro e w' ⟨v, rfl, hb, hr⟩
  refine ⟨v, r, Heap.empty, M, rfl, ⟨rfl, rfl⟩, ?_, hr⟩
  refine ⟨fun b o v hm => ?_, Mem.le_refl _, fun _ _ _ h => .inl h, hb.os, hb.tape, hb.output, hb.size, fun b hb' _ => hb.block b hb', fun _ _ h => by simp [Heap.empty] at h, fun _ _ h => by simp [Heap.empty] at h,
    fun _ _ _ _ h => by simp [Heap.empty] at h, fun _ _ _ _ _ h => by simp [Heap.empty] at h, fun _ _ _ _ h => by simp [Heap.empty] at h⟩
  have h1 := hi0.mem b o v hm
  have h2 := hb.block b (hi0.mem_lt hm)
  simpa only [World.cell?, h2] using h1
end

/-! A slice of the caller's own beside two other results. -/
def OwnT (n : Nat) (e : TypeId) (rows : List (List PV)) (ps : List PV) (u : PV) (H : Heap) : Prop :=
  ∃ g, u = .tup (.own n g rows.length :: ps) ∧ H = ⟨fun _ => none, upd (fun _ => none) n (some ⟨g, e, rows, true⟩)⟩

section
variable {P : Program} {T : TT} {ops : Array Oper} {rest : List Oper} {o : Oper} {n : Nat} {s : Nat → PV} {bx : Nat → Option Box} {ob : Nat → Option Obj} {K : PState → Prop}
theorem AOps.callOT (hg : guardA ops s o = some true) {fx : Operand} {asQ : Array Operand} {ts : Array TypeId} (ho : o.op = .call { callee := .value fx, args := asQ, argTypes := ts }) {g : FuncId} {caps : List PV}
    (hf : evS s fx = .fn g caps) (hcall : ∀ vs w, (callFunc g vs).run P w = .ok (.enter g vs) w) {args : List PV} (hle : PLeAll P (asQ.toList.map (evS s) ++ caps) args) {d : Nat} (hd : o.dst = some d) (hlt : Nat.blt d n = true) {e : TypeId} {rows : List (List PV)} {ps : List PV} (hc : PCalls P g args (OwnT d e rows ps))
    (h : ∀ q, AOps P ops rest ⟨n, upd s d (.tup (.own d q rows.length :: ps)), bx, upd ob d (some ⟨q, e, rows, true⟩)⟩ K) : AOps P ops (o :: rest) ⟨n, s, bx, ob⟩ K :=
  AOps.eff hg (eff_call ho hf hcall hle hc fun u H' ⟨q, hu, hH⟩ => by
    subst hu
    subst hH
    rw [Heap.over_one]
    exact ⟨_, by simp [hd, putD, hlt], h q⟩)

theorem V.retOT {fn : Func} {k : List KI} (hT : T.Ok P) {t t1 t2 : Nat} (hres : fn.results = #[.tmp t, .tmp t1, .tmp t2]) {m : Nat} {e : TypeId} {rows rows' : List (List PV)} {tag : Nat} {g : OwnRef} {len : Nat} {p1 p2 : PV} (hs : s t = .own tag g len) (hob : ob tag = some ⟨g, e, rows', true⟩) (hlen : len = rows'.length) (he : rows' = rows) (h1 : s t1 = p1) (h2 : s t2 = p2) :
    V P fn (OwnT m e rows [p1, p2]) (.code .ret :: k) ⟨n, s, bx, ob⟩ := by
  subst he
  subst hlen
  intro C M a w hi
  refine wp_ret (after_ret ?_)
  obtain ⟨v, hv, hr⟩ := results_run (st := ⟨n, s, bx, ob⟩) hT hres (ps := [.own tag g rows'.length, p1, p2]) ⟨_, _, rfl, hs, _, _, rfl, h1, _, _, rfl, h2, rfl⟩ hi
  refine ⟨hi.1.2.1, v, hv, v, .tup [.own m g rows'.length, p1, p2], ⟨fun _ => none, upd (fun _ => none) m (some ⟨g, e, rows', true⟩)⟩, M, rfl, ⟨g, rfl, rfl⟩, hi.2.pick (tag := tag) hob m, ?_⟩
  simpa only [tupOf, Rep, RepAll] using hr
end
end Go.Ab
