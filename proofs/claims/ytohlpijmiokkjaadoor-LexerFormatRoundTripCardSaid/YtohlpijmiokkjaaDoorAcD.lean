/- The abstract layer: bits of integers. -/
import Derived.Test.YtohlpijmiokkjaaDoorAcA
namespace Go.Ab

/-- A shift to the left by as many places as b says. -/
def shlI (k : IntKind) (a b : Int) : Option Int := if 0 ≤ b then some (k.wrap (a * 2 ^ (min b.toNat k.bits))) else none
theorem shlI_some {k : IntKind} {a b x : Int} (h : shlI k a b = some x) : 0 ≤ b ∧ x = k.wrap (a * 2 ^ (min b.toNat k.bits)) := by
  unfold shlI at h
  split at h
  · rename_i h0; exact ⟨h0, (Option.some.inj h).symm⟩
  · cases h
def andI (k : IntKind) (a b : Int) : Int := k.wrap (BitVec.ofInt k.bits a &&& BitVec.ofInt k.bits b).toNat
def xorI (k : IntKind) (a b : Int) : Int := k.wrap (BitVec.ofInt k.bits a ^^^ BitVec.ofInt k.bits b).toNat
def orI (k : IntKind) (a b : Int) : Int := k.wrap (BitVec.ofInt k.bits a ||| BitVec.ofInt k.bits b).toNat
section
variable {P : Program} {T : TT} {rb : RB} {ops : Array Oper} {rest : List Oper} {L : List Nat} {k : Nat} {o : Oper} {n : Nat} {s s' : Nat → PV} {bx : Nat → Option Box} {ob : Nat → Option Obj} {K : PState → Prop}
/-- An operation on two integers that the world does not see. -/
theorem detS_int {bop : BinOp} {t t' : TypeId} {x y : Operand} (ho : o.op = .binOp bop t x y t') {ev : Operand → PV} {H : Heap} {kk k2 : IntKind} {a b r : Int} (hx : ev x = .val (.int kk a)) (hy : ev y = .val (.int k2 b))
    (hq : (bop matches .eql | .neq) = false) (hr : ∀ w, (binOp bop t (.int kk a) (.int k2 b)).run P w = .ok (.int kk r) w) : DetS P o ev H (.val (.int kk r)) := by
  intro C M a' w hi he
  have hxr := he x (by rw [ho]; simp [Op.operands])
  have hyr := he y (by rw [ho]; simp [Op.operands])
  rw [hx] at hxr
  rw [hy] at hyr
  simp only [Rep] at hxr hyr
  refine ⟨.int kk r, ?_, by simp only [Rep]⟩
  have h2 : (eqGuard bop t x y (.int kk a) (.int k2 b)).run P w = .ok () w := by
    cases bop <;> first | (exact absurd hq (by decide)) | simp [eqGuard]
  simp only [execOp, ho, hxr, hyr, Sem.run_bind, h2, Result.andThen_ok, hr w]
  rfl
theorem run_shl {t : TypeId} {kk k2 : IntKind} {a b r : Int} (h : shlI kk a b = some r) (w : World) : (binOp .shl t (.int kk a) (.int k2 b)).run P w = .ok (.int kk r) w := by
  obtain ⟨hb, rfl⟩ := shlI_some h
  have hb' : ¬ b < 0 := by omega
  simp only [binOp, Op.shift, if_neg hb']
  rfl
theorem run_shr {t : TypeId} {kk k2 : IntKind} {a b : Int} (hb : 0 ≤ b) {m : Nat} (hm : min b.toNat kk.bits = m) (w : World) : (binOp .shr t (.int kk a) (.int k2 b)).run P w = .ok (.int kk (a.fdiv (2 ^ m))) w := by
  subst hm
  have hb' : ¬ b < 0 := by omega
  simp only [binOp, Op.shift, if_neg hb']
  rfl
theorem run_xor {t : TypeId} {kk : IntKind} {a b : Int} (w : World) : (binOp .xor t (.int kk a) (.int kk b)).run P w = .ok (.int kk (xorI kk a b)) w := by
  simp only [binOp, Op.intBits, ne_eq, not_true_eq_false, if_false]
  rfl
theorem run_and {t : TypeId} {kk : IntKind} {a b : Int} (w : World) : (binOp .and t (.int kk a) (.int kk b)).run P w = .ok (.int kk (andI kk a b)) w := by
  simp only [binOp, Op.intBits, ne_eq, not_true_eq_false, if_false]
  rfl
theorem AOps.shl (hg : guardA ops s o = some true) {t t' : TypeId} {x y : Operand} (ho : o.op = .binOp .shl t x y t') {kk k2 : IntKind} {a b r : Int} (hx : evS s x = .val (.int kk a)) (hy : evS s y = .val (.int k2 b)) (hr : shlI kk a b = some r)
    (hp : putD n s o.dst (.val (.int kk r)) = some s') (h : AOps P ops rest ⟨n, s', bx, ob⟩ K) : AOps P ops (o :: rest) ⟨n, s, bx, ob⟩ K := AOps.detS hg (detS_int ho hx hy rfl (run_shl hr)) hp h
theorem AOps.xor (hg : guardA ops s o = some true) {t t' : TypeId} {x y : Operand} (ho : o.op = .binOp .xor t x y t') {kk : IntKind} {a b : Int} (hx : evS s x = .val (.int kk a)) (hy : evS s y = .val (.int kk b))
    (hp : putD n s o.dst (.val (.int kk (xorI kk a b))) = some s') (h : AOps P ops rest ⟨n, s', bx, ob⟩ K) : AOps P ops (o :: rest) ⟨n, s, bx, ob⟩ K := AOps.detS hg (detS_int ho hx hy rfl run_xor) hp h
theorem AOps.and (hg : guardA ops s o = some true) {t t' : TypeId} {x y : Operand} (ho : o.op = .binOp .and t x y t') {kk : IntKind} {a b : Int} (hx : evS s x = .val (.int kk a)) (hy : evS s y = .val (.int kk b))
    (hp : putD n s o.dst (.val (.int kk (andI kk a b))) = some s') (h : AOps P ops rest ⟨n, s', bx, ob⟩ K) : AOps P ops (o :: rest) ⟨n, s, bx, ob⟩ K := AOps.detS hg (detS_int ho hx hy rfl run_and) hp h
theorem DOps.shl (ho : ops[k]? = some o) (hg : guardA ops s o = some true) {t t' : TypeId} {x y : Operand} (hop : o.op = .binOp .shl t x y t') {kk k2 : IntKind} {a b r : Int} (hx : evS s x = .val (.int kk a)) (hy : evS s y = .val (.int k2 b)) (hr : shlI kk a b = some r)
    (hp : putD n s o.dst (.val (.int kk r)) = some s') (h : DOps P T rb ops L ⟨n, s', bx, ob⟩ K) : DOps P T rb ops (k :: L) ⟨n, s, bx, ob⟩ K := DOps.detS ho hg (by rw [hop]; rfl) (fun _ => detS_int hop hx hy rfl (run_shl hr)) hp h
theorem DOps.shr (ho : ops[k]? = some o) (hg : guardA ops s o = some true) {t t' : TypeId} {x y : Operand} (hop : o.op = .binOp .shr t x y t') {kk k2 : IntKind} {a b : Int} (hx : evS s x = .val (.int kk a)) (hy : evS s y = .val (.int k2 b)) (hb : 0 ≤ b) {m : Nat} (hm : min b.toNat kk.bits = m)
    (hp : putD n s o.dst (.val (.int kk (a.fdiv (2 ^ m)))) = some s') (h : DOps P T rb ops L ⟨n, s', bx, ob⟩ K) : DOps P T rb ops (k :: L) ⟨n, s, bx, ob⟩ K := DOps.detS ho hg (by rw [hop]; rfl) (fun _ => detS_int hop hx hy rfl (run_shr hb hm)) hp h
theorem DOps.xor (ho : ops[k]? = some o) (hg : guardA ops s o = some true) {t t' : TypeId} {x y : Operand} (hop : o.op = .binOp .xor t x y t') {kk : IntKind} {a b : Int} (hx : evS s x = .val (.int kk a)) (hy : evS s y = .val (.int kk b))
    (hp : putD n s o.dst (.val (.int kk (xorI kk a b))) = some s') (h : DOps P T rb ops L ⟨n, s', bx, ob⟩ K) : DOps P T rb ops (k :: L) ⟨n, s, bx, ob⟩ K := DOps.detS ho hg (by rw [hop]; rfl) (fun _ => detS_int hop hx hy rfl run_xor) hp h
theorem DOps.and (ho : ops[k]? = some o) (hg : guardA ops s o = some true) {t t' : TypeId} {x y : Operand} (hop : o.op = .binOp .and t x y t') {kk : IntKind} {a b : Int} (hx : evS s x = .val (.int kk a)) (hy : evS s y = .val (.int kk b))
    (hp : putD n s o.dst (.val (.int kk (andI kk a b))) = some s') (h : DOps P T rb ops L ⟨n, s', bx, ob⟩ K) : DOps P T rb ops (k :: L) ⟨n, s, bx, ob⟩ K := DOps.detS ho hg (by rw [hop]; rfl) (fun _ => detS_int hop hx hy rfl run_and) hp h
/-- A part of a slice of the call's own, looked at. -/
theorem detS_idxS (hT : T.Ok P) {o : Oper} {ev : Operand → PV} {H : Heap} {t : TypeId} {x i : Operand} (ho : o.op = .indexAddr t x i) {ti ei : TInfo} {e : TypeId} (hti : T.get t = some ti) (hd : ti.desc = .slice e) (hei : T.get e = some ei)
    (tag : Nat) {g : OwnRef} {z l h m : Nat} (hx : ev x = .val (g.sub z l h m)) (hz : z = ei.size) {k : IntKind} {j : Int} (hi : ev i = .val (.int k j)) (hj : 0 ≤ j ∧ l + j.toNat < h) (hm : h ≤ m) (hb : ∃ b, g.blk = some b) : DetS P o ev H (.optr tag g ei.size (l + j.toNat) 0) := by
  subst hz
  intro C M a w _ he
  have hxr := he x (by rw [ho]; simp [Op.operands])
  have hir := he i (by rw [ho]; simp [Op.operands])
  rw [hx] at hxr
  rw [hi] at hir
  simp only [Rep] at hxr hir
  obtain ⟨b, hb⟩ := hb
  have hu := (hT.get hti).rund w
  rw [hd] at hu
  have hsz := (hT.get hei).rsize w
  have h2 : j < ((h - l : Nat) : Int) := by omega
  have hml : ¬ m = l := by omega
  refine ⟨.pointer (some ⟨b, (l + j.toNat) * ei.size, none⟩), ?_, ?_⟩
  · simp [execOp, ho, Instr.indexAt, hir, hxr, OwnRef.sub, hb, hml, asIntOf, hu, hj.1, h2, hsz, add_off, Nat.add_mul]
  · simp only [Rep]
    exact ⟨trivial, b, hb, by simp⟩
theorem AOps.idxV (hT : T.Ok P) (hg : guardA ops s o = some true) {t : TypeId} {x i : Operand} (ho : o.op = .indexAddr t x i) {ti ei : TInfo} {e : TypeId} (hti : T.get t = some ti) (hd : ti.desc = .slice e) (hei : T.get e = some ei)
    (tag : Nat) {g : OwnRef} {z l h m : Nat} (hx : evS s x = .val (g.sub z l h m)) (hz : z = ei.size) {kk : IntKind} {j : Int} (hi : evS s i = .val (.int kk j)) (hj : 0 ≤ j ∧ l + j.toNat < h) (hm : h ≤ m) (hb : ∃ b, g.blk = some b) (hp : putD n s o.dst (.optr tag g ei.size (l + j.toNat) 0) = some s') (hr : AOps P ops rest ⟨n, s', bx, ob⟩ K) :
    AOps P ops (o :: rest) ⟨n, s, bx, ob⟩ K := AOps.detS hg (detS_idxS hT ho hti hd hei tag hx hz hi hj hm hb) hp hr
theorem DOps.idxV (hT : T.Ok P) (ho : ops[k]? = some o) (hg : guardA ops s o = some true) {t : TypeId} {x i : Operand} (hop : o.op = .indexAddr t x i) {ti ei : TInfo} {e : TypeId} (hti : T.get t = some ti) (hd : ti.desc = .slice e) (hei : T.get e = some ei)
    (tag : Nat) {g : OwnRef} {z l h m : Nat} (hx : evS s x = .val (g.sub z l h m)) (hz : z = ei.size) {kk : IntKind} {j : Int} (hi : evS s i = .val (.int kk j)) (hj : 0 ≤ j ∧ l + j.toNat < h) (hm : h ≤ m) (hb : ∃ b, g.blk = some b) (hp : putD n s o.dst (.optr tag g ei.size (l + j.toNat) 0) = some s') (hr : DOps P T rb ops L ⟨n, s', bx, ob⟩ K) :
    DOps P T rb ops (k :: L) ⟨n, s, bx, ob⟩ K := DOps.detS ho hg (by rw [hop]; rfl) (fun _ => detS_idxS hT hop hti hd hei tag hx hz hi hj hm hb) hp hr
theorem AOps.lenV (hT : T.Ok P) (hg : guardA ops s o = some true) {x : Operand} {t : TypeId} {ts : List TypeId} (ho : o.op = .call { callee := .builtin .len, args := #[x], argTypes := (t :: ts).toArray }) {ti : TInfo} {e : TypeId} (hti : T.get t = some ti) (hd : ti.desc = .slice e) {g : OwnRef} {z l h m : Nat}
    (hx : evS s x = .val (g.sub z l h m)) (hp : putD n s o.dst (.val (.int .i64 ((h - l : Nat) : Int))) = some s') (hr : AOps P ops rest ⟨n, s', bx, ob⟩ K) : AOps P ops (o :: rest) ⟨n, s, bx, ob⟩ K := by
  refine AOps.eff hg (fun C M a w next Q hi he hn => ?_)
  have hxr := he x (by rw [ho]; simp [Op.operands, Call.operands])
  rw [show (⟨n, s, bx, ob⟩ : PState).s = s from rfl, hx] at hxr
  simp only [Rep] at hxr
  have hu := (hT.get hti).und
  rw [hd] at hu
  have hrun : (execOp a.eval o).run P w = .ok (.value (.int .i64 ((h - l : Nat) : Int))) w := by
    simp only [execOp, ho, resolve, Sem.run_bind, Sem.run_pure, Result.andThen_ok, invoke, builtin, List.map_toArray, List.map_cons, List.map_nil, hxr, OwnRef.sub]
    simp [Builtin.len_, run_underlying hu, goInt]
  unfold Oper.wp
  rw [hrun]
  exact hn _ _ ⟨bx, ob⟩ M w ⟨s', hp, hr⟩ (Mem.le_refl M) hi (by simp only [Rep])
/-- An element of a part. -/
def getS {α : Type} (xs : List α) (l h : Nat) (j : Int) : Option α := if 0 ≤ j ∧ l + j.toNat < h then xs[l + j.toNat]? else none
theorem getSE {α β : Type} {xs : List α} {l h : Nat} {j : Int} {k : α → Option β} {r : β} (H : bindP (getS xs l h j) k = some r) : ∃ a, ((0 ≤ j ∧ l + j.toNat < h) ∧ xs[l + j.toNat]? = some a) ∧ k a = some r := by
  obtain ⟨a, h1, h2⟩ := bindE H
  unfold getS at h1
  split at h1
  · rename_i h0; exact ⟨a, ⟨h0, h1⟩, h2⟩
  · cases h1
theorem rowsGetN {α : Type} {f f' : α → List PV} (hE : ∀ x, f x = f' x) {xs : List α} {j : Nat} {x : α} (h : xs[j]? = some x) : (xs.map f)[j]? = some (f' x) := by
  rw [List.getElem?_map, h, Option.map_some, hE]
end
end Go.Ab
