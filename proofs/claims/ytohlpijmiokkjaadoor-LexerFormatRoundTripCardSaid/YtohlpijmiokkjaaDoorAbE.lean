/- The abstract layer, part E: 'det', the pure function of all quiet operations, and that it is sound. -/
import Derived.Test.YtohlpijmiokkjaaDoorAbD
namespace Go.Ab

def offAddr (p : PV) (n : Nat) : Option PV :=
  match p with
  | .box tag b off => some (.box tag b (off + n))
  | .ptr cells => some (.ptr (cells.drop n))
  | .optr tag g k row off => some (.optr tag g k row (off + n))
  | _ => none

def lenPV : PV → Option Nat
  | .list _ rows => some rows.length
  | .own _ _ n => some n
  | .str l => some l.length
  | .val (.slice none n _) => some n
  | _ => none

def boundI (p : Option PV) (dflt : Nat) : Option Int :=
  match p with
  | none => some dflt
  | some (.val (.int _ n)) => some n
  | _ => none

def slicePV (d : TypeDesc) (p : PV) (lo hi : Option PV) : Option PV :=
  match d, p with
  | .string, .str l => match boundI lo 0, boundI hi l.length with
    | some a, some b => if 0 ≤ a ∧ a ≤ b ∧ b ≤ l.length then some (.str ((l.take b.toNat).drop a.toNat)) else none
    | _, _ => none
  | .slice e, .list e' rows => bif Nat.beq e e' then
      match boundI lo 0, boundI hi rows.length with
      | some a, some b => if 0 ≤ a ∧ a ≤ b ∧ b ≤ rows.length then some (.list e' ((rows.take b.toNat).drop a.toNat)) else none
      | _, _ => none
    else none
  | _, _ => none

def noNil : PV → Bool
  | .box _ _ _ | .ptr _ | .optr _ _ _ _ _ | .fn _ _ => true
  | _ => false

def callPV (T : TT) (c : Call) (ev : Operand → PV) : Option PV :=
  match c.callee, c.args.toList, c.argTypes.toList with
  | .builtin .len, [x], t :: _ => match T.get t with
    | some ti => match ti.desc, ev x with
      | .string, .str l => some (.val (.int .i64 l.length))
      | .slice _, p => (lenPV p).bind fun n => match p with
        | .str _ => none
        | _ => some (.val (.int .i64 n))
      | _, _ => none
    | none => none
  | .builtin .min, [x, y], _ => match ev x, ev y with
    | .val (.int k a), .val (.int _ b) => some (.val (.int k (if b < a then b else a)))
    | _, _ => none
  | .builtin .max, [x, y], _ => match ev x, ev y with
    | .val (.int k a), .val (.int _ b) => some (.val (.int k (if b > a then b else a)))
    | _, _ => none
  | _, _, _ => none

def loadPV (bx : Nat → Option Box) (ti : TInfo) : PV → Option PV
  | .ptr cells => readCells ti 0 cells
  | .box tag b off => match bx tag with
    | some x => if x.b = b then readCells ti off x.cells else none
    | none => none
  | _ => none

def det0 (T : TT) (bx : Nat → Option Box) (op : Op) (ev : Operand → PV) : Option PV :=
  match op with
  | .move x | .assign x => some (ev x)
  | .pick c a b => match ev c with
    | .val (.bool true) => some (ev a)
    | .val (.bool false) => some (ev b)
    | _ => none
  | .load t x => match T.get t with
    | some ti => loadPV bx ti (ev x)
    | none => none
  | .fieldAddr t x f => match T.get t with
    | some ti => match ti.desc with
      | .struct fs => match fs[f]? with
        | some fd => match T.get fd.type with
          | some fi => bif Nat.beq fi.size 0 then none else offAddr (ev x) fd.offset
          | none => none
        | none => none
      | _ => none
    | none => none
  | .field t x f => match T.get t with
    | some ti => match ti.desc with
      | .struct fs => match fs[f]? with
        | some fd => match T.get fd.type, ev x with
          | some fi, .agg cells => readCells fi fd.offset cells
          | _, _ => none
        | none => none
      | _ => none
    | none => none
  | .indexAddr t x i => match T.get t, ev x, ev i with
    | some ti, .list e rows, .val (.int _ n) => match ti.desc with
      | .slice e' => bif Nat.beq e e' then (if 0 ≤ n then (rows[n.toNat]?).map .ptr else none) else none
      | _ => none
    | some ti, .box tag b off, .val (.int _ n) => match ti.desc with
      | .array len e => match T.get e with
        | some ei => if 0 ≤ n ∧ n < len then some (.box tag b (off + n.toNat * ei.size)) else none
        | none => none
      | _ => none
    | _, _, _ => none
  | .index t x i => match T.get t, ev x, ev i with
    | some ti, .str l, .val (.int _ n) => match ti.desc with
      | .string => if 0 ≤ n then (l[n.toNat]?).map fun c => .val (.int .u8 c.toNat) else none
      | _ => none
    | _, _, _ => none
  | .binOp op t x y _ => qbin T op t (ev x) (ev y)
  | .unOp op _ x => match op, ev x with
    | .not, .val (.bool b) => some (.val (.bool (!b)))
    | .neg, .val (.int k n) => some (.val (.int k (k.wrap (0 - n))))
    | _, _ => none
  | .convert src dst x => match T.get src, T.get dst, ev x with
    | some _, some ti, .val (.int _ n) => match ti.desc with
      | .int k => some (.val (.int k (k.wrap n)))
      | _ => none
    | some _, some ti, .str l => match ti.desc with
      | .string => some (.str l)
      | _ => none
    | _, _, _ => none
  | .extract x i => match ev x with
    | .tup vs => vs[i]?
    | _ => none
  | .build t ps => buildPV T t (evParts ev ps)
  | .slice t x lo hi none => match T.get t with
    | some ti => slicePV ti.desc (ev x) (lo.map ev) (hi.map ev)
    | none => none
  | .makeFunc (.func f) first caps => bif first.isEmpty then (match forceL (caps.toList.map ev) with | some l => some (.fn f l) | none => none) else none
  | .nilCheck x => bif noNil (ev x) then some (ev x) else none
  | .call c => callPV T c ev
  | _ => none

/-- An operation whose value is 'r' in whatever machine state is represented, and that leaves all that is known as it was. -/
def DetOk (P : Program) (o : Oper) (ev : Operand → PV) (H : Heap) (r : PV) : Prop :=
  ∀ (C : Ctx) (M : Mem) (a : Act) (w : World), InvH P C M H w → (∀ x ∈ o.op.operands, Rep P M true (ev x) (a.eval x)) →
    ∃ v M' w', (execOp a.eval o).run P w = .ok (.value v) w' ∧ M.le M' ∧ InvH P C M' H w' ∧ Rep P M' true r v

theorem Eff.of_det {P : Program} {o : Oper} {ev : Operand → PV} {H : Heap} {r : PV} (h : DetOk P o ev H r) : Eff P o ev H fun u H' => u = r ∧ H' = H := by
  intro C M a w next Q hi he hn
  obtain ⟨v, M', w', hrun, hle, hi', hr⟩ := h C M a w hi he
  unfold Oper.wp
  rw [hrun]
  exact hn v r H M' w' ⟨rfl, rfl⟩ hle hi' hr

section
variable {P : Program} {T : TT} (hT : T.Ok P)
include hT

theorem det_load {t : TypeId} {ti : TInfo} (hti : T.get t = some ti) {C : Ctx} {M : Mem} {H : Heap} {w : World} (hi : InvH P C M H w) {p r : PV} {v : Value} (hp : Rep P M true p v)
    (h : loadPV H.bx ti p = some r) : ∃ u, (Instr.loadAt t v).run P w = .ok u w ∧ Rep P M true r u := by
  have hk := hT.get hti
  cases p with
  | ptr cells =>
    simp only [Rep] at hp
    obtain ⟨b, o, rfl, hat⟩ := hp
    obtain ⟨xs, h1, _, h2⟩ := hat.vals
    obtain ⟨u, h3, h4⟩ := run_load_cells hk w b o 0 cells xs h1 (fun j x hj => hi.mem _ _ _ (h2 j x hj)) h
    exact ⟨u, by simpa [Instr.loadAt, Instr.sureAddr] using h3, h4.slot⟩
  | box tag b off =>
    simp only [Rep] at hp
    obtain ⟨_, rfl⟩ := hp
    simp only [loadPV] at h
    split at h
    · rename_i x hx
      split at h
      · rename_i hb
        subst hb
        obtain ⟨_, ⟨cs, e, hc, hr⟩, _⟩ := hi.boxes tag x hx
        obtain ⟨u, h3, h4⟩ := run_load_cells hk w x.b 0 off x.cells cs.toList hr (fun j y hj => by
          rw [cell_of_row w x.b (0 + j) cs e (0, 0) hc]
          simpa using hj) h
        exact ⟨u, by simpa [Instr.loadAt, Instr.sureAddr] using h3, h4⟩
      · cases h
    · cases h
  | _ => cases h

omit hT in
theorem offAddr_sound {p r : PV} {n : Nat} (h : offAddr p n = some r) {M : Mem} {v : Value} (hp : Rep P M true p v) : ∃ b o, v = .pointer (some ⟨b, o, none⟩) ∧ Rep P M true r (.pointer (some ⟨b, o + n, none⟩)) := by
  unfold offAddr at h
  split at h
  · simp only [Option.some.injEq] at h; subst h
    simp only [Rep] at hp ⊢
    exact ⟨_, _, hp.2, trivial, rfl⟩
  · simp only [Option.some.injEq] at h; subst h
    simp only [Rep] at hp ⊢
    obtain ⟨b, o, rfl, hat⟩ := hp
    exact ⟨b, o, rfl, b, o + n, rfl, hat.drop n⟩
  · simp only [Option.some.injEq] at h; subst h
    simp only [Rep] at hp ⊢
    obtain ⟨_, b, hb, rfl⟩ := hp
    exact ⟨b, _, rfl, trivial, b, hb, by rw [Nat.add_assoc]⟩
  · cases h

theorem slicePV_sound {t : TypeId} {ti : TInfo} (hti : T.get t = some ti) {p r : PV} {lo hi : Option PV} {ov oh : Option Value} (h : slicePV ti.desc p lo hi = some r) {M : Mem} (w : World) {v : Value} (hp : Rep P M true p v)
    (h1 : ∀ q, lo = some q → ∃ x, ov = some x ∧ Rep P M true q x) (h1' : lo = none → ov = none) (h2 : ∀ q, hi = some q → ∃ x, oh = some x ∧ Rep P M true q x) (h2' : hi = none → oh = none) :
    ∃ u, (Instr.sliceAt t v ov oh none).run P w = .ok u w ∧ Rep P M true r u := by
  have hk := hT.get hti
  have hu := hk.rund w
  have bound : ∀ (q : Option PV) (o : Option Value) (d : Nat) (n : Int), boundI q d = some n → (∀ p, q = some p → ∃ x, o = some x ∧ Rep P M true p x) → (q = none → o = none) →
      (o = none ∧ n = d) ∨ ∃ k, o = some (.int k n) := by
    intro q o d n hb ha hn
    cases q with
    | none => simp only [boundI, Option.some.injEq] at hb; exact .inl ⟨hn rfl, hb.symm⟩
    | some q =>
      obtain ⟨x, rfl, hx⟩ := ha q rfl
      unfold boundI at hb
      split at hb
      · rename_i hq; cases hq
      · rename_i k n' hq
        simp only [Option.some.injEq] at hq hb
        subst hq hb
        simp only [Rep] at hx
        subst hx
        exact .inr ⟨_, rfl⟩
      · cases hb
  have sb : ∀ (k : IntKind) (n : Int) (y : Nat) (c : BoundsCode), 0 ≤ n → n ≤ y → (Instr.sliceBound (.int k n) y c).run P w = .ok n.toNat w := by
    intro k n y c h0 hy
    simp [Instr.sliceBound, asIntOf, h0, hy]
  unfold slicePV at h
  split at h
  · rename_i l hd
    simp only [Rep] at hp
    obtain ⟨rfl, hml⟩ := hp
    split at h
    · rename_i a b ha hb
      split at h
      · rename_i hc
        simp only [Option.some.injEq] at h
        subst h
        have hz : (ByteArray.mk l.toArray).size = l.length := by simp [ByteArray.size]
        have hbs : (Instr.sliceBounds false (ByteArray.mk l.toArray).size (ByteArray.mk l.toArray).size ov oh none).run P w = .ok (a.toNat, b.toNat, l.length) w := by
          have e1 := bound lo ov 0 a ha h1 h1'
          have e2 := bound hi oh l.length b hb h2 h2'
          rw [hz]
          have b1 : ∀ k c, (Instr.sliceBound (.int k b) l.length c).run P w = .ok b.toNat w := fun k c => sb k b _ c (by omega) hc.2.2
          have b2 : ∀ k c, (Instr.sliceBound (.int k a) b.toNat c).run P w = .ok a.toNat w := fun k c => sb k a _ c hc.1 (by omega)
          rcases e1 with ⟨rfl, rfl⟩ | ⟨k, rfl⟩ <;> rcases e2 with ⟨rfl, rfl⟩ | ⟨k', rfl⟩ <;> simp_all [Instr.sliceBounds]
        refine ⟨.string ((ByteArray.mk l.toArray).extract a.toNat b.toNat), ?_, ?_⟩
        · rw [hd] at hu
          simp [Instr.sliceAt, Instr.slice, hu, hbs]
        · simp only [Rep]
          refine ⟨?_, by simp; omega⟩
          congr 1
          apply ByteArray.ext
          simp [ByteArray.data_extract, List.extract_eq_take_drop, List.drop_take]
      · cases h
    · cases h
  · rename_i e e' rows hd
    cases he : Nat.beq e e' with
    | false => simp [he] at h
    | true =>
      simp only [he, cond_true] at h
      have := Nat.eq_of_beq_eq_true he
      subst this
      simp only [Rep] at hp
      obtain ⟨ad, c, i, rfl, hlc, hcm, hinf, hby, hrows⟩ := hp
      split at h
      · rename_i a b ha hb
        split at h
        · rename_i hc
          simp only [Option.some.injEq] at h
          subst h
          have hbs : (Instr.sliceBounds true rows.length c ov oh none).run P w = .ok (a.toNat, b.toNat, c) w := by
            have e1 := bound lo ov 0 a ha h1 h1'
            have e2 := bound hi oh rows.length b hb h2 h2'
            have b1 : ∀ k cc, (Instr.sliceBound (.int k b) c cc).run P w = .ok b.toNat w := fun k cc => sb k b _ cc (by omega) (by omega)
            have b2 : ∀ k cc, (Instr.sliceBound (.int k a) b.toNat cc).run P w = .ok a.toNat w := fun k cc => sb k a _ cc hc.1 (by omega)
            rcases e1 with ⟨rfl, rfl⟩ | ⟨k, rfl⟩ <;> rcases e2 with ⟨rfl, rfl⟩ | ⟨k', rfl⟩ <;> simp_all [Instr.sliceBounds]
          have hsz : (sizeOf e).run P w = .ok i.size w := by simp [sizeOf, typeInfo, hinf]
          rw [hd] at hu
          have hlen : ((rows.take b.toNat).drop a.toNat).length = b.toNat - a.toNat := by simp; omega
          refine ⟨.slice (if c = a.toNat then ad else ad.map (·.add (a.toNat * i.size))) (b.toNat - a.toNat) (c - a.toNat), ?_, ?_⟩
          · simp [Instr.sliceAt, Instr.slice, hu, hbs, hsz]
          · simp only [Rep]
            refine ⟨_, _, i, by rw [hlen], by rw [hlen]; omega, by omega, hinf, ?_, fun hne => ?_⟩
            · rw [hlen]
              exact Nat.le_trans (Nat.mul_le_mul_right _ (by omega)) hby
            · have hr0 : rows ≠ [] := by rintro rfl; simp at hne
              obtain ⟨bb, oo, rfl, hrr⟩ := hrows hr0
              have hlt : a.toNat < rows.length := by
                rcases Nat.lt_or_ge a.toNat rows.length with h | h
                · exact h
                · exfalso; apply hne; apply List.eq_nil_of_length_eq_zero; omega
              refine ⟨bb, oo + a.toNat * i.size, ?_, (hrr.take _).drop _⟩
              rw [if_neg (by omega)]
              simp [add_off]
        · cases h
      · cases h
  · cases h
end
end Go.Ab
