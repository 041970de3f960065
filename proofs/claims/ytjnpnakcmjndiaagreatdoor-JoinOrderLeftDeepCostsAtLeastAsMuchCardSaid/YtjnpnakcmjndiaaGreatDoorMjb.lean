/- The abstract layer, part E: 'det', the pure function of all quiet operations, and that it is sound. -/
import Derived.Test.YtjnpnakcmjndiaaGreatDoorMja
import Derived.Tactics
namespace Go.Ab

def offAddr (p : PV) (n : Nat) : Option PV :=
  match p with
  | .box tag b off => some (.box tag b (off + n))
  | .ptr cells => some (.ptr (cells.drop n))
  | .optr tag g k row off => some (.optr tag g k row (off + n))
  | _ => none

def lenPV : PV → Option Nat
  | .list _ rows => some rows.length
  | .own _ _ n => some n
  | .str l => some l.length
  | .val (.slice none n _) => some n
  | _ => none

def boundI (p : Option PV) (dflt : Nat) : Option Int :=
  match p with
  | none => some dflt
  | some (.val (.int _ n)) => some n
  | _ => none

def slicePV (d : TypeDesc) (p : PV) (lo hi : Option PV) : Option PV :=
  match d, p with
  | .string, .str l => match boundI lo 0, boundI hi l.length with
    | some a, some b => if 0 ≤ a ∧ a ≤ b ∧ b ≤ l.length then some (.str ((l.take b.toNat).drop a.toNat)) else none
    | _, _ => none
  | .slice e, .list e' rows => bif Nat.beq e e' then
      match boundI lo 0, boundI hi rows.length with
      | some a, some b => if 0 ≤ a ∧ a ≤ b ∧ b ≤ rows.length then some (.list e' ((rows.take b.toNat).drop a.toNat)) else none
      | _, _ => none
    else none
  | _, _ => none

def noNil : PV → Bool
  | .box _ _ _ | .ptr _ | .optr _ _ _ _ _ | .fn _ _ => true
  | _ => false

def callPV (T : TT) (c : Call) (ev : Operand → PV) : Option PV :=
  match c.callee, c.args.toList, c.argTypes.toList with
  | .builtin .len, [x], t :: _ => match T.get t with
    | some ti => match ti.desc, ev x with
      | .string, .str l => some (.val (.int .i64 l.length))
      | .slice _, p => (lenPV p).bind fun n => match p with
        | .str _ => none
        | _ => some (.val (.int .i64 n))
      | _, _ => none
    | none => none
  | .builtin .min, [x, y], _ => match ev x, ev y with
    | .val (.int k a), .val (.int _ b) => some (.val (.int k (if b < a then b else a)))
    | _, _ => none
  | .builtin .max, [x, y], _ => match ev x, ev y with
    | .val (.int k a), .val (.int _ b) => some (.val (.int k (if b > a then b else a)))
    | _, _ => none
  | _, _, _ => none

def loadPV (bx : Nat → Option Box) (ti : TInfo) : PV → Option PV
  | .ptr cells => readCells ti 0 cells
  | .box tag b off => match bx tag with
    | some x => if x.b = b then readCells ti off x.cells else none
    | none => none
  | _ => none

def det0 (T : TT) (bx : Nat → Option Box) (op : Op) (ev : Operand → PV) : Option PV :=
  match op with
  | .move x | .assign x => some (ev x)
  | .pick c a b => match ev c with
    | .val (.bool true) => some (ev a)
    | .val (.bool false) => some (ev b)
    | _ => none
  | .load t x => match T.get t with
    | some ti => loadPV bx ti (ev x)
    | none => none
  | .fieldAddr t x f => match T.get t with
    | some ti => match ti.desc with
      | .struct fs => match fs[f]? with
        | some fd => match T.get fd.type with
          | some fi => bif Nat.beq fi.size 0 then none else offAddr (ev x) fd.offset
          | none => none
        | none => none
      | _ => none
    | none => none
  | .field t x f => match T.get t with
    | some ti => match ti.desc with
      | .struct fs => match fs[f]? with
        | some fd => match T.get fd.type, ev x with
          | some fi, .agg cells => readCells fi fd.offset cells
          | _, _ => none
        | none => none
      | _ => none
    | none => none
  | .indexAddr t x i => match T.get t, ev x, ev i with
    | some ti, .list e rows, .val (.int _ n) => match ti.desc with
      | .slice e' => bif Nat.beq e e' then (if 0 ≤ n then (rows[n.toNat]?).map .ptr else none) else none
      | _ => none
    | some ti, .box tag b off, .val (.int _ n) => match ti.desc with
      | .array len e => match T.get e with
        | some ei => if 0 ≤ n ∧ n < len then some (.box tag b (off + n.toNat * ei.size)) else none
        | none => none
      | _ => none
    | _, _, _ => none
  | .index t x i => match T.get t, ev x, ev i with
    | some ti, .str l, .val (.int _ n) => match ti.desc with
      | .string => if 0 ≤ n then (l[n.toNat]?).map fun c => .val (.int .u8 c.toNat) else none
      | _ => none
    | _, _, _ => none
  | .binOp op t x y _ => qbin T op t (ev x) (ev y)
  | .unOp op _ x => match op, ev x with
    | .not, .val (.bool b) => some (.val (.bool (!b)))
    | .neg, .val (.int k n) => some (.val (.int k (k.wrap (0 - n))))
    | _, _ => none
  | .convert src dst x => match T.get src, T.get dst, ev x with
    | some _, some ti, .val (.int _ n) => match ti.desc with
      | .int k => some (.val (.int k (k.wrap n)))
      | _ => none
    | some _, some ti, .str l => match ti.desc with
      | .string => some (.str l)
      | _ => none
    | _, _, _ => none
  | .extract x i => match ev x with
    | .tup vs => vs[i]?
    | _ => none
  | .build t ps => buildPV T t (evParts ev ps)
  | .slice t x lo hi none => match T.get t with
    | some ti => slicePV ti.desc (ev x) (lo.map ev) (hi.map ev)
    | none => none
  | .makeFunc (.func f) first caps => bif first.isEmpty then (match forceL (caps.toList.map ev) with | some l => some (.fn f l) | none => none) else none
  | .nilCheck x => bif noNil (ev x) then some (ev x) else none
  | .call c => callPV T c ev
  | _ => none

/-- An operation whose value is 'r' in whatever machine state is represented, and that leaves all that is known asQ it was. -/
def DetOk (P : Program) (o : Oper) (ev : Operand → PV) (H : Heap) (r : PV) : Prop :=
  ∀ (C : Ctx) (M : Mem) (a : Act) (w : World), InvH P C M H w → (∀ x ∈ o.op.operands, Rep P M true (ev x) (a.eval x)) →
    ∃ v M' w', (execOp a.eval o).run P w = .ok (.value v) w' ∧ M.le M' ∧ InvH P C M' H w' ∧ Rep P M' true r v

theorem Eff.of_det {P : Program} {o : Oper} {ev : Operand → PV} {H : Heap} {r : PV} (h : DetOk P o ev H r) : Eff P o ev H fun u H' => u = r ∧ H' = H := by
  intro C M a w next Q hi he hn
  obtain ⟨v, M', w', hrun, hle, hi', hr⟩ := h C M a w hi he
  unfold Oper.wp
  rw [hrun]
  exact hn v r H M' w' ⟨rfl, rfl⟩ hle hi' hr

section
variable {P : Program} {T : TT} (hT : T.Ok P)
include hT

theorem det_load {t : TypeId} {ti : TInfo} (hti : T.get t = some ti) {C : Ctx} {M : Mem} {H : Heap} {w : World} (hi : InvH P C M H w) {p r : PV} {v : Value} (hp : Rep P M true p v)
    (h : loadPV H.bx ti p = some r) : ∃ u, (Instr.loadAt t v).run P w = .ok u w ∧ Rep P M true r u := by
  have hk := hT.get hti
  cases p with
  | ptr cells =>
    simp only [Rep] at hp
    obtain ⟨b, o, rfl, hat⟩ := hp
    obtain ⟨xs, h1, _, h2⟩ := hat.vals
    obtain ⟨u, h3, h4⟩ := run_load_cells hk w b o 0 cells xs h1 (fun j x hj => hi.mem _ _ _ (h2 j x hj)) h
    exact ⟨u, by simpa [Instr.loadAt, Instr.sureAddr] using h3, h4.slot⟩
  | box tag b off =>
    simp only [Rep] at hp
    obtain ⟨_, rfl⟩ := hp
    simp only [loadPV] at h
    split at h
    · rename_i x hx
      split at h
      · rename_i hb
        subst hb
        obtain ⟨_, ⟨cs, e, hc, hr⟩, _⟩ := hi.boxes tag x hx
        obtain ⟨u, h3, h4⟩ := run_load_cells hk w x.b 0 off x.cells cs.toList hr (fun j y hj => by
          rw [cell_of_row w x.b (0 + j) cs e (0, 0) hc]
          simpa using hj) h
        exact ⟨u, by simpa [Instr.loadAt, Instr.sureAddr] using h3, h4⟩
      · cases h
    · cases h
  | _ => cases h

omit hT in
theorem offAddr_sound {p r : PV} {n : Nat} (h : offAddr p n = some r) {M : Mem} {v : Value} (hp : Rep P M true p v) : ∃ b o, v = .pointer (some ⟨b, o, none⟩) ∧ Rep P M true r (.pointer (some ⟨b, o + n, none⟩)) := by
  unfold offAddr at h
  split at h
  · simp only [Option.some.injEq] at h; subst h
    simp only [Rep] at hp ⊢
    exact ⟨_, _, hp.2, trivial, rfl⟩
  · simp only [Option.some.injEq] at h; subst h
    simp only [Rep] at hp ⊢
    obtain ⟨b, o, rfl, hat⟩ := hp
    exact ⟨b, o, rfl, b, o + n, rfl, hat.drop n⟩
  · simp only [Option.some.injEq] at h; subst h
    simp only [Rep] at hp ⊢
    obtain ⟨_, b, hb, rfl⟩ := hp
    exact ⟨b, _, rfl, trivial, b, hb, by rw [Nat.add_assoc]⟩
  · cases h

theorem slicePV_sound {t : TypeId} {ti : TInfo} (hti : T.get t = some ti) {p r : PV} {lo hi : Option PV} {ov oh : Option Value} (h : slicePV ti.desc p lo hi = some r) {M : Mem} (w : World) {v : Value} (hp : Rep P M true p v)
    (h1 : ∀ q, lo = some q → ∃ x, ov = some x ∧ Rep P M true q x) (h1' : lo = none → ov = none) (h2 : ∀ q, hi = some q → ∃ x, oh = some x ∧ Rep P M true q x) (h2' : hi = none → oh = none) :
    ∃ u, (Instr.sliceAt t v ov oh none).run P w = .ok u w ∧ Rep P M true r u := by
  have hk := hT.get hti
  have hu := hk.rund w
  have bound : ∀ (q : Option PV) (o : Option Value) (d : Nat) (n : Int), boundI q d = some n → (∀ p, q = some p → ∃ x, o = some x ∧ Rep P M true p x) → (q = none → o = none) →
      (o = none ∧ n = d) ∨ ∃ k, o = some (.int k n) := by
    intro q o d n hb ha hn
    cases q with
    | none => simp only [boundI, Option.some.injEq] at hb; exact .inl ⟨hn rfl, hb.symm⟩
    | some q =>
      obtain ⟨x, rfl, hx⟩ := ha q rfl
      unfold boundI at hb
      split at hb
      · rename_i hq; cases hq
      · rename_i k n' hq
        simp only [Option.some.injEq] at hq hb
        subst hq hb
        simp only [Rep] at hx
        subst hx
        exact .inr ⟨_, rfl⟩
      · cases hb
  have sb : ∀ (k : IntKind) (n : Int) (y : Nat) (c : BoundsCode), 0 ≤ n → n ≤ y → (Instr.sliceBound (.int k n) y c).run P w = .ok n.toNat w := by
    intro k n y c h0 hy
    simp [Instr.sliceBound, asIntOf, h0, hy]
  unfold slicePV at h
  split at h
  · rename_i l hd
    simp only [Rep] at hp
    obtain ⟨rfl, hml⟩ := hp
    split at h
    · rename_i a b ha hb
      split at h
      · rename_i hc
        simp only [Option.some.injEq] at h
        subst h
        have hz : (ByteArray.mk l.toArray).size = l.length := by simp [ByteArray.size]
        have hbs : (Instr.sliceBounds false (ByteArray.mk l.toArray).size (ByteArray.mk l.toArray).size ov oh none).run P w = .ok (a.toNat, b.toNat, l.length) w := by
          have e1 := bound lo ov 0 a ha h1 h1'
          have e2 := bound hi oh l.length b hb h2 h2'
          rw [hz]
          have b1 : ∀ k c, (Instr.sliceBound (.int k b) l.length c).run P w = .ok b.toNat w := fun k c => sb k b _ c (by omega) hc.2.2
          have b2 : ∀ k c, (Instr.sliceBound (.int k a) b.toNat c).run P w = .ok a.toNat w := fun k c => sb k a _ c hc.1 (by omega)
          rcases e1 with ⟨rfl, rfl⟩ | ⟨k, rfl⟩ <;> rcases e2 with ⟨rfl, rfl⟩ | ⟨k', rfl⟩ <;> simp_all [Instr.sliceBounds]
        refine ⟨.string ((ByteArray.mk l.toArray).extract a.toNat b.toNat), ?_, ?_⟩
        · rw [hd] at hu
          simp [Instr.sliceAt, Instr.slice, hu, hbs]
        · simp only [Rep]
          refine ⟨?_, by simp; omega⟩
          congr 1
          apply ByteArray.ext
          simp [ByteArray.data_extract, List.extract_eq_take_drop, List.drop_take]
      · cases h
    · cases h
  · rename_i e e' rows hd
    cases he : Nat.beq e e' with
    | false => simp [he] at h
    | true =>
      simp only [he, cond_true] at h
      have := Nat.eq_of_beq_eq_true he
      subst this
      simp only [Rep] at hp
      obtain ⟨ad, c, i, rfl, hlc, hcm, hinf, hby, hrows⟩ := hp
      split at h
      · rename_i a b ha hb
        split at h
        · rename_i hc
          simp only [Option.some.injEq] at h
          subst h
          have hbs : (Instr.sliceBounds true rows.length c ov oh none).run P w = .ok (a.toNat, b.toNat, c) w := by
            have e1 := bound lo ov 0 a ha h1 h1'
            have e2 := bound hi oh rows.length b hb h2 h2'
            have b1 : ∀ k cc, (Instr.sliceBound (.int k b) c cc).run P w = .ok b.toNat w := fun k cc => sb k b _ cc (by omega) (by omega)
            have b2 : ∀ k cc, (Instr.sliceBound (.int k a) b.toNat cc).run P w = .ok a.toNat w := fun k cc => sb k a _ cc hc.1 (by omega)
            rcases e1 with ⟨rfl, rfl⟩ | ⟨k, rfl⟩ <;> rcases e2 with ⟨rfl, rfl⟩ | ⟨k', rfl⟩ <;> simp_all [Instr.sliceBounds]
          have hsz : (sizeOf e).run P w = .ok i.size w := by simp [sizeOf, typeInfo, hinf]
          rw [hd] at hu
          have hlen : ((rows.take b.toNat).drop a.toNat).length = b.toNat - a.toNat := by simp; omega
          refine ⟨.slice (if c = a.toNat then ad else ad.map (·.add (a.toNat * i.size))) (b.toNat - a.toNat) (c - a.toNat), ?_, ?_⟩
          · simp [Instr.sliceAt, Instr.slice, hu, hbs, hsz]
          · simp only [Rep]
            refine ⟨_, _, i, by rw [hlen], by rw [hlen]; omega, by omega, hinf, ?_, fun hne => ?_⟩
            · rw [hlen]
              exact Nat.le_trans (Nat.mul_le_mul_right _ (by omega)) hby
            · have hr0 : rows ≠ [] := by rintro rfl; simp at hne
              obtain ⟨bb, oo, rfl, hrr⟩ := hrows hr0
              have hlt : a.toNat < rows.length := by
                rcases Nat.lt_or_ge a.toNat rows.length with h | h
                · exact h
                · exfalso; apply hne; apply List.eq_nil_of_length_eq_zero; omega
              refine ⟨bb, oo + a.toNat * i.size, ?_, (hrr.take _).drop _⟩
              rw [if_neg (by omega)]
              simp [add_off]
        · cases h
      · cases h
  · cases h
end
end Go.Ab
/- The abstract layer, part F: 'det0' is sound, operation by operation. -/
namespace Go.Ab

section
variable {P : Program} {T : TT} (hT : T.Ok P)
include hT

theorem det_fieldAddr {t : TypeId} {ti fi : TInfo} {fs : Array Field} {f : Nat} {fd : Field} (hti : T.get t = some ti) (hd : ti.desc = .struct fs) (hf : fs[f]? = some fd) (hfi : T.get fd.type = some fi)
    (hz : Nat.beq fi.size 0 = false) {p r : PV} (h : offAddr p fd.offset = some r) {M : Mem} (w : World) {v : Value} (hp : Rep P M true p v) :
    ∃ u, (Instr.fieldAt t v f).run P w = .ok u w ∧ Rep P M true r u := by
  obtain ⟨b, o, rfl, hr⟩ := offAddr_sound h hp
  refine ⟨_, ?_, hr⟩
  have hu := (hT.get hti).rund w
  rw [hd] at hu
  have hz' : fi.size ≠ 0 := fun e => by rw [e] at hz; cases hz
  simp [Instr.fieldAt, hu, hf, Instr.sureAddr, fieldPlace, (hT.get hfi).rsize w, hz', add_off]

theorem det_part {k : Nat} {fi : TInfo} (hfi : T.get k = some fi) {cells : List PV} {off : Nat} {r : PV} (h : readCells fi off cells = some r) {M : Mem} {s : Bool} (w : World) {cs : Array Value} (hr : RepAll P M s cells cs.toList) :
    ∃ u, (part k cs off).run P w = .ok u w ∧ Rep P M s r u := by
  have hk := hT.get hfi
  unfold readCells at h
  cases hd : isAggD fi.desc with
  | true =>
    simp only [hd, cond_true] at h
    cases hl : Nat.ble (off + fi.size) cells.length with
    | false => simp [hl] at h
    | true =>
      simp only [hl, cond_true, Option.some.injEq] at h
      subst h
      refine ⟨.agg (cs.extract off (off + fi.size)), ?_, ?_⟩
      · simp [part, hk.ragg w, hd, hk.rsize w]
      · simp only [Rep]
        refine ⟨_, rfl, ?_⟩
        have := (hr.drop off).take fi.size
        simpa [List.extract_eq_take_drop] using this
  | false =>
    simp only [hd, cond_false] at h
    obtain ⟨x, hx, hrx⟩ := hr.get off r h
    refine ⟨x, ?_, hrx⟩
    rw [Array.getElem?_toList] at hx
    simp [part, hk.ragg w, hd, hx]

theorem callPV_sound {c : Call} {type : TypeId} {ev : Operand → PV} {ρ : Operand → Value} {r : PV} (h : callPV T c ev = some r) {M : Mem} (w : World) (he : ∀ x ∈ c.operands, Rep P M true (ev x) (ρ x)) :
    ∃ u, (do let d ← resolve ρ c type; invoke d.target d.args : Sem Next).run P w = .ok (.value u) w ∧ Rep P M true r u := by
  obtain ⟨callee, args, argTypes⟩ := c
  have hargs : ∀ x ∈ args.toList, Rep P M true (ev x) (ρ x) := fun x hx => he x (by simp only [Call.operands]; cases callee <;> simp_all)
  unfold callPV at h
  simp only at h
  split at h
  · rename_i x t r' ha hat
    have hx := hargs x (by rw [ha]; simp)
    have ha' : args = #[x] := by rw [← Array.toArray_toList (xs := args), ha]
    have hat' : argTypes[0]? = some t := by rw [← Array.getElem?_toList, hat]; rfl
    subst ha'
    split at h
    · rename_i ti hti
      have hu := (hT.get hti).rund w
      split at h
      · rename_i l hd hl
        simp only [Option.some.injEq] at h
        subst h
        rw [hl] at hx
        simp only [Rep] at hx
        refine ⟨.int .i64 l.length, ?_, by simp only [Rep]⟩
        rw [hd] at hu
        have hz : (ByteArray.mk l.toArray).size = l.length := by simp [ByteArray.size]
        simp [resolve, invoke, builtin, Builtin.len_, hat', hu, hx.1, goInt, hz]
      · rename_i e hd
        have hu' := hu
        rw [hd] at hu'
        cases hn : lenPV (ev x) with
        | none => simp [hn] at h
        | some n =>
          simp only [hn, Option.bind_some] at h
          have hlen : ∃ ad c, ρ x = .slice ad n c := by
            generalize ev x = p at *
            unfold lenPV at hn
            split at hn
            · simp only [Option.some.injEq] at hn; subst hn
              simp only [Rep] at hx
              obtain ⟨ad, c, i, h1, _⟩ := hx
              exact ⟨ad, c, h1⟩
            · simp only [Option.some.injEq] at hn; subst hn
              simp only [Rep] at hx
              exact ⟨_, _, hx.2⟩
            · simp at h
            · simp only [Option.some.injEq] at hn; subst hn
              simp only [Rep] at hx
              exact ⟨_, _, hx⟩
            · cases hn
          have hr : r = .val (.int .i64 n) := by
            generalize ev x = p at *
            cases p <;> simp_all
          subst hr
          obtain ⟨ad, c, hv⟩ := hlen
          refine ⟨.int .i64 n, ?_, by simp only [Rep]⟩
          simp [resolve, invoke, builtin, Builtin.len_, hat', hu', hv, goInt]
      · cases h
    · cases h
  · rename_i x y ha
    have hx := hargs x (by rw [ha]; simp)
    have hy := hargs y (by rw [ha]; simp)
    have ha' : args = #[x, y] := by rw [← Array.toArray_toList (xs := args), ha]
    subst ha'
    split at h
    · rename_i k a k' b h1 h2
      simp only [Option.some.injEq] at h
      subst h
      rw [h1] at hx
      rw [h2] at hy
      simp only [Rep] at hx hy
      refine ⟨.int k (if b < a then b else a), ?_, by simp only [Rep]⟩
      simp [resolve, invoke, builtin, Builtin.min_, Builtin.min2, hx, hy]
    · cases h
  · rename_i x y ha
    have hx := hargs x (by rw [ha]; simp)
    have hy := hargs y (by rw [ha]; simp)
    have ha' : args = #[x, y] := by rw [← Array.toArray_toList (xs := args), ha]
    subst ha'
    split at h
    · rename_i k a k' b h1 h2
      simp only [Option.some.injEq] at h
      subst h
      rw [h1] at hx
      rw [h2] at hy
      simp only [Rep] at hx hy
      refine ⟨.int k (if b > a then b else a), ?_, by simp only [Rep]⟩
      simp [resolve, invoke, builtin, Builtin.max_, Builtin.max2, hx, hy]
    · cases h
  · cases h

omit hT in
theorem repAll_map {M : Mem} {s : Bool} {ev : Operand → PV} {ρ : Operand → Value} (l : List Operand) (h : ∀ x ∈ l, Rep P M s (ev x) (ρ x)) : RepAll P M s (l.map ev) (l.map ρ) := by
  induction l with
  | nil => simp [RepAll]
  | cons x l ih =>
    simp only [List.map_cons, RepAll]
    exact ⟨_, _, rfl, h x (by simp), ih fun y hy => h y (by simp [hy])⟩

theorem det0_sound {o : Oper} {ev : Operand → PV} {H : Heap} {r : PV} (h : det0 T H.bx o.op ev = some r) : DetOk P o ev H r := by
  intro C M a w hi he
  suffices hs : ∃ v, (execOp a.eval o).run P w = .ok (.value v) w ∧ Rep P M true r v by
    obtain ⟨v, h1, h2⟩ := hs
    exact ⟨v, M, w, h1, Mem.le_refl M, hi, h2⟩
  obtain ⟨dst, op, type, pos, after, guard⟩ := o
  simp only at he h
  cases op <;> simp only [det0, reduceCtorEq] at h <;> simp only [execOp, Op.operands] at he ⊢
  case move x =>
    simp only [Option.some.injEq] at h; subst h
    exact ⟨_, rfl, he x (by simp)⟩
  case assign x =>
    simp only [Option.some.injEq] at h; subst h
    exact ⟨_, rfl, he x (by simp)⟩
  case pick c x y =>
    have hc := he c (by simp)
    split at h
    · rename_i hq
      simp only [Option.some.injEq] at h; subst h
      rw [hq] at hc
      simp only [Rep] at hc
      exact ⟨_, by simp [hc, asBool], he x (by simp)⟩
    · rename_i hq
      simp only [Option.some.injEq] at h; subst h
      rw [hq] at hc
      simp only [Rep] at hc
      exact ⟨_, by simp [hc, asBool], he y (by simp)⟩
    · cases h
  case load t x =>
    split at h
    · rename_i ti hti
      obtain ⟨u, h1, h2⟩ := det_load hT hti hi (he x (by simp)) h
      exact ⟨u, by simp [h1], h2⟩
    · cases h
  case fieldAddr t x f =>
    split at h
    · rename_i ti hti
      split at h
      · rename_i fs hd
        split at h
        · rename_i fd hf
          split at h
          · rename_i fi hfi
            cases hz : Nat.beq fi.size 0 with
            | true => simp [hz] at h
            | false =>
              simp only [hz, cond_false] at h
              obtain ⟨u, h1, h2⟩ := det_fieldAddr hT hti hd hf hfi hz h w (he x (by simp))
              exact ⟨u, by simp [h1], h2⟩
          · cases h
        · cases h
      · cases h
    · cases h
  case field t x f =>
    split at h
    · rename_i ti hti
      split at h
      · rename_i fs hd
        split at h
        · rename_i fd hf
          split at h
          · rename_i fi cells hfi hx
            have hxr := he x (by simp)
            rw [hx] at hxr
            simp only [Rep] at hxr
            obtain ⟨cs, hv, hcs⟩ := hxr
            obtain ⟨u, h1, h2⟩ := det_part hT hfi h w hcs
            have hu := (hT.get hti).rund w
            rw [hd] at hu
            exact ⟨u, by simp [Instr.field, hu, hf, hv, asAgg, h1], h2⟩
          · cases h
        · cases h
      · cases h
    · cases h
  case indexAddr t x i =>
    split at h
    · rename_i ti e rows k n hti hx hn
      have hu := (hT.get hti).rund w
      have hxr := he x (by simp)
      have hnr := he i (by simp)
      rw [hx] at hxr
      rw [hn] at hnr
      simp only [Rep] at hxr hnr
      obtain ⟨ad, c, inf, hv, hlc, hcm, hinf, hby, hrows⟩ := hxr
      split at h
      · rename_i e' hd
        cases hb : Nat.beq e e' with
        | false => simp [hb] at h
        | true =>
          have := Nat.eq_of_beq_eq_true hb
          subst this
          simp only [hb, cond_true] at h
          split at h
          · rename_i h0
            cases hg : rows[n.toNat]? with
            | none => simp [hg] at h
            | some row =>
              simp only [hg, Option.map_some, Option.some.injEq] at h
              subst h
              have hlt : n.toNat < rows.length := (List.getElem?_eq_some_iff.1 hg).1
              obtain ⟨b, o, rfl, hrr⟩ := hrows (by rintro rfl; simp at hlt)
              have hsz : (sizeOf e).run P w = .ok inf.size w := by simp [sizeOf, typeInfo, hinf]
              rw [hd] at hu
              refine ⟨.pointer (some ⟨b, o + n.toNat * inf.size, none⟩), ?_, ?_⟩
              · have h2 : n < (rows.length : Int) := by omega
                simp [Instr.indexAt, hnr, hv, asIntOf, hu, h0, h2, hsz, add_off]
              · simp only [Rep]
                exact ⟨b, _, rfl, (hrr.get _ _ hg).2⟩
          · cases h
      · cases h
    · rename_i ti tag b off k n hti hx hn
      have hu := (hT.get hti).rund w
      have hxr := he x (by simp)
      have hnr := he i (by simp)
      rw [hx] at hxr
      rw [hn] at hnr
      simp only [Rep] at hxr hnr
      split at h
      · rename_i len e hd
        split at h
        · rename_i ei hei
          split at h
          · rename_i hc
            simp only [Option.some.injEq] at h
            subst h
            rw [hd] at hu
            refine ⟨.pointer (some ⟨b, off + n.toNat * ei.size, none⟩), ?_, by simp [Rep]⟩
            simp [Instr.indexAt, hnr, hxr.2, asIntOf, hu, Instr.sureAddr, hc.1, hc.2, (hT.get hei).rsize w, add_off]
          · cases h
        · cases h
      · cases h
    · cases h
  case index t x i =>
    split at h
    · rename_i ti l k n hti hx hn
      have hu := (hT.get hti).rund w
      have hxr := he x (by simp)
      have hnr := he i (by simp)
      rw [hx] at hxr
      rw [hn] at hnr
      simp only [Rep] at hxr hnr
      split at h
      · rename_i hd
        rw [hd] at hu
        split at h
        · rename_i h0
          cases hg : l[n.toNat]? with
          | none => simp [hg] at h
          | some c =>
            simp only [hg, Option.map_some, Option.some.injEq] at h
            subst h
            refine ⟨.int .u8 c.toNat, ?_, by simp only [Rep]⟩
            have hlt : n.toNat < l.length := (List.getElem?_eq_some_iff.1 hg).1
            have hb : (ByteArray.mk l.toArray)[n.toNat]? = some c := by
              have hz : (ByteArray.mk l.toArray).size = l.length := by simp [ByteArray.size]
              rw [getElem?_pos _ _ (by rw [hz]; exact hlt)]
              have := (List.getElem?_eq_some_iff.1 hg).2
              show some ((l.toArray)[n.toNat]'_) = some c
              simp [this]
            simp [Instr.index, hnr, hxr, asIntOf, hu, h0, hb]
        · cases h
      · cases h
    · cases h
  case binOp op t x y u =>
    obtain ⟨v, h1, h2⟩ := qbin_sound hT w h (he x (by simp)) (he y (by simp)) x y
    exact ⟨v, by rw [Sem.run_bind, h1]; rfl, h2⟩
  case unOp op t x =>
    have hx := he x (by simp)
    split at h
    · rename_i b hq
      simp only [Option.some.injEq] at h; subst h
      rw [hq] at hx
      simp only [Rep] at hx
      exact ⟨.bool (!b), by simp [hx, Op.unary], by simp only [Rep]⟩
    · rename_i k n hq
      simp only [Option.some.injEq] at h; subst h
      rw [hq] at hx
      simp only [Rep] at hx
      exact ⟨.int k (k.wrap (0 - n)), by simp [hx, Op.unary, Op.intArith], by simp only [Rep]⟩
    · cases h
  case convert src dst x =>
    have hx := he x (by simp)
    split at h
    · rename_i si ti k n hsi hti hq
      rw [hq] at hx
      simp only [Rep] at hx
      have hs := (hT.get hsi).rund w
      have hu := (hT.get hti).rund w
      split at h
      · rename_i k' hd
        simp only [Option.some.injEq] at h; subst h
        rw [hd] at hu
        exact ⟨.int k' (k'.wrap n), by simp [convert, hs, hu, hx, Conv.intToInt], by simp only [Rep]⟩
      · cases h
    · rename_i si ti l hsi hti hq
      rw [hq] at hx
      simp only [Rep] at hx
      have hs := (hT.get hsi).rund w
      have hu := (hT.get hti).rund w
      split at h
      · rename_i hd
        simp only [Option.some.injEq] at h; subst h
        rw [hd] at hu
        refine ⟨.string ⟨l.toArray⟩, ?_, by simp only [Rep]; exact ⟨trivial, hx.2⟩⟩
        simp only [convert, Sem.run_bind, hs, hu, hx.1, Result.andThen_ok]
        cases si.desc <;> rfl
      · cases h
    · cases h
  case extract x i =>
    have hx := he x (by simp)
    split at h
    · rename_i vs hq
      rw [hq] at hx
      simp only [Rep] at hx
      obtain ⟨cs, hv, hcs⟩ := hx
      obtain ⟨y, hy, hr⟩ := hcs.get i r h
      rw [Array.getElem?_toList] at hy
      exact ⟨y, by simp [Instr.extract, hv, hy], hr⟩
    · cases h
  case build t ps =>
    obtain ⟨v, h1, h2⟩ := buildPV_sound (s := true) (M := M) (ev := ev) (ρ := a.eval) hT w h (fun x hx => he x (by simpa using hx))
    refine ⟨v, ?_, h2⟩
    rw [Sem.run_bind, map_pairs, h1]
    rfl
  case slice t x lo hi' mx =>
    cases mx with
    | some m => simp at h
    | none =>
      simp only at h
      split at h
      · rename_i ti hti
        obtain ⟨u, h1, h2⟩ := slicePV_sound hT (ov := lo.map a.eval) (oh := hi'.map a.eval) hti h w (he x (by simp))
          (fun q hq => by
            cases lo with
            | none => cases hq
            | some y => simp only [Option.map_some, Option.some.injEq] at hq; subst hq; exact ⟨_, rfl, he y (by simp)⟩)
          (fun hq => by cases lo <;> simp_all)
          (fun q hq => by
            cases hi' with
            | none => cases hq
            | some y => simp only [Option.map_some, Option.some.injEq] at hq; subst hq; exact ⟨_, rfl, he y (by simp)⟩)
          (fun hq => by cases hi' <;> simp_all)
        exact ⟨u, by simp [h1], h2⟩
      · cases h
  case makeFunc fn first caps =>
    cases fn <;> simp only [reduceCtorEq] at h
    rename_i f
    cases hf : first.isEmpty with
    | false => simp [hf] at h
    | true =>
      simp only [hf, cond_true, forceL_eq, Option.some.injEq] at h
      subst h
      have hfe : first = #[] := by simpa using hf
      subst hfe
      refine ⟨.func (.func f) #[] (caps.map a.eval), by simp [Instr.makeFunc], ?_⟩
      simp only [Rep]
      exact ⟨_, rfl, by simpa using repAll_map caps.toList fun x hx => he x (by simp_all)⟩
  case nilCheck x =>
    have hx := he x (by simp)
    cases hn : noNil (ev x) with
    | false => simp [hn] at h
    | true =>
      simp only [hn, cond_true, Option.some.injEq] at h
      subst h
      refine ⟨a.eval x, ?_, hx⟩
      generalize ev x = p at *
      cases p <;> simp only [noNil, reduceCtorEq] at hn <;> simp only [Rep] at hx
      · obtain ⟨b, o, hv, _⟩ := hx; rw [hv]; rfl
      · obtain ⟨cs, hv, _⟩ := hx; rw [hv]; rfl
      · rw [hx.2]; rfl
      · obtain ⟨_, b, _, hv⟩ := hx; rw [hv]; rfl
  case call c => exact callPV_sound hT h w he
end
end Go.Ab
/- The abstract layer, part G: operations one behind the other; boxes, stores, slice literals. -/
namespace Go.Ab

mutual
def PV.froz : PV → Bool
  | .any | .box _ _ _ | .own _ _ _ | .optr _ _ _ _ _ => false
  | .agg cs | .tup cs | .fn _ cs => PV.frozL cs
  | _ => true
def PV.frozL : List PV → Bool
  | [] => true
  | p :: ps => p.froz && PV.frozL ps
end

section
variable {P : Program} {M : Mem}
mutual
theorem Rep.unslot : ∀ {p : PV} {x : Value}, p.froz = true → Rep P M true p x → Rep P M false p x
  | .any, _, h, _ => by simp [PV.froz] at h
  | .val _, _, _, h => by simpa only [Rep] using h
  | .str _, _, _, h => by simpa only [Rep] using h
  | .list _ _, _, _, h => by simpa only [Rep] using h
  | .agg cells, x, hf, h => by
    simp only [Rep] at h ⊢
    obtain ⟨cs, h1, h2⟩ := h
    exact ⟨cs, h1, RepAll.unslot (by simpa only [PV.froz] using hf) h2⟩
  | .tup cells, x, hf, h => by
    simp only [Rep] at h ⊢
    obtain ⟨cs, h1, h2⟩ := h
    exact ⟨cs, h1, RepAll.unslot (by simpa only [PV.froz] using hf) h2⟩
  | .ptr _, _, _, h => by simpa only [Rep] using h
  | .fn f caps, x, hf, h => by
    simp only [Rep] at h ⊢
    obtain ⟨cs, h1, h2⟩ := h
    exact ⟨cs, h1, RepAll.unslot (by simpa only [PV.froz] using hf) h2⟩
  | .box _ _ _, _, h, _ => by simp [PV.froz] at h
  | .own _ _ _, _, h, _ => by simp [PV.froz] at h
  | .optr _ _ _ _ _, _, h, _ => by simp [PV.froz] at h
  | .err _, _, _, h => by simpa only [Rep] using h
theorem RepAll.unslot : ∀ {ps : List PV} {xs : List Value}, PV.frozL ps = true → RepAll P M true ps xs → RepAll P M false ps xs
  | [], _, _, h => by simpa only [RepAll] using h
  | p :: ps, _, hf, h => by
    simp only [RepAll] at h ⊢
    simp only [PV.frozL, Bool.and_eq_true] at hf
    obtain ⟨x, xs, h1, h2, h3⟩ := h
    exact ⟨x, xs, h1, Rep.unslot hf.1 h2, RepAll.unslot hf.2 h3⟩
end
end

/-- What stands in the slot of an operation that its guard shut out. -/
abbrev undefPV : PV := .tup []

def guardA (ops : Array Oper) (s : Nat → PV) (o : Oper) : Option Bool :=
  match o.guard with
  | none => some true
  | some (j, want) => match (ops[j]?).bind (·.dst) with
    | some d => match s d with
      | .val (.bool b) => some (b == want)
      | .tup [] => some false
      | _ => none
    | none => none

theorem guardA_sound {P : Program} {M : Mem} {ops : Array Oper} {n : Nat} {s : Nat → PV} {a : Act} (h : Slots P M n s a) {o : Oper} {b : Bool} (hg : guardA ops s o = some b) : Region.wanted o (yielded ops a.tmps) = b := by
  unfold guardA at hg
  unfold Region.wanted
  split at hg
  · rename_i hn; rw [hn]; simpa using hg
  · rename_i j want hn
    rw [hn]
    split at hg
    · rename_i d hd
      split at hg
      · rename_i c hc
        simp only [Option.some.injEq] at hg
        have := h.2.2 d
        rw [hc] at this
        simp only [Rep] at this
        have hv : a.tmps[d]? = some (.bool c) := by
          cases ht : a.tmps[d]? with
          | none => simp [ht, undef] at this
          | some v => simpa [ht] using this
        simp [yielded, hd, hv, ← hg]
      · rename_i hc
        simp only [Option.some.injEq] at hg
        subst hg
        have := h.2.2 d
        rw [hc] at this
        simp only [Rep, RepAll] at this
        obtain ⟨cs, h1, h2⟩ := this
        have hcs : cs = #[] := by simpa using h2
        subst hcs
        have hy : yielded ops a.tmps j = none := by
          simp only [yielded, hd]
          cases ht : a.tmps[d]? with
          | none => simp [ht]
          | some v =>
            rw [Array.getD_eq_getD_getElem?, ht] at h1
            simp only [Option.getD_some] at h1
            subst h1
            simp [ht]
        simp [hy]
      · cases hg
    · cases hg

def AOps (P : Program) (ops : Array Oper) (rest : List Oper) (st : PState) (K : PState → Prop) : Prop :=
  ∀ C M a w Q, InvS P C M st a w → (∀ st' M' a' w', K st' → InvS P C M' st' a' w' → Q Exit.normal a' w') → wpList P ops Q rest a w

/-- A step that only changes what is known. -/
def Gh (P : Program) (st st' : PState) : Prop := ∀ C M a w, InvS P C M st a w → ∃ M', InvS P C M' st' a w

section
variable {P : Program} {ops : Array Oper} {rest : List Oper} {o : Oper} {st : PState} {K : PState → Prop}

theorem AOps.nil (h : K st) : AOps P ops [] st K := fun _ M a w _ hi hq => hq st M a w h hi

theorem AOps.gh {st' : PState} (hg : Gh P st st') (h : AOps P ops rest st' K) : AOps P ops rest st K := fun C M a w Q hi hq =>
  let ⟨M', hi'⟩ := hg C M a w hi
  h C M' a w Q hi' hq

theorem AOps.mono {K' : PState → Prop} (h : AOps P ops rest st K) (hk : ∀ st, K st → K' st) : AOps P ops rest st K' := fun C M a w Q hi hq =>
  h C M a w Q hi fun st' M' a' w' hK => hq st' M' a' w' (hk st' hK)

theorem AOps.skip {s' : Nat → PV} (hg : guardA ops st.s o = some false) (hp : putD st.n st.s o.dst undefPV = some s') (h : AOps P ops rest ⟨st.n, s', st.bx, st.ob⟩ K) : AOps P ops (o :: rest) st K := by
  intro C M a w Q hi hq
  simp only [wpList, guardA_sound hi.1 hg, Bool.false_eq_true, if_false]
  exact h C M _ w Q ⟨hi.1.putD hp (by simp [Rep, RepAll, undef]), hi.2⟩ hq

theorem AOps.eff (hg : guardA ops st.s o = some true)
    (he : Eff P o (evS st.s) st.heap fun u H' => ∃ s', putD st.n st.s o.dst u = some s' ∧ AOps P ops rest ⟨st.n, s', H'.bx, H'.ob⟩ K) : AOps P ops (o :: rest) st K := by
  intro C M a w Q hi hq
  simp only [wpList, guardA_sound hi.1 hg, if_true]
  refine .inl (he C M a w _ Q hi.2 (fun x _ => hi.1.ev x) ?_)
  intro v u H' M' w' ⟨s', hp, h⟩ hle hi' hr
  exact h C M' _ w' Q ⟨(hi.1.mono hle).putD hp hr, hi'⟩ hq

/-- One quiet operation, or one that its guard shuts out. -/
def qstep (T : TT) (ops : Array Oper) (n : Nat) (s : Nat → PV) (bx : Nat → Option Box) (o : Oper) : Option (Nat → PV) :=
  match guardA ops s o with
  | some true => match det0 T bx o.op (evS s) with
    | some r0 => match force r0 with
      | some r => putD n s o.dst r
      | none => none
    | none => none
  | some false => putD n s o.dst undefPV
  | none => none
end

section
variable {P : Program} {ops : Array Oper} {rest : List Oper} {o : Oper} {n : Nat} {s s' : Nat → PV} {bx : Nat → Option Box} {ob : Nat → Option Obj} {K : PState → Prop}

theorem AOps.det {T : TT} (hT : T.Ok P) (hg : guardA ops s o = some true) {r : PV} (hd : det0 T bx o.op (evS s) = some r) (hp : putD n s o.dst r = some s')
    (h : AOps P ops rest ⟨n, s', bx, ob⟩ K) : AOps P ops (o :: rest) ⟨n, s, bx, ob⟩ K :=
  AOps.eff hg ((Eff.of_det (det0_sound hT (H := ⟨bx, ob⟩) hd)).mono fun u H' ⟨hu, hH⟩ => by subst hu; subst hH; exact ⟨s', hp, h⟩)

theorem AOps.q {T : TT} (hT : T.Ok P) (hs : qstep T ops n s bx o = some s') (h : AOps P ops rest ⟨n, s', bx, ob⟩ K) : AOps P ops (o :: rest) ⟨n, s, bx, ob⟩ K := by
  unfold qstep at hs
  split at hs
  · rename_i hg
    split at hs
    · rename_i r0 hd
      rw [force_eq] at hs
      exact AOps.det hT hg hd hs h
    · cases hs
  · rename_i hg
    exact AOps.skip hg hs h
  · cases hs

/-- A load out of a box of the call's own. -/
theorem AOps.loadBox {T : TT} (hT : T.Ok P) (hg : guardA ops s o = some true) {t : TypeId} {x : Operand} (ho : o.op = .load t x) {ti : TInfo} (hti : T.get t = some ti) {tag b off : Nat} {cells : List PV}
    (hx : evS s x = .box tag b off) (hb : bx tag = some ⟨b, cells⟩) {r : PV} (hr : (readCells ti off cells).bind force = some r) (hp : putD n s o.dst r = some s')
    (h : AOps P ops rest ⟨n, s', bx, ob⟩ K) : AOps P ops (o :: rest) ⟨n, s, bx, ob⟩ K := by
  have hr' : readCells ti off cells = some r := by
    cases hq : readCells ti off cells with
    | none => simp [hq] at hr
    | some q => rw [hq, Option.bind_some, force_eq] at hr; exact hr
  refine AOps.det hT hg (r := r) ?_ hp h
  rw [ho]
  simp [det0, hti, hx, loadPV, hb, hr']

/-- So many quiet steps at once. -/
def qsteps (T : TT) (ops : Array Oper) (n : Nat) (bx : Nat → Option Box) : Nat → List Oper → (Nat → PV) → Option (List Oper × (Nat → PV))
  | 0, l, s => some (l, s)
  | k + 1, o :: l, s => match qstep T ops n s bx o with
    | some s' => qsteps T ops n bx k l s'
    | none => none
  | _ + 1, [], _ => none
theorem AOps.qs {T : TT} : ∀ (k : Nat) {l rest : List Oper} {s s' : Nat → PV} (_ : T.Ok P) (_ : qsteps T ops n bx k l s = some (rest, s')) (_ : AOps P ops rest ⟨n, s', bx, ob⟩ K), AOps P ops l ⟨n, s, bx, ob⟩ K
  | 0, l, rest, s, s', hT, h, hk => by
    simp only [qsteps, Option.some.injEq, Prod.mk.injEq] at h
    rw [h.1, h.2]
    exact hk
  | k + 1, [], rest, s, s', hT, h, hk => by cases h
  | k + 1, o :: l, rest, s, s', hT, h, hk => by
    rw [qsteps] at h
    cases hq : qstep T ops n s bx o with
    | none => rw [hq] at h; cases h
    | some s1 =>
      rw [hq] at h
      exact AOps.q hT hq (AOps.qs k hT h hk)

/-- A guard that is not decided yet: both ways. -/
theorem AOps.split {j : Nat} {want b : Bool} {d : Nat} (_hg : o.guard = some (j, want)) (_hd : (ops[j]?).bind (·.dst) = some d) (hs : s d = .val (.bool b))
    (ht : b = true → AOps P ops (o :: rest) ⟨n, upd s d (.val (.bool true)), bx, ob⟩ K) (hf : b = false → AOps P ops (o :: rest) ⟨n, upd s d (.val (.bool false)), bx, ob⟩ K) : AOps P ops (o :: rest) ⟨n, s, bx, ob⟩ K := by
  have same : upd s d (.val (.bool b)) = s := by
    funext t
    rw [upd_eq]
    split
    · rename_i h; subst h; exact hs.symm
    · rfl
  cases b
  · have := hf rfl; rwa [same] at this
  · have := ht rfl; rwa [same] at this

theorem AOps.eff' (hg : guardA ops s o = some true)
    (he : Eff P o (evS s) ⟨bx, ob⟩ fun u H' => ∃ s', putD n s o.dst u = some s' ∧ AOps P ops rest ⟨n, s', H'.bx, H'.ob⟩ K) : AOps P ops (o :: rest) ⟨n, s, bx, ob⟩ K := AOps.eff hg he
end

/-! Operations that make or write memory. -/
section
variable {P : Program} {T : TT} (hT : T.Ok P) {o : Oper} {ev : Operand → PV} {H : Heap}
include hT

omit hT in
theorem repAt_add {M : Mem} {w : World} {C : Ctx} {H : Heap} (hi : InvH P C M H w) (ps : List PV) (cs : Array Value) (h1 : ∀ v ∈ cs.toList, v.oneCell' = true) (hr : RepAll P M false ps cs.toList) :
    RepAt P (M.add w.heap.size cs) w.heap.size 0 ps := by
  have hr' := RepAll.mono (hi.add_le cs) hr
  have key : ∀ (ps : List PV) (xs : List Value) (o : Nat), (∀ j x, xs[j]? = some x → cs[o + j]? = some x) → (∀ v ∈ xs, v.oneCell' = true) → RepAll P (M.add w.heap.size cs) false ps xs → RepAt P (M.add w.heap.size cs) w.heap.size o ps := by
    intro ps
    induction ps with
    | nil => intro xs o _ _ _; simp [RepAt]
    | cons p ps ih =>
      intro xs o hx h1 hr
      simp only [RepAll] at hr
      obtain ⟨x, ys, rfl, hp, hrest⟩ := hr
      simp only [RepAt]
      refine ⟨⟨x, ?_, h1 x (by simp), hp⟩, ih ys (o + 1) (fun j y hy => ?_) (fun v hv => h1 v (by simp [hv])) hrest⟩
      · have := hx 0 x rfl
        simpa [Mem.add] using this
      · have := hx (j + 1) y (by simpa using hy)
        rwa [show o + 1 + j = o + (j + 1) from by omega]
  exact key ps cs.toList 0 (fun j x hx => by simpa using hx) h1 hr'


omit hT in
theorem eff_boxF {t : TypeId} {x : Operand} (ho : o.op = .box t x) {cs : List PV} (hc : cellsPV (ev x) = some cs) (hf : PV.frozL cs = true) (h1 : cs.all PV.one = true) {K : PV → Heap → Prop} (hk : K (.ptr cs) H) : Eff P o ev H K := by

  intro C M a w next Q hi he hn
  have hx := he x (by rw [ho]; simp [Op.operands])
  have hr := cellsPV_sound hc hx
  have hone := RepAll.oneCell h1 hr
  have hr' := RepAll.unslot hf hr
  have hrun : (execOp a.eval o).run P w = .ok (.value (.pointer (some ⟨w.heap.size, 0, none⟩))) (w.alloc (.cells (a.eval x).cells t)) := by
    simp [execOp, ho, Instr.box, newVar, newRow]
  unfold Oper.wp
  rw [hrun]
  refine hn _ _ _ _ _ hk (hi.add_le _) (hi.alloc_frozen (a.eval x).cells t) ?_
  simp only [Rep]
  exact ⟨_, _, rfl, repAt_add hi cs _ hone hr'⟩


omit hT in
theorem eff_box {t : TypeId} {x : Operand} (ho : o.op = .box t x) (tag : Nat) {cs : List PV} (hc : cellsPV (ev x) = some cs) {K : PV → Heap → Prop}
    (hk : ∀ b, K (.box tag b 0) ⟨upd H.bx tag (some ⟨b, cs⟩), H.ob⟩) : Eff P o ev H K := by

  intro C M a w next Q hi he hn
  have hx := he x (by rw [ho]; simp [Op.operands])
  have hr := cellsPV_sound hc hx
  have hrun : (execOp a.eval o).run P w = .ok (.value (.pointer (some ⟨w.heap.size, 0, none⟩))) (w.alloc (.cells (a.eval x).cells t)) := by
    simp [execOp, ho, Instr.box, newVar, newRow]
  unfold Oper.wp
  rw [hrun]
  exact hn _ _ _ _ _ (hk w.heap.size) (Mem.le_refl M) (hi.alloc_box tag cs _ t hr) (by simp [Rep])

theorem eff_alloc {t : TypeId} (ho : o.op = .alloc t) (tag : Nat) {ti : TInfo} (hti : T.get t = some ti) {cs : List PV} (hf : forceL (zeroPV ti) = some cs) {K : PV → Heap → Prop}
    (hk : ∀ b, K (.box tag b 0) ⟨upd H.bx tag (some ⟨b, cs⟩), H.ob⟩) : Eff P o ev H K := by
  rw [forceL_eq, Option.some.injEq] at hf
  subst hf
  intro C M a w next Q hi he hn
  have hrun : (execOp a.eval o).run P w = .ok (.value (.pointer (some ⟨w.heap.size, 0, none⟩))) (w.alloc (.cells ti.zero.cells t)) := by
    simp [execOp, ho, Instr.alloc, (hT.get hti).rzero w, newVar, newRow]
  unfold Oper.wp
  rw [hrun]
  exact hn _ _ _ _ _ (hk w.heap.size) (Mem.le_refl M) (hi.alloc_box tag _ _ t (zeroPV_rep _)) (by simp [Rep])

/-- A store into a box of the call's own. -/
theorem eff_storeBox {t : TypeId} {x y : Operand} (ho : o.op = .store t x y) {ti : TInfo} (hti : T.get t = some ti) {tag b off : Nat} {cells : List PV} (hx : ev x = .box tag b off) (hb : H.bx tag = some ⟨b, cells⟩)
    {cs : List PV} (hc : cellsPV (ev y) = some cs) (h1 : cs.all PV.one = true) (hl : Nat.beq cs.length ti.size = true) (hle : Nat.ble (off + ti.size) cells.length = true)
    {cells' : List PV} (hf : forceL (splice cells off cs) = some cells') {K : PV → Heap → Prop} (hk : K .any ⟨upd H.bx tag (some ⟨b, cells'⟩), H.ob⟩) : Eff P o ev H K := by
  rw [forceL_eq, Option.some.injEq] at hf
  subst hf
  have hl := Nat.eq_of_beq_eq_true hl
  have hle := Nat.le_of_ble_eq_true hle
  intro C M a w next Q hi he hn
  have hxr := he x (by rw [ho]; simp [Op.operands])
  have hyr := he y (by rw [ho]; simp [Op.operands])
  rw [hx] at hxr
  simp only [Rep] at hxr
  have hr := cellsPV_sound hc hyr
  have hone := RepAll.oneCell h1 hr
  obtain ⟨_, ⟨cur, e, hcur, hcr⟩, _⟩ := hi.boxes tag _ hb
  have hvs : (a.eval y).cells.size = ti.size := by have := hr.length; simp at this; omega
  have hcs : cur.size = cells.length := by have := hcr.length; simpa using this
  have hst := run_storeCells_at P b off e (a.eval y).cells.toList 0 cur w hcur (by simp; omega) hone
  have hrun : (execOp a.eval o).run P w = .ok .skip (w.setRow b (cur.toList.take off ++ (a.eval y).cells.toList ++ cur.toList.drop (off + (a.eval y).cells.toList.length)).toArray) := by
    simp only [execOp, ho, Instr.storeAt, hxr.2, Instr.sureAddr, Sem.run_bind, Sem.run_pure, Result.andThen_ok, storeVar, (hT.get hti).rsize w, hvs]
    simp only [ne_eq, not_true_eq_false, if_false]
    simp only [Nat.add_zero] at hst
    rw [hst]
    rfl
  unfold Oper.wp
  rw [hrun]
  refine hn undef _ _ M _ hk (Mem.le_refl M) (hi.set_box tag _ hb _ _ ?_) (by simp [Rep])
  simpa using splice_rep hcr hr off
end

section
variable {P : Program} {ops : Array Oper} {rest : List Oper} {o : Oper} {n : Nat} {s s' : Nat → PV} {bx : Nat → Option Box} {ob : Nat → Option Obj} {K : PState → Prop} {T : TT}

theorem AOps.boxF (hg : guardA ops s o = some true) {t : TypeId} {x : Operand} (ho : o.op = .box t x) {cs : List PV} (hc : (cellsPV (evS s x)).bind forceL = some cs) (hf : PV.frozL cs = true) (h1 : cs.all PV.one = true)
    (hp : putD n s o.dst (.ptr cs) = some s') (h : AOps P ops rest ⟨n, s', bx, ob⟩ K) : AOps P ops (o :: rest) ⟨n, s, bx, ob⟩ K := by
  have hc' : cellsPV (evS s x) = some cs := by
    cases hq : cellsPV (evS s x) with
    | none => simp [hq] at hc
    | some q => rw [hq, Option.bind_some, forceL_eq] at hc; exact hc
  exact AOps.eff hg (eff_boxF ho hc' hf h1 ⟨s', hp, h⟩)

theorem AOps.box (hg : guardA ops s o = some true) {t : TypeId} {x : Operand} (ho : o.op = .box t x) {d : Nat} (hd : o.dst = some d) {cs : List PV} (hc : (cellsPV (evS s x)).bind forceL = some cs) (hlt : Nat.blt d n = true)
    (h : ∀ b, AOps P ops rest ⟨n, upd s d (.box d b 0), upd bx d (some ⟨b, cs⟩), ob⟩ K) : AOps P ops (o :: rest) ⟨n, s, bx, ob⟩ K := by
  have hc' : cellsPV (evS s x) = some cs := by
    cases hq : cellsPV (evS s x) with
    | none => simp [hq] at hc
    | some q => rw [hq, Option.bind_some, forceL_eq] at hc; exact hc
  exact AOps.eff hg (eff_box ho d hc' fun b => ⟨_, by simp [hd, putD, hlt], h b⟩)

theorem AOps.alloc (hT : T.Ok P) (hg : guardA ops s o = some true) {t : TypeId} (ho : o.op = .alloc t) {d : Nat} (hd : o.dst = some d) {ti : TInfo} (hti : T.get t = some ti) {cs : List PV} (hc : forceL (zeroPV ti) = some cs) (hlt : Nat.blt d n = true)
    (h : ∀ b, AOps P ops rest ⟨n, upd s d (.box d b 0), upd bx d (some ⟨b, cs⟩), ob⟩ K) : AOps P ops (o :: rest) ⟨n, s, bx, ob⟩ K :=
  AOps.eff hg (eff_alloc hT ho d hti hc fun b => ⟨_, by simp [hd, putD, hlt], h b⟩)

theorem AOps.storeBox (hT : T.Ok P) (hg : guardA ops s o = some true) {t : TypeId} {x y : Operand} (ho : o.op = .store t x y) (hd : o.dst = none) {ti : TInfo} (hti : T.get t = some ti) {tag b off : Nat} {cells : List PV} (hx : evS s x = .box tag b off) (hb : bx tag = some ⟨b, cells⟩)
    {cs : List PV} (hc : (cellsPV (evS s y)).bind forceL = some cs) (h1 : cs.all PV.one = true) (hl : Nat.beq cs.length ti.size = true) (hle : Nat.ble (off + ti.size) cells.length = true)
    {cells' : List PV} (hf : forceL (splice cells off cs) = some cells') (h : AOps P ops rest ⟨n, s, upd bx tag (some ⟨b, cells'⟩), ob⟩ K) : AOps P ops (o :: rest) ⟨n, s, bx, ob⟩ K := by
  have hc' : cellsPV (evS s y) = some cs := by
    cases hq : cellsPV (evS s y) with
    | none => simp [hq] at hc
    | some q => rw [hq, Option.bind_some, forceL_eq] at hc; exact hc
  exact AOps.eff hg (eff_storeBox hT ho hti hx hb hc' h1 hl hle hf ⟨s, by simp [hd, putD], h⟩)
end
end Go.Ab
/- The abstract layer, part H: contracts of functions, calls, and the code of a function asQ a list of things still to do. -/
namespace Go.Ab

/-- Called with values that represent 'args' (and with the blocks of 'Hin' handed over), the function returns; what it returns and leaves is asQ R says; nothing else has changed. -/
def PCallsH (P : Program) (f : FuncId) (args : List PV) (Hin : Heap) (R : PV → Heap → Prop) : Prop :=
  ∀ (w : World) (M : Mem) (own : List Nat) (hg : Gl w own) (vs : Array Value), InvH P ⟨w, own, M, hg⟩ M Hin w → RepAll P M true args vs.toList →
    Calls P f vs w fun e w' => ∃ v u H' M', e = .returned v ∧ R u H' ∧ InvH P ⟨w, own, M, hg⟩ M' H' w' ∧ Rep P M' true u v

def PCalls (P : Program) (f : FuncId) (args : List PV) (R : PV → Heap → Prop) : Prop := PCallsH P f args Heap.empty R

/-- The function returns just this. -/
def PFun (P : Program) (f : FuncId) (args : List PV) (r : PV) : Prop := PCalls P f args fun u H => u = r ∧ H = Heap.empty

/-- A slice of the caller's own from now on. -/
def OwnR (n : Nat) (e : TypeId) (rows : List (List PV)) (u : PV) (H : Heap) : Prop :=
  ∃ g, u = .own n g rows.length ∧ H = ⟨fun _ => none, upd (fun _ => none) n (some ⟨g, e, rows, true⟩)⟩

theorem PCallsH.mono {P : Program} {f : FuncId} {args : List PV} {Hin : Heap} {R R' : PV → Heap → Prop} (h : PCallsH P f args Hin R) (hr : ∀ u H, R u H → R' u H) : PCallsH P f args Hin R' :=
  fun w M own hg vs hi ha => (h w M own hg vs hi ha).mono fun _ _ ⟨v, u, H', M', h1, h2, h3⟩ => ⟨v, u, H', M', h1, hr u H' h2, h3⟩

def PLe (P : Program) (p q : PV) : Prop := ∀ M x, Rep P M true p x → Rep P M true q x
def PLeAll (P : Program) (ps qs : List PV) : Prop := ∀ M xs, RepAll P M true ps xs → RepAll P M true qs xs

theorem PLe.refl (P : Program) (p : PV) : PLe P p p := fun _ _ h => h
theorem PLe.any (P : Program) (p : PV) : PLe P p .any := fun _ _ _ => by simp [Rep]
theorem PLe.nil {P : Program} {T : TT} (hT : T.Ok P) {e : TypeId} {ti : TInfo} (hti : T.get e = some ti) : PLe P (.val (.slice none 0 0)) (.list e []) := fun M x h => by
  obtain ⟨i, hi, _⟩ := (hT.get hti).info
  simp only [Rep] at h ⊢
  subst h
  exact ⟨none, 0, i, by simp, by simp, by simp, hi, by simp, by simp⟩
theorem PLe.agg {P : Program} {ps qs : List PV} (h : PLeAll P ps qs) : PLe P (.agg ps) (.agg qs) := fun M x hx => by
  simp only [Rep] at hx ⊢
  obtain ⟨cs, rfl, hc⟩ := hx
  exact ⟨cs, rfl, h M _ hc⟩
theorem PLe.tup {P : Program} {ps qs : List PV} (h : PLeAll P ps qs) : PLe P (.tup ps) (.tup qs) := fun M x hx => by
  simp only [Rep] at hx ⊢
  obtain ⟨cs, rfl, hc⟩ := hx
  exact ⟨cs, rfl, h M _ hc⟩
theorem PLeAll.nil (P : Program) : PLeAll P [] [] := fun _ _ h => h
theorem PLeAll.refl (P : Program) (ps : List PV) : PLeAll P ps ps := fun _ _ h => h
theorem PLeAll.cons {P : Program} {p q : PV} {ps qs : List PV} (h : PLe P p q) (h' : PLeAll P ps qs) : PLeAll P (p :: ps) (q :: qs) := fun M xs hx => by
  simp only [RepAll] at hx ⊢
  obtain ⟨x, ys, rfl, h1, h2⟩ := hx
  exact ⟨x, ys, rfl, h M x h1, h' M ys h2⟩

def Heap.over (H H' : Heap) : Heap :=
  ⟨fun t => match H'.bx t with | some x => some x | none => H.bx t, fun t => match H'.ob t with | some x => some x | none => H.ob t⟩

theorem Heap.over_empty (H : Heap) : H.over Heap.empty = H := rfl
theorem Heap.over_one (H : Heap) (n : Nat) (x : Obj) : H.over ⟨fun _ => none, upd (fun _ => none) n (some x)⟩ = ⟨H.bx, upd H.ob n (some x)⟩ := by
  unfold Heap.over
  congr 1
  funext t
  simp only [upd_eq]
  by_cases h : t = n <;> simp [h]

section
variable {P : Program}

/-- What a callee finds when it is called: nothing is handed over. -/
theorem InvH.enter {C : Ctx} {M : Mem} {H : Heap} {w : World} (h : InvH P C M H w) : InvH P ⟨w, [], M, h.gl (by simp)⟩ M Heap.empty w :=
  ⟨h.mem, Mem.le_refl M, fun _ _ _ hm => .inl hm, rfl, rfl, rfl, Nat.le_refl _, fun _ _ _ => rfl, fun _ _ hx => by simp [Heap.empty] at hx, fun _ _ hx => by simp [Heap.empty] at hx,
   fun _ _ _ _ hx => by simp [Heap.empty] at hx, fun _ _ _ _ _ hx => by simp [Heap.empty] at hx, fun _ _ _ _ hx => by simp [Heap.empty] at hx⟩

/-- Behind a call to which nothing was handed over. -/
theorem InvH.after {C : Ctx} {M M' : Mem} {H H' : Heap} {w w' : World} (h : InvH P C M H w) {hg : Gl w []} (h' : InvH P ⟨w, [], M, hg⟩ M' H' w') : InvH P C M' (H.over H') w' := by
  have hmine : ∀ b, (⟨w, [], M, hg⟩ : Ctx).mine b → w.heap.size ≤ b := fun b hb => by
    rcases hb with hb | hb
    · exact hb
    · simp at hb
  have hup : ∀ b, (⟨w, [], M, hg⟩ : Ctx).mine b → C.mine b := fun b hb => .inl (Nat.le_trans h.size (hmine b hb))
  have hfr : ∀ b, b < w.heap.size → w'.heap[b]? = w.heap[b]? := fun b hb => h'.frame b hb (by simp)
  have hnone : ∀ b o, b < w.heap.size → M b o = none → M' b o = none := by
    intro b o hb hn
    cases hm : M' b o with
    | none => rfl
    | some v =>
      rcases h'.new b o v hm with h1 | h1
      · rw [show M b o = some v from h1] at hn; cases hn
      · have := hmine b h1; omega
  have kb : ∀ t x, (H.over H').bx t = some x → H'.bx t = some x ∨ H.bx t = some x := by
    intro t x hx
    simp only [Heap.over] at hx
    split at hx
    · rename_i y hy; exact .inl (by rw [hy]; exact hx)
    · exact .inr hx
  have ko : ∀ t x, (H.over H').ob t = some x → H'.ob t = some x ∨ H.ob t = some x := by
    intro t x hx
    simp only [Heap.over] at hx
    split at hx
    · rename_i y hy; exact .inl (by rw [hy]; exact hx)
    · exact .inr hx
  have nb : ∀ t x, H'.bx t = some x → w.heap.size ≤ x.b := fun t x hx => hmine _ (h'.boxes t x hx).1
  have no : ∀ t x b, H'.ob t = some x → x.g.blk = some b → w.heap.size ≤ b := by
    intro t x b hx hb
    obtain ⟨i, _, _, _, hn | ⟨b', cur, hb', hm, _⟩⟩ := h'.objs t x hx
    · rw [hn.1] at hb; cases hb
    · rw [hb'] at hb; cases hb; exact hmine _ hm
  refine ⟨h'.mem, Mem.le_trans h.ext h'.ext, ?_, h'.os.trans h.os, h'.tape.trans h.tape, h'.output.trans h.output, Nat.le_trans h.size h'.size, ?_, ?_, ?_, ?_, ?_, ?_⟩
  · intro b o v hm
    rcases h'.new b o v hm with h1 | h1
    · exact h.new b o v h1
    · exact .inr (hup b h1)
  · intro b hb hn
    exact (hfr b (Nat.lt_of_lt_of_le hb h.size)).trans (h.frame b hb hn)
  · intro t x hx
    rcases kb t x hx with hx | hx
    · obtain ⟨h1, h2, h3⟩ := h'.boxes t x hx
      exact ⟨hup _ h1, h2, h3⟩
    · exact (h.boxes t x hx).keep h'.ext (fun o ho => hnone _ o (h.box_lt hx) ho) (hfr _ (h.box_lt hx))
  · intro t x hx
    rcases ko t x hx with hx | hx
    · obtain ⟨i, h1, h2, h3, h4⟩ := h'.objs t x hx
      refine ⟨i, h1, h2, h3, ?_⟩
      rcases h4 with h4 | ⟨b, cur, h5, h6, h7⟩
      · exact .inl h4
      · exact .inr ⟨b, cur, h5, hup _ h6, h7⟩
    · exact (h.objs t x hx).keep h'.ext (fun b o hb ho => hnone _ o (h.obj_lt hx hb) ho) (fun b hb => hfr _ (h.obj_lt hx hb))
  · intro t t' x x' hx hx' hb
    rcases kb t x hx with hx | hx <;> rcases kb t' x' hx' with hx' | hx'
    · exact h'.dbox t t' x x' hx hx' hb
    · have := nb t x hx; have := h.box_lt hx'; omega
    · have := nb t' x' hx'; have := h.box_lt hx; omega
    · exact h.dbox t t' x x' hx hx' hb
  · intro t t' x x' b hx hx' hb hb'
    rcases ko t x hx with hx | hx <;> rcases ko t' x' hx' with hx' | hx'
    · exact h'.dobj t t' x x' b hx hx' hb hb'
    · have := no t x b hx hb; have := h.obj_lt hx' hb'; omega
    · have := no t' x' b hx' hb'; have := h.obj_lt hx hb; omega
    · exact h.dobj t t' x x' b hx hx' hb hb'
  · intro t t' x x' hx hx' hb
    rcases kb t x hx with hx | hx <;> rcases ko t' x' hx' with hx' | hx'
    · exact h'.dmix t t' x x' hx hx' hb
    · have := nb t x hx; have := h.obj_lt hx' hb; omega
    · have := no t' x' _ hx' hb; have := h.box_lt hx; omega
    · exact h.dmix t t' x x' hx hx' hb

theorem eff_call {o : Oper} {ev : Operand → PV} {H : Heap} {fx : Operand} {asQ : Array Operand} {ts : Array TypeId} (ho : o.op = .call { callee := .value fx, args := asQ, argTypes := ts }) {g : FuncId} {caps : List PV}
    (hf : ev fx = .fn g caps) (hcall : ∀ vs w, (callFunc g vs).run P w = .ok (.enter g vs) w) {args : List PV} (hle : PLeAll P (asQ.toList.map ev ++ caps) args) {R : PV → Heap → Prop} (hc : PCalls P g args R)
    {K : PV → Heap → Prop} (hk : ∀ u H', R u H' → K u (H.over H')) : Eff P o ev H K := by
  intro C M a w next Q hi he hn
  have hfr := he fx (by rw [ho]; simp [Op.operands, Call.operands])
  rw [hf] at hfr
  simp only [Rep] at hfr
  obtain ⟨cs, hv, hcaps⟩ := hfr
  have hargs : RepAll P M true (asQ.toList.map ev) (asQ.map a.eval).toList := by
    simpa using repAll_map asQ.toList fun x hx => he x (by rw [ho]; simp_all [Op.operands, Call.operands])
  have hrep := hle M _ (hargs.append hcaps)
  have hrun : (execOp a.eval o).run P w = .ok (.enter g (asQ.map a.eval ++ cs)) w := by
    simp [execOp, ho, resolve, hv, Deferred.ofValue, invoke, hcall]
  unfold Oper.wp
  rw [hrun]
  simp only [Oper.upon]
  refine (hc w M [] (hi.gl (by simp)) _ hi.enter (by simpa using hrep)).mono ?_
  rintro e w' ⟨v, u, H', M', rfl, hR, hi', hr⟩
  exact hn v u _ M' w' (hk u H' hR) hi'.ext (hi.after hi') hr

theorem eff_callP {o : Oper} {ev : Operand → PV} {H : Heap} {fx : Operand} {asQ : Array Operand} {ts : Array TypeId} (ho : o.op = .call { callee := .value fx, args := asQ, argTypes := ts }) {g : FuncId} {caps : List PV}
    (hf : ev fx = .fn g caps) (hcall : ∀ vs w, (callFunc g vs).run P w = .ok (.enter g vs) w) {args : List PV} (hle : PLeAll P (asQ.toList.map ev ++ caps) args) {r : PV} (hc : PFun P g args r)
    {K : PV → Heap → Prop} (hk : K r H) : Eff P o ev H K :=
  eff_call ho hf hcall hle hc fun u H' ⟨h1, h2⟩ => by subst h1; subst h2; exact hk
end

/-! The code of a function. -/

inductive KI where
  | code (c : Code)
  | blk (id : Nat)
  | stop (G : PState → Prop)

def after (P : Program) (C : Ctx) (Qf : Exit → Act → World → Prop) : List KI → Exit → Act → World → Prop
  | [], e, a, w => Qf e a w
  | .code c :: k, .normal, a, w => c.wp P (after P C Qf k) a w
  | .code _ :: k, e, a, w => after P C Qf k e a w
  | .blk id :: k, .exit j, a, w => if j = id then after P C Qf k .normal a w else after P C Qf k (.exit j) a w
  | .blk _ :: k, e, a, w => after P C Qf k e a w
  | .stop G :: _, .normal, a, w => ∃ st M, G st ∧ InvS P C M st a w
  | .stop _ :: k, e, a, w => after P C Qf k e a w

def Post (P : Program) (C : Ctx) (R : PV → Heap → Prop) (e : Ending) (w : World) : Prop :=
  ∃ v u H' M', e = .returned v ∧ R u H' ∧ InvH P C M' H' w ∧ Rep P M' true u v

/-- From this pure state on, with these things still to do, the function returns asQ R says. -/
def V (P : Program) (fn : Func) (R : PV → Heap → Prop) (k : List KI) (st : PState) : Prop :=
  ∀ C M a w, InvS P C M st a w → after P C (bodyPost P fn (Post P C R)) k .normal a w

def popTo (id : Nat) : List KI → Option (List KI)
  | [] => none
  | .blk j :: k => bif Nat.beq id j then some k else popTo id k
  | .code _ :: k => popTo id k
  | .stop _ :: k => popTo id k

section
variable {P : Program} {fn : Func} {R : PV → Heap → Prop} {k : List KI} {st : PState}

theorem after_then {C : Ctx} {Qf : Exit → Act → World → Prop} {c : Code} {k : List KI} : Exit.then (fun a w => after P C Qf (.code c :: k) .normal a w) (after P C Qf k) = fun e a w => after P C Qf (.code c :: k) e a w := by
  funext e a w
  cases e <;> rfl

theorem V.seq {x y : Code} (h : V P fn R (.code x :: .code y :: k) st) : V P fn R (.code (.seq x y) :: k) st := by
  intro C M a w hi
  have := h C M a w hi
  simp only [after] at this ⊢
  refine wp_seq (wp_mono this ?_)
  intro e a w he
  cases e <;> exact he

theorem V.skip (h : V P fn R k st) : V P fn R (.code .skip :: k) st := fun C M a w hi => wp_skip (h C M a w hi)

theorem V.gh {st' : PState} (hg : Gh P st st') (h : V P fn R k st') : V P fn R k st := fun C M a w hi =>
  let ⟨M', hi'⟩ := hg C M a w hi
  h C M' a w hi'

theorem V.region {id : Nat} {ops : Array Oper} (h : AOps P ops ops.toList st fun st' => V P fn R k st') : V P fn R (.code (.region id ops false) :: k) st := fun C M a w hi =>
  wp_region_list (h C M a w _ hi fun _ M' a' w' hV hi' => hV C M' a' w' hi')

theorem V.rq {id : Nat} {ops : Array Oper} {T : TT} {n : Nat} {s s' : Nat → PV} {bx : Nat → Option Box} {ob : Nat → Option Obj} (j : Nat) (hT : T.Ok P) (hq : qsteps T ops n bx j ops.toList s = some ([], s')) (h : V P fn R k ⟨n, s', bx, ob⟩) : V P fn R (.code (.region id ops false) :: k) ⟨n, s, bx, ob⟩ :=
  V.region (AOps.qs j hT hq (AOps.nil h))
theorem V.sr {id : Nat} {ops : Array Oper} {y : Code} {T : TT} {n : Nat} {s s' : Nat → PV} {bx : Nat → Option Box} {ob : Nat → Option Obj} (j : Nat) (hT : T.Ok P) (hq : qsteps T ops n bx j ops.toList s = some ([], s')) (h : V P fn R (.code y :: k) ⟨n, s', bx, ob⟩) : V P fn R (.code (.seq (.region id ops false) y) :: k) ⟨n, s, bx, ob⟩ :=
  V.seq (V.rq j hT hq h)

theorem V.condB {c : Operand} {x y : Code} {b : Bool} (hc : evS st.s c = .val (.bool b)) (h : V P fn R (.code (if b then x else y) :: k) st) : V P fn R (.code (.cond c x y) :: k) st := fun C M a w hi => by
  have := hi.1.ev c
  rw [hc] at this
  simp only [Rep] at this
  exact wp_cond this (h C M a w hi)

theorem V.condT {c : Operand} {x y : Code} (hc : evS st.s c = .val (.bool true)) (h : V P fn R (.code x :: k) st) : V P fn R (.code (.cond c x y) :: k) st := V.condB hc h
theorem V.condF {c : Operand} {x y : Code} (hc : evS st.s c = .val (.bool false)) (h : V P fn R (.code y :: k) st) : V P fn R (.code (.cond c x y) :: k) st := V.condB hc h
theorem V.cond {c : Operand} {x y : Code} {b : Bool} (hc : evS st.s c = .val (.bool b)) (ht : b = true → V P fn R (.code x :: k) st) (hf : b = false → V P fn R (.code y :: k) st) : V P fn R (.code (.cond c x y) :: k) st := by
  cases b
  · exact V.condB hc (hf rfl)
  · exact V.condB hc (ht rfl)

theorem V.block {id : Nat} {c : Code} (h : V P fn R (.code c :: .blk id :: k) st) : V P fn R (.code (.block id c) :: k) st := fun C M a w hi => by
  have := h C M a w hi
  simp only [after] at this ⊢
  refine wp_block (wp_mono this ?_)
  intro e a w he
  cases e with
  | exit j => simpa only [Exit.inBlock, after] using he
  | _ => exact he

theorem V.blk {id : Nat} (h : V P fn R k st) : V P fn R (.blk id :: k) st := fun C M a w hi => h C M a w hi

theorem V.stop {G : PState → Prop} (h : G st) : V P fn R (.stop G :: k) st := fun _ M _ _ hi => ⟨st, M, h, hi⟩

theorem after_pop {C : Ctx} {Qf : Exit → Act → World → Prop} {id : Nat} : ∀ {k k' : List KI}, popTo id k = some k' → ∀ {a : Act} {w : World}, after P C Qf k' .normal a w → after P C Qf k (.exit id) a w
  | [], k', h, _, _, _ => by simp [popTo] at h
  | .blk j :: k, k', h, a, w, hk => by
    simp only [popTo] at h
    cases hb : Nat.beq id j with
    | true =>
      simp only [hb, cond_true, Option.some.injEq] at h
      subst h
      have := Nat.eq_of_beq_eq_true hb
      simp only [after, if_pos this]
      exact hk
    | false =>
      simp only [hb, cond_false] at h
      have hne : id ≠ j := fun e => by subst e; simp at hb
      simp only [after, if_neg hne]
      exact after_pop h hk
  | .code _ :: k, k', h, a, w, hk => by
    simp only [popTo] at h
    simp only [after]
    exact after_pop h hk
  | .stop _ :: k, k', h, a, w, hk => by
    simp only [popTo] at h
    simp only [after]
    exact after_pop h hk

theorem V.exit {id : Nat} {k' : List KI} (hp : popTo id k = some k') (h : V P fn R k' st) : V P fn R (.code (.exit id) :: k) st := fun C M a w hi =>
  wp_exit (after_pop hp (h C M a w hi))

/-! Returning. -/
def ResOk (T : TT) (st : PState) : ResultVar → PV → Prop
  | .tmp t, p => st.s t = p
  | .cell a t, p => ∃ ti tag b off cells, T.get t = some ti ∧ st.s a = .box tag b off ∧ st.bx tag = some ⟨b, cells⟩ ∧ readCells ti off cells = some p

def resF (tmps : Array Value) : ResultVar → Sem Value
  | .tmp t => pure (tmps.getD t undef)
  | .cell c t => do loadVar t (← asAddr (tmps.getD c undef))

theorem results_eq {rs : Array ResultVar} (hres : fn.results = rs) (tmps : Array Value) :
    results fn tmps = (do let vs ← rs.mapM (resF tmps); pure (if h : vs.size = 1 then vs[0] else .tuple vs)) := by
  unfold results
  rw [hres]
  have : (fun x => match x with
    | ResultVar.tmp t => pure (tmps.getD t undef)
    | ResultVar.cell a t => do loadVar t (← asAddr (tmps.getD a undef))) = resF tmps := by
    funext x
    cases x <;> rfl
  rw [← this]
  rfl

theorem ResOk.run {T : TT} (hT : T.Ok P) {rv : ResultVar} {p : PV} (h : ResOk T st rv p) {C : Ctx} {M : Mem} {a : Act} {w : World} (hi : InvS P C M st a w) :
    ∃ v, (resF a.tmps rv).run P w = .ok v w ∧ Rep P M true p v := by
  cases rv with
  | tmp t =>
    simp only [ResOk] at h
    have := hi.1.2.2 t
    rw [h] at this
    exact ⟨_, rfl, this⟩
  | cell c t =>
    obtain ⟨ti, tag, b, off, cells, hti, hs, hb, hr⟩ := h
    have hp := hi.1.2.2 c
    rw [hs] at hp
    obtain ⟨u, h1, h2⟩ := det_load hT hti hi.2 (p := .box tag b off) hp (r := p) (by simp [loadPV, PState.heap, hb, hr])
    refine ⟨u, ?_, h2⟩
    simp only [Rep] at hp
    rw [hp.2] at h1
    simp only [resF, hp.2, asAddr]
    exact h1

def tupOf : List PV → PV
  | [p] => p
  | ps => .tup ps

def ResAll (T : TT) (st : PState) : List ResultVar → List PV → Prop
  | [], ps => ps = []
  | r :: rs, ps => ∃ p qs, ps = p :: qs ∧ ResOk T st r p ∧ ResAll T st rs qs

theorem results_run {T : TT} (hT : T.Ok P) {rs : Array ResultVar} (hres : fn.results = rs) {ps : List PV} (h : ResAll T st rs.toList ps) {C : Ctx} {M : Mem} {a : Act} {w : World} (hi : InvS P C M st a w) :
    ∃ v, (results fn a.tmps).run P w = .ok v w ∧ Rep P M true (tupOf ps) v := by
  have key : ∀ (l : List ResultVar) (ps : List PV), ResAll T st l ps → ∃ vs : List Value, (l.mapM (resF a.tmps)).run P w = .ok vs w ∧ RepAll P M true ps vs := by
    intro l
    induction l with
    | nil => intro ps h; simp only [ResAll] at h; subst h; exact ⟨[], by simp, by simp [RepAll]⟩
    | cons r l ih =>
      intro ps h
      simp only [ResAll] at h
      obtain ⟨p, qs, rfl, h1, h2⟩ := h
      obtain ⟨v, hv, hr⟩ := h1.run hT hi
      obtain ⟨vs, hvs, hrs⟩ := ih qs h2
      refine ⟨v :: vs, ?_, by simp only [RepAll]; exact ⟨v, vs, rfl, hr, hrs⟩⟩
      rw [List.mapM_cons, Sem.run_bind, hv, Result.andThen_ok, Sem.run_bind, hvs]
      rfl
  obtain ⟨vs, hvs, hrep⟩ := key rs.toList ps h
  have hm : (rs.mapM (resF a.tmps)).run P w = .ok vs.toArray w := by
    rw [Array.mapM_eq_mapM_toList, Sem.run_map, hvs]
    rfl
  have hlen := hrep.length
  refine ⟨if h : vs.toArray.size = 1 then vs.toArray[0] else .tuple vs.toArray, ?_, ?_⟩
  · rw [results_eq hres, Sem.run_bind, hm]
    rfl
  · match ps, vs, hrep, hlen with
    | [], [], hrep, _ => simp [tupOf, Rep, RepAll]
    | [p], [v], hrep, _ =>
      simp only [RepAll] at hrep
      obtain ⟨x, xs, he, hx, _⟩ := hrep
      simp only [List.cons.injEq] at he
      simpa [tupOf, he.1] using hx
    | p :: q :: ps, u :: v :: vs, hrep, _ =>
      simp only [tupOf, Rep]
      exact ⟨(u :: v :: vs).toArray, by simp, by simpa using hrep⟩

theorem after_ret {C : Ctx} {Qf : Exit → Act → World → Prop} : ∀ {k : List KI} {a : Act} {w : World}, Qf .ret a w → after P C Qf k .ret a w
  | [], _, _, h => h
  | .blk _ :: k, _, _, h => by simp only [after]; exact after_ret h
  | .code _ :: k, _, _, h => by simp only [after]; exact after_ret h
  | .stop _ :: k, _, _, h => by simp only [after]; exact after_ret h

/-- What stands behind the call, of what is known at its end. -/
def HSub (H' H : Heap) : Prop := (∀ t x, H'.bx t = some x → H.bx t = some x) ∧ (∀ t x, H'.ob t = some x → H.ob t = some x)

theorem HSub.empty (H : Heap) : HSub Heap.empty H := ⟨fun _ _ h => by simp [Heap.empty] at h, fun _ _ h => by simp [Heap.empty] at h⟩

theorem V.ret {T : TT} (hT : T.Ok P) {rs : Array ResultVar} (hres : fn.results = rs) {ps : List PV} (h : ResAll T st rs.toList ps) {u : PV} (hu : PLe P (tupOf ps) u) {H' : Heap} (hH : HSub H' st.heap) (hR : R u H') :
    V P fn R (.code .ret :: k) st := by
  intro C M a w hi
  refine wp_ret (after_ret ?_)
  obtain ⟨v, hv, hr⟩ := results_run hT hres h hi
  exact ⟨hi.1.2.1, v, hv, v, u, H', M, rfl, hR, hi.2.less hH.1 hH.2, hu M v hr⟩

theorem PLe.of_eq {p q : PV} (h : p = q) : PLe P p q := h ▸ PLe.refl P p

section
variable {n : Nat} {s : Nat → PV} {bx : Nat → Option Box} {ob : Nat → Option Obj} {r : PV}

theorem V.retP {T : TT} (hT : T.Ok P) {rs : Array ResultVar} (hres : fn.results = rs) {ps : List PV} (h : ResAll T ⟨n, s, bx, ob⟩ rs.toList ps) (hu : PLe P (tupOf ps) r) :
    V P fn (fun u H => u = r ∧ H = Heap.empty) (.code .ret :: k) ⟨n, s, bx, ob⟩ :=
  V.ret hT hres h hu (HSub.empty _) ⟨rfl, rfl⟩

theorem V.ret1 {T : TT} (hT : T.Ok P) {t : Nat} (hres : fn.results = #[.tmp t]) {p : PV} (hs : force (s t) = some p) (hu : PLe P p r) :
    V P fn (fun u H => u = r ∧ H = Heap.empty) (.code .ret :: k) ⟨n, s, bx, ob⟩ := by
  rw [force_eq, Option.some.injEq] at hs
  exact V.retP hT hres (ps := [p]) ⟨p, [], rfl, hs, rfl⟩ hu

theorem V.ret2 {T : TT} (hT : T.Ok P) {t t' : Nat} (hres : fn.results = #[.tmp t, .tmp t']) {p p' : PV} (hs : force (s t) = some p) (hs' : force (s t') = some p') (hu : PLe P (.tup [p, p']) r) :
    V P fn (fun u H => u = r ∧ H = Heap.empty) (.code .ret :: k) ⟨n, s, bx, ob⟩ := by
  rw [force_eq, Option.some.injEq] at hs hs'
  exact V.retP hT hres (ps := [p, p']) ⟨p, _, rfl, hs, p', [], rfl, hs', rfl⟩ hu

theorem V.ret3 {T : TT} (hT : T.Ok P) {t t' t'' : Nat} (hres : fn.results = #[.tmp t, .tmp t', .tmp t'']) {p p' p'' : PV} (hs : force (s t) = some p) (hs' : force (s t') = some p') (hs'' : force (s t'') = some p'') (hu : PLe P (.tup [p, p', p'']) r) :
    V P fn (fun u H => u = r ∧ H = Heap.empty) (.code .ret :: k) ⟨n, s, bx, ob⟩ := by
  rw [force_eq, Option.some.injEq] at hs hs' hs''
  exact V.retP hT hres (ps := [p, p', p'']) ⟨p, _, rfl, hs, p', _, rfl, hs', p'', [], rfl, hs'', rfl⟩ hu

theorem V.retC {T : TT} (hT : T.Ok P) {a t : Nat} (hres : fn.results = #[.cell a t]) {ti : TInfo} (hti : T.get t = some ti) {tag b off : Nat} {cells : List PV} (hs : s a = .box tag b off) (hb : bx tag = some ⟨b, cells⟩) {p : PV} (hr : (readCells ti off cells).bind force = some p) (hu : PLe P p r) :
    V P fn (fun u H => u = r ∧ H = Heap.empty) (.code .ret :: k) ⟨n, s, bx, ob⟩ := by
  have hr' : readCells ti off cells = some p := by
    cases hq : readCells ti off cells with
    | none => simp [hq] at hr
    | some q => rw [hq, Option.bind_some, force_eq] at hr; exact hr
  exact V.retP hT hres (ps := [p]) ⟨p, [], rfl, ⟨ti, tag, b, off, cells, hti, hs, hb, hr'⟩, rfl⟩ hu
end

/-! Loops. -/
theorem wp_loop_by {P : Program} {Q : Exit → Act → World → Prop} {c : Code} (I : Nat → Act → World → Prop) {n : Nat} {a : Act} {w : World} (h₀ : I n a w)
    (round : ∀ n a w, I n a w → c.wp P (Exit.then (fun a' w' => ∃ m, m < n ∧ I m a' w') Q) a w) : (Code.loop c).wp P Q a w := by
  intro b k cs
  have key : ∀ n a w, I n a w → ∃ e a' w', Q e a' w' ∧ Arrives P (lone (b.at a (.code c :: .inLoop c :: k)) cs w) b k cs e a' w' := by
    intro n
    induction n using Nat.strongRecOn with
    | _ n ih =>
      intro a w hI
      obtain ⟨e, a₁, w₁, hq, harr⟩ := round n a w hI b (.inLoop c :: k) cs
      cases e with
      | normal =>
        obtain ⟨m, hlt, hI₁⟩ := hq
        obtain ⟨e₂, a₂, w₂, hq₂, harr₂⟩ := ih m hlt a₁ w₁ hI₁
        exact ⟨e₂, a₂, w₂, hq₂, .of_steps (Steps.trans harr (.one step_inLoop)) harr₂⟩
      | exit id => exact ⟨_, a₁, w₁, hq, .pass (x := .inLoop c) rfl (fun _ _ => .inl (by simp)) harr⟩
      | goto l => exact ⟨_, a₁, w₁, hq, .pass (x := .inLoop c) rfl (fun _ _ => .inl (by simp)) harr⟩
      | ret => exact ⟨_, a₁, w₁, hq, .pass (x := .inLoop c) rfl (fun _ _ => .inl (by simp)) harr⟩
      | panic ch => exact ⟨_, a₁, w₁, hq, .pass (x := .inLoop c) rfl (fun _ _ => .inl (by simp)) harr⟩
      | outgrown => exact ⟨_, a₁, w₁, hq, .pass (x := .inLoop c) rfl (fun _ _ => .inl (by simp)) harr⟩
  obtain ⟨e, a', w', hq, harr⟩ := key n a w h₀
  exact ⟨e, a', w', hq, .of_steps (.one step_loop) harr⟩

/-- A loop: 'I n st': what holds at a round's head; n: a number that every round lowers. -/
theorem V.loop (I : Nat → PState → Prop) {c : Code} {n : Nat} (h₀ : I n st) (round : ∀ n st, I n st → V P fn R (.code c :: .stop (fun st' => ∃ m, m < n ∧ I m st') :: k) st) : V P fn R (.code (.loop c) :: k) st := by
  intro C M a w hi
  refine wp_loop_by (fun n a w => ∃ st M, I n st ∧ InvS P C M st a w) ⟨st, M, h₀, hi⟩ ?_
  rintro n a w ⟨st, M, hI, hi⟩
  have := round n st hI C M a w hi
  simp only [after] at this
  refine wp_mono this ?_
  intro e a w he
  cases e with
  | normal =>
    obtain ⟨st', M', ⟨m, hm, hI'⟩, hi'⟩ := he
    exact ⟨m, hm, st', M', hI', hi'⟩
  | _ => exact he

/-! From a function's code to its contract. -/
def initS (args : List PV) : Nat → PV := fun t => match args[t]? with | some p => p | none => .any

theorem PCallsH.intro {f : FuncId} {c : Code} (hf : P.funcs[f]? = some fn) (hb : fn.body = some c) {nt : Nat} (hn : fn.ntmps = nt) {args : List PV} {Hin : Heap} (hargs : Nat.ble args.length nt = true)
    (h : V P fn R [.code c] ⟨nt, initS args, Hin.bx, Hin.ob⟩) : PCallsH P f args Hin R := by
  intro w M own hg vs hi ha
  refine calls_of_wp hf hb ?_
  have hl := ha.length
  have hle := Nat.le_of_ble_eq_true hargs
  refine h ⟨w, own, M, hg⟩ M _ w ⟨⟨?_, rfl, fun t => ?_⟩, hi⟩
  · simp at hl; simp; omega
  · simp only [initS]
    cases hp : args[t]? with
    | none => simp [Rep]
    | some p =>
      obtain ⟨x, hx, hr⟩ := ha.get t p hp
      have hlt : t < vs.size := by
        have := (List.getElem?_eq_some_iff.1 hx).1
        simpa using this
      have : (vs ++ Array.replicate (fn.ntmps - vs.size) undef)[t]? = some x := by
        rw [Array.getElem?_append_left hlt, ← Array.getElem?_toList]
        exact hx
      simpa [this] using hr
end

end Go.Ab
