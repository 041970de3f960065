/- The abstract layer, part C: the operations whose result is a function of their operands (and of the boxes that they read). -/
import Derived.Test.YtohlpijmiokkjaaDoorAbB
import Derived.Laws.Concat
namespace Go.Ab

/-- What an operation does, seen from the pure state: whatever machine state is represented, it comes to a value and a heap that K holds of. -/
def Eff (P : Program) (o : Oper) (ev : Operand → PV) (H : Heap) (K : PV → Heap → Prop) : Prop :=
  ∀ C M a w (next : Act → World → Prop) (Q : Exit → Act → World → Prop), InvH P C M H w → (∀ x ∈ o.op.operands, Rep P M true (ev x) (a.eval x)) →
    (∀ v u H' M' w', K u H' → M.le M' → InvH P C M' H' w' → Rep P M' true u v → next (a.put o.dst v) w') → o.wp P a w next Q

theorem Eff.mono {P : Program} {o : Oper} {ev : Operand → PV} {H : Heap} {K K' : PV → Heap → Prop} (h : Eff P o ev H K) (hk : ∀ u H', K u H' → K' u H') : Eff P o ev H K' :=
  fun C M a w next Q hi he hn => h C M a w next Q hi he fun v u H' M' w' hK => hn v u H' M' w' (hk u H' hK)

structure TInfo where
  desc : TypeDesc
  size : Nat
  bytes : Nat
  zero : Value
  eqf : List (Nat × Nat)

inductive TT where
  | leaf
  | node (k : Nat) (v : TInfo) (l r : TT)

def TT.get : TT → Nat → Option TInfo
  | .leaf, _ => none
  | .node k v l r, t => bif Nat.beq t k then some v else bif Nat.blt t k then l.get t else r.get t

def fieldsMeet : List Field → List (Nat × Nat) → Prop
  | [], [] => True
  | f :: fs, (t, o) :: r => f.name ≠ "_" ∧ f.type = t ∧ f.offset = o ∧ fieldsMeet fs r
  | _, _ => False

structure TInfo.Ok (P : Program) (k : Nat) (v : TInfo) : Prop where
  info : ∃ i, P.info? k = some i ∧ i.size = v.size ∧ i.bytes = v.bytes ∧ i.zero = some v.zero
  und : P.underlying k = some v.desc
  eqs : v.eqf ≠ [] → P.stoodInHeld k = false ∧ P.eqGuardType P.depth k = false ∧ fieldsMeet (P.fieldsOf k).toList v.eqf ∧ P.underlying k = some (.struct (P.fieldsOf k))

def TT.Ok (P : Program) : TT → Prop
  | .leaf => True
  | .node k v l r => v.Ok P k ∧ l.Ok P ∧ r.Ok P

theorem TT.Ok.get {P : Program} : ∀ {T : TT} (_ : T.Ok P) {t : Nat} {v : TInfo}, T.get t = some v → v.Ok P t
  | .leaf, _, t, v, h => by simp [TT.get] at h
  | .node k u l r, hT, t, v, h => by
    simp only [TT.get] at h
    cases h1 : Nat.beq t k with
    | true =>
      simp only [h1, cond_true, Option.some.injEq] at h
      rw [Nat.eq_of_beq_eq_true h1, ← h]
      exact hT.1
    | false =>
      simp only [h1, cond_false] at h
      cases h2 : Nat.blt t k with
      | true => simp only [h2, cond_true] at h; exact TT.Ok.get hT.2.1 h
      | false => simp only [h2, cond_false] at h; exact TT.Ok.get hT.2.2 h

def isAggD : TypeDesc → Bool
  | .struct _ | .array _ _ => true
  | _ => false

section facts
variable {P : Program} {k : Nat} {v : TInfo} (h : v.Ok P k) (w : World)
include h
theorem TInfo.Ok.rund : (underlying k).run P w = .ok v.desc w := run_underlying h.und w
theorem TInfo.Ok.rsize : (sizeOf k).run P w = .ok v.size w := by
  obtain ⟨i, hi, hs, _⟩ := h.info
  simp [sizeOf, typeInfo, hi, hs]
theorem TInfo.Ok.rzero : (zeroValue k).run P w = .ok v.zero w := by
  obtain ⟨i, hi, _, _, hz⟩ := h.info
  simp [zeroValue, typeInfo, hi, hz]
theorem TInfo.Ok.ragg : (isAgg k).run P w = .ok (isAggD v.desc) w := by
  unfold isAgg
  rw [Sem.run_bind, h.rund w]
  cases v.desc <;> rfl
end facts

def head1 : PV → Option PV
  | .any => some .any
  | .val v => some (.val v)
  | .str l => some (.str l)
  | .list e r => some (.list e r)
  | .agg cs => some (.agg cs)
  | .tup cs => some (.tup cs)
  | .ptr cs => some (.ptr cs)
  | .fn f cs => some (.fn f cs)
  | .box t b o => some (.box t b o)
  | .own t g l => some (.own t g l)
  | .optr t g k r o => some (.optr t g k r o)
  | .err b => some (.err b)

theorem head1_eq (p : PV) : head1 p = some p := by cases p <;> rfl

def forceL : List PV → Option (List PV)
  | [] => some []
  | p :: ps => match head1 p, forceL ps with
    | some q, some qs => some (q :: qs)
    | _, _ => none

theorem forceL_eq : ∀ l, forceL l = some l
  | [] => rfl
  | p :: ps => by simp [forceL, head1_eq, forceL_eq ps]

/-- The same value, written out to its head (a struct's cells, too). -/
def force : PV → Option PV
  | .any => some .any
  | .val v => some (.val v)
  | .str l => some (.str l)
  | .list e r => some (.list e r)
  | .agg cs => match forceL cs with
    | some l => some (.agg l)
    | none => none
  | .tup cs => match forceL cs with
    | some l => some (.tup l)
    | none => none
  | .ptr cs => match forceL cs with
    | some l => some (.ptr l)
    | none => none
  | .fn f cs => some (.fn f cs)
  | .box t b o => some (.box t b o)
  | .own t g l => some (.own t g l)
  | .optr t g k r o => some (.optr t g k r o)
  | .err b => some (.err b)

theorem force_eq (p : PV) : force p = some p := by cases p <;> simp [force, forceL_eq]

def readCells (ti : TInfo) (off : Nat) (cells : List PV) : Option PV :=
  bif isAggD ti.desc then (bif Nat.ble (off + ti.size) cells.length then some (.agg ((cells.drop off).take ti.size)) else none)
  else cells[off]?

theorem add_off (b o n : Nat) : (⟨b, o, none⟩ : Addr).add n = ⟨b, o + n, none⟩ := by
  unfold Addr.add
  split
  · subst_vars; rfl
  · rfl

/-- Loading out of a row of cells that are known one by one. -/
theorem run_load_cells {P : Program} {M : Mem} {s : Bool} {k : Nat} {ti : TInfo} (hk : ti.Ok P k) (w : World) (b o off : Nat) (cells : List PV) (xs : List Value)
    (hrep : RepAll P M s cells xs) (hmem : ∀ (j : Nat) (x : Value), xs[j]? = some x → w.cell? ⟨b, o + j, none⟩ = some x)
    {r : PV} (hr : readCells ti off cells = some r) :
    ∃ v, (loadVar k ⟨b, o + off, none⟩).run P w = .ok v w ∧ Rep P M s r v := by
  unfold readCells at hr
  cases hd : isAggD ti.desc with
  | true =>
    simp only [hd, cond_true] at hr
    cases hl : Nat.ble (off + ti.size) cells.length with
    | false => simp [hl] at hr
    | true =>
      simp only [hl, cond_true, Option.some.injEq] at hr
      subst hr
      have hle : off + ti.size ≤ cells.length := Nat.le_of_ble_eq_true hl
      have hx : xs.length = cells.length := hrep.length
      have hlen : ((xs.drop off).take ti.size).length = ti.size := by simp [hx]; omega
      have hload := run_loadCells_list (P := P) w ⟨b, o + off, none⟩ ((xs.drop off).take ti.size) (fun j v hv => by
        rw [add_off]
        rw [List.getElem?_take] at hv
        split at hv
        · rw [List.getElem?_drop] at hv
          have := hmem _ _ hv
          rwa [← Nat.add_assoc] at this
        · cases hv)
      rw [hlen] at hload
      refine ⟨.agg ((xs.drop off).take ti.size).toArray, ?_, ?_⟩
      · simp [loadVar, hk.ragg w, hd, hk.rsize w, hload]
      · simp only [Rep]
        exact ⟨_, rfl, by simpa using (hrep.drop off).take ti.size⟩
  | false =>
    simp only [hd, cond_false] at hr
    obtain ⟨x, hx, hrx⟩ := hrep.get off r hr
    refine ⟨x, ?_, hrx⟩
    simp [loadVar, hk.ragg w, hd, hmem off x hx]

def scalarEq : TypeDesc → PV → PV → Option Bool
  | .int _, .val (.int k a), .val (.int k' b) => bif decide (k = k') then some (a == b) else none
  | .bool, .val (.bool a), .val (.bool b) => some (a == b)
  | .string, .str a, .str b => some (a == b)
  | _, _, _ => none

def eqCells (T : TT) : List (Nat × Nat) → List PV → List PV → Option Bool
  | [], _, _ => some true
  | (t, off) :: r, xs, ys => match T.get t, xs[off]?, ys[off]? with
    | some ti, some p, some q => match scalarEq ti.desc p q, eqCells T r xs ys with
      | some b, some c => some (b && c)
      | _, _ => none
    | _, _, _ => none

def cmpInt (op : BinOp) (a b : Int) : Option Bool :=
  match op with
  | .eql => some (a == b)
  | .neq => some (a != b)
  | .lss => some (decide (a < b))
  | .leq => some (decide (a ≤ b))
  | .gtr => some (decide (a > b))
  | .geq => some (decide (a ≥ b))
  | _ => none

def cmpStr (op : BinOp) (a b : List UInt8) : Option Bool :=
  match op with
  | .eql => some (a == b)
  | .neq => some (!(a == b))
  | .lss => some (Op.bytesLess a b)
  | .leq => some (Op.bytesLess a b || a == b)
  | .gtr => some (!(Op.bytesLess a b || a == b))
  | .geq => some (!(Op.bytesLess a b))
  | _ => none

def qbin (T : TT) (op : BinOp) (t : TypeId) (p q : PV) : Option PV :=
  match p, q with
  | .val (.int k a), .val (.int k' b) =>
    bif decide (k = k') then
      match op with
      | .add => some (.val (.int k (k.wrap (a + b))))
      | .sub => some (.val (.int k (k.wrap (a - b))))
      | .mul => some (.val (.int k (k.wrap (a * b))))
      | .quo => if b = 0 then none else some (.val (.int k (k.wrap (a.tdiv b))))
      | .rem => if b = 0 then none else some (.val (.int k (a.tmod b)))
      | op => (cmpInt op a b).map fun c => .val (.bool c)
    else none
  | .str a, .str b => match op with
    | .add => if a.length + b.length ≤ maxStr then some (.str (a ++ b)) else none
    | op => (cmpStr op a b).map fun c => .val (.bool c)
  | .val (.bool a), .val (.bool b) => match T.get t, op with
    | some ⟨.bool, _, _, _, _⟩, .eql => some (.val (.bool (a == b)))
    | some ⟨.bool, _, _, _, _⟩, .neq => some (.val (.bool (!(a == b))))
    | _, _ => none
  | .agg xs, .agg ys => match T.get t with
    | some ti => bif ti.eqf.isEmpty then none else
      match op with
      | .eql => (eqCells T ti.eqf xs ys).map fun c => .val (.bool c)
      | .neq => (eqCells T ti.eqf xs ys).map fun c => .val (.bool (!c))
      | _ => none
    | none => none
  | _, _ => none

section bin
variable {P : Program} {T : TT} {M : Mem} (hT : T.Ok P) (w : World)
include hT

omit hT in
theorem scalarEq_sound {d : Nat} {t : TypeId} {ti : TInfo} (hti : ti.Ok P t) {p q : PV} {x y : Value} (hp : Rep P M true p x) (hq : Rep P M true q y) {b : Bool} (h : scalarEq ti.desc p q = some b) :
    isAggD ti.desc = false ∧ (Op.equalIn (d + 1) t x y).run P w = .ok b w := by
  obtain ⟨desc, size, bytes, zero, eqf⟩ := ti
  have hu := hti.und
  simp only at hu h ⊢
  unfold scalarEq at h
  split at h
  · rename_i k0 k a k' b'
    simp only [Rep] at hp hq
    subst hp hq
    cases hk : decide (k = k') with
    | false => simp [hk] at h
    | true =>
      simp only [hk, cond_true, Option.some.injEq] at h
      have := of_decide_eq_true hk
      subst this h
      exact ⟨rfl, run_equalIn_int w d t k k0 a b' hu⟩
  · simp only [Rep] at hp hq
    subst hp hq
    simp only [Option.some.injEq] at h
    subst h
    exact ⟨rfl, run_equalIn_bool' w d t _ _ hu⟩
  · rename_i a b'
    simp only [Rep] at hp hq
    obtain ⟨rfl, _⟩ := hp
    obtain ⟨rfl, _⟩ := hq
    simp only [Option.some.injEq] at h
    subst h
    refine ⟨rfl, ?_⟩
    have := run_equalIn_string (P := P) w d t ⟨a.toArray⟩ ⟨b'.toArray⟩ hu
    simpa using this
  · cases h

theorem eqCells_sound {d : Nat} {xs ys : List PV} {cs ds : Array Value} (hx : RepAll P M true xs cs.toList) (hy : RepAll P M true ys ds.toList) :
    ∀ (fs : List Field) (eqf : List (Nat × Nat)) (b : Bool), fieldsMeet fs eqf → eqCells T eqf xs ys = some b → (Op.eqFields (d + 1) cs ds fs).run P w = .ok b w
  | [], [], b, _, h => by simp only [eqCells, Option.some.injEq] at h; subst h; simp [Op.eqFields]
  | f :: fs, (t, o) :: r, b, hm, h => by
    simp only [fieldsMeet] at hm
    obtain ⟨hn, rfl, rfl, hm⟩ := hm
    simp only [eqCells] at h
    split at h
    · rename_i ti p q hti hp hq
      split at h
      · rename_i b1 b2 h1 h2
        simp only [Option.some.injEq] at h
        subst h
        obtain ⟨x, hx1, hx2⟩ := hx.get _ _ hp
        obtain ⟨y, hy1, hy2⟩ := hy.get _ _ hq
        obtain ⟨hag, heq⟩ := scalarEq_sound w (d := d) (hT.get hti) hx2 hy2 h1
        have hpx : ∀ (c : Array Value) (z : Value), c.toList[f.offset]? = some z → (part f.type c f.offset).run P w = .ok z w := by
          intro c z hz
          rw [Array.getElem?_toList] at hz
          simp [part, (hT.get hti).ragg w, hag, hz]
        have ih := eqCells_sound (d := d) hx hy fs r b2 hm h2
        simp only [Op.eqFields, if_pos (show f.name ≠ "_" from hn), Sem.run_bind, hpx _ _ hx1, hpx _ _ hy1, Result.andThen_ok, heq]
        cases b1 <;> simp [ih]
      · cases h
    · cases h
  | [], _ :: _, b, hm, _ => by simp [fieldsMeet] at hm
  | _ :: _, [], b, hm, _ => by simp [fieldsMeet] at hm

theorem qbin_sound {op : BinOp} {t : TypeId} {p q r : PV} (h : qbin T op t p q = some r) {x y : Value} (hp : Rep P M true p x) (hq : Rep P M true q y) (xo yo : Operand) :
    ∃ v, (do eqGuard op t xo yo x y; binOp op t x y : Sem Value).run P w = .ok v w ∧ Rep P M true r v := by
  unfold qbin at h
  split at h
  · rename_i k a k' b
    simp only [Rep] at hp hq
    subst hp hq
    cases hk : decide (k = k') with
    | false => simp [hk] at h
    | true =>
      have := of_decide_eq_true hk
      subst this
      simp only [decide_true, cond_true] at h
      have hg : (eqGuard op t xo yo (.int k a) (.int k b)).run P w = .ok () w := by unfold eqGuard; split <;> simp
      rw [Sem.run_bind, hg, Result.andThen_ok]
      cases op <;> simp only [cmpInt, Option.map_some, Option.map_none, Option.some.injEq, reduceCtorEq] at h <;>
        (try split at h) <;> (try (simp only [Option.some.injEq, reduceCtorEq] at h)) <;> (try subst h) <;>
        simp_all [binOp, Op.intArith, Op.intDiv, Op.intCmp, Rep]
  · rename_i a b
    simp only [Rep] at hp hq
    obtain ⟨rfl, _⟩ := hp
    obtain ⟨rfl, _⟩ := hq
    have hg : (eqGuard op t xo yo (.string ⟨a.toArray⟩) (.string ⟨b.toArray⟩)).run P w = .ok () w := by unfold eqGuard; split <;> simp
    rw [Sem.run_bind, hg, Result.andThen_ok]
    have hs : ∀ l : List UInt8, (ByteArray.mk l.toArray).size = l.length := fun l => by simp [ByteArray.size]
    cases op <;> simp only [cmpStr, Option.map_some, Option.map_none, Option.some.injEq, reduceCtorEq] at h <;>
      (try split at h) <;> (try (simp only [Option.some.injEq, reduceCtorEq] at h)) <;> (try subst h) <;> (try cases h) <;>
      simp [binOp, Op.stringOp, Rep]
    rename_i hle
    have h63 : ¬ ((9223372036854775807 : Int) < (a.length : Int) + (b.length : Int)) := by
      unfold maxStr at hle
      omega
    rw [hs, hs, if_neg h63, ByteArray.mk_append_mk]
    simp [hle]
  · rename_i a b
    simp only [Rep] at hp hq
    subst hp hq
    split at h
    · rename_i hti
      have hu := (hT.get hti).und
      simp only [Option.some.injEq] at h
      subst h
      have hg : (eqGuard .eql t xo yo (.bool a) (.bool b)).run P w = .ok () w := by simp [eqGuard]
      rw [Sem.run_bind, hg, Result.andThen_ok]
      refine ⟨.bool (a == b), ?_, by simp only [Rep]⟩
      simp only [binOp, Op.equal, Op.maxDepth]
      rw [Sem.run_bind, run_equalIn_bool' w 9999 t a b hu]
      rfl
    · rename_i hti
      have hu := (hT.get hti).und
      simp only [Option.some.injEq] at h
      subst h
      have hg : (eqGuard .neq t xo yo (.bool a) (.bool b)).run P w = .ok () w := by simp [eqGuard]
      rw [Sem.run_bind, hg, Result.andThen_ok]
      refine ⟨.bool (!(a == b)), ?_, by simp only [Rep]⟩
      simp only [binOp, Op.equal, Op.maxDepth]
      rw [Sem.run_bind, run_equalIn_bool' w 9999 t a b hu]
      rfl
    · cases h
  · rename_i xs ys
    simp only [Rep] at hp hq
    obtain ⟨cs, rfl, hc⟩ := hp
    obtain ⟨ds, rfl, hd⟩ := hq
    split at h
    · rename_i ti hti
      cases he : ti.eqf.isEmpty with
      | true => simp [he] at h
      | false =>
        simp only [he, cond_false] at h
        obtain ⟨h1, h2, h3, h4⟩ := (hT.get hti).eqs (by intro h0; simp [h0] at he)
        rw [Sem.run_bind, run_eqGuard_agg w op t xo yo cs ds h2, Result.andThen_ok]
        split at h
        · cases hb : eqCells T ti.eqf xs ys with
          | none => simp [hb] at h
          | some b =>
            simp only [hb, Option.map_some, Option.some.injEq] at h
            subst h
            refine ⟨.bool b, ?_, by simp only [Rep]⟩
            rw [run_eql_struct w t cs ds, show (10000 : Nat) = 9998 + 1 + 1 from rfl, run_equalIn_agg w (9998 + 1) t cs ds h4 h1, eqCells_sound hT w (d := 9998) hc hd _ _ b h3 hb]
            rfl
        · cases hb : eqCells T ti.eqf xs ys with
          | none => simp [hb] at h
          | some b =>
            simp only [hb, Option.map_some, Option.some.injEq] at h
            subst h
            refine ⟨.bool (!b), ?_, by simp only [Rep]⟩
            rw [run_neq_struct w t cs ds, show (10000 : Nat) = 9998 + 1 + 1 from rfl, run_equalIn_agg w (9998 + 1) t cs ds h4 h1, eqCells_sound hT w (d := 9998) hc hd _ _ b h3 hb]
            rfl
        · cases h
    · cases h
  · cases h
end bin
end Go.Ab
