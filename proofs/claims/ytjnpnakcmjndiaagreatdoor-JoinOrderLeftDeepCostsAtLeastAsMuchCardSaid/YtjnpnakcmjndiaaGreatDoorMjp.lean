/- Closed evaluation, part D: the operations that leave the heap asQ it is. -/
import Derived.Test.YtjnpnakcmjndiaaGreatDoorMjo
import Derived.Laws.Cover3
import Derived.Test.YtjnpnakcmjndiaaGreatDoorMjj
namespace Go.Cx
open Go Go.Ab
open Go.RowKit (Below)

section
variable {P : Program} {T : TT} (hT : T.Ok P) {W0 : World} {B : Nat → Option Go.Obj} {β : Be} {H : Hp} {w : World}
include hT

omit hT in
theorem scalarEqD_sound {d : Nat} {t : TypeId} {ti : TInfo} (hti : ti.Ok P t) {p q : DV} {x y : Value} (hp : R β p x) (hq : R β q y) {b : Bool} (h : scalarEqD ti.desc p q = some b) :
    isAggD ti.desc = false ∧ (Op.equalIn (d + 1) t x y).run P w = .ok b w := by
  obtain ⟨desc, size, bytes, zero, eqf⟩ := ti
  have hu := hti.und
  simp only at hu h ⊢
  unfold scalarEqD at h
  split at h
  · rename_i k0 k a k' b'
    simp only [R] at hp hq
    subst hp hq
    cases hk : decide (k = k') with
    | false => simp [hk] at h
    | true =>
      simp only [hk, cond_true, Option.some.injEq] at h
      have := of_decide_eq_true hk
      subst this h
      exact ⟨rfl, run_equalIn_int w d t k k0 a b' hu⟩
  · simp only [R] at hp hq
    subst hp hq
    simp only [Option.some.injEq] at h
    subst h
    exact ⟨rfl, run_equalIn_bool' w d t _ _ hu⟩
  · rename_i a b'
    simp only [R] at hp hq
    subst hp hq
    simp only [Option.some.injEq] at h
    subst h
    refine ⟨rfl, ?_⟩
    have := run_equalIn_string (P := P) w d t ⟨a.toArray⟩ ⟨b'.toArray⟩ hu
    simpa using this
  · cases h

theorem eqCellsD_sound {d : Nat} {xs ys : List DV} {cs ds : Array Value} (hx : RL β xs cs.toList) (hy : RL β ys ds.toList) :
    ∀ (fs : List Field) (eqf : List (Nat × Nat)) (b : Bool), fieldsMeet fs eqf → eqCellsD T eqf xs ys = some b → (Op.eqFields (d + 1) cs ds fs).run P w = .ok b w
  | [], [], b, _, h => by simp only [eqCellsD, Option.some.injEq] at h; subst h; simp [Op.eqFields]
  | f :: fs, (t, o) :: r, b, hm, h => by
    simp only [fieldsMeet] at hm
    obtain ⟨hn, rfl, rfl, hm⟩ := hm
    simp only [eqCellsD] at h
    split at h
    · rename_i ti p q hti hp hq
      split at h
      · rename_i b1 b2 h1 h2
        simp only [Option.some.injEq] at h
        subst h
        obtain ⟨x, hx1, hx2⟩ := hx.get _ _ hp
        obtain ⟨y, hy1, hy2⟩ := hy.get _ _ hq
        obtain ⟨hag, heq⟩ := scalarEqD_sound (w := w) (d := d) (hT.get hti) hx2 hy2 h1
        have hpx : ∀ (c : Array Value) (z : Value), c.toList[f.offset]? = some z → (part f.type c f.offset).run P w = .ok z w := by
          intro c z hz
          rw [Array.getElem?_toList] at hz
          simp [part, (hT.get hti).ragg w, hag, hz]
        have ih := eqCellsD_sound (d := d) hx hy fs r b2 hm h2
        simp only [Op.eqFields, if_pos (show f.name ≠ "_" from hn), Sem.run_bind, hpx _ _ hx1, hpx _ _ hy1, Result.andThen_ok, heq]
        cases b1 <;> simp [ih]
      · cases h
    · cases h
  | [], _ :: _, b, hm, _ => by simp [fieldsMeet] at hm
  | _ :: _, [], b, hm, _ => by simp [fieldsMeet] at hm

theorem binD_sound {op : BinOp} {t : TypeId} {p q r : DV} (h : binD T op t p q = some r) {x y : Value} (hp : R β p x) (hq : R β q y) (xo yo : Operand) :
    ∃ v, (do eqGuard op t xo yo x y; binOp op t x y : Sem Value).run P w = .ok v w ∧ R β r v := by
  unfold binD at h
  split at h
  · rename_i k a k' b
    simp only [R] at hp hq
    subst hp hq
    cases hk : decide (k = k') with
    | false => simp [hk] at h
    | true =>
      have := of_decide_eq_true hk
      subst this
      simp only [decide_true, cond_true] at h
      have hg : (eqGuard op t xo yo (.int k a) (.int k b)).run P w = .ok () w := by unfold eqGuard; split <;> simp
      rw [Sem.run_bind, hg, Result.andThen_ok]
      cases op <;> simp only [cmpInt, Option.map_some, Option.map_none, Option.some.injEq, reduceCtorEq] at h <;>
        (try split at h) <;> (try (simp only [Option.some.injEq, reduceCtorEq] at h)) <;> (try subst h) <;>
        simp_all [binOp, Op.intArith, Op.intDiv, Op.intCmp, R]
  · rename_i a b
    simp only [R] at hp hq
    subst hp hq
    have hg : (eqGuard op t xo yo (.string ⟨a.toArray⟩) (.string ⟨b.toArray⟩)).run P w = .ok () w := by unfold eqGuard; split <;> simp
    rw [Sem.run_bind, hg, Result.andThen_ok]
    have hs : ∀ l : List UInt8, (ByteArray.mk l.toArray).size = l.length := fun l => by simp [ByteArray.size]
    cases op <;> simp only [cmpStr, Option.map_some, Option.map_none, Option.some.injEq, reduceCtorEq] at h <;>
      (try split at h) <;> (try (simp only [Option.some.injEq, reduceCtorEq] at h)) <;> (try subst h) <;> (try cases h) <;>
      simp [binOp, Op.stringOp, R]
    rename_i hle
    have h63 : ¬ ((9223372036854775807 : Int) < (a.length : Int) + (b.length : Int)) := by
      unfold maxStr at hle
      omega
    rw [hs, hs, if_neg h63, ByteArray.mk_append_mk]
  · rename_i a b
    simp only [R] at hp hq
    subst hp hq
    split at h
    · rename_i hti
      have hu := (hT.get hti).und
      simp only [Option.some.injEq] at h
      subst h
      have hg : (eqGuard .eql t xo yo (.bool a) (.bool b)).run P w = .ok () w := by simp [eqGuard]
      rw [Sem.run_bind, hg, Result.andThen_ok]
      refine ⟨.bool (a == b), ?_, by simp only [R]⟩
      simp only [binOp, Op.equal, Op.maxDepth]
      rw [Sem.run_bind, run_equalIn_bool' w 9999 t a b hu]
      rfl
    · rename_i hti
      have hu := (hT.get hti).und
      simp only [Option.some.injEq] at h
      subst h
      have hg : (eqGuard .neq t xo yo (.bool a) (.bool b)).run P w = .ok () w := by simp [eqGuard]
      rw [Sem.run_bind, hg, Result.andThen_ok]
      refine ⟨.bool (!(a == b)), ?_, by simp only [R]⟩
      simp only [binOp, Op.equal, Op.maxDepth]
      rw [Sem.run_bind, run_equalIn_bool' w 9999 t a b hu]
      rfl
    · cases h
  · rename_i xs ys
    simp only [R] at hp hq
    obtain ⟨cs, rfl, hc⟩ := hp
    obtain ⟨ds, rfl, hd⟩ := hq
    split at h
    · rename_i ti hti
      cases he : ti.eqf.isEmpty with
      | true => simp [he] at h
      | false =>
        simp only [he, cond_false] at h
        obtain ⟨h1, h2, h3, h4⟩ := (hT.get hti).eqs (by intro h0; simp [h0] at he)
        rw [Sem.run_bind, run_eqGuard_agg w op t xo yo cs ds h2, Result.andThen_ok]
        split at h
        · cases hb : eqCellsD T ti.eqf xs ys with
          | none => simp [hb] at h
          | some b =>
            simp only [hb, Option.map_some, Option.some.injEq] at h
            subst h
            refine ⟨.bool b, ?_, by simp only [R]⟩
            rw [run_eql_struct w t cs ds, show (10000 : Nat) = 9998 + 1 + 1 from rfl, run_equalIn_agg w (9998 + 1) t cs ds h4 h1, eqCellsD_sound hT (d := 9998) hc hd _ _ b h3 hb]
            rfl
        · cases hb : eqCellsD T ti.eqf xs ys with
          | none => simp [hb] at h
          | some b =>
            simp only [hb, Option.map_some, Option.some.injEq] at h
            subst h
            refine ⟨.bool (!b), ?_, by simp only [R]⟩
            rw [run_neq_struct w t cs ds, show (10000 : Nat) = 9998 + 1 + 1 from rfl, run_equalIn_agg w (9998 + 1) t cs ds h4 h1, eqCellsD_sound hT (d := 9998) hc hd _ _ b h3 hb]
            rfl
        · cases h
    · cases h
  · cases h

theorem nilD_sound {op : BinOp} {t : TypeId} {a : Act} {x y : Operand} {p r : DV} {xv : Value} (h : nilD T op t y p = some r) (hp : R β p xv) :
    ∃ v, (do eqGuard op t x y xv (a.eval y); binOp op t xv (a.eval y) : Sem Value).run P w = .ok v w ∧ R β r v := by
  unfold nilD at h
  split at h
  · simp only [R] at hp
    subst hp
    have ey : a.eval (.const .nilIface) = .nilIface := rfl
    split at h
    · rename_i ti hti
      have hu := (hT.get hti).und
      have hE : ∀ d, ∀ ms, ti.desc = .interface ms → (Op.equalIn (d + 1) t .nilIface .nilIface).run P w = .ok true w := by
        intro d ms hd
        rw [hd] at hu
        simp [Op.equalIn, run_underlying hu]
      split at h
      · rename_i ms hd
        simp only [Option.some.injEq] at h
        subst h
        refine ⟨.bool true, ?_, by simp only [R]⟩
        have hg : (eqGuard .eql t x (.const .nilIface) .nilIface .nilIface).run P w = .ok () w := by simp [eqGuard]
        rw [ey, Sem.run_bind, hg, Result.andThen_ok]
        simp only [binOp, Op.equal, Op.maxDepth]
        rw [Sem.run_bind, hE 9999 _ hd]
        rfl
      · rename_i ms hd
        simp only [Option.some.injEq] at h
        subst h
        refine ⟨.bool false, ?_, by simp only [R]⟩
        have hg : (eqGuard .neq t x (.const .nilIface) .nilIface .nilIface).run P w = .ok () w := by simp [eqGuard]
        rw [ey, Sem.run_bind, hg, Result.andThen_ok]
        simp only [binOp, Op.equal, Op.maxDepth]
        rw [Sem.run_bind, hE 9999 _ hd]
        rfl
      · cases h
    · cases h
  · split at h
    · rename_i ti hti
      have hu := (hT.get hti).und
      have key : ∀ e ad len c, ti.desc = .slice e → xv = .slice ad len c → ∃ v, (do eqGuard .eql t x (.const (.slice none 0 0)) xv (a.eval (.const (.slice none 0 0))); binOp .eql t xv (a.eval (.const (.slice none 0 0))) : Sem Value).run P w = .ok v w ∧ v = .bool ad.isNone := by
        intro e ad len c hd hv
        rw [hd] at hu
        have h1 := run_equal_slice_nil (P := P) w t e ad len c hu
        have h2 : (eqGuard .eql t x (.const (.slice none 0 0)) (.slice ad len c) (.slice none 0 0)).run P w = .ok () w := by unfold eqGuard; split <;> simp
        refine ⟨_, ?_, rfl⟩
        simp only [hv, show a.eval (.const (.slice none 0 0)) = .slice none 0 0 from rfl, Sem.run_bind, h2, Result.andThen_ok, binOp, h1]
        rfl
      split at h
      · rename_i e hd
        simp only [Option.some.injEq] at h
        subst h
        simp only [R] at hp
        obtain ⟨v, h1, h2⟩ := key e _ _ _ hd hp
        exact ⟨v, h1, by simp only [R]; exact h2⟩
      · rename_i e _ _ _ _ hd
        simp only [Option.some.injEq] at h
        subst h
        simp only [R] at hp
        obtain ⟨b, c, _, _, hv⟩ := hp
        obtain ⟨v, h1, h2⟩ := key e _ _ _ hd hv
        exact ⟨v, h1, by simp only [R]; exact h2⟩
      · rename_i e _ _ hd
        simp only [Option.some.injEq] at h
        subst h
        simp only [R] at hp
        obtain ⟨b, c, _, hv⟩ := hp
        obtain ⟨v, h1, h2⟩ := key e _ _ _ hd hv
        exact ⟨v, h1, by simp only [R]; exact h2⟩
      · cases h
    · cases h
  · cases h

omit hT in
theorem isZ_sound {o : Option Operand} (h : isZ o = true) : o = some (.const (.int .i64 0)) := by
  unfold isZ at h
  split at h
  · rename_i n
    have : n = 0 := by simpa using h
    rw [this]
  · cases h

theorem emptyD_sound {t : TypeId} {ti : TInfo} (hti : T.get t = some ti) {p r : DV} {v : Value} (h : emptyD T ti.desc p = some r) (hp : R β p v) :
    ∃ u, (Instr.sliceAt t v (some (.int .i64 0)) (some (.int .i64 0)) (some (.int .i64 0))).run P w = .ok u w ∧ R β r u := by
  have hu := (hT.get hti).und
  unfold emptyD at h
  split at h
  · rename_i e hd
    rw [hd] at hu
    have key : ∀ ei ad len c, T.get e = some ei → v = .slice ad len c → (Instr.sliceAt t v (some (.int .i64 0)) (some (.int .i64 0)) (some (.int .i64 0))).run P w = .ok (.slice ad 0 0) w := by
      intro ei ad len c hei hv
      subst hv
      simp [Instr.sliceAt, Instr.slice, run_underlying hu, Instr.sliceBounds, Instr.sliceBound, asIntOf, (hT.get hei).rsize w]
    split at h
    · rename_i ei id off row len hei
      simp only [Option.some.injEq] at h
      subst h
      simp only [R] at hp
      obtain ⟨b, c, hβ, _, hv⟩ := hp
      exact ⟨_, key ei _ _ _ hei hv, by simp only [R]; exact ⟨b, c, hβ, rfl⟩⟩
    · rename_i ei id off hei
      simp only [Option.some.injEq] at h
      subst h
      simp only [R] at hp
      obtain ⟨b, c, hβ, hv⟩ := hp
      exact ⟨_, key ei _ _ _ hei hv, by simp only [R]; exact ⟨b, c, hβ, rfl⟩⟩
    · rename_i ei hei
      simp only [Option.some.injEq] at h
      subst h
      simp only [R] at hp
      exact ⟨_, key ei _ _ _ hei hp, by simp only [R]⟩
    · cases h
  · cases h

theorem readD_load {k : Nat} {ti : TInfo} (hk : T.get k = some ti) (b off : Nat) (cells : List DV) (xs : List Value)
    (hrep : RL β cells xs) (hmem : ∀ (j : Nat) (x : Value), xs[j]? = some x → w.cell? ⟨b, j, none⟩ = some x) {r : DV} (hr : readD ti off cells = some r) :
    ∃ v, (loadVar k ⟨b, off, none⟩).run P w = .ok v w ∧ R β r v := by
  have hk := hT.get hk
  unfold readD at hr
  cases hd : isAggD ti.desc with
  | true =>
    simp only [hd, cond_true] at hr
    cases hl : Nat.ble (off + ti.size) cells.length with
    | false => simp [hl] at hr
    | true =>
      simp only [hl, cond_true, Option.some.injEq] at hr
      subst hr
      have hle : off + ti.size ≤ cells.length := Nat.le_of_ble_eq_true hl
      have hx : xs.length = cells.length := hrep.length
      have hlen : ((xs.drop off).take ti.size).length = ti.size := by simp [hx]; omega
      have hload := run_loadCells_list (P := P) w ⟨b, off, none⟩ ((xs.drop off).take ti.size) (fun j v hv => by
        rw [add_off]
        rw [List.getElem?_take] at hv
        split at hv
        · rw [List.getElem?_drop] at hv
          exact hmem _ _ hv
        · cases hv)
      rw [hlen] at hload
      refine ⟨.agg ((xs.drop off).take ti.size).toArray, ?_, ?_⟩
      · simp [loadVar, hk.ragg w, hd, hk.rsize w, hload]
      · simp only [R]
        exact ⟨_, rfl, by simpa using (hrep.drop off).take ti.size⟩
  | false =>
    simp only [hd, cond_false] at hr
    obtain ⟨x, hx, hrx⟩ := hrep.get off r hr
    refine ⟨x, ?_, hrx⟩
    simp [loadVar, hk.ragg w, hd, hmem off x hx]

theorem loadD_sound {t : TypeId} {ti : TInfo} (hti : T.get t = some ti) (hw : WR W0 B β H w) {p r : DV} {v : Value} (hp : R β p v) (h : loadD H.h ti p = some r) :
    ∃ b o, v = .pointer (some ⟨b, o, none⟩) ∧ ∃ u, (loadVar t ⟨b, o, none⟩).run P w = .ok u w ∧ R β r u := by
  cases p with
  | p id off =>
    simp only [R] at hp
    obtain ⟨b, c, hβ, rfl⟩ := hp
    simp only [loadD] at h
    split at h
    · rename_i k hk
      obtain ⟨xs, h1, h2⟩ := hw.cell hk hβ
      exact ⟨b, off, rfl, readD_load hT hti b off k.cells xs h1 h2 h⟩
    · cases h
  | _ => cases h

theorem sliceD_sound {t : TypeId} {ti : TInfo} (hti : T.get t = some ti) {p r : DV} {lo hi : Option DV} {ov oh : Option Value} (h : sliceD T ti.desc p lo hi = some r) {v : Value} (hp : R β p v)
    (h1 : ∀ q, lo = some q → ∃ x, ov = some x ∧ R β q x) (h1' : lo = none → ov = none) (h2 : ∀ q, hi = some q → ∃ x, oh = some x ∧ R β q x) (h2' : hi = none → oh = none) :
    ∃ u, (Instr.sliceAt t v ov oh none).run P w = .ok u w ∧ R β r u := by
  have hk := hT.get hti
  have hu := hk.rund w
  have bound : ∀ (q : Option DV) (o : Option Value) (d : Nat) (n : Int), boundD q d = some n → (∀ p, q = some p → ∃ x, o = some x ∧ R β p x) → (q = none → o = none) →
      (o = none ∧ n = d) ∨ ∃ k, o = some (.int k n) := by
    intro q o d n hb ha hn
    cases q with
    | none => simp only [boundD, Option.some.injEq] at hb; exact .inl ⟨hn rfl, hb.symm⟩
    | some q =>
      obtain ⟨x, rfl, hx⟩ := ha q rfl
      unfold boundD at hb
      split at hb
      · rename_i hq; cases hq
      · rename_i k n' hq
        simp only [Option.some.injEq] at hq hb
        subst hq hb
        simp only [R] at hx
        subst hx
        exact .inr ⟨_, rfl⟩
      · cases hb
  have sb : ∀ (k : IntKind) (n : Int) (y : Nat) (c : BoundsCode), 0 ≤ n → n ≤ y → (Instr.sliceBound (.int k n) y c).run P w = .ok n.toNat w := by
    intro k n y c h0 hy
    simp [Instr.sliceBound, asIntOf, h0, hy]
  unfold sliceD at h
  split at h
  · rename_i l hd
    simp only [R] at hp
    subst hp
    split at h
    · rename_i a b ha hb
      split at h
      · rename_i hc
        simp only [Option.some.injEq] at h
        subst h
        have hz : (ByteArray.mk l.toArray).size = l.length := by simp [ByteArray.size]
        have hbs : (Instr.sliceBounds false (ByteArray.mk l.toArray).size (ByteArray.mk l.toArray).size ov oh none).run P w = .ok (a.toNat, b.toNat, l.length) w := by
          have e1 := bound lo ov 0 a ha h1 h1'
          have e2 := bound hi oh l.length b hb h2 h2'
          rw [hz]
          have b1 : ∀ k c, (Instr.sliceBound (.int k b) l.length c).run P w = .ok b.toNat w := fun k c => sb k b _ c (by omega) hc.2.2
          have b2 : ∀ k c, (Instr.sliceBound (.int k a) b.toNat c).run P w = .ok a.toNat w := fun k c => sb k a _ c hc.1 (by omega)
          rcases e1 with ⟨rfl, rfl⟩ | ⟨k, rfl⟩ <;> rcases e2 with ⟨rfl, rfl⟩ | ⟨k', rfl⟩ <;> simp_all [Instr.sliceBounds]
        refine ⟨.string ((ByteArray.mk l.toArray).extract a.toNat b.toNat), ?_, ?_⟩
        · rw [hd] at hu
          simp [Instr.sliceAt, Instr.slice, hu, hbs]
        · simp only [R]
          congr 1
          apply ByteArray.ext
          simp [ByteArray.data_extract, List.extract_eq_take_drop, List.drop_take]
      · cases h
    · cases h
  · rename_i e id off row len hd
    simp only [R] at hp
    obtain ⟨bb, c0, hβ, hrl, rfl⟩ := hp
    split at h
    · rename_i a b ei ha hb hei
      split at h
      · rename_i hc
        simp only [Option.some.injEq] at h
        subst h
        have hbs : (Instr.sliceBounds true len (c0 - row) ov oh none).run P w = .ok (a.toNat, b.toNat, c0 - row) w := by
          have e1 := bound lo ov 0 a ha h1 h1'
          have e2 := bound hi oh len b hb h2 h2'
          have b1 : ∀ k cc, (Instr.sliceBound (.int k b) (c0 - row) cc).run P w = .ok b.toNat w := fun k cc => sb k b _ cc (by omega) (by omega)
          have b2 : ∀ k cc, (Instr.sliceBound (.int k a) b.toNat cc).run P w = .ok a.toNat w := fun k cc => sb k a _ cc hc.1 (by omega)
          rcases e1 with ⟨rfl, rfl⟩ | ⟨k, rfl⟩ <;> rcases e2 with ⟨rfl, rfl⟩ | ⟨k', rfl⟩ <;> simp_all [Instr.sliceBounds]
        have hsz := (hT.get hei).rsize w
        rw [hd] at hu
        refine ⟨.slice (if c0 - row = a.toNat then some ⟨bb, off, none⟩ else (some (⟨bb, off, none⟩ : Addr)).map (·.add (a.toNat * ei.size))) (b.toNat - a.toNat) (c0 - row - a.toNat), ?_, ?_⟩
        · simp [Instr.sliceAt, Instr.slice, hu, hbs, hsz]
        · simp only [R]
          refine ⟨bb, c0, hβ, by omega, ?_⟩
          have e3 : c0 - row - a.toNat = c0 - (row + a.toNat) := by omega
          rw [e3]
          congr 1
          split
          · have : a.toNat = 0 := by omega
            simp [this]
          · simp [add_off]
      · cases h
    · cases h
  · cases h

theorem callD_sound {c : Call} {type : TypeId} {ev : Operand → DV} {ρ : Operand → Value} {r : DV} (h : callD T c ev = some r) (he : ∀ x ∈ c.operands, R β (ev x) (ρ x)) :
    ∃ u, (do let d ← resolve ρ c type; invoke d.target d.args : Sem Next).run P w = .ok (.value u) w ∧ R β r u := by
  obtain ⟨callee, args, argTypes⟩ := c
  have hargs : ∀ x ∈ args.toList, R β (ev x) (ρ x) := fun x hx => he x (by simp only [Call.operands]; cases callee <;> simp_all)
  unfold callD at h
  simp only at h
  split at h
  · rename_i x t r' ha hat
    have hx := hargs x (by rw [ha]; simp)
    have ha' : args = #[x] := by rw [← Array.toArray_toList (xs := args), ha]
    have hat' : argTypes[0]? = some t := by rw [← Array.getElem?_toList, hat]; rfl
    subst ha'
    split at h
    · rename_i ti hti
      have hu := (hT.get hti).rund w
      split at h
      · rename_i l hd hl
        simp only [Option.some.injEq] at h
        subst h
        rw [hl] at hx
        simp only [R] at hx
        refine ⟨.int .i64 l.length, ?_, by simp only [R]⟩
        rw [hd] at hu
        have hz : (ByteArray.mk l.toArray).size = l.length := by simp [ByteArray.size]
        simp [resolve, invoke, builtin, Builtin.len_, hat', hu, hx, goInt, hz]
      · rename_i e hd
        have hu' := hu
        rw [hd] at hu'
        cases hn : lenD (ev x) with
        | none => simp [hn] at h
        | some n =>
          simp only [hn, Option.bind_some, Option.some.injEq] at h
          subst h
          have hlen : ∃ ad c, ρ x = .slice ad n c := by
            generalize ev x = p at *
            unfold lenD at hn
            split at hn
            · simp only [Option.some.injEq] at hn; subst hn
              simp only [R] at hx
              obtain ⟨b, c, _, _, h1⟩ := hx
              exact ⟨_, _, h1⟩
            · simp only [Option.some.injEq] at hn; subst hn
              simp only [R] at hx
              obtain ⟨b, c, _, h1⟩ := hx
              exact ⟨_, _, h1⟩
            · simp only [Option.some.injEq] at hn; subst hn
              simp only [R] at hx
              exact ⟨_, _, hx⟩
            · cases hn
          obtain ⟨ad, c, hv⟩ := hlen
          refine ⟨.int .i64 n, ?_, by simp only [R]⟩
          simp [resolve, invoke, builtin, Builtin.len_, hat', hu', hv, goInt]
      · cases h
    · cases h
  · rename_i x y ha
    have hx := hargs x (by rw [ha]; simp)
    have hy := hargs y (by rw [ha]; simp)
    have ha' : args = #[x, y] := by rw [← Array.toArray_toList (xs := args), ha]
    subst ha'
    split at h
    · rename_i k a k' b h1 h2
      simp only [Option.some.injEq] at h
      subst h
      rw [h1] at hx
      rw [h2] at hy
      simp only [R] at hx hy
      refine ⟨.int k (if b < a then b else a), ?_, by simp only [R]⟩
      simp [resolve, invoke, builtin, Builtin.min_, Builtin.min2, hx, hy]
    · cases h
  · rename_i x y ha
    have hx := hargs x (by rw [ha]; simp)
    have hy := hargs y (by rw [ha]; simp)
    have ha' : args = #[x, y] := by rw [← Array.toArray_toList (xs := args), ha]
    subst ha'
    split at h
    · rename_i k a k' b h1 h2
      simp only [Option.some.injEq] at h
      subst h
      rw [h1] at hx
      rw [h2] at hy
      simp only [R] at hx hy
      refine ⟨.int k (if b > a then b else a), ?_, by simp only [R]⟩
      simp [resolve, invoke, builtin, Builtin.max_, Builtin.max2, hx, hy]
    · cases h
  · cases h

omit hT in
theorem rl_map {ev : Operand → DV} {ρ : Operand → Value} (l : List Operand) (h : ∀ x ∈ l, R β (ev x) (ρ x)) : RL β (l.map ev) (l.map ρ) := by
  induction l with
  | nil => simp [RL]
  | cons x l ih =>
    simp only [List.map_cons, RL]
    exact ⟨_, _, rfl, h x (by simp), ih fun y hy => h y (by simp [hy])⟩

theorem quiet_sound {o : Oper} {ev : Operand → DV} {r : DV} (h : quietD T H.h o.op ev = some r) {a : Act} (hw : WR W0 B β H w) (he : ∀ x ∈ o.op.operands, R β (ev x) (a.eval x)) :
    ∃ v, (execOp a.eval o).run P w = .ok (.value v) w ∧ R β r v := by
  obtain ⟨dst, op, type, pos, after, guard⟩ := o
  simp only at he h
  cases op <;> simp only [quietD, reduceCtorEq] at h <;> simp only [execOp, Op.operands] at he ⊢
  case move x =>
    simp only [Option.some.injEq] at h; subst h
    exact ⟨_, rfl, he x (by simp)⟩
  case assign x =>
    simp only [Option.some.injEq] at h; subst h
    exact ⟨_, rfl, he x (by simp)⟩
  case pick c x y =>
    have hc := he c (by simp)
    split at h
    · rename_i hq
      simp only [Option.some.injEq] at h; subst h
      rw [hq] at hc
      simp only [R] at hc
      exact ⟨_, by simp [hc, asBool], he x (by simp)⟩
    · rename_i hq
      simp only [Option.some.injEq] at h; subst h
      rw [hq] at hc
      simp only [R] at hc
      exact ⟨_, by simp [hc, asBool], he y (by simp)⟩
    · cases h
  case load t x =>
    split at h
    · rename_i ti hti
      obtain ⟨b, o, hv, u, h1, h2⟩ := loadD_sound hT hti hw (he x (by simp)) h
      exact ⟨u, by simp [hv, Instr.loadAt, Instr.sureAddr, h1], h2⟩
    · cases h
  case fieldAddr t x f =>
    split at h
    · rename_i ti hti
      split at h
      · rename_i fs hd
        split at h
        · rename_i fd hf
          split at h
          · rename_i fi hfi
            cases hz : Nat.beq fi.size 0 with
            | true => simp [hz] at h
            | false =>
              simp only [hz, cond_false] at h
              have hx := he x (by simp)
              unfold offD at h
              split at h
              · rename_i id off hq
                simp only [Option.some.injEq] at h
                subst h
                rw [hq] at hx
                simp only [R] at hx
                obtain ⟨b, c, hβ, hv⟩ := hx
                have hu := (hT.get hti).rund w
                rw [hd] at hu
                have hz' : fi.size ≠ 0 := fun e => by rw [e] at hz; cases hz
                refine ⟨.pointer (some ⟨b, off + fd.offset, none⟩), ?_, by simp only [R]; exact ⟨b, c, hβ, rfl⟩⟩
                simp [Instr.fieldAt, hv, hu, hf, Instr.sureAddr, fieldPlace, (hT.get hfi).rsize w, hz', add_off]
              · cases h
          · cases h
        · cases h
      · cases h
    · cases h
  case field t x f =>
    split at h
    · rename_i ti hti
      split at h
      · rename_i fs hd
        split at h
        · rename_i fd hf
          split at h
          · rename_i fi cells hfi hx
            have hxr := he x (by simp)
            rw [hx] at hxr
            simp only [R] at hxr
            obtain ⟨cs, hv, hcs⟩ := hxr
            have hk := hT.get hfi
            have hu := (hT.get hti).rund w
            rw [hd] at hu
            unfold readD at h
            cases hdd : isAggD fi.desc with
            | true =>
              simp only [hdd, cond_true] at h
              cases hl : Nat.ble (fd.offset + fi.size) cells.length with
              | false => simp [hl] at h
              | true =>
                simp only [hl, cond_true, Option.some.injEq] at h
                subst h
                refine ⟨.agg (cs.extract fd.offset (fd.offset + fi.size)), ?_, ?_⟩
                · simp [Instr.field, hu, hf, hv, asAgg, part, hk.ragg w, hdd, hk.rsize w]
                · simp only [R]
                  refine ⟨_, rfl, ?_⟩
                  have := (hcs.drop fd.offset).take fi.size
                  simpa [List.extract_eq_take_drop] using this
            | false =>
              simp only [hdd, cond_false] at h
              obtain ⟨y, hy, hry⟩ := hcs.get _ r h
              refine ⟨y, ?_, hry⟩
              rw [Array.getElem?_toList] at hy
              simp [Instr.field, hu, hf, hv, asAgg, part, hk.ragg w, hdd, hy]
          · cases h
        · cases h
      · cases h
    · cases h
  case indexAddr t x i =>
    split at h
    · rename_i ti id off row len k n hti hx hn
      have hu := (hT.get hti).rund w
      have hxr := he x (by simp)
      have hnr := he i (by simp)
      rw [hx] at hxr
      rw [hn] at hnr
      simp only [R] at hxr hnr
      obtain ⟨b, c, hβ, hrl, hv⟩ := hxr
      split at h
      · rename_i e hd
        split at h
        · rename_i ei hei
          split at h
          · rename_i hc
            simp only [Option.some.injEq] at h
            subst h
            rw [hd] at hu
            refine ⟨.pointer (some ⟨b, off + n.toNat * ei.size, none⟩), ?_, by simp only [R]; exact ⟨b, c, hβ, rfl⟩⟩
            simp [Instr.indexAt, hnr, hv, asIntOf, hu, hc.1, hc.2, (hT.get hei).rsize w, add_off]
          · cases h
        · cases h
      · cases h
    · rename_i ti id off k n hti hx hn
      have hu := (hT.get hti).rund w
      have hxr := he x (by simp)
      have hnr := he i (by simp)
      rw [hx] at hxr
      rw [hn] at hnr
      simp only [R] at hxr hnr
      obtain ⟨b, c, hβ, hv⟩ := hxr
      split at h
      · rename_i len e hd
        split at h
        · rename_i ei hei
          split at h
          · rename_i hc
            simp only [Option.some.injEq] at h
            subst h
            rw [hd] at hu
            refine ⟨.pointer (some ⟨b, off + n.toNat * ei.size, none⟩), ?_, by simp only [R]; exact ⟨b, c, hβ, rfl⟩⟩
            simp [Instr.indexAt, hnr, hv, asIntOf, hu, Instr.sureAddr, hc.1, hc.2, (hT.get hei).rsize w, add_off]
          · cases h
        · cases h
      · cases h
    · cases h
  case index t x i =>
    split at h
    · rename_i ti l k n hti hx hn
      have hu := (hT.get hti).rund w
      have hxr := he x (by simp)
      have hnr := he i (by simp)
      rw [hx] at hxr
      rw [hn] at hnr
      simp only [R] at hxr hnr
      split at h
      · rename_i hd
        rw [hd] at hu
        split at h
        · rename_i h0
          cases hg : l[n.toNat]? with
          | none => simp [hg] at h
          | some c =>
            simp only [hg, Option.map_some, Option.some.injEq] at h
            subst h
            refine ⟨.int .u8 c.toNat, ?_, by simp only [R]⟩
            have hlt : n.toNat < l.length := (List.getElem?_eq_some_iff.1 hg).1
            have hb : (ByteArray.mk l.toArray)[n.toNat]? = some c := by
              have hz : (ByteArray.mk l.toArray).size = l.length := by simp [ByteArray.size]
              rw [getElem?_pos _ _ (by rw [hz]; exact hlt)]
              have := (List.getElem?_eq_some_iff.1 hg).2
              show some ((l.toArray)[n.toNat]'_) = some c
              simp [this]
            simp [Instr.index, hnr, hxr, asIntOf, hu, h0, hb]
        · cases h
      · cases h
    · cases h
  case binOp op t x y u =>
    split at h
    · rename_i r' hnil
      simp only [Option.some.injEq] at h
      subst h
      obtain ⟨v, h1, h2⟩ := nilD_sound (a := a) (x := x) hT hnil (he x (by simp))
      exact ⟨v, by rw [Sem.run_bind, h1]; rfl, h2⟩
    obtain ⟨v, h1, h2⟩ := binD_sound hT h (he x (by simp)) (he y (by simp)) x y
    exact ⟨v, by rw [Sem.run_bind, h1]; rfl, h2⟩
  case unOp op t x =>
    have hx := he x (by simp)
    split at h
    · rename_i b hq
      simp only [Option.some.injEq] at h; subst h
      rw [hq] at hx
      simp only [R] at hx
      exact ⟨.bool (!b), by simp [hx, Op.unary], by simp only [R]⟩
    · rename_i k n hq
      simp only [Option.some.injEq] at h; subst h
      rw [hq] at hx
      simp only [R] at hx
      exact ⟨.int k (k.wrap (0 - n)), by simp [hx, Op.unary, Op.intArith], by simp only [R]⟩
    · cases h
  case convert src dst x =>
    have hx := he x (by simp)
    split at h
    · rename_i si ti k n hsi hti hq
      rw [hq] at hx
      simp only [R] at hx
      have hs := (hT.get hsi).rund w
      have hu := (hT.get hti).rund w
      split at h
      · rename_i k' hd
        simp only [Option.some.injEq] at h; subst h
        rw [hd] at hu
        exact ⟨.int k' (k'.wrap n), by simp [convert, hs, hu, hx, Conv.intToInt], by simp only [R]⟩
      · cases h
    · rename_i si ti l hsi hti hq
      rw [hq] at hx
      simp only [R] at hx
      have hs := (hT.get hsi).rund w
      have hu := (hT.get hti).rund w
      split at h
      · rename_i hd
        simp only [Option.some.injEq] at h; subst h
        rw [hd] at hu
        refine ⟨.string ⟨l.toArray⟩, ?_, by simp only [R]⟩
        simp only [convert, Sem.run_bind, hs, hu, hx, Result.andThen_ok]
        cases si.desc <;> rfl
      · cases h
    · cases h
  case extract x i =>
    have hx := he x (by simp)
    split at h
    · rename_i vs hq
      rw [hq] at hx
      simp only [R] at hx
      obtain ⟨cs, hv, hcs⟩ := hx
      obtain ⟨y, hy, hr⟩ := hcs.get i r h
      rw [Array.getElem?_toList] at hy
      exact ⟨y, by simp [Instr.extract, hv, hy], hr⟩
    · cases h
  case build t ps =>
    obtain ⟨v, h1, h2⟩ := buildD_sound (ev := ev) (ρ := a.eval) hT w h (fun x hx => he x (by simpa using hx))
    refine ⟨v, ?_, h2⟩
    rw [Sem.run_bind, map_pairs, h1]
    rfl
  case slice t x lo hi' mx =>
    split at h
    · rename_i ti hti
      cases mx with
      | some m =>
        simp only at h
        generalize hz : (isZ lo && isZ hi' && isZ (some m)) = z at h
        cases z with
        | false => simp at h
        | true =>
          simp only [cond_true] at h
          simp only [Bool.and_eq_true] at hz
          have e1 := isZ_sound hz.1.1
          have e2 := isZ_sound hz.1.2
          have e3 := isZ_sound hz.2
          simp only [Option.some.injEq] at e3
          subst e1 e2 e3
          obtain ⟨u, h1, h2⟩ := emptyD_sound (w := w) hT hti h (he x (by simp))
          refine ⟨u, ?_, h2⟩
          simp only [Option.map_some, show ∀ v, a.eval (.const v) = v from fun _ => rfl, Sem.run_bind, h1]
          rfl
      | none =>
        simp only at h
        obtain ⟨u, h1, h2⟩ := sliceD_sound hT (w := w) (ov := lo.map a.eval) (oh := hi'.map a.eval) hti h (he x (by simp))
          (fun q hq => by
            cases lo with
            | none => cases hq
            | some y => simp only [Option.map_some, Option.some.injEq] at hq; subst hq; exact ⟨_, rfl, he y (by simp)⟩)
          (fun hq => by cases lo <;> simp_all)
          (fun q hq => by
            cases hi' with
            | none => cases hq
            | some y => simp only [Option.map_some, Option.some.injEq] at hq; subst hq; exact ⟨_, rfl, he y (by simp)⟩)
          (fun hq => by cases hi' <;> simp_all)
        exact ⟨u, by simp [h1], h2⟩
    · cases h
  case makeFunc fn first caps =>
    cases fn <;> simp only [reduceCtorEq] at h
    rename_i f
    cases hf : first.isEmpty with
    | false => simp [hf] at h
    | true =>
      simp only [hf, cond_true, Option.some.injEq] at h
      subst h
      have hfe : first = #[] := by simpa using hf
      subst hfe
      refine ⟨.func (.func f) #[] (caps.map a.eval), by simp [Instr.makeFunc], ?_⟩
      simp only [R]
      exact ⟨_, rfl, by simpa using rl_map caps.toList fun x hx => he x (by simp_all)⟩
  case nilCheck x =>
    have hx := he x (by simp)
    cases hn : noNilD (ev x) with
    | false => simp [hn] at h
    | true =>
      simp only [hn, cond_true, Option.some.injEq] at h
      subst h
      refine ⟨a.eval x, ?_, hx⟩
      generalize ev x = p at *
      cases p <;> simp only [noNilD, reduceCtorEq] at hn <;> simp only [R] at hx
      · obtain ⟨b, c, _, hv⟩ := hx; rw [hv]; rfl
      · obtain ⟨cs, hv, _⟩ := hx; rw [hv]; rfl
  case call c => exact callD_sound hT h he
end
end Go.Cx
/- Closed evaluation, part E: the operations that make or write memory. -/
namespace Go.Cx
open Go Go.Ab
open Go.RowKit (Below)

theorem take_splice {α : Type} (cur vs : List α) (off L : Nat) (h : off + vs.length ≤ L) (hL : L ≤ cur.length) :
    (cur.take off ++ vs ++ cur.drop (off + vs.length)).take L = (cur.take L).take off ++ vs ++ (cur.take L).drop (off + vs.length) := by
  have h1 : (cur.take off ++ vs).length = off + vs.length := by simp; omega
  rw [List.take_append, h1, List.take_of_length_le (by rw [h1]; exact h), List.take_take, Nat.min_eq_left (by omega), List.drop_take]

section
variable {P : Program} {T : TT} (hT : T.Ok P) {W0 : World} {B : Nat → Option Go.Obj} {β : Be} {H : Hp} {w : World}
include hT

omit hT in
theorem repD_len (l : List DV) : ∀ n, (repD n l).length = n * l.length
  | 0 => by simp [repD]
  | n + 1 => by simp [repD, repD_len l n, Nat.add_mul]; omega

omit hT in
theorem repD_rep {ps : List DV} {xs : List Value} (h : RL β ps xs) : ∀ n, RL β (repD n ps) (List.replicate n xs).flatten
  | 0 => by simp [repD, RL]
  | n + 1 => by
    simp only [repD, List.replicate_succ, List.flatten_cons]
    exact h.append (repD_rep h n)

theorem new_sound {o : Oper} {ev : Operand → DV} {id : Nat} {d : DV} {k : Blk} (h : newBlk T o.op ev id = some (d, k)) {a : Act} (he : ∀ x ∈ o.op.operands, R β (ev x) (a.eval x)) :
    ∃ (c : Nat) (arr : Array Value) (v : Value), (execOp a.eval o).run P w = .ok (.value v) (w.alloc (.cells arr k.e)) ∧ k.cells.length = arr.size ∧ RL β k.cells arr.toList ∧ (∀ m, k.cap = some m → c = m) ∧ (k.sz ≠ 0 → arr.size = c * k.sz) ∧
      ∀ β' : Be, β' id = some (w.heap.size, c) → R β' d v := by
  obtain ⟨dst, op, type, pos, after, guard⟩ := o
  simp only at he h
  unfold newBlk at h
  split at h
  · rename_i t
    split at h
    · rename_i ti hti
      simp only [Option.some.injEq, Prod.mk.injEq] at h
      obtain ⟨rfl, rfl⟩ := h
      refine ⟨0, ti.zero.cells, .pointer (some ⟨w.heap.size, 0, none⟩), ?_, by simp [zeroD], consts_rep _, by simp, by simp, fun β' hβ => by simp only [R]; exact ⟨_, _, hβ, rfl⟩⟩
      simp [execOp, Instr.alloc, (hT.get hti).rzero w, newVar, newRow]
    · cases h
  · rename_i t x
    split at h
    · rename_i cs hc
      simp only [Option.some.injEq, Prod.mk.injEq] at h
      obtain ⟨rfl, rfl⟩ := h
      obtain ⟨h1, _⟩ := cellsD_sound hc (he x (by simp [Op.operands]))
      refine ⟨0, (a.eval x).cells, .pointer (some ⟨w.heap.size, 0, none⟩), ?_, by have := h1.length; simpa using this.symm, h1, by simp, by simp, fun β' hβ => by simp only [R]; exact ⟨_, _, hβ, rfl⟩⟩
      simp [execOp, Instr.box, newVar, newRow]
    · cases h
  · rename_i t n ps
    split at h
    · rename_i ti hti
      split at h
      · rename_i e hd
        split at h
        · rename_i ei hei
          generalize hb : (Nat.ble (n * ei.bytes) 1000000 && Nat.blt 0 ei.size && Nat.ble (n * ei.size) 1000000 && Nat.beq ei.zero.cells.size ei.size) = bb at h
          cases bb with
          | false => simp at h
          | true =>
            simp only [cond_true] at h
            simp only [Bool.and_eq_true] at hb
            obtain ⟨⟨⟨c1, c2⟩, c3⟩, c4⟩ := hb
            have c2 : 0 < ei.size := by simpa [Nat.blt_eq] using c2
            have c3 := Nat.le_of_ble_eq_true c3
            have hzl := Nat.eq_of_beq_eq_true c4
            split at h
            · rename_i out hf
              simp only [Option.some.injEq, Prod.mk.injEq] at h
              obtain ⟨rfl, rfl⟩ := h
              obtain ⟨h1, h2⟩ := partsD_rep (β := β) (ev := ev) (ρ := a.eval) ps.toList (fun x hx => he x (by simpa [Op.operands] using hx))
              have hinit : RL β (repD n (zeroD ei)) ((Array.range (n * ei.zero.cells.size)).map (ei.zero.cells[· % ei.zero.cells.size]!)).toList := by
                rw [zeros_eq]
                exact repD_rep (consts_rep _) n
              obtain ⟨cs, hfill, hrep, _⟩ := fillD_sound (vals := ps.toList.map fun (p : Nat × Operand) => (p.1, a.eval p.2)) hf hinit h1 h2
              have hlen : ∀ {place : Nat → Option (Nat × Nat)} {parts : List (Nat × DV)} {cells out : List DV}, fillD place cells parts = some out → out.length = cells.length := by
                intro place parts
                induction parts with
                | nil => intro cells out h; simp only [fillD, Option.some.injEq] at h; rw [h]
                | cons q r ih =>
                  intro cells out h
                  obtain ⟨j, p⟩ := q
                  simp only [fillD] at h
                  split at h
                  · rename_i off size pc hpl hpc
                    generalize hb : (Nat.beq pc.length size && Nat.ble (off + size) cells.length) = b at h
                    cases b with
                    | false => simp at h
                    | true =>
                      simp only [cond_true] at h
                      simp only [Bool.and_eq_true] at hb
                      have h1 := Nat.eq_of_beq_eq_true hb.1
                      have h2 := Nat.le_of_ble_eq_true hb.2
                      rw [ih h, splice_len (by omega)]
                  · cases h
              have hol : out.length = n * ei.size := by rw [hlen hf, repD_len]; simp [zeroD, hzl]
              have hcs : cs.size = n * ei.size := by have := hrep.length; simp at this; omega
              have hu := (hT.get hti).rund w
              rw [hd] at hu
              have hnb : ¬ (n * ei.size > 2 ^ 24) := by omega
              have hsz := (hT.get hei).rsize w
              have hzr := (hT.get hei).rzero w
              refine ⟨n, cs, .slice (some ⟨w.heap.size, 0, none⟩) n n, ?_, by rw [hol, hcs], hrep, by simp, fun _ => hcs, fun β' hβ => by simp only [R]; exact ⟨_, _, hβ, by omega, by simp⟩⟩
              have hrun : (Instr.buildSlice t n (ps.map fun p => (p.1, a.eval p.2))).run P w = .ok (.slice (some ⟨w.heap.size, 0, none⟩) n n) (w.alloc (.cells cs e)) := by
                by_cases h0 : n * ei.size = 0
                · have hn0 : n = 0 := by rcases Nat.mul_eq_zero.1 h0 with h | h <;> omega
                  subst hn0
                  have e1 : ((Array.range (0 * ei.zero.cells.size)).map (ei.zero.cells[· % ei.zero.cells.size]!)) = #[] := by simp
                  rw [e1] at hfill
                  have e2 : ((Array.range (0 * ei.size)).map ((#[] : Array Value)[· % (#[] : Array Value).size]!)) = #[] := by simp
                  simp only [Instr.buildSlice, Sem.run_bind, hu, Result.andThen_ok, hsz, Array.toList_map]
                  rw [if_neg hnb, if_pos h0]
                  simp only [Sem.run_bind, Sem.run_pure, Result.andThen_ok]
                  rw [e2, hfill]
                  simp [newRow]
                · rw [hzl] at hfill
                  simp only [Instr.buildSlice, Sem.run_bind, hu, Result.andThen_ok, hsz, hnb, if_false, h0, hzr, Sem.run_pure, Array.toList_map, hzl]
                  rw [hfill]
                  simp [newRow]
              simp only [execOp, Sem.run_bind, hrun]
              rfl
            · cases h
        · cases h
      · cases h
    · cases h
  · cases h

/-- What an operation that writes comes to. -/
def Act1 (P : Program) (W0 : World) (B : Nat → Option Go.Obj) (β : Be) (H : Hp) (w : World) (a : Act) (o : Oper) (d : DV) (H' : Hp) : Prop :=
  ∃ β' w' v, Ext β β' H.nx H'.nx ∧ WR W0 B β' H' w' ∧ R β' d v ∧ ((execOp a.eval o).run P w = .ok (.value v) w' ∨ ((execOp a.eval o).run P w = .ok .skip w' ∧ v = undef))

omit hT in
theorem src_sound {p : DV} {v : Value} (hw : WR W0 B β H w) (hp : R β p v) {size : Nat} {new : List DV} (h : srcD H.h size p = some new) (h1 : new.all DV.one = true) {n : Nat} (hn : lenD p = some n) :
    (n = 0 ∧ ∃ sa c, v = .slice sa 0 c) ∨ ∃ a c news, v = .slice (some a) n c ∧ news.length = n * size ∧ RL β new news ∧ (∀ j x, news[j]? = some x → w.cell? (a.add j) = some x) ∧ ∀ x ∈ news, x.oneCell' = true := by
  unfold srcD at h
  split at h
  · rename_i id off row len
    split at h
    · rename_i b hb
      cases hc : Nat.ble (off + len * size) b.cells.length with
      | false => simp [hc] at h
      | true =>
        simp only [hc, cond_true, Option.some.injEq] at h
        subst h
        have hle := Nat.le_of_ble_eq_true hc
        simp only [lenD, Option.some.injEq] at hn
        subst hn
        simp only [R] at hp
        obtain ⟨bb, c, hβ, _, rfl⟩ := hp
        obtain ⟨xs, hx, hcell⟩ := hw.cell hb hβ
        have hrl := (hx.drop off).take (len * size)
        refine .inr ⟨⟨bb, off, none⟩, c - row, (xs.drop off).take (len * size), rfl, ?_, hrl, fun j x hj => ?_, RL.oneCell h1 hrl⟩
        · have := hx.length
          simp; omega
        · rw [add_off]
          rw [List.getElem?_take] at hj
          split at hj
          · rw [List.getElem?_drop] at hj; exact hcell _ _ hj
          · cases hj
    · cases h
  · simp only [lenD, Option.some.injEq] at hn
    simp only [R] at hp
    exact .inl ⟨hn.symm, _, _, hp⟩
  · simp only [lenD, Option.some.injEq] at hn
    simp only [R] at hp
    obtain ⟨b, c, _, rfl⟩ := hp
    exact .inl ⟨hn.symm, _, _, rfl⟩
  · cases h

omit hT in
theorem lenD_sound {p : DV} {v : Value} (hp : R β p v) {n : Nat} (hn : lenD p = some n) : ∃ ad c, v = .slice ad n c ∧ n ≤ c := by
  unfold lenD at hn
  split at hn
  · simp only [Option.some.injEq] at hn; subst hn
    simp only [R] at hp
    obtain ⟨b, c, _, h1, h2⟩ := hp
    exact ⟨_, _, h2, by omega⟩
  · simp only [Option.some.injEq] at hn; subst hn
    simp only [R] at hp
    obtain ⟨b, c, _, h1⟩ := hp
    exact ⟨_, _, h1, by omega⟩
  · simp only [Option.some.injEq] at hn; subst hn
    simp only [R] at hp
    exact ⟨_, _, hp, by omega⟩
  · cases hn

theorem append_sound {t ty : TypeId} {ti ei : TInfo} {e : TypeId} (hti : T.get t = some ti) (hd : ti.desc = .slice e) (hei : T.get e = some ei) (hz1 : ei.zero.cells.size = ei.size) (hsz : 0 < ei.size) {p q : DV} {x y : Value} (hw : WR W0 B β H w) (hp : R β p x) (hq : R β q y)
    {new : List DV} (hs : srcD H.h ei.size q = some new) (h1 : new.all DV.one = true) {n : Nat} (hn : lenD q = some n) {d : DV} {H' : Hp} (h : appendD H e ei.size ei.bytes p new n = some (d, H')) :
    ∃ β' w' v, Ext β β' H.nx H'.nx ∧ WR W0 B β' H' w' ∧ R β' d v ∧ (Builtin.append_ #[t, t] ty #[x, y]).run P w = .ok v w' := by
  have hu := (hT.get hti).und
  rw [hd] at hu
  obtain ⟨i, hinf, his, hib, hzero⟩ := (hT.get hei).info
  unfold appendD at h
  cases h0 : Nat.beq n 0 with
  | true =>
    have h0 := Nat.eq_of_beq_eq_true h0
    subst h0
    simp only [Nat.beq, cond_true] at h
    obtain ⟨sa, c, hy, _⟩ := lenD_sound hq hn
    split at h
    · rename_i m hm
      simp only [Option.some.injEq, Prod.mk.injEq] at h
      obtain ⟨rfl, rfl⟩ := h
      obtain ⟨ad, c', hx, hle⟩ := lenD_sound hp hm
      subst hy hx
      exact ⟨β, w, _, Ext.rfl', hw, hp, run_append_zero t ty e i hu hinf ad sa m c' c hle⟩
    · cases h
  | false =>
    have h0 := Nat.ne_of_beq_eq_false h0
    have hb0 : Nat.beq n 0 = false := by cases hb : Nat.beq n 0 with | false => rfl | true => exact absurd (Nat.eq_of_beq_eq_true hb) h0
    rw [hb0] at h
    simp only [cond_false] at h
    rcases src_sound hw hq hs h1 hn with ⟨hn0, _⟩ | ⟨a, c, news, rfl, hnl, hrep, hac, hone⟩
    · exact absurd hn0 h0
    rw [← his] at hnl
    have hnlen : new.length = n * ei.size := by have := hrep.length; rw [← his]; omega
    have fresh : ∀ (olds : List Value) (old : List DV) (m cap : Nat), RL β old olds → olds.length = m * i.size → old.length = m * ei.size → (m + n) * ei.bytes ≤ 1000000 → m + n ≤ 1000000 → ∀ (H1 : Hp), WR W0 B β H1 w → 
        (Builtin.append_ #[t, t] ty #[x, .slice (some a) n c]).run P w = .ok (.slice (some ⟨w.heap.size, 0, none⟩) (m + n) (grownCap w (m + n) cap e)) (w.drew.alloc (.cells (olds.toArray ++ news.toArray ++ Builtin.zeroCells ei.zero.cells (grownCap w (m + n) cap e - (m + n))) e)) →
        ∃ β' w' v, Ext β β' H1.nx (H1.nx + 1) ∧ WR W0 B β' (newD H1 ⟨e, ei.size, none, true, old ++ new⟩) w' ∧ R β' (.l H1.nx 0 0 (m + n)) v ∧ (Builtin.append_ #[t, t] ty #[x, .slice (some a) n c]).run P w = .ok v w' := by
      intro olds old m cap hro hol hol2 hby hmx H1 hw1 hrun
      have hge := grownCap_ge w (m + n) cap e
      have hln : (olds ++ news).length = (m + n) * i.size := by rw [List.length_append, hol, hnl, Nat.add_mul]
      obtain ⟨h2, h3⟩ := hw1.new w.drew (.inr rfl) (c := grownCap w (m + n) cap e) (arr := olds.toArray ++ news.toArray ++ Builtin.zeroCells ei.zero.cells (grownCap w (m + n) cap e - (m + n))) (fz := (0, 0)) (k := ⟨e, ei.size, none, true, old ++ new⟩) (fun _ => rfl)
        (by simp only [List.length_append, Array.size_append, List.size_toArray, hol, hol2, hnl, hnlen, his]; omega)
        (by
          have e1 : (olds.toArray ++ news.toArray ++ Builtin.zeroCells ei.zero.cells (grownCap w (m + n) cap e - (m + n))).toList = (olds ++ news) ++ (Builtin.zeroCells ei.zero.cells (grownCap w (m + n) cap e - (m + n))).toList := by simp
          rw [e1, show (old ++ new).length = (olds ++ news).length from by simp [hol, hol2, hnl, hnlen, his], List.take_left]
          exact hro.append hrep)
        (by simp) (fun _ => by
          simp only [Array.size_append, List.size_toArray, size_zeroCells, hz1, hol, hnl, his, ← Nat.add_mul]
          congr 1
          omega)
      exact ⟨_, _, _, h2, h3, by simp only [R, updB, if_true]; exact ⟨_, _, rfl, by omega, by simp⟩, hrun⟩
    have none0 : (x = .slice none 0 0 ∨ ∃ a0, x = .slice (some a0) 0 0) → (n * ei.bytes ≤ 1000000) → n ≤ 1000000 → ∃ β' w' v, Ext β β' H.nx (H.nx + 1) ∧ WR W0 B β' (newD H ⟨e, ei.size, none, true, new⟩) w' ∧ R β' (.l H.nx 0 0 n) v ∧ (Builtin.append_ #[t, t] ty #[x, .slice (some a) n c]).run P w = .ok v w' := by
      intro hx hby hmx
      have key := fresh [] [] 0 0 (by simp [RL]) (by simp) (by simp) (by simpa using hby) (by simpa using hmx) H hw
      simp only [Nat.zero_add, List.nil_append] at key
      apply key
      rcases hx with rfl | ⟨a0, rfl⟩
      · rw [run_append_nil (P := P) w t ty e i ei.zero hu hinf hzero a n c news hnl hac (by omega) (by omega) (by rw [hib]; omega)]
        simp
      · have := run_append_grow (P := P) w t ty e i ei.zero hu hinf hzero a0 0 0 [] (by simp) (by simp) a n c news hnl hac (by omega) (by omega) (growslice_fits (by omega) (by rw [hib]; simp; omega))
        simp only [Nat.zero_add] at this
        rw [this]
    split at h
    · generalize hb : (Nat.ble (n * ei.bytes) 1000000 && Nat.ble n 1000000) = bb at h
      cases bb with
      | false => simp at h
      | true =>
        simp only [Bool.and_eq_true] at hb
        simp only [cond_true, Option.some.injEq, Prod.mk.injEq] at h
        obtain ⟨rfl, rfl⟩ := h
        simp only [R] at hp
        exact none0 (.inl hp) (Nat.le_of_ble_eq_true hb.1) (Nat.le_of_ble_eq_true hb.2)
    · generalize hb : (Nat.ble (n * ei.bytes) 1000000 && Nat.ble n 1000000) = bb at h
      cases bb with
      | false => simp at h
      | true =>
        simp only [Bool.and_eq_true] at hb
        simp only [cond_true, Option.some.injEq, Prod.mk.injEq] at h
        obtain ⟨rfl, rfl⟩ := h
        simp only [R] at hp
        obtain ⟨b0, c0, _, hx⟩ := hp
        exact none0 (.inr ⟨_, hx⟩) (Nat.le_of_ble_eq_true hb.1) (Nat.le_of_ble_eq_true hb.2)
    · rename_i id off row len
      split at h
      · rename_i k hk
        generalize hb : (k.wr && Nat.beq k.e e && Nat.beq k.sz ei.size && Nat.beq off 0 && Nat.beq row 0 && Nat.beq k.cells.length (len * ei.size) && Nat.ble ((len + n) * ei.bytes) 1000000 && Nat.ble (len + n) 1000000) = bb at h
        cases bb with
        | false => simp at h
        | true =>
          simp only [cond_true, Option.some.injEq, Prod.mk.injEq] at h
          obtain ⟨rfl, rfl⟩ := h
          simp only [Bool.and_eq_true] at hb
          obtain ⟨⟨⟨⟨⟨⟨⟨b1, b2⟩, b3⟩, b4⟩, b5⟩, b6⟩, b7⟩, b8⟩ := hb
          have b2 := Nat.eq_of_beq_eq_true b2
          have b3 := Nat.eq_of_beq_eq_true b3
          have b4 := Nat.eq_of_beq_eq_true b4
          have b5 := Nat.eq_of_beq_eq_true b5
          have b6 := Nat.eq_of_beq_eq_true b6
          have b7 := Nat.le_of_ble_eq_true b7
          have b8 := Nat.le_of_ble_eq_true b8
          subst b4 b5
          simp only [R] at hp
          obtain ⟨bb, c0, hβ, hle, rfl⟩ := hp
          obtain ⟨b', c', cur, fz, g1, g2, g3, g4, g5, g6, g7⟩ := hw.blk id k hk
          rw [hβ] at g1
          cases g1
          have hfz := g3 b1
          subst hfz
          rw [b2] at g2
          have hcs : cur.size = c0 * ei.size := by rw [← b3]; exact g7 (by omega)
          have holdlen : (cur.toList.take (len * ei.size)).length = len * ei.size := by rw [← b6, g5.length]
          rw [b6] at g5
          simp only [Nat.sub_zero] at hone ⊢
          have hwd := hw.drop id
          by_cases hroom : len + n ≤ c0
          · have hfit : len * i.size + news.length ≤ cur.size := by rw [hnl, hcs, ← his, ← Nat.add_mul]; exact Nat.mul_le_mul_right _ hroom
            have hr := run_append_room (P := P) w t ty e i hu hinf bb len c0 cur g2 a n c news hnl hac hone hroom hfit
            refine ⟨updB β H.nx (bb, c0), _, _, ext_upd hw.nx_none _, ?_, ?_, hr⟩
            · rw [his]
              refine hwd.put (arr := (cur.toList.take (len * ei.size) ++ news ++ cur.toList.drop (len * ei.size + news.length)).toArray) (fz := (0, 0)) (k := ⟨e, ei.size, none, true, k.cells ++ new⟩) hw.nx_none (Nat.le_succ _) (Nat.lt_succ_self _) (hwd.nlook hw.nx_none) (hw.own id k bb c0 hk hβ) (fun j k2 c2 hj h2 => ?_) (Fr.setRow w bb _) (setRow_heap w bb cur _ _ _ g2) (fun _ => rfl) ?_ ?_ (by simp) (fun _ => ?_)
              · obtain ⟨hne, hj'⟩ := look_drop hj
                exact hne (hw.inj j id k2 k bb c2 c0 hj' hk h2 hβ)
              · simp only [List.length_append, List.size_toArray, b6, hnlen, holdlen, hnl, his]; omega
              · have e1 : (k.cells ++ new).length = (cur.toList.take (len * ei.size) ++ news).length := by rw [List.length_append, List.length_append, holdlen, b6, hnlen, hnl, his]
                rw [e1, List.take_left]
                exact g5.append hrep
              · simp only [List.size_toArray, List.length_append, holdlen, List.length_drop, Array.length_toList, hnl, his]
                rw [hcs]
                have : (len + n) * ei.size ≤ c0 * ei.size := Nat.mul_le_mul_right _ hroom
                rw [Nat.add_mul] at this
                omega
            · simp only [R, updB, if_true]
              exact ⟨_, _, rfl, by omega, by simp⟩
          · refine fresh (cur.toList.take (len * ei.size)) k.cells len c0 g5 (by rw [holdlen, his]) b6 b7 b8 ⟨H.h.set 24 id none, H.nx⟩ hwd ?_
            have holds : ∀ (j : Nat) (v : Value), (cur.toList.take (len * ei.size))[j]? = some v → w.cell? ((⟨bb, 0, none⟩ : Addr).add j) = some v := by
              intro j v hj
              rw [add_off, cell_of_row w bb (0 + j) cur e (0, 0) g2]
              rw [List.getElem?_take] at hj
              split at hj
              · simpa using hj
              · cases hj
            exact run_append_grow (P := P) w t ty e i ei.zero hu hinf hzero ⟨bb, 0, none⟩ len c0 _ (by rw [holdlen, his]) holds a n c news hnl hac (by omega) (by omega) (growslice_fits (by omega) (by rw [hib]; omega))
      · cases h
    · cases h
end
end Go.Cx
