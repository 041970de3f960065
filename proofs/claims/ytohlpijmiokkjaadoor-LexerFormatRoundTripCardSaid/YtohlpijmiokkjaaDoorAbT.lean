/- The abstract layer, part T: what the arguments of a call are, read off the statement's own reading. -/
import Derived.Test.YtohlpijmiokkjaaDoorAbN
import Derived.ProofKit
import Derived.SizedLaws
namespace Go.Ab
open Go.ChangeShapes

/-- The frozen memory that a call begins with: all that is there. -/
def memOf (W : World) : Mem := fun b o => W.cell? ⟨b, o, none⟩

def laidFs (P : Program) : Nat → List Field → Bool
  | _, [] => true
  | o, f :: fs => Nat.beq f.offset o && laidFs P (o + P.cellsOf f.type) fs

/-- The kinds of data that the layer reads: integers, bools, strings, slices and structs of them. -/
def okT (P : Program) (S : List TypeId) (t : TypeId) : Bool :=
  match P.underlying t with
  | some .bool | some (.int _) | some .string => true
  | some (.slice e) => S.contains e && Nat.blt 0 (P.cellsOf e)
  | some (.struct fs) => laidFs P 0 fs.toList && fs.toList.all (fun f => S.contains f.type) && Nat.beq (fs.toList.map fun f => P.cellsOf f.type).sum (P.cellsOf t)
  | _ => false

def ShEach (Sh : TypeId → List PV → Prop) : List TypeId → List PV → Prop
  | [], pvs => pvs = []
  | t :: ts, pvs => ∃ a b, pvs = a ++ b ∧ Sh t a ∧ ShEach Sh ts b

def Sh (P : Program) : Nat → TypeId → List PV → Prop
  | 0, _, _ => False
  | n + 1, t, pvs => match P.underlying t with
    | some .bool => ∃ b, pvs = [.val (.bool b)]
    | some (.int k) => ∃ m, pvs = [.val (.int k m)] ∧ (Lit.int k m).wf = true
    | some .string => ∃ l, pvs = [.str l] ∧ l.length ≤ 2 ^ 47
    | some (.slice e) => ∃ rows, pvs = [.list e rows] ∧ ∀ r ∈ rows, Sh P n e r
    | some (.struct fs) => ShEach (Sh P n) (fs.toList.map (·.type)) pvs
    | _ => False

section
variable {H : Type} {enc : TypeId × Value → H} {P : Program} {W : World} {S : List TypeId}

theorem RepAt.of_cells {b : Nat} : ∀ {o : Nat} {pvs : List PV} {cs : List Value}, RepAll P (memOf W) false pvs cs → (∀ x ∈ cs, x.oneCell' = true) → (∀ j, j < cs.length → W.cell? ⟨b, o + j, none⟩ = cs[j]?) → RepAt P (memOf W) b o pvs
  | _, [], _, _, _, _ => by simp [RepAt]
  | o, p :: ps, cs, h, h1, hm => by
    simp only [RepAll] at h
    obtain ⟨x, xs, rfl, h2, h3⟩ := h
    simp only [RepAt]
    refine ⟨⟨x, ?_, h1 x (by simp), h2⟩, RepAt.of_cells h3 (fun y hy => h1 y (by simp [hy])) fun j hj => ?_⟩
    · simpa [memOf] using hm 0 (by simp)
    · have := hm (j + 1) (by simpa using hj)
      rw [show o + 1 + j = o + (j + 1) from by omega]
      simpa using this

theorem weightsAll_mem {e : TypeId} : ∀ {ds : List (DataW H)} {n : Nat}, (DataW.weightsAll P e ds).all (· ≤ n) = true → ∀ d ∈ ds, (d.weights P e).all (· ≤ n) = true
  | [], _, _, d, hd => by simp at hd
  | x :: r, n, h, d, hd => by
    simp only [DataW.weightsAll, List.all_append, Bool.and_eq_true] at h
    rcases List.mem_cons.1 hd with rfl | hd
    · exact h.1
    · exact weightsAll_mem h.2 d hd

theorem Sh.one : ∀ {n : Nat} {t : TypeId} {pvs : List PV}, Sh P n t pvs → pvs.all PV.one = true := by
  intro n
  induction n with
  | zero => intro t pvs h; simp [Sh] at h
  | succ n ih =>
    intro t pvs h
    simp only [Sh] at h
    split at h
    · obtain ⟨b, rfl⟩ := h; rfl
    · obtain ⟨m, rfl, _⟩ := h; rfl
    · obtain ⟨l, rfl, _⟩ := h; rfl
    · obtain ⟨rows, rfl, _⟩ := h; rfl
    · rename_i fs _
      generalize fs.toList.map (·.type) = ts at h
      induction ts generalizing pvs with
      | nil => simp only [ShEach] at h; subst h; rfl
      | cons t ts iht =>
        simp only [ShEach] at h
        obtain ⟨a, b, rfl, h1, h2⟩ := h
        rw [List.all_append, ih h1, iht h2]
        rfl
    · cases h

theorem abs_struct {n : Nat} (ih : ∀ t ∈ S, ∀ (cs : List Value) x, DataW.trod enc P W 0 (fun _ => true) true n t cs = some x → (x.1.weights P t).all (· ≤ reachBytes) = true → ∃ pvs, Sh P n t pvs ∧ RepAll P (memOf W) false pvs cs) :
    ∀ (fs : List Field) (o : Nat) (cs : List Value) (xs : List (DataW H × List MemPlace)), laidFs P o fs = true → fs.all (fun f => S.contains f.type) = true → o + (fs.map fun f => P.cellsOf f.type).sum = cs.length →
      (fs.mapM fun f => DataW.trod enc P W 0 (fun _ => true) true n f.type ((cs.drop f.offset).take (P.cellsOf f.type))) = some xs →
      (DataW.weightsEach P (fs.map (·.type)) (xs.map (·.1))).all (· ≤ reachBytes) = true → ∃ pvs, ShEach (Sh P n) (fs.map (·.type)) pvs ∧ RepAll P (memOf W) false pvs (cs.drop o)
  | [], o, cs, xs, _, _, hlen, _, _ => by
    refine ⟨[], by simp [ShEach], ?_⟩
    simp only [RepAll]
    exact List.drop_eq_nil_of_le (by simp at hlen; omega)
  | f :: fs, o, cs, xs, hl, hS, hlen, hm, hw => by
    simp only [laidFs, Bool.and_eq_true] at hl
    simp only [List.all_cons, Bool.and_eq_true] at hS
    simp only [List.map_cons, List.sum_cons] at hlen
    have hoff : f.offset = o := Nat.eq_of_beq_eq_true hl.1
    rw [List.mapM_cons] at hm
    cases hx : DataW.trod enc P W 0 (fun _ => true) true n f.type ((cs.drop f.offset).take (P.cellsOf f.type)) with
    | none => rw [hx] at hm; cases hm
    | some x =>
      rw [hx] at hm
      cases hr : (fs.mapM fun f => DataW.trod enc P W 0 (fun _ => true) true n f.type ((cs.drop f.offset).take (P.cellsOf f.type))) with
      | none => rw [hr] at hm; cases hm
      | some r =>
        rw [hr] at hm
        have hm' : x :: r = xs := Option.some.inj hm
        subst hm'
        simp only [List.map_cons, DataW.weightsEach, List.all_append, Bool.and_eq_true] at hw
        obtain ⟨pa, ha1, ha2⟩ := ih f.type (by simpa using hS.1) _ x hx hw.1
        obtain ⟨pb, hb1, hb2⟩ := abs_struct ih fs (o + P.cellsOf f.type) cs r hl.2 hS.2 (by omega) hr hw.2
        refine ⟨pa ++ pb, ⟨pa, pb, rfl, ha1, hb1⟩, ?_⟩
        have := ha2.append hb2
        rw [hoff] at this
        have e : (cs.drop o).take (P.cellsOf f.type) ++ cs.drop (o + P.cellsOf f.type) = cs.drop o := by
          rw [← List.drop_drop]; exact List.take_append_drop _ _
        rwa [e] at this

theorem abs_rows {n : Nat} {e : TypeId} (ih : ∀ (cs : List Value) x, DataW.trod enc P W 0 (fun _ => true) true n e cs = some x → (x.1.weights P e).all (· ≤ reachBytes) = true → ∃ pvs, Sh P n e pvs ∧ RepAll P (memOf W) false pvs cs)
    {b o c : Nat} : ∀ (elems : List (DataW H × List MemPlace)) (k : Nat), (∀ j, j < elems.length → ((W.cells? 0 ((⟨b, o, none⟩ : Addr).add ((k + j) * c)) c).bind (DataW.trod enc P W 0 (fun _ => true) true n e)) = elems[j]?) →
      (DataW.weightsAll P e (elems.map (·.1))).all (· ≤ reachBytes) = true → ∃ rows : List (List PV), rows.length = elems.length ∧ (∀ r ∈ rows, Sh P n e r) ∧ RepRows P (memOf W) c b (o + k * c) rows
  | [], k, _, _ => ⟨[], rfl, by simp, by simp [RepRows]⟩
  | x :: r, k, hj, hw => by
    simp only [List.map_cons, DataW.weightsAll, List.all_append, Bool.and_eq_true] at hw
    have h0 := hj 0 (by simp)
    simp only [Nat.add_zero, List.getElem?_cons_zero] at h0
    cases hcs : W.cells? 0 ((⟨b, o, none⟩ : Addr).add (k * c)) c with
    | none => rw [hcs] at h0; cases h0
    | some cs =>
      rw [hcs] at h0
      simp only [Option.bind_some] at h0
      obtain ⟨pv, hp1, hp2⟩ := ih cs x h0 hw.1
      obtain ⟨_, hlen, hcell⟩ := World.cells?_some hcs
      obtain ⟨rows, hr1, hr2, hr3⟩ := abs_rows ih r (k + 1) (fun j hj' => by
        have := hj (j + 1) (by simpa using hj')
        rw [show k + (j + 1) = k + 1 + j from by omega] at this
        simpa using this) hw.2
      refine ⟨pv :: rows, by simp [hr1], ?_, ?_⟩
      · intro q hq
        rcases List.mem_cons.1 hq with rfl | hq
        · exact hp1
        · exact hr2 q hq
      · simp only [RepRows]
        have hpl : pv.length = c := by rw [← hlen]; exact (hp2.length).symm
        have hone : ∀ y ∈ cs, y.oneCell' = true := RepAll.oneCell hp1.one hp2
        refine ⟨hpl, RepAt.of_cells hp2 hone fun j hj' => ?_, ?_⟩
        · have := hcell j (by omega)
          rw [← this, add_off, add_off]
        · rw [show o + (k + 1) * c = o + k * c + c from by rw [Nat.add_mul]; omega] at hr3
          exact hr3

theorem trod_int_some {n : Nat} {t : TypeId} {k : IntKind} {cs : List Value} {x : DataW H × List MemPlace} {sp : Nat → Bool} (hu : P.underlying t = some (.int k)) (h : DataW.trod enc P W 0 sp true (n + 1) t cs = some x) : ∃ m, cs = [.int k m] ∧ (Lit.int k m).wf = true := by
  unfold DataW.trod at h
  rw [hu] at h
  split at h <;> simp_all

theorem trod_bool_some {n : Nat} {t : TypeId} {cs : List Value} {x : DataW H × List MemPlace} {sp : Nat → Bool} (hu : P.underlying t = some .bool) (h : DataW.trod enc P W 0 sp true (n + 1) t cs = some x) : ∃ b, cs = [.bool b] := by
  unfold DataW.trod at h
  rw [hu] at h
  split at h <;> simp_all

theorem trod_str_some {n : Nat} {t : TypeId} {cs : List Value} {x : DataW H × List MemPlace} {sp : Nat → Bool} (hu : P.underlying t = some .string) (h : DataW.trod enc P W 0 sp true (n + 1) t cs = some x) : ∃ s : ByteArray, cs = [.string s] ∧ x.1 = .lit (.string s.data.toList) := by
  unfold DataW.trod at h
  rw [hu] at h
  split at h <;> simp_all
  rw [← h.2]

theorem trod_struct_some {n : Nat} {t : TypeId} {fs : Array Field} {cs : List Value} {x : DataW H × List MemPlace} {sp : Nat → Bool} (hu : P.underlying t = some (.struct fs)) (h : DataW.trod enc P W 0 sp true (n + 1) t cs = some x) :
    cs.length = P.cellsOf t ∧ ∃ xs, (fs.toList.mapM fun f => DataW.trod enc P W 0 sp true n f.type ((cs.drop f.offset).take (P.cellsOf f.type))) = some xs ∧ x = (.agg (xs.map (·.1)), xs.flatMap (·.2)) := by
  unfold DataW.trod at h
  rw [hu] at h
  split at h <;> simp_all
  obtain ⟨_, a, h2, h3⟩ := h
  exact ⟨a, h2, h3.symm⟩

theorem trod_slice_some {n : Nat} {t e : TypeId} {cs : List Value} {x : DataW H × List MemPlace} (hu : P.underlying t = some (.slice e)) (h : DataW.trod enc P W 0 (fun _ => true) true (n + 1) t cs = some x) :
    (cs = [.slice none 0 0] ∧ x = (.nil, [])) ∨ ∃ a len cap elems rest, cs = [.slice (some a) len cap] ∧ len ≤ cap ∧ cap ≤ maxLen ∧
      ((List.range len).mapM fun i => (W.cells? 0 (a.add (i * P.cellsOf e)) (P.cellsOf e)).bind (DataW.trod enc P W 0 (fun _ => true) true n e)) = some elems ∧
      ((List.range (cap - len)).mapM fun i => (W.cells? 0 (a.add ((len + i) * P.cellsOf e)) (P.cellsOf e)).bind (DataW.trod enc P W 0 (fun _ => true) true n e)) = some rest ∧
      x.1 = .slice (elems.map (·.1)) (rest.map (·.1)) := by
  unfold DataW.trod at h
  rw [hu] at h
  split at h <;> simp_all
  rename_i e' a len cap _
  obtain ⟨⟨h1, h2⟩, h3⟩ := h
  cases hel : ((List.range len).mapM fun i => (W.cells? 0 (a.add (i * P.cellsOf e')) (P.cellsOf e')).bind (DataW.trod enc P W 0 (fun _ => true) true n e')) with
  | none => rw [hel] at h3; cases h3
  | some elems =>
    rw [hel, Option.bind_some] at h3
    cases hre : ((List.range (cap - len)).mapM fun i => (W.cells? 0 (a.add ((len + i) * P.cellsOf e')) (P.cellsOf e')).bind (DataW.trod enc P W 0 (fun _ => true) true n e')) with
    | none => rw [hre] at h3; cases h3
    | some rest =>
      rw [hre, Option.map_some, Option.some.injEq] at h3
      exact ⟨a, len, cap, ⟨rfl, rfl, rfl⟩, h1, h2, elems, hel, rest, hre, by rw [← h3]⟩

theorem abs (hS : S.all (okT P S) = true) (hinf : ∀ t ∈ S, ∃ i, P.info? t = some i ∧ i.bytes = P.bytesOf t ∧ i.size = P.cellsOf t) : ∀ (n : Nat) (t : TypeId), t ∈ S → ∀ (cs : List Value) x, DataW.trod enc P W 0 (fun _ => true) true n t cs = some x →
    (x.1.weights P t).all (· ≤ reachBytes) = true → ∃ pvs, Sh P n t pvs ∧ RepAll P (memOf W) false pvs cs := by
  intro n
  induction n with
  | zero => intro t _ cs x h; simp [DataW.trod] at h
  | succ n ih =>
    intro t ht cs x h hw
    have hok := List.all_eq_true.1 hS t ht
    unfold okT at hok
    simp only [Sh]
    split at hok
    · rename_i hu
      obtain ⟨b, rfl⟩ := trod_bool_some hu h
      exact ⟨_, ⟨b, rfl⟩, by simp [RepAll, Rep]⟩
    · rename_i k hu
      obtain ⟨m, rfl, hm⟩ := trod_int_some hu h
      exact ⟨_, ⟨m, rfl, hm⟩, by simp [RepAll, Rep]⟩
    · rename_i hu
      obtain ⟨s, rfl, hx⟩ := trod_str_some hu h
      rw [hx] at hw
      simp only [DataW.weights, List.all_cons, List.all_nil, Bool.and_true, decide_eq_true_eq] at hw
      have hle : s.data.toList.length ≤ 2 ^ 47 := Nat.le_trans hw (by unfold reachBytes; omega)
      refine ⟨_, ⟨s.data.toList, rfl, hle⟩, ?_⟩
      simp only [RepAll, Rep]
      exact ⟨_, [], rfl, ⟨by simp, Nat.le_trans hle (by unfold maxStr; omega)⟩, rfl⟩
    · rename_i e hu
      simp only [Bool.and_eq_true] at hok
      have he : e ∈ S := by simpa using hok.1
      obtain ⟨i, hi1, hi2, hi3⟩ := hinf e he
      rcases trod_slice_some hu h with ⟨rfl, rfl⟩ | ⟨a, len, cap, elems, rest, rfl, hlc, hcm, hel, hre, hx⟩
      · refine ⟨_, ⟨[], rfl, by simp⟩, ?_⟩
        simp only [RepAll, Rep]
        exact ⟨_, [], rfl, ⟨none, 0, i, rfl, by simp, by simp, hi1, by simp, by simp⟩, rfl⟩
      · have hlen : elems.length = len := by simpa using mapM_some_length hel
        have hrlen : rest.length = cap - len := by simpa using mapM_some_length hre
        rw [hx] at hw
        simp only [DataW.weights, hu, List.all_cons, List.all_append, List.length_map, Bool.and_eq_true, decide_eq_true_eq] at hw
        have hpos : 0 < P.cellsOf e := by simpa [Nat.blt_eq] using hok.2
        have hget : ∀ j, j < elems.length → (W.cells? 0 (a.add (j * P.cellsOf e)) (P.cellsOf e)).bind (DataW.trod enc P W 0 (fun _ => true) true n e) = elems[j]? := fun j hj => mapM_some_get hel j j (List.getElem?_range (by omega))
        have hsp : elems ≠ [] → a.spot = none := fun hne => by
          have h0 := hget 0 (List.length_pos_iff.2 hne)
          rw [Nat.zero_mul] at h0
          cases hcs : W.cells? 0 (a.add 0) (P.cellsOf e) with
          | none => rw [hcs] at h0; cases elems with
            | nil => exact absurd rfl hne
            | cons _ _ => cases h0
          | some cs =>
            obtain ⟨_, hl, hc⟩ := World.cells?_some hcs
            have := hc 0 hpos
            cases hs : a.spot with
            | none => rfl
            | some q =>
              have h1 : W.cell? ((a.add 0).add 0) = none := by
                simp only [World.cell?, Addr.add, hs, if_true]
                split <;> simp
              rw [h1] at this
              have := List.getElem?_eq_none_iff.1 this.symm
              omega
        have hby : len * i.bytes ≤ 2 ^ 47 := by
          have h1 := hw.1
          rw [hi2]
          have : len * P.bytesOf e ≤ (elems.length + rest.length) * P.bytesOf e := Nat.mul_le_mul_right _ (by omega)
          unfold reachBytes at h1
          omega
        by_cases hne : elems = []
        · subst hne
          refine ⟨_, ⟨[], rfl, by simp⟩, ?_⟩
          simp only [List.length_nil] at hlen
          subst hlen
          simp only [RepAll, Rep]
          exact ⟨_, [], rfl, ⟨some a, cap, i, rfl, by simp, hcm, hi1, by simp, by simp⟩, rfl⟩
        · obtain ⟨b, o, sp⟩ := a
          have := hsp hne
          simp only at this
          subst this
          obtain ⟨rows, hr1, hr2, hr3⟩ := abs_rows (fun cs x hx hw => ih e he cs x hx hw) elems 0 (fun j hj => by rw [Nat.zero_add]; exact hget j hj) hw.2.1
          refine ⟨_, ⟨rows, rfl, hr2⟩, ?_⟩
          simp only [RepAll, Rep]
          have hrl : rows.length = len := by omega
          rw [hrl]
          refine ⟨_, [], rfl, ⟨some ⟨b, o, none⟩, cap, i, rfl, hlc, hcm, hi1, hby, fun _ => ⟨b, o, rfl, ?_⟩⟩, rfl⟩
          rw [hi3]
          simpa using hr3
    · rename_i fs hu
      simp only [Bool.and_eq_true] at hok
      obtain ⟨hl, xs, hm, hx⟩ := trod_struct_some hu h
      rw [hx] at hw
      simp only [DataW.weights, hu] at hw
      have hsum := Nat.eq_of_beq_eq_true hok.2
      obtain ⟨pvs, h1, h2⟩ := abs_struct ih fs.toList 0 cs xs hok.1.1 hok.1.2 (by rw [hsum, hl]; omega) hm hw
      exact ⟨pvs, h1, by simpa using h2⟩
    · cases hok
end
end Go.Ab
