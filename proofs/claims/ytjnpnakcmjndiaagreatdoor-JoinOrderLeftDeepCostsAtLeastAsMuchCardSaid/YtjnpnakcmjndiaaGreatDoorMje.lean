/- The abstract layer, part T: what the arguments of a call are, read off the statement's own reading. -/
import Derived.Test.YtjnpnakcmjndiaaGreatDoorMjd
import Derived.ProofKit
import Derived.SizedLaws
import Derived.JoinedOf
namespace Go.Ab
open Go.ChangeShapes

/-- The frozen memory that a call begins with: all that is there. -/
def memOf (W : World) : Mem := fun b o => W.cell? ⟨b, o, none⟩

def laidFs (P : Program) : Nat → List Field → Bool
  | _, [] => true
  | o, f :: fs => Nat.beq f.offset o && laidFs P (o + P.cellsOf f.type) fs

/-- The kinds of data that the layer reads: integers, bools, strings, slices and structs of them. -/
def okT (P : Program) (S : List TypeId) (t : TypeId) : Bool :=
  match P.underlying t with
  | some .bool | some (.int _) | some .string => true
  | some (.slice e) => S.contains e && Nat.blt 0 (P.cellsOf e)
  | some (.struct fs) => laidFs P 0 fs.toList && fs.toList.all (fun f => S.contains f.type) && Nat.beq (fs.toList.map fun f => P.cellsOf f.type).sum (P.cellsOf t)
  | _ => false

def ShEach (Sh : TypeId → List PV → Prop) : List TypeId → List PV → Prop
  | [], pvs => pvs = []
  | t :: ts, pvs => ∃ a b, pvs = a ++ b ∧ Sh t a ∧ ShEach Sh ts b

def Sh (P : Program) : Nat → TypeId → List PV → Prop
  | 0, _, _ => False
  | n + 1, t, pvs => match P.underlying t with
    | some .bool => ∃ b, pvs = [.val (.bool b)]
    | some (.int k) => ∃ m, pvs = [.val (.int k m)] ∧ (Lit.int k m).wf = true
    | some .string => ∃ l, pvs = [.str l] ∧ l.length ≤ 2 ^ 47
    | some (.slice e) => ∃ rows, pvs = [.list e rows] ∧ ∀ r ∈ rows, Sh P n e r
    | some (.struct fs) => ShEach (Sh P n) (fs.toList.map (·.type)) pvs
    | _ => False

section
variable {H : Type} {enc : TypeId × Value → H} {P : Program} {W : World} {S : List TypeId}

theorem RepAt.of_cells {b : Nat} : ∀ {o : Nat} {pvs : List PV} {cs : List Value}, RepAll P (memOf W) false pvs cs → (∀ x ∈ cs, x.oneCell' = true) → (∀ j, j < cs.length → W.cell? ⟨b, o + j, none⟩ = cs[j]?) → RepAt P (memOf W) b o pvs
  | _, [], _, _, _, _ => by simp [RepAt]
  | o, p :: ps, cs, h, h1, hm => by
    simp only [RepAll] at h
    obtain ⟨x, xs, rfl, h2, h3⟩ := h
    simp only [RepAt]
    refine ⟨⟨x, ?_, h1 x (by simp), h2⟩, RepAt.of_cells h3 (fun y hy => h1 y (by simp [hy])) fun j hj => ?_⟩
    · simpa [memOf] using hm 0 (by simp)
    · have := hm (j + 1) (by simpa using hj)
      rw [show o + 1 + j = o + (j + 1) from by omega]
      simpa using this

theorem weightsAll_mem {e : TypeId} : ∀ {ds : List (DataW H)} {n : Nat}, (DataW.weightsAll P e ds).all (· ≤ n) = true → ∀ d ∈ ds, (d.weights P e).all (· ≤ n) = true
  | [], _, _, d, hd => by simp at hd
  | x :: r, n, h, d, hd => by
    simp only [DataW.weightsAll, List.all_append, Bool.and_eq_true] at h
    rcases List.mem_cons.1 hd with rfl | hd
    · exact h.1
    · exact weightsAll_mem h.2 d hd

theorem Sh.one : ∀ {n : Nat} {t : TypeId} {pvs : List PV}, Sh P n t pvs → pvs.all PV.one = true := by
  intro n
  induction n with
  | zero => intro t pvs h; simp [Sh] at h
  | succ n ih =>
    intro t pvs h
    simp only [Sh] at h
    split at h
    · obtain ⟨b, rfl⟩ := h; rfl
    · obtain ⟨m, rfl, _⟩ := h; rfl
    · obtain ⟨l, rfl, _⟩ := h; rfl
    · obtain ⟨rows, rfl, _⟩ := h; rfl
    · rename_i fs _
      generalize fs.toList.map (·.type) = ts at h
      induction ts generalizing pvs with
      | nil => simp only [ShEach] at h; subst h; rfl
      | cons t ts iht =>
        simp only [ShEach] at h
        obtain ⟨a, b, rfl, h1, h2⟩ := h
        rw [List.all_append, ih h1, iht h2]
        rfl
    · cases h

theorem abs_struct {n : Nat} (ih : ∀ t ∈ S, ∀ (cs : List Value) x, DataW.trod enc P W 0 (fun _ => true) true n t cs = some x → (x.1.weights P t).all (· ≤ reachBytes) = true → ∃ pvs, Sh P n t pvs ∧ RepAll P (memOf W) false pvs cs) :
    ∀ (fs : List Field) (o : Nat) (cs : List Value) (xs : List (DataW H × List MemPlace)), laidFs P o fs = true → fs.all (fun f => S.contains f.type) = true → o + (fs.map fun f => P.cellsOf f.type).sum = cs.length →
      (fs.mapM fun f => DataW.trod enc P W 0 (fun _ => true) true n f.type ((cs.drop f.offset).take (P.cellsOf f.type))) = some xs →
      (DataW.weightsEach P (fs.map (·.type)) (xs.map (·.1))).all (· ≤ reachBytes) = true → ∃ pvs, ShEach (Sh P n) (fs.map (·.type)) pvs ∧ RepAll P (memOf W) false pvs (cs.drop o)
  | [], o, cs, xs, _, _, hlen, _, _ => by
    refine ⟨[], by simp [ShEach], ?_⟩
    simp only [RepAll]
    exact List.drop_eq_nil_of_le (by simp at hlen; omega)
  | f :: fs, o, cs, xs, hl, hS, hlen, hm, hw => by
    simp only [laidFs, Bool.and_eq_true] at hl
    simp only [List.all_cons, Bool.and_eq_true] at hS
    simp only [List.map_cons, List.sum_cons] at hlen
    have hoff : f.offset = o := Nat.eq_of_beq_eq_true hl.1
    rw [List.mapM_cons] at hm
    cases hx : DataW.trod enc P W 0 (fun _ => true) true n f.type ((cs.drop f.offset).take (P.cellsOf f.type)) with
    | none => rw [hx] at hm; cases hm
    | some x =>
      rw [hx] at hm
      cases hr : (fs.mapM fun f => DataW.trod enc P W 0 (fun _ => true) true n f.type ((cs.drop f.offset).take (P.cellsOf f.type))) with
      | none => rw [hr] at hm; cases hm
      | some r =>
        rw [hr] at hm
        have hm' : x :: r = xs := Option.some.inj hm
        subst hm'
        simp only [List.map_cons, DataW.weightsEach, List.all_append, Bool.and_eq_true] at hw
        obtain ⟨pa, ha1, ha2⟩ := ih f.type (by simpa using hS.1) _ x hx hw.1
        obtain ⟨pb, hb1, hb2⟩ := abs_struct ih fs (o + P.cellsOf f.type) cs r hl.2 hS.2 (by omega) hr hw.2
        refine ⟨pa ++ pb, ⟨pa, pb, rfl, ha1, hb1⟩, ?_⟩
        have := ha2.append hb2
        rw [hoff] at this
        have e : (cs.drop o).take (P.cellsOf f.type) ++ cs.drop (o + P.cellsOf f.type) = cs.drop o := by
          rw [← List.drop_drop]; exact List.take_append_drop _ _
        rwa [e] at this

theorem abs_rows {n : Nat} {e : TypeId} (ih : ∀ (cs : List Value) x, DataW.trod enc P W 0 (fun _ => true) true n e cs = some x → (x.1.weights P e).all (· ≤ reachBytes) = true → ∃ pvs, Sh P n e pvs ∧ RepAll P (memOf W) false pvs cs)
    {b o c : Nat} : ∀ (elems : List (DataW H × List MemPlace)) (k : Nat), (∀ j, j < elems.length → ((W.cells? 0 ((⟨b, o, none⟩ : Addr).add ((k + j) * c)) c).bind (DataW.trod enc P W 0 (fun _ => true) true n e)) = elems[j]?) →
      (DataW.weightsAll P e (elems.map (·.1))).all (· ≤ reachBytes) = true → ∃ rows : List (List PV), rows.length = elems.length ∧ (∀ r ∈ rows, Sh P n e r) ∧ RepRows P (memOf W) c b (o + k * c) rows
  | [], k, _, _ => ⟨[], rfl, by simp, by simp [RepRows]⟩
  | x :: r, k, hj, hw => by
    simp only [List.map_cons, DataW.weightsAll, List.all_append, Bool.and_eq_true] at hw
    have h0 := hj 0 (by simp)
    simp only [Nat.add_zero, List.getElem?_cons_zero] at h0
    cases hcs : W.cells? 0 ((⟨b, o, none⟩ : Addr).add (k * c)) c with
    | none => rw [hcs] at h0; cases h0
    | some cs =>
      rw [hcs] at h0
      simp only [Option.bind_some] at h0
      obtain ⟨pv, hp1, hp2⟩ := ih cs x h0 hw.1
      obtain ⟨_, hlen, hcell⟩ := World.cells?_some hcs
      obtain ⟨rows, hr1, hr2, hr3⟩ := abs_rows ih r (k + 1) (fun j hj' => by
        have := hj (j + 1) (by simpa using hj')
        rw [show k + (j + 1) = k + 1 + j from by omega] at this
        simpa using this) hw.2
      refine ⟨pv :: rows, by simp [hr1], ?_, ?_⟩
      · intro q hq
        rcases List.mem_cons.1 hq with rfl | hq
        · exact hp1
        · exact hr2 q hq
      · simp only [RepRows]
        have hpl : pv.length = c := by rw [← hlen]; exact (hp2.length).symm
        have hone : ∀ y ∈ cs, y.oneCell' = true := RepAll.oneCell hp1.one hp2
        refine ⟨hpl, RepAt.of_cells hp2 hone fun j hj' => ?_, ?_⟩
        · have := hcell j (by omega)
          rw [← this, add_off, add_off]
        · rw [show o + (k + 1) * c = o + k * c + c from by rw [Nat.add_mul]; omega] at hr3
          exact hr3

theorem trod_int_some {n : Nat} {t : TypeId} {k : IntKind} {cs : List Value} {x : DataW H × List MemPlace} {sp : Nat → Bool} (hu : P.underlying t = some (.int k)) (h : DataW.trod enc P W 0 sp true (n + 1) t cs = some x) : ∃ m, cs = [.int k m] ∧ (Lit.int k m).wf = true := by
  unfold DataW.trod at h
  rw [hu] at h
  split at h <;> simp_all

theorem trod_bool_some {n : Nat} {t : TypeId} {cs : List Value} {x : DataW H × List MemPlace} {sp : Nat → Bool} (hu : P.underlying t = some .bool) (h : DataW.trod enc P W 0 sp true (n + 1) t cs = some x) : ∃ b, cs = [.bool b] := by
  unfold DataW.trod at h
  rw [hu] at h
  split at h <;> simp_all

theorem trod_str_some {n : Nat} {t : TypeId} {cs : List Value} {x : DataW H × List MemPlace} {sp : Nat → Bool} (hu : P.underlying t = some .string) (h : DataW.trod enc P W 0 sp true (n + 1) t cs = some x) : ∃ s : ByteArray, cs = [.string s] ∧ x.1 = .lit (.string s.data.toList) := by
  unfold DataW.trod at h
  rw [hu] at h
  split at h <;> simp_all
  rw [← h.2]

theorem trod_struct_some {n : Nat} {t : TypeId} {fs : Array Field} {cs : List Value} {x : DataW H × List MemPlace} {sp : Nat → Bool} (hu : P.underlying t = some (.struct fs)) (h : DataW.trod enc P W 0 sp true (n + 1) t cs = some x) :
    cs.length = P.cellsOf t ∧ ∃ xs, (fs.toList.mapM fun f => DataW.trod enc P W 0 sp true n f.type ((cs.drop f.offset).take (P.cellsOf f.type))) = some xs ∧ x = (.agg (xs.map (·.1)), xs.flatMap (·.2)) := by
  unfold DataW.trod at h
  rw [hu] at h
  split at h <;> simp_all
  obtain ⟨_, a, h2, h3⟩ := h
  exact ⟨a, h2, h3.symm⟩

theorem trod_slice_some {n : Nat} {t e : TypeId} {cs : List Value} {x : DataW H × List MemPlace} (hu : P.underlying t = some (.slice e)) (h : DataW.trod enc P W 0 (fun _ => true) true (n + 1) t cs = some x) :
    (cs = [.slice none 0 0] ∧ x = (.nil, [])) ∨ ∃ a len cap elems rest, cs = [.slice (some a) len cap] ∧ len ≤ cap ∧ cap ≤ maxLen ∧
      ((List.range len).mapM fun i => (W.cells? 0 (a.add (i * P.cellsOf e)) (P.cellsOf e)).bind (DataW.trod enc P W 0 (fun _ => true) true n e)) = some elems ∧
      ((List.range (cap - len)).mapM fun i => (W.cells? 0 (a.add ((len + i) * P.cellsOf e)) (P.cellsOf e)).bind (DataW.trod enc P W 0 (fun _ => true) true n e)) = some rest ∧
      x.1 = .slice (elems.map (·.1)) (rest.map (·.1)) := by
  unfold DataW.trod at h
  rw [hu] at h
  split at h <;> simp_all
  rename_i e' a len cap _
  obtain ⟨⟨h1, h2⟩, h3⟩ := h
  cases hel : ((List.range len).mapM fun i => (W.cells? 0 (a.add (i * P.cellsOf e')) (P.cellsOf e')).bind (DataW.trod enc P W 0 (fun _ => true) true n e')) with
  | none => rw [hel] at h3; cases h3
  | some elems =>
    rw [hel, Option.bind_some] at h3
    cases hre : ((List.range (cap - len)).mapM fun i => (W.cells? 0 (a.add ((len + i) * P.cellsOf e')) (P.cellsOf e')).bind (DataW.trod enc P W 0 (fun _ => true) true n e')) with
    | none => rw [hre] at h3; cases h3
    | some rest =>
      rw [hre, Option.map_some, Option.some.injEq] at h3
      exact ⟨a, len, cap, ⟨rfl, rfl, rfl⟩, h1, h2, elems, hel, rest, hre, by rw [← h3]⟩

theorem abs (hS : S.all (okT P S) = true) (hinf : ∀ t ∈ S, ∃ i, P.info? t = some i ∧ i.bytes = P.bytesOf t ∧ i.size = P.cellsOf t) : ∀ (n : Nat) (t : TypeId), t ∈ S → ∀ (cs : List Value) x, DataW.trod enc P W 0 (fun _ => true) true n t cs = some x →
    (x.1.weights P t).all (· ≤ reachBytes) = true → ∃ pvs, Sh P n t pvs ∧ RepAll P (memOf W) false pvs cs := by
  intro n
  induction n with
  | zero => intro t _ cs x h; simp [DataW.trod] at h
  | succ n ih =>
    intro t ht cs x h hw
    have hok := List.all_eq_true.1 hS t ht
    unfold okT at hok
    simp only [Sh]
    split at hok
    · rename_i hu
      obtain ⟨b, rfl⟩ := trod_bool_some hu h
      exact ⟨_, ⟨b, rfl⟩, by simp [RepAll, Rep]⟩
    · rename_i k hu
      obtain ⟨m, rfl, hm⟩ := trod_int_some hu h
      exact ⟨_, ⟨m, rfl, hm⟩, by simp [RepAll, Rep]⟩
    · rename_i hu
      obtain ⟨s, rfl, hx⟩ := trod_str_some hu h
      rw [hx] at hw
      simp only [DataW.weights, List.all_cons, List.all_nil, Bool.and_true, decide_eq_true_eq] at hw
      have hle : s.data.toList.length ≤ 2 ^ 47 := Nat.le_trans hw (by unfold reachBytes; omega)
      refine ⟨_, ⟨s.data.toList, rfl, hle⟩, ?_⟩
      simp only [RepAll, Rep]
      exact ⟨_, [], rfl, ⟨by simp, Nat.le_trans hle (by unfold maxStr; omega)⟩, rfl⟩
    · rename_i e hu
      simp only [Bool.and_eq_true] at hok
      have he : e ∈ S := by simpa using hok.1
      obtain ⟨i, hi1, hi2, hi3⟩ := hinf e he
      rcases trod_slice_some hu h with ⟨rfl, rfl⟩ | ⟨a, len, cap, elems, rest, rfl, hlc, hcm, hel, hre, hx⟩
      · refine ⟨_, ⟨[], rfl, by simp⟩, ?_⟩
        simp only [RepAll, Rep]
        exact ⟨_, [], rfl, ⟨none, 0, i, rfl, by simp, by simp, hi1, by simp, by simp⟩, rfl⟩
      · have hlen : elems.length = len := by simpa using mapM_some_length hel
        have hrlen : rest.length = cap - len := by simpa using mapM_some_length hre
        rw [hx] at hw
        simp only [DataW.weights, hu, List.all_cons, List.all_append, List.length_map, Bool.and_eq_true, decide_eq_true_eq] at hw
        have hpos : 0 < P.cellsOf e := by simpa [Nat.blt_eq] using hok.2
        have hget : ∀ j, j < elems.length → (W.cells? 0 (a.add (j * P.cellsOf e)) (P.cellsOf e)).bind (DataW.trod enc P W 0 (fun _ => true) true n e) = elems[j]? := fun j hj => mapM_some_get hel j j (List.getElem?_range (by omega))
        have hsp : elems ≠ [] → a.spot = none := fun hne => by
          have h0 := hget 0 (List.length_pos_iff.2 hne)
          rw [Nat.zero_mul] at h0
          cases hcs : W.cells? 0 (a.add 0) (P.cellsOf e) with
          | none => rw [hcs] at h0; cases elems with
            | nil => exact absurd rfl hne
            | cons _ _ => cases h0
          | some cs =>
            obtain ⟨_, hl, hc⟩ := World.cells?_some hcs
            have := hc 0 hpos
            cases hs : a.spot with
            | none => rfl
            | some q =>
              have h1 : W.cell? ((a.add 0).add 0) = none := by
                simp only [World.cell?, Addr.add, hs, if_true]
                split <;> simp
              rw [h1] at this
              have := List.getElem?_eq_none_iff.1 this.symm
              omega
        have hby : len * i.bytes ≤ 2 ^ 47 := by
          have h1 := hw.1
          rw [hi2]
          have : len * P.bytesOf e ≤ (elems.length + rest.length) * P.bytesOf e := Nat.mul_le_mul_right _ (by omega)
          unfold reachBytes at h1
          omega
        by_cases hne : elems = []
        · subst hne
          refine ⟨_, ⟨[], rfl, by simp⟩, ?_⟩
          simp only [List.length_nil] at hlen
          subst hlen
          simp only [RepAll, Rep]
          exact ⟨_, [], rfl, ⟨some a, cap, i, rfl, by simp, hcm, hi1, by simp, by simp⟩, rfl⟩
        · obtain ⟨b, o, sp⟩ := a
          have := hsp hne
          simp only at this
          subst this
          obtain ⟨rows, hr1, hr2, hr3⟩ := abs_rows (fun cs x hx hw => ih e he cs x hx hw) elems 0 (fun j hj => by rw [Nat.zero_add]; exact hget j hj) hw.2.1
          refine ⟨_, ⟨rows, rfl, hr2⟩, ?_⟩
          simp only [RepAll, Rep]
          have hrl : rows.length = len := by omega
          rw [hrl]
          refine ⟨_, [], rfl, ⟨some ⟨b, o, none⟩, cap, i, rfl, hlc, hcm, hi1, hby, fun _ => ⟨b, o, rfl, ?_⟩⟩, rfl⟩
          rw [hi3]
          simpa using hr3
    · rename_i fs hu
      simp only [Bool.and_eq_true] at hok
      obtain ⟨hl, xs, hm, hx⟩ := trod_struct_some hu h
      rw [hx] at hw
      simp only [DataW.weights, hu] at hw
      have hsum := Nat.eq_of_beq_eq_true hok.2
      obtain ⟨pvs, h1, h2⟩ := abs_struct ih fs.toList 0 cs xs hok.1.1 hok.1.2 (by rw [hsum, hl]; omega) hm hw
      exact ⟨pvs, h1, by simpa using h2⟩
    · cases hok
end
end Go.Ab
/- The abstract layer, part U: from a contract on pure values to a statement 'the law returns true, its arguments read asQ before'. -/
namespace Go.Ab
open Go.ChangeShapes

/-- The pure value of an argument, out of its cells. -/
def argPV (P : Program) (t : TypeId) (pvs : List PV) : PV :=
  match P.underlying t with
  | some (.struct _) => .agg pvs
  | _ => pvs.headD .any

def ArgsSh (P : Program) : List TypeId → List PV → Prop
  | [], asQ => asQ = []
  | t :: ts, asQ => ∃ n pvs rest, asQ = argPV P t pvs :: rest ∧ Sh P n t pvs ∧ ArgsSh P ts rest

section
variable {H : Type} {enc : TypeId × Value → H} {P : Program} {W : World} {S : List TypeId}

theorem abs_val (hS : S.all (okT P S) = true) (hinf : ∀ t ∈ S, ∃ i, P.info? t = some i ∧ i.bytes = P.bytesOf t ∧ i.size = P.cellsOf t) {base : Nat} {t : TypeId} (ht : t ∈ S) {v : Value} {d : DataW H} {ps : List MemPlace}
    (hv : Value.okWide P W .any base t v) (h : DataW.Trod enc P W 0 (fun _ => true) true t v d ps) (hw : (d.weights P t).all (· ≤ reachBytes) = true) : ∃ n pvs, Sh P n t pvs ∧ Rep P (memOf W) true (argPV P t pvs) v := by
  obtain ⟨n, hn⟩ := h
  obtain ⟨pvs, h1, h2⟩ := abs hS hinf n t ht _ (d, ps) hn hw
  refine ⟨n, pvs, h1, ?_⟩
  have h2' := RepAll.slot h2
  have hok := List.all_eq_true.1 hS t ht
  unfold okT at hok
  unfold argPV
  have one : v.cells = #[v] → Rep P (memOf W) true (pvs.headD .any) v := by
    intro e
    rw [e] at h2'
    cases pvs with
    | nil => simp [RepAll] at h2'
    | cons p ps =>
      simp only [RepAll] at h2'
      obtain ⟨x, xs, hx, hp, _⟩ := h2'
      simp only [List.cons.injEq] at hx
      rw [hx.1]
      exact hp
  cases hu : P.underlying t with
  | none => rw [hu] at hok; cases hok
  | some td =>
    rw [hu] at hok
    cases td <;> first | (simp only [Bool.false_eq_true] at hok; done) | skip
    case bool => obtain ⟨b, rfl⟩ := WideShapes.okWide_bool hu hv; exact one rfl
    case int k => obtain ⟨m, rfl⟩ := WideShapes.okWide_int hu hv; exact one rfl
    case string => obtain ⟨s, rfl⟩ := WideShapes.okWide_string hu hv; exact one rfl
    case slice e => obtain ⟨a, len, cap, rfl⟩ := WideShapes.okWide_slice hu hv; exact one rfl
    case struct fs =>
      obtain ⟨cs, rfl, _⟩ := WideShapes.okWide_struct hu hv
      simp only [Rep]
      exact ⟨cs, rfl, h2'⟩

theorem abs_args (hS : S.all (okT P S) = true) (hinf : ∀ t ∈ S, ∃ i, P.info? t = some i ∧ i.bytes = P.bytesOf t ∧ i.size = P.cellsOf t) {base : Nat} : ∀ {ts : List TypeId} {vs : List Value} {ds : List (DataW H)} {ps : List MemPlace}, (∀ t ∈ ts, t ∈ S) →
    (∀ (j : Nat) t v, ts[j]? = some t → vs[j]? = some v → Value.okWide P W .any base t v) → DataW.TrodAll enc P W 0 (fun _ => true) true ts vs ds ps → (DataW.weightsEach P ts ds).all (· ≤ reachBytes) = true →
    ∃ asQ, ArgsSh P ts asQ ∧ RepAll P (memOf W) true asQ vs
  | [], _, _, _, _, _, h, _ => by
    obtain ⟨rfl, rfl, rfl⟩ := trodAll_nil h
    exact ⟨[], rfl, by simp [RepAll]⟩
  | t :: ts, _, _, _, hm, hv, h, hw => by
    obtain ⟨v, vs, d, ds, p, q, rfl, rfl, rfl, h1, h2⟩ := trodAll_cons h
    simp only [DataW.weightsEach, List.all_append, Bool.and_eq_true] at hw
    obtain ⟨n, pvs, a1, a2⟩ := abs_val hS hinf (hm t (by simp)) (hv 0 t v rfl rfl) h1 hw.1
    obtain ⟨asQ, b1, b2⟩ := abs_args hS hinf (fun t ht => hm t (by simp [ht])) (fun j t v ht hv' => hv (j + 1) t v (by simpa using ht) (by simpa using hv')) h2 hw.2
    refine ⟨argPV P t pvs :: asQ, ⟨n, pvs, asQ, rfl, a1, b1⟩, ?_⟩
    simp only [RepAll]
    exact ⟨v, vs, rfl, a2, b2⟩

theorem trodAll_stays (hl : laidOutB P = true) {W' : World} (hb : RowKit.Below W.heap.size W W') {sp : Nat → Bool} : ∀ {ts : List TypeId} {vs : List Value} {ds : List (DataW H)} {ps : List MemPlace}, (∀ t ∈ ts, P.readableRec t = true ∧ t < P.types.size) →
    DataW.TrodAll enc P W 0 (fun _ => true) true ts vs ds ps → (∀ x ∈ ps, x.block < W.heap.size) → (∀ x ∈ ps, sp x.block = true) → DataW.TrodAll enc P W' 0 sp true ts vs ds ps
  | [], _, _, _, _, h, _, _ => by
    obtain ⟨rfl, rfl, rfl⟩ := trodAll_nil h
    exact trodAll_mk0
  | t :: ts, _, _, _, hr, h, hlt, hsp => by
    obtain ⟨v, vs, d, ds, p, q, rfl, rfl, rfl, h1, h2⟩ := trodAll_cons h
    exact ⟨p, q, WideElems.Trod_stays hl (hr t (by simp)).1 (hr t (by simp)).2 h1 (fun x hx => hb.same (hlt x (by simp [hx]))) (fun x hx => hsp x (by simp [hx])),
      trodAll_stays hl hb (fun t ht => hr t (by simp [ht])) h2 (fun x hx => hlt x (by simp [hx])) (fun x hx => hsp x (by simp [hx])), rfl⟩

theorem trodAll_len {sp : Nat → Bool} {hd : Bool} : ∀ {ts : List TypeId} {vs : List Value} {ds : List (DataW H)} {ps : List MemPlace}, DataW.TrodAll enc P W 0 sp hd ts vs ds ps → ds.length = ts.length
  | [], _, _, _, h => by
    obtain ⟨_, rfl, _⟩ := trodAll_nil h
    rfl
  | t :: ts, _, _, _, h => by
    obtain ⟨v, vs, d, ds, p, q, rfl, rfl, rfl, _, h2⟩ := trodAll_cons h
    simp [trodAll_len h2]

theorem InvH.start (W : World) (hg : Gl W []) : InvH P ⟨W, [], memOf W, hg⟩ (memOf W) Heap.empty W :=
  ⟨fun _ _ _ h => h, Mem.le_refl _, fun _ _ _ h => .inl h, rfl, rfl, rfl, Nat.le_refl _, fun _ _ _ => rfl, fun _ _ h => by simp [Heap.empty] at h, fun _ _ h => by simp [Heap.empty] at h,
    fun _ _ _ _ h => by simp [Heap.empty] at h, fun _ _ _ _ _ h => by simp [Heap.empty] at h, fun _ _ _ _ h => by simp [Heap.empty] at h⟩

theorem InvH.below {hg : Gl W []} {M : Mem} {Hp : Heap} {W' : World} (h : InvH P ⟨W, [], memOf W, hg⟩ M Hp W') : RowKit.Below W.heap.size W W' :=
  ⟨h.os, h.tape, h.output, h.size, fun k hk => h.frame k hk (by simp)⟩

/-- The law. -/
theorem law_calls (hl : laidOutB P = true) {f : FuncId} {fn : Func} {s : ChangeSpec} {fresh handsOn again : Bool} {tb : TypeId} (hvars : s.vars = []) (hr : ∀ t ∈ fn.params.toList, P.readableRec t = true ∧ t < P.types.size) (hres : fn.resultTypes = #[tb]) (htb : P.underlying tb = some .bool)
    (hfn : ∀ ds : List (DataW H), ds.length = fn.params.toList.length → s.fn H ds = { results := [.lit (.bool true)], args := ds })
    (hS : S.all (okT P S) = true) (hinf : ∀ t ∈ S, ∃ i, P.info? t = some i ∧ i.bytes = P.bytesOf t ∧ i.size = P.cellsOf t) (hm : ∀ t ∈ fn.params.toList, t ∈ S)
    (hspec : ∀ asQ, ArgsSh P fn.params.toList asQ → PFun P f asQ (.val (.bool true)))
    {base : Nat} {args : Array Value} {ds gs : List (DataW H)} {before : List MemPlace} (hval : ∀ (j : Nat) t v, fn.params[j]? = some t → args[j]? = some v → Value.okWide P W .any base t v)
    (hW : DataW.Whole enc P fn.params.toList s.vars false W args.toList ds gs before) (hg : Gl W []) (hsz : (DataW.weightsEach P (fn.params.toList ++ s.plain.varTypes P) (ds ++ gs)).all (· ≤ reachBytes) = true) :
    Calls P f args W fun e W' => ∃ v, e = .returned v ∧ s.post enc P fn false fresh handsOn again W args v W' := by
  have hlt := hW.lt
  have hW' := hW
  obtain ⟨p, q, hA, hV, rfl, hz, hn⟩ := hW
  have hV' := hV
  rw [hvars] at hV
  obtain ⟨rfl, rfl⟩ := trodVars_none hV
  have hvt : s.plain.varTypes P = [] := by simp [DataSpec.varTypes, ChangeSpec.plain, hvars]
  rw [hvt, List.append_nil, List.append_nil] at hsz
  have hlen : ds.length = fn.params.toList.length := trodAll_len hA
  obtain ⟨asQ, h1, h2⟩ := abs_args hS hinf hm (fun j t v ht hv => hval j t v (by simpa using ht) (by simpa using hv)) hA hsz
  refine (hspec asQ h1 W (memOf W) [] hg args (InvH.start W hg) h2).mono ?_
  rintro e W' ⟨v, u, H', M', rfl, ⟨rfl, rfl⟩, hi, hrep⟩
  simp only [Rep] at hrep
  subst hrep
  have hb := hi.below
  refine ⟨_, rfl, ?_⟩
  have hfn' : s.fn H (ds ++ []) = { results := [.lit (.bool true)], args := ds } := by rw [List.append_nil]; exact hfn ds hlen
  have hargs : ∀ sp : Nat → Bool, (∀ x ∈ p ++ [], sp x.block = true) → DataW.TrodAll enc P W' 0 sp true fn.params.toList args.toList ds p := fun sp hsp =>
    trodAll_stays hl hb hr hA (fun x hx => hlt x (by simp [hx])) (fun x hx => hsp x (by simp [hx]))
  have hres' : ∀ (b : Nat) (sp : Nat → Bool) (hd : Bool), DataW.TrodAll enc P W' b sp hd fn.resultTypes.toList ((Value.bool true).resultList fn.resultTypes.size) [.lit (.bool true)] [] := by
    intro b sp hd
    rw [hres]
    refine trodAll_mk1 ⟨1, ?_⟩
    show DataW.trod enc P W' b sp hd 1 tb [.bool true] = _
    unfold DataW.trod
    rw [htb]
  have hvs : ∀ sp : Nat → Bool, DataW.TrodVars enc P W' sp s.vars ([] : List (DataW H)) [] := fun sp => by rw [hvars]; simp [DataW.TrodVars]
  have hold : ∀ x ∈ p ++ [], (fun b => decide (b < W.heap.size)) x.block = true := fun x hx => by simpa using hlt x hx
  refine ⟨ds, [], p ++ [], [], p, [], hW', ?_, ?_, ?_, hb.frame _, fun _ => ⟨RowKit.ok_one hres rfl (RowKit.okWide_bool_mk htb true), [.lit (.bool true)] ++ ds, [], ([] ++ p) ++ [], ⟨[] ++ p, [], ?_, hvs _, rfl, ?_, fun h => by cases h⟩, ?_⟩⟩
  · rw [hfn']; exact hres' _ _ _
  · rw [hfn']; exact hargs _ hold
  · rw [hfn']; exact hvs _
  · exact trodAll_append (hargs _ fun _ _ => rfl) (hres' _ _ _)
  · intro b off hx
    have hx' : MemPlace.cell b off ∈ p ++ [] := by simpa using hx
    rw [hb.frozen (hlt _ hx')]
    exact hz b off hx'
  · intro x hx _
    simpa using hx
end
end Go.Ab
/- The abstract layer, part Ac B: asQ parts T and U, where the arguments are of a bounded bulk. -/
namespace Go.Ab
open Go.ChangeShapes

mutual
/-- How many values and letters a pure value holds. -/
def PV.bulk : PV → Nat
  | .str l => l.length + 1
  | .list _ rows => bulkRows rows + 1
  | .agg cs => bulkAll cs
  | .any => 1
  | .val _ => 1
  | .tup _ => 1
  | .ptr _ => 1
  | .fn _ _ => 1
  | .box _ _ _ => 1
  | .own _ _ _ => 1
  | .optr _ _ _ _ _ => 1
  | .err _ => 1
def bulkAll : List PV → Nat
  | [] => 0
  | p :: ps => p.bulk + bulkAll ps
def bulkRows : List (List PV) → Nat
  | [] => 0
  | r :: rs => bulkAll r + bulkRows rs
end
theorem bulkAll_append : ∀ a b : List PV, bulkAll (a ++ b) = bulkAll a + bulkAll b
  | [], b => by simp [bulkAll]
  | p :: a, b => by simp only [List.cons_append, bulkAll, bulkAll_append a b]; omega

/-- A measure of readings that is a bulk. -/
structure IsBulk (B : (H : Type) → DataW H → Nat) : Prop where
  one : ∀ H d, 1 ≤ B H d
  str : ∀ H l, l.length + 1 ≤ B H (.lit (.string l))
  slice : ∀ H (a b : List (DataW H)), (a.map (B H)).sum + 1 ≤ B H (.slice a b)
  agg : ∀ H (a : List (DataW H)), (a.map (B H)).sum ≤ B H (.agg a)

/-- The shapes at a greater depth. -/
theorem Sh.up {P : Program} : ∀ {n : Nat} {t : TypeId} {pvs : List PV}, Sh P n t pvs → Sh P (n + 1) t pvs := by
  intro n
  induction n with
  | zero => intro t pvs h; simp [Sh] at h
  | succ n ih =>
    intro t pvs h
    rw [Sh] at h ⊢
    split at h
    · exact h
    · exact h
    · exact h
    · obtain ⟨rows, rfl, hr⟩ := h
      exact ⟨rows, rfl, fun r hq => ih (hr r hq)⟩
    · rename_i fs hu
      have key : ∀ (ts : List TypeId) (l : List PV), ShEach (Sh P n) ts l → ShEach (Sh P (n + 1)) ts l := by
        intro ts
        induction ts with
        | nil => intro l h; simp only [ShEach] at h ⊢; exact h
        | cons t ts iht =>
          intro l h
          simp only [ShEach] at h ⊢
          obtain ⟨a, b, h1, h2, h3⟩ := h
          exact ⟨a, b, h1, ih h2, iht b h3⟩
      exact key _ _ h
    · cases h

theorem Sh.cast {P : Program} {n : Nat} {t t' : TypeId} {pvs : List PV} (h : P.underlying t = P.underlying t') (hs : Sh P n t pvs) : Sh P n t' pvs := by
  cases n with
  | zero => simp [Sh] at hs
  | succ n => rw [Sh] at hs ⊢; rwa [h] at hs

theorem rowsOf {α : Type} {f : α → List PV} : ∀ {rows : List (List PV)}, (∀ r ∈ rows, ∃ x, r = f x) → ∃ xs : List α, rows = xs.map f
  | [], _ => ⟨[], rfl⟩
  | r :: rs, h => by
    obtain ⟨x, rfl⟩ := h r (by simp)
    obtain ⟨xs, rfl⟩ := rowsOf (rows := rs) fun q hq => h q (by simp [hq])
    exact ⟨x :: xs, rfl⟩
theorem rowsUp {α : Type} {f : α → List PV} {P : Program} {n : Nat} {e t : TypeId} (he : P.underlying e = P.underlying t) (ih : ∀ {pvs}, Sh P (n + 1) t pvs → ∃ v, pvs = f v) {rows : List (List PV)} (hr : ∀ r ∈ rows, Sh P n e r) : ∃ xs : List α, rows = xs.map f :=
  rowsOf fun r hq => ih (Sh.up (Sh.cast he (hr r hq)))

/-- Types and their sizes, checked in one go. -/
def infosB (P : Program) (S : List TypeId) : Bool := S.all fun t => match P.info? t with
  | some i => Nat.beq i.bytes (P.bytesOf t) && Nat.beq i.size (P.cellsOf t)
  | none => false
theorem infos_of {P : Program} {S : List TypeId} (h : infosB P S = true) : ∀ t ∈ S, ∃ i, P.info? t = some i ∧ i.bytes = P.bytesOf t ∧ i.size = P.cellsOf t := by
  intro t ht
  have := List.all_eq_true.1 h t ht
  cases hi : P.info? t with
  | none => rw [hi] at this; cases this
  | some i =>
    rw [hi] at this
    simp only [Bool.and_eq_true] at this
    exact ⟨i, rfl, Nat.eq_of_beq_eq_true this.1, Nat.eq_of_beq_eq_true this.2⟩

section
variable {B : (H : Type) → DataW H → Nat} {H : Type} {enc : TypeId × Value → H} {P : Program} {W : World} {S : List TypeId}
theorem absB_struct {n : Nat} (ih : ∀ t ∈ S, ∀ (cs : List Value) x, DataW.trod enc P W 0 (fun _ => true) true n t cs = some x → (x.1.weights P t).all (· ≤ reachBytes) = true → ∃ pvs, Sh P n t pvs ∧ RepAll P (memOf W) false pvs cs ∧ bulkAll pvs ≤ B H x.1) :
    ∀ (fs : List Field) (o : Nat) (cs : List Value) (xs : List (DataW H × List MemPlace)), laidFs P o fs = true → fs.all (fun f => S.contains f.type) = true → o + (fs.map fun f => P.cellsOf f.type).sum = cs.length →
      (fs.mapM fun f => DataW.trod enc P W 0 (fun _ => true) true n f.type ((cs.drop f.offset).take (P.cellsOf f.type))) = some xs →
      (DataW.weightsEach P (fs.map (·.type)) (xs.map (·.1))).all (· ≤ reachBytes) = true → ∃ pvs, ShEach (Sh P n) (fs.map (·.type)) pvs ∧ RepAll P (memOf W) false pvs (cs.drop o) ∧ bulkAll pvs ≤ ((xs.map (·.1)).map (B H)).sum
  | [], o, cs, xs, _, _, hlen, _, _ => by
    refine ⟨[], by simp [ShEach], ?_, by simp [bulkAll]⟩
    simp only [RepAll]
    exact List.drop_eq_nil_of_le (by simp at hlen; omega)
  | f :: fs, o, cs, xs, hl, hS, hlen, hm, hw => by
    simp only [laidFs, Bool.and_eq_true] at hl
    simp only [List.all_cons, Bool.and_eq_true] at hS
    simp only [List.map_cons, List.sum_cons] at hlen
    have hoff : f.offset = o := Nat.eq_of_beq_eq_true hl.1
    rw [List.mapM_cons] at hm
    cases hx : DataW.trod enc P W 0 (fun _ => true) true n f.type ((cs.drop f.offset).take (P.cellsOf f.type)) with
    | none => rw [hx] at hm; cases hm
    | some x =>
      rw [hx] at hm
      cases hr : (fs.mapM fun f => DataW.trod enc P W 0 (fun _ => true) true n f.type ((cs.drop f.offset).take (P.cellsOf f.type))) with
      | none => rw [hr] at hm; cases hm
      | some r =>
        rw [hr] at hm
        have hm' : x :: r = xs := Option.some.inj hm
        subst hm'
        simp only [List.map_cons, DataW.weightsEach, List.all_append, Bool.and_eq_true] at hw
        obtain ⟨pa, ha1, ha2, ha3⟩ := ih f.type (by simpa using hS.1) _ x hx hw.1
        obtain ⟨pb, hb1, hb2, hb3⟩ := absB_struct ih fs (o + P.cellsOf f.type) cs r hl.2 hS.2 (by omega) hr hw.2
        refine ⟨pa ++ pb, ⟨pa, pb, rfl, ha1, hb1⟩, ?_, by rw [bulkAll_append]; simp only [List.map_cons, List.sum_cons]; omega⟩
        have := ha2.append hb2
        rw [hoff] at this
        have e : (cs.drop o).take (P.cellsOf f.type) ++ cs.drop (o + P.cellsOf f.type) = cs.drop o := by
          rw [← List.drop_drop]; exact List.take_append_drop _ _
        rwa [e] at this

theorem absB_rows {n : Nat} {e : TypeId} (ih : ∀ (cs : List Value) x, DataW.trod enc P W 0 (fun _ => true) true n e cs = some x → (x.1.weights P e).all (· ≤ reachBytes) = true → ∃ pvs, Sh P n e pvs ∧ RepAll P (memOf W) false pvs cs ∧ bulkAll pvs ≤ B H x.1)
    {b o c : Nat} : ∀ (elems : List (DataW H × List MemPlace)) (k : Nat), (∀ j, j < elems.length → ((W.cells? 0 ((⟨b, o, none⟩ : Addr).add ((k + j) * c)) c).bind (DataW.trod enc P W 0 (fun _ => true) true n e)) = elems[j]?) →
      (DataW.weightsAll P e (elems.map (·.1))).all (· ≤ reachBytes) = true → ∃ rows : List (List PV), rows.length = elems.length ∧ (∀ r ∈ rows, Sh P n e r) ∧ RepRows P (memOf W) c b (o + k * c) rows ∧ bulkRows rows ≤ ((elems.map (·.1)).map (B H)).sum
  | [], k, _, _ => ⟨[], rfl, by simp, by simp [RepRows], by simp [bulkRows]⟩
  | x :: r, k, hj, hw => by
    simp only [List.map_cons, DataW.weightsAll, List.all_append, Bool.and_eq_true] at hw
    have h0 := hj 0 (by simp)
    simp only [Nat.add_zero, List.getElem?_cons_zero] at h0
    cases hcs : W.cells? 0 ((⟨b, o, none⟩ : Addr).add (k * c)) c with
    | none => rw [hcs] at h0; cases h0
    | some cs =>
      rw [hcs] at h0
      simp only [Option.bind_some] at h0
      obtain ⟨pv, hp1, hp2, hp3⟩ := ih cs x h0 hw.1
      obtain ⟨_, hlen, hcell⟩ := World.cells?_some hcs
      obtain ⟨rows, hr1, hr2, hr3, hr4⟩ := absB_rows ih r (k + 1) (fun j hj' => by
        have := hj (j + 1) (by simpa using hj')
        rw [show k + (j + 1) = k + 1 + j from by omega] at this
        simpa using this) hw.2
      refine ⟨pv :: rows, by simp [hr1], ?_, ?_, by simp only [bulkRows, List.map_cons, List.sum_cons]; omega⟩
      · intro q hq
        rcases List.mem_cons.1 hq with rfl | hq
        · exact hp1
        · exact hr2 q hq
      · simp only [RepRows]
        have hpl : pv.length = c := by rw [← hlen]; exact (hp2.length).symm
        have hone : ∀ y ∈ cs, y.oneCell' = true := RepAll.oneCell hp1.one hp2
        refine ⟨hpl, RepAt.of_cells hp2 hone fun j hj' => ?_, ?_⟩
        · have := hcell j (by omega)
          rw [← this, add_off, add_off]
        · rw [show o + (k + 1) * c = o + k * c + c from by rw [Nat.add_mul]; omega] at hr3
          exact hr3

theorem absB (hB : IsBulk B) (hS : S.all (okT P S) = true) (hinf : ∀ t ∈ S, ∃ i, P.info? t = some i ∧ i.bytes = P.bytesOf t ∧ i.size = P.cellsOf t) : ∀ (n : Nat) (t : TypeId), t ∈ S → ∀ (cs : List Value) x, DataW.trod enc P W 0 (fun _ => true) true n t cs = some x →
    (x.1.weights P t).all (· ≤ reachBytes) = true → ∃ pvs, Sh P n t pvs ∧ RepAll P (memOf W) false pvs cs ∧ bulkAll pvs ≤ B H x.1 := by
  intro n
  induction n with
  | zero => intro t _ cs x h; simp [DataW.trod] at h
  | succ n ih =>
    intro t ht cs x h hw
    have hok := List.all_eq_true.1 hS t ht
    unfold okT at hok
    simp only [Sh]
    split at hok
    · rename_i hu
      obtain ⟨b, rfl⟩ := trod_bool_some hu h
      exact ⟨_, ⟨b, rfl⟩, by simp [RepAll, Rep], by simp only [bulkAll, PV.bulk]; exact hB.one _ _⟩
    · rename_i k hu
      obtain ⟨m, rfl, hm⟩ := trod_int_some hu h
      exact ⟨_, ⟨m, rfl, hm⟩, by simp [RepAll, Rep], by simp only [bulkAll, PV.bulk]; exact hB.one _ _⟩
    · rename_i hu
      obtain ⟨s, rfl, hx⟩ := trod_str_some hu h
      rw [hx] at hw
      simp only [DataW.weights, List.all_cons, List.all_nil, Bool.and_true, decide_eq_true_eq] at hw
      have hle : s.data.toList.length ≤ 2 ^ 47 := Nat.le_trans hw (by unfold reachBytes; omega)
      refine ⟨_, ⟨s.data.toList, rfl, hle⟩, ?_, by simp only [bulkAll, PV.bulk]; rw [hx]; exact hB.str _ _⟩
      simp only [RepAll, Rep]
      exact ⟨_, [], rfl, ⟨by simp, Nat.le_trans hle (by unfold maxStr; omega)⟩, rfl⟩
    · rename_i e hu
      simp only [Bool.and_eq_true] at hok
      have he : e ∈ S := by simpa using hok.1
      obtain ⟨i, hi1, hi2, hi3⟩ := hinf e he
      rcases trod_slice_some hu h with ⟨rfl, rfl⟩ | ⟨a, len, cap, elems, rest, rfl, hlc, hcm, hel, hre, hx⟩
      · refine ⟨_, ⟨[], rfl, by simp⟩, ?_, by simp only [bulkAll, PV.bulk, bulkRows]; exact hB.one _ _⟩
        simp only [RepAll, Rep]
        exact ⟨_, [], rfl, ⟨none, 0, i, rfl, by simp, by simp, hi1, by simp, by simp⟩, rfl⟩
      · have hlen : elems.length = len := by simpa using mapM_some_length hel
        have hrlen : rest.length = cap - len := by simpa using mapM_some_length hre
        rw [hx] at hw
        simp only [DataW.weights, hu, List.all_cons, List.all_append, List.length_map, Bool.and_eq_true, decide_eq_true_eq] at hw
        have hpos : 0 < P.cellsOf e := by simpa [Nat.blt_eq] using hok.2
        have hget : ∀ j, j < elems.length → (W.cells? 0 (a.add (j * P.cellsOf e)) (P.cellsOf e)).bind (DataW.trod enc P W 0 (fun _ => true) true n e) = elems[j]? := fun j hj => mapM_some_get hel j j (List.getElem?_range (by omega))
        have hsp : elems ≠ [] → a.spot = none := fun hne => by
          have h0 := hget 0 (List.length_pos_iff.2 hne)
          rw [Nat.zero_mul] at h0
          cases hcs : W.cells? 0 (a.add 0) (P.cellsOf e) with
          | none => rw [hcs] at h0; cases elems with
            | nil => exact absurd rfl hne
            | cons _ _ => cases h0
          | some cs =>
            obtain ⟨_, hl, hc⟩ := World.cells?_some hcs
            have := hc 0 hpos
            cases hs : a.spot with
            | none => rfl
            | some q =>
              have h1 : W.cell? ((a.add 0).add 0) = none := by
                simp only [World.cell?, Addr.add, hs, if_true]
                split <;> simp
              rw [h1] at this
              have := List.getElem?_eq_none_iff.1 this.symm
              omega
        have hby : len * i.bytes ≤ 2 ^ 47 := by
          have h1 := hw.1
          rw [hi2]
          have : len * P.bytesOf e ≤ (elems.length + rest.length) * P.bytesOf e := Nat.mul_le_mul_right _ (by omega)
          unfold reachBytes at h1
          omega
        by_cases hne : elems = []
        · subst hne
          refine ⟨_, ⟨[], rfl, by simp⟩, ?_, by simp only [bulkAll, PV.bulk, bulkRows]; exact hB.one _ _⟩
          simp only [List.length_nil] at hlen
          subst hlen
          simp only [RepAll, Rep]
          exact ⟨_, [], rfl, ⟨some a, cap, i, rfl, by simp, hcm, hi1, by simp, by simp⟩, rfl⟩
        · obtain ⟨b, o, sp⟩ := a
          have := hsp hne
          simp only at this
          subst this
          obtain ⟨rows, hr1, hr2, hr3, hr4⟩ := absB_rows (B := B) (fun cs x hx hw => ih e he cs x hx hw) elems 0 (fun j hj => by rw [Nat.zero_add]; exact hget j hj) hw.2.1
          refine ⟨_, ⟨rows, rfl, hr2⟩, ?_, by simp only [bulkAll, PV.bulk]; rw [hx]; exact Nat.le_trans (by omega) (hB.slice _ _ _)⟩
          simp only [RepAll, Rep]
          have hrl : rows.length = len := by omega
          rw [hrl]
          refine ⟨_, [], rfl, ⟨some ⟨b, o, none⟩, cap, i, rfl, hlc, hcm, hi1, hby, fun _ => ⟨b, o, rfl, ?_⟩⟩, rfl⟩
          rw [hi3]
          simpa using hr3
    · rename_i fs hu
      simp only [Bool.and_eq_true] at hok
      obtain ⟨hl, xs, hm, hx⟩ := trod_struct_some hu h
      rw [hx] at hw
      simp only [DataW.weights, hu] at hw
      have hsum := Nat.eq_of_beq_eq_true hok.2
      obtain ⟨pvs, h1, h2, h3⟩ := absB_struct (B := B) ih fs.toList 0 cs xs hok.1.1 hok.1.2 (by rw [hsum, hl]; omega) hm hw
      exact ⟨pvs, h1, by simpa using h2, by rw [hx]; exact Nat.le_trans h3 (hB.agg _ _)⟩
    · cases hok
omit enc W S in
theorem argPV_bulk (hB : IsBulk B) (t : TypeId) (pvs : List PV) : (argPV P t pvs).bulk ≤ max (bulkAll pvs) 1 := by
  have _ := hB
  unfold argPV
  split
  · simp only [PV.bulk]; omega
  · cases pvs with
    | nil => simp [PV.bulk, bulkAll]
    | cons p ps => simp only [List.headD_cons, bulkAll]; omega

theorem absB_val (hB : IsBulk B) (hS : S.all (okT P S) = true) (hinf : ∀ t ∈ S, ∃ i, P.info? t = some i ∧ i.bytes = P.bytesOf t ∧ i.size = P.cellsOf t) {base : Nat} {t : TypeId} (ht : t ∈ S) {v : Value} {d : DataW H} {ps : List MemPlace}
    (hv : Value.okWide P W .any base t v) (h : DataW.Trod enc P W 0 (fun _ => true) true t v d ps) (hw : (d.weights P t).all (· ≤ reachBytes) = true) : ∃ n pvs, Sh P n t pvs ∧ Rep P (memOf W) true (argPV P t pvs) v ∧ (argPV P t pvs).bulk ≤ B H d := by
  obtain ⟨n, hn⟩ := h
  obtain ⟨pvs, h1, h2, hb⟩ := absB hB hS hinf n t ht _ (d, ps) hn hw
  refine ⟨n, pvs, h1, ?_, Nat.le_trans (argPV_bulk hB t pvs) (Nat.max_le.2 ⟨hb, hB.one _ _⟩)⟩
  have h2' := RepAll.slot h2
  have hok := List.all_eq_true.1 hS t ht
  unfold okT at hok
  unfold argPV
  have one : v.cells = #[v] → Rep P (memOf W) true (pvs.headD .any) v := by
    intro e
    rw [e] at h2'
    cases pvs with
    | nil => simp [RepAll] at h2'
    | cons p ps =>
      simp only [RepAll] at h2'
      obtain ⟨x, xs, hx, hp, _⟩ := h2'
      simp only [List.cons.injEq] at hx
      rw [hx.1]
      exact hp
  cases hu : P.underlying t with
  | none => rw [hu] at hok; cases hok
  | some td =>
    rw [hu] at hok
    cases td <;> first | (simp only [Bool.false_eq_true] at hok; done) | skip
    case bool => obtain ⟨b, rfl⟩ := WideShapes.okWide_bool hu hv; exact one rfl
    case int k => obtain ⟨m, rfl⟩ := WideShapes.okWide_int hu hv; exact one rfl
    case string => obtain ⟨s, rfl⟩ := WideShapes.okWide_string hu hv; exact one rfl
    case slice e => obtain ⟨a, len, cap, rfl⟩ := WideShapes.okWide_slice hu hv; exact one rfl
    case struct fs =>
      obtain ⟨cs, rfl, _⟩ := WideShapes.okWide_struct hu hv
      simp only [Rep]
      exact ⟨cs, rfl, h2'⟩

theorem absB_args (hB : IsBulk B) (hS : S.all (okT P S) = true) (hinf : ∀ t ∈ S, ∃ i, P.info? t = some i ∧ i.bytes = P.bytesOf t ∧ i.size = P.cellsOf t) {base : Nat} : ∀ {ts : List TypeId} {vs : List Value} {ds : List (DataW H)} {ps : List MemPlace}, (∀ t ∈ ts, t ∈ S) →
    (∀ (j : Nat) t v, ts[j]? = some t → vs[j]? = some v → Value.okWide P W .any base t v) → DataW.TrodAll enc P W 0 (fun _ => true) true ts vs ds ps → (DataW.weightsEach P ts ds).all (· ≤ reachBytes) = true →
    ∃ asQ, ArgsSh P ts asQ ∧ RepAll P (memOf W) true asQ vs ∧ bulkAll asQ ≤ (ds.map (B H)).sum
  | [], _, _, _, _, _, h, _ => by
    obtain ⟨rfl, rfl, rfl⟩ := trodAll_nil h
    exact ⟨[], rfl, by simp [RepAll], by simp [bulkAll]⟩
  | t :: ts, _, _, _, hm, hv, h, hw => by
    obtain ⟨v, vs, d, ds, p, q, rfl, rfl, rfl, h1, h2⟩ := trodAll_cons h
    simp only [DataW.weightsEach, List.all_append, Bool.and_eq_true] at hw
    obtain ⟨n, pvs, a1, a2, a3⟩ := absB_val hB hS hinf (hm t (by simp)) (hv 0 t v rfl rfl) h1 hw.1
    obtain ⟨asQ, b1, b2, b3⟩ := absB_args hB hS hinf (fun t ht => hm t (by simp [ht])) (fun j t v ht hv' => hv (j + 1) t v (by simpa using ht) (by simpa using hv')) h2 hw.2
    refine ⟨argPV P t pvs :: asQ, ⟨n, pvs, asQ, rfl, a1, b1⟩, ?_, by simp only [bulkAll, List.map_cons, List.sum_cons]; omega⟩
    simp only [RepAll]
    exact ⟨v, vs, rfl, a2, b2⟩

/-- The law, where the arguments are of a bulk at most N. -/
theorem law_callsB {N : Nat} (hB : IsBulk B) (hl : laidOutB P = true) {f : FuncId} {fn : Func} {s : ChangeSpec} {fresh handsOn again : Bool} {tb : TypeId} (hvars : s.vars = []) (hr : ∀ t ∈ fn.params.toList, P.readableRec t = true ∧ t < P.types.size) (hres : fn.resultTypes = #[tb]) (htb : P.underlying tb = some .bool)
    (hfn : ∀ ds : List (DataW H), ds.length = fn.params.toList.length → s.fn H ds = { results := [.lit (.bool true)], args := ds })
    (hS : S.all (okT P S) = true) (hinf : ∀ t ∈ S, ∃ i, P.info? t = some i ∧ i.bytes = P.bytesOf t ∧ i.size = P.cellsOf t) (hm : ∀ t ∈ fn.params.toList, t ∈ S)
    (hspec : ∀ asQ, ArgsSh P fn.params.toList asQ → bulkAll asQ ≤ N → PFun P f asQ (.val (.bool true)))
    {base : Nat} {args : Array Value} {ds gs : List (DataW H)} {before : List MemPlace} (hval : ∀ (j : Nat) t v, fn.params[j]? = some t → args[j]? = some v → Value.okWide P W .any base t v)
    (hW : DataW.Whole enc P fn.params.toList s.vars false W args.toList ds gs before) (hg : Gl W []) (hsz : (DataW.weightsEach P (fn.params.toList ++ s.plain.varTypes P) (ds ++ gs)).all (· ≤ reachBytes) = true) (hN : ((ds ++ gs).map (B H)).sum ≤ N) :
    Calls P f args W fun e W' => ∃ v, e = .returned v ∧ s.post enc P fn false fresh handsOn again W args v W' := by
  have hlt := hW.lt
  have hW' := hW
  obtain ⟨p, q, hA, hV, rfl, hz, hn⟩ := hW
  have hV' := hV
  rw [hvars] at hV
  obtain ⟨rfl, rfl⟩ := trodVars_none hV
  have hvt : s.plain.varTypes P = [] := by simp [DataSpec.varTypes, ChangeSpec.plain, hvars]
  rw [hvt, List.append_nil, List.append_nil] at hsz
  rw [List.append_nil] at hN
  have hlen : ds.length = fn.params.toList.length := trodAll_len hA
  obtain ⟨asQ, h1, h2, h3⟩ := absB_args hB hS hinf hm (fun j t v ht hv => hval j t v (by simpa using ht) (by simpa using hv)) hA hsz
  refine (hspec asQ h1 (Nat.le_trans h3 hN) W (memOf W) [] hg args (InvH.start W hg) h2).mono ?_
  rintro e W' ⟨v, u, H', M', rfl, ⟨rfl, rfl⟩, hi, hrep⟩
  simp only [Rep] at hrep
  subst hrep
  have hb := hi.below
  refine ⟨_, rfl, ?_⟩
  have hfn' : s.fn H (ds ++ []) = { results := [.lit (.bool true)], args := ds } := by rw [List.append_nil]; exact hfn ds hlen
  have hargs : ∀ sp : Nat → Bool, (∀ x ∈ p ++ [], sp x.block = true) → DataW.TrodAll enc P W' 0 sp true fn.params.toList args.toList ds p := fun sp hsp =>
    trodAll_stays hl hb hr hA (fun x hx => hlt x (by simp [hx])) (fun x hx => hsp x (by simp [hx]))
  have hres' : ∀ (b : Nat) (sp : Nat → Bool) (hd : Bool), DataW.TrodAll enc P W' b sp hd fn.resultTypes.toList ((Value.bool true).resultList fn.resultTypes.size) [.lit (.bool true)] [] := by
    intro b sp hd
    rw [hres]
    refine trodAll_mk1 ⟨1, ?_⟩
    show DataW.trod enc P W' b sp hd 1 tb [.bool true] = _
    unfold DataW.trod
    rw [htb]
  have hvs : ∀ sp : Nat → Bool, DataW.TrodVars enc P W' sp s.vars ([] : List (DataW H)) [] := fun sp => by rw [hvars]; simp [DataW.TrodVars]
  have hold : ∀ x ∈ p ++ [], (fun b => decide (b < W.heap.size)) x.block = true := fun x hx => by simpa using hlt x hx
  refine ⟨ds, [], p ++ [], [], p, [], hW', ?_, ?_, ?_, hb.frame _, fun _ => ⟨RowKit.ok_one hres rfl (RowKit.okWide_bool_mk htb true), [.lit (.bool true)] ++ ds, [], ([] ++ p) ++ [], ⟨[] ++ p, [], ?_, hvs _, rfl, ?_, fun h => by cases h⟩, ?_⟩⟩
  · rw [hfn']; exact hres' _ _ _
  · rw [hfn']; exact hargs _ hold
  · rw [hfn']; exact hvs _
  · exact trodAll_append (hargs _ fun _ _ => rfl) (hres' _ _ _)
  · intro b off hx
    have hx' : MemPlace.cell b off ∈ p ++ [] := by simpa using hx
    rw [hb.frozen (hlt _ hx')]
    exact hz b off hx'
  · intro x hx _
    simpa using hx
end
end Go.Ab
/- The abstract layer, part Ac C: the facts of a row, one by one. -/
namespace Go.Ab
open Go

theorem joined_of {P : Program} {f : FuncId} {fn : Func} {s : ChangeSpec} {c : OpenClaim}
    (h_wf : (c.wf (OpenSpec.ofChange s)) = true)
    (h_laid : (laidOutB P) = true)
    (h_mapsRowed : (mapsRowed P) = true)
    (h_rr : (fn.params.all (P.readableRec ·)) = true)
    (h_nt : (namedTie P c.named s.vars) = true)
    (h_st : ((c.stops == []) && (P.stops == []) && (c.knobs == []) && (P.stopKnobs == [])) = true)
    (h_inPlace : (c.inPlace == P.inPlace f) = true)
    (h_unf : (c.unfollowed == P.unfollowed f) = true)
    (h_rec : (c.recurses == P.recurses f) = true)
    (h_named : (c.named == P.varsNamed f) = true)
    (h_maps : ((c.maps == (fn.params.toList ++ s.plain.varTypes P).any (P.mapsRec ·)) && (c.ifaces == (fn.params.toList ++ s.plain.varTypes P).any (P.ifacesRec ·)) && (c.mapsOut == P.mapsAmong fn.resultTypes.toList)) = true)
    (h_loops : ((c.loops == (fn.params.toList ++ s.plain.varTypes P).any (P.loopsFrom ·))) = true)
    (h_wide : ((c.wideKeys == (fn.params.toList ++ s.plain.varTypes P ++ fn.resultTypes.toList).any (P.wideKeysFrom ·))) = true)
    (h_rest1 : (s.vars.all (P.varReadable ·) && fn.resultTypes.all (fun t => P.readableRec t && decide (t < P.types.size)) && (c.ifacesOut == fn.resultTypes.toList.any (P.ifacesRec ·)) && (c.loopsOut == fn.resultTypes.toList.any (P.loopsFrom ·))) = true)
    (h_plainKeys : (c.plainKeys == P.plainKeys) = true)
    (h_rest2 : (c.shortTexts.isNone && P.stopsHeard && P.mayEnter && (c.lifted == P.liftsFinal) && (P.make == some c.make)) = true)
    (h_kinds : ((c.kinds == (if c.domain.isEmpty then [] else fn.params.toList.map fun t => match P.underlying t with | some (.int k) => some k | _ => none)) && (c.pinned == c.pinnedBy)) = true)
    (h_veil : ((c.veiled == (fn.params.toList ++ s.plain.varTypes P ++ fn.resultTypes.toList).any (P.veiledRec ·)) && c.veiledFits P fn.params.toList (fn.params.toList ++ s.plain.varTypes P ++ fn.resultTypes.toList)) = true)
    : joinedFacts P f fn s c = true := by
  simp only [Bool.and_eq_true] at h_st h_maps h_rest1 h_rest2 h_kinds h_veil
  simp only [joinedFacts, Bool.and_eq_true]
  exact ⟨⟨⟨⟨⟨⟨⟨⟨⟨⟨⟨⟨⟨⟨⟨⟨⟨⟨⟨⟨⟨⟨⟨⟨⟨⟨⟨⟨⟨⟨⟨h_wf, h_laid⟩, h_mapsRowed⟩, h_rr⟩, h_nt⟩, h_st.1.1.1⟩, h_st.1.1.2⟩, h_st.1.2⟩, h_st.2⟩, h_inPlace⟩, h_unf⟩, h_rec⟩, h_named⟩, h_maps.1.1⟩, h_maps.1.2⟩, h_maps.2⟩, h_loops⟩, h_wide⟩, h_rest1.1.1.1⟩, h_rest1.1.1.2⟩, h_rest1.1.2⟩, h_rest1.2⟩, h_plainKeys⟩, h_rest2.1.1.1.1⟩, h_rest2.1.1.1.2⟩, h_rest2.1.1.2⟩, h_rest2.1.2⟩, h_rest2.2⟩, h_kinds.1⟩, h_kinds.2⟩, h_veil.1⟩, h_veil.2⟩
end Go.Ab
