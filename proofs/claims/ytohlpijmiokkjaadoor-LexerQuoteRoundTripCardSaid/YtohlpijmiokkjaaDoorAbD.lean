/- The abstract layer, part D: the pure function of each operation that only computes, reads, or lays frozen memory; its soundness. -/
import Derived.Test.YtohlpijmiokkjaaDoorAbC
namespace Go.Ab

/-- The cells of a value that is stored. -/
def cellsPV : PV → Option (List PV)
  | .agg cs => some cs
  | p => bif p.one then some [p] else none

theorem cellsPV_sound {P : Program} {M : Mem} {s : Bool} {p : PV} {x : Value} {cs : List PV} (h : cellsPV p = some cs) (hr : Rep P M s p x) : RepAll P M s cs x.cells.toList := by
  have single : p.one = true → x.cells = #[x] := by
    intro h1
    have := Rep.oneCell h1 hr
    cases x <;> simp_all [Value.oneCell', Value.cells]
  cases p with
  | agg l =>
    simp only [cellsPV, Option.some.injEq] at h
    subst h
    simp only [Rep] at hr
    obtain ⟨c, rfl, hc⟩ := hr
    exact hc
  | _ =>
    simp only [cellsPV] at h
    cases ho : PV.one _ with
    | false => rw [ho] at h; simp at h
    | true =>
      rw [ho] at h
      simp only [cond_true, Option.some.injEq] at h
      subst h
      rw [single ho]
      simp only [RepAll]
      exact ⟨x, [], rfl, hr, rfl⟩

def splice (cells : List PV) (off : Nat) (new : List PV) : List PV := cells.take off ++ new ++ cells.drop (off + new.length)

theorem splice_rep {P : Program} {M : Mem} {s : Bool} {cells new : List PV} {cs ns : List Value} (hc : RepAll P M s cells cs) (hn : RepAll P M s new ns) (off : Nat) :
    RepAll P M s (splice cells off new) (cs.take off ++ ns ++ cs.drop (off + ns.length)) := by
  unfold splice
  rw [hn.length]
  exact ((hc.take off).append hn).append (hc.drop _)

/-- A struct, an array or a row of elements is filled: 'place' says where each part lies. -/
def fillPV (place : Nat → Option (Nat × Nat)) (cells : List PV) : List (Nat × PV) → Option (List PV)
  | [] => some cells
  | (i, p) :: r => match place i, cellsPV p with
    | some (off, size), some cs => bif Nat.beq cs.length size && Nat.ble (off + size) cells.length then fillPV place (splice cells off cs) r else none
    | _, _ => none

theorem foldl_set_eq (off : Nat) : ∀ (xs : List Value) (k : Nat) (cur : Array Value), off + k + xs.length ≤ cur.size →
    ((xs.zipIdx k).foldl (fun cs (c, j) => cs.setIfInBounds (off + j) c) cur).toList = cur.toList.take (off + k) ++ xs ++ cur.toList.drop (off + k + xs.length)
  | [], k, cur, _ => by simp
  | x :: xs, k, cur, h => by
    simp only [List.zipIdx_cons, List.foldl_cons]
    have := foldl_set_eq off xs (k + 1) (cur.setIfInBounds (off + k) x) (by simp at h ⊢; omega)
    rw [this]
    have e := list_seg_step cur.toList (off + k) x xs (by simp at h ⊢; omega)
    simpa [Array.toList_setIfInBounds, Nat.add_assoc] using e

theorem fillPV_sound {P : Program} {M : Mem} {s : Bool} {place : Nat → Option (Nat × Nat)} : ∀ {parts : List (Nat × PV)} {vals : List (Nat × Value)} {cells out : List PV} {cs : Array Value},
    fillPV place cells parts = some out → RepAll P M s cells cs.toList → parts.map (·.1) = vals.map (·.1) → RepAll P M s (parts.map (·.2)) (vals.map (·.2)) →
    ∃ cs', Instr.fill place cs vals = some cs' ∧ RepAll P M s out cs'.toList
  | [], vals, cells, out, cs, h, hc, hi, hv => by
    simp only [fillPV, Option.some.injEq] at h
    subst h
    have : vals = [] := by cases vals <;> simp_all
    subst this
    exact ⟨cs, rfl, hc⟩
  | (i, p) :: r, [], cells, out, cs, h, hc, hi, hv => by simp at hi
  | (i, p) :: r, (j, v) :: vs, cells, out, cs, h, hc, hi, hv => by
    simp only [List.map_cons, List.cons.injEq] at hi
    obtain ⟨rfl, hi⟩ := hi
    simp only [List.map_cons, RepAll] at hv
    obtain ⟨x, xs, hxe, hpx, hrest⟩ := hv
    simp only [List.cons.injEq] at hxe
    obtain ⟨rfl, rfl⟩ := hxe
    simp only [fillPV] at h
    split at h
    · rename_i off size pc hpl hpc
      cases hb : (Nat.beq pc.length size && Nat.ble (off + size) cells.length) with
      | false => simp [hb] at h
      | true =>
        simp only [hb, cond_true] at h
        simp only [Bool.and_eq_true] at hb
        have h1 : pc.length = size := Nat.eq_of_beq_eq_true hb.1
        have h2 : off + size ≤ cells.length := Nat.le_of_ble_eq_true hb.2
        have hpcr := cellsPV_sound hpc hpx
        have hvl : v.cells.size = size := by have := hpcr.length; simp at this; omega
        have hcl : cs.size = cells.length := by have := hc.length; simpa using this
        have hfold := foldl_set_eq off v.cells.toList 0 cs (by simp; omega)
        have hz : v.cells.zipIdx.foldl (fun cs (c, j) => cs.setIfInBounds (off + j) c) cs = (v.cells.toList.zipIdx 0).foldl (fun cs (c, j) => cs.setIfInBounds (off + j) c) cs := by
          rw [← Array.foldl_toList]
          simp
        have hrep : RepAll P M s (splice cells off pc) (v.cells.zipIdx.foldl (fun cs (c, j) => cs.setIfInBounds (off + j) c) cs).toList := by
          rw [hz, hfold]
          simpa using splice_rep hc hpcr off
        obtain ⟨cs', hf, ho⟩ := fillPV_sound h hrep hi hrest
        refine ⟨cs', ?_, ho⟩
        simp only [Instr.fill, hpl]
        rw [if_neg (by simp [hvl]; omega)]
        exact hf
    · cases h

def zeroPV (ti : TInfo) : List PV := ti.zero.cells.toList.map constPV

theorem zeroPV_rep {P : Program} {M : Mem} {s : Bool} (l : List Value) : RepAll P M s (l.map constPV) l := by
  induction l with
  | nil => simp [RepAll]
  | cons v l ih => simp only [List.map_cons, RepAll]; exact ⟨v, l, rfl, Rep.constPV v, ih⟩

/-- Where a struct's fields lie. -/
def places (T : TT) : List Field → Option (List (Nat × Nat))
  | [] => some []
  | f :: fs => match T.get f.type, places T fs with
    | some ti, some l => some ((f.offset, ti.size) :: l)
    | _, _ => none

theorem places_run {P : Program} {T : TT} (hT : T.Ok P) (w : World) : ∀ {fs : List Field} {l : List (Nat × Nat)}, places T fs = some l →
    (fs.mapM fun f => (do pure (f.offset, ← sizeOf f.type) : Sem (Nat × Nat))).run P w = .ok l w
  | [], l, h => by simp only [places, Option.some.injEq] at h; subst h; simp
  | f :: fs, l, h => by
    simp only [places] at h
    split at h
    · rename_i ti l' h1 h2
      simp only [Option.some.injEq] at h
      subst h
      have ih := places_run hT w h2
      rw [List.mapM_cons]
      simp only [Sem.run_bind, (hT.get h1).rsize w, Result.andThen_ok, Sem.run_pure, ih]
    · cases h

def evParts (ev : Operand → PV) (ps : Array (Nat × Operand)) : List (Nat × PV) := ps.toList.map fun p => (p.1, ev p.2)

def buildPV (T : TT) (t : TypeId) (parts : List (Nat × PV)) : Option PV :=
  match T.get t with
  | some ti => match ti.desc with
    | .struct fs => match places T fs.toList with
      | some l => (fillPV (fun (i : Nat) => l[i]?) (zeroPV ti) parts).map .agg
      | none => none
    | _ => none
  | none => none

theorem evParts_rep {P : Program} {M : Mem} {s : Bool} {ev : Operand → PV} {ρ : Operand → Value} (ps : List (Nat × Operand)) (h : ∀ x ∈ ps.map (·.2), Rep P M s (ev x) (ρ x)) :
    (ps.map fun p => (p.1, ev p.2)).map (·.1) = (ps.map fun p => (p.1, ρ p.2)).map (·.1) ∧ RepAll P M s ((ps.map fun p => (p.1, ev p.2)).map (·.2)) ((ps.map fun p => (p.1, ρ p.2)).map (·.2)) := by
  induction ps with
  | nil => simp [RepAll]
  | cons p ps ih =>
    have ih' := ih fun x hx => h x (by simp only [List.map_cons, List.mem_cons]; exact .inr hx)
    refine ⟨by simp, ?_⟩
    simp only [List.map_cons, RepAll]
    exact ⟨_, _, rfl, h p.2 (by simp), ih'.2⟩

theorem map_pairs (ρ : Operand → Value) (ps : Array (Nat × Operand)) : (ps.map fun (i, x) => (i, ρ x)) = ps.map fun p => (p.1, ρ p.2) := rfl

theorem buildPV_sound {P : Program} {T : TT} (hT : T.Ok P) {M : Mem} {s : Bool} {ev : Operand → PV} {ρ : Operand → Value} (w : World) {t : TypeId} {ps : Array (Nat × Operand)} {r : PV}
    (h : buildPV T t (evParts ev ps) = some r) (he : ∀ x ∈ ps.toList.map (·.2), Rep P M s (ev x) (ρ x)) :
    ∃ v, (Instr.build t (ps.map fun p => (p.1, ρ p.2))).run P w = .ok v w ∧ Rep P M s r v := by
  unfold buildPV at h
  split at h
  · rename_i ti hti
    have hk := hT.get hti
    split at h
    · rename_i fs hfs
      split at h
      · rename_i l hl
        cases hf : fillPV (fun (i : Nat) => l[i]?) (zeroPV ti) (evParts ev ps) with
        | none => simp [hf] at h
        | some out =>
          simp only [hf, Option.map_some, Option.some.injEq] at h
          subst h
          obtain ⟨h1, h2⟩ := evParts_rep (P := P) (M := M) (s := s) ps.toList he
          have hu := hk.rund w
          rw [hfs] at hu
          obtain ⟨cs', hfill, hrep⟩ := fillPV_sound (s := s) (cs := ti.zero.cells) (vals := ps.toList.map fun (p : Nat × Operand) => (p.1, ρ p.2)) hf (zeroPV_rep _) h1 h2
          refine ⟨.agg cs', ?_, by simp only [Rep]; exact ⟨cs', rfl, hrep⟩⟩
          have hpl : (fs.mapM fun f => (do pure (f.offset, ← sizeOf f.type) : Sem (Nat × Nat))).run P w = .ok l.toArray w := by
            rw [Array.mapM_eq_mapM_toList, Sem.run_map, places_run hT w hl]
            rfl
          have hgl : (fun (i : Nat) => l.toArray[i]?) = fun (i : Nat) => l[i]? := by funext i; simp
          simp only [Instr.build, Sem.run_bind, hk.rzero w, Result.andThen_ok, hu, hpl, Array.toList_map]
          have e3 : Instr.fill (fun (i : Nat) => l.toArray[i]?) ti.zero.cells (ps.toList.map fun p => (p.1, ρ p.2)) = some cs' := by rw [hgl]; exact hfill
          rw [e3]
          rfl
      · cases h
    · cases h
  · cases h

/-- The rows of a slice literal. -/
def fillRows (size : Nat) (rows : List (List PV)) : List (Nat × PV) → Option (List (List PV))
  | [] => some rows
  | (i, p) :: r => match cellsPV p with
    | some cs => bif Nat.beq cs.length size && Nat.blt i rows.length then fillRows size (rows.set i cs) r else none
    | none => none

def frozenPV : PV → Bool
  | .any | .box _ _ _ | .own _ _ _ | .optr _ _ _ _ _ | .agg _ | .tup _ => false
  | .fn _ caps => caps.isEmpty
  | _ => true

end Go.Ab
