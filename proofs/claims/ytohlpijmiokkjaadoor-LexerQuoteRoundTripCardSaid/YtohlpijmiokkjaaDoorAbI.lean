/- The abstract layer, part I: slice literals, calls, appends, own slices, as steps of a walk. -/
import Derived.Test.YtohlpijmiokkjaaDoorAbH
namespace Go.Ab

def chunks (k : Nat) : Nat → List PV → List (List PV)
  | 0, _ => []
  | n + 1, l => l.take k :: chunks k n (l.drop k)

theorem chunks_flat (k : Nat) : ∀ (n : Nat) (l : List PV), l.length = n * k → (chunks k n l).flatten = l ∧ (chunks k n l).length = n ∧ ∀ r ∈ chunks k n l, r.length = k
  | 0, l, h => by
    have : l = [] := List.eq_nil_of_length_eq_zero (by simpa using h)
    subst this
    simp [chunks]
  | n + 1, l, h => by
    have hl : k ≤ l.length := by rw [h, Nat.add_mul]; omega
    obtain ⟨h1, h2, h3⟩ := chunks_flat k n (l.drop k) (by simp [h, Nat.add_mul])
    refine ⟨by simp [chunks, h1], by simp [chunks, h2], fun r hr => ?_⟩
    simp only [chunks, List.mem_cons] at hr
    rcases hr with rfl | hr
    · simp; omega
    · exact h3 r hr

theorem rep_flat_get {α : Type} (l : List α) : ∀ (n j : Nat), j < n * l.length → (List.replicate n l).flatten[j]? = l[j % l.length]?
  | 0, j, h => by simp at h
  | n + 1, j, h => by
    simp only [List.replicate_succ, List.flatten_cons]
    by_cases hj : j < l.length
    · rw [List.getElem?_append_left hj, Nat.mod_eq_of_lt hj]
    · have hlen : l.length ≤ j := by omega
      rw [List.getElem?_append_right hlen, rep_flat_get l n (j - l.length) (by rw [Nat.add_mul] at h; omega)]
      rw [← Nat.mod_eq_sub_mod hlen]

theorem zeros_eq (z : Array Value) (n : Nat) : ((Array.range (n * z.size)).map (z[· % z.size]!)).toList = (List.replicate n z.toList).flatten := by
  apply List.ext_getElem?
  intro j
  by_cases hj : j < n * z.size
  · rw [rep_flat_get z.toList n j (by simpa using hj)]
    have hz : 0 < z.size := by
      rcases Nat.eq_zero_or_pos z.size with h | h
      · rw [h] at hj; simp at hj
      · exact h
    have hm : j % z.size < z.size := Nat.mod_lt _ hz
    simp [hj, hm]
  · have h1 : ((Array.range (n * z.size)).map (z[· % z.size]!)).toList.length ≤ j := by simp; omega
    have h2 : (List.replicate n z.toList).flatten.length ≤ j := by simp; omega
    rw [List.getElem?_eq_none h1, List.getElem?_eq_none h2]

theorem repAll_flat {P : Program} {M : Mem} {s : Bool} {ps : List PV} {xs : List Value} (h : RepAll P M s ps xs) : ∀ n, RepAll P M s (List.replicate n ps).flatten (List.replicate n xs).flatten
  | 0 => by simp [RepAll]
  | n + 1 => by
    simp only [List.replicate_succ, List.flatten_cons]
    exact h.append (repAll_flat h n)

/-- The rows of a slice literal. -/
def bsRows (T : TT) (e : TypeId) (n : Nat) (parts : List (Nat × PV)) : Option (List (List PV)) :=
  match T.get e with
  | some ei => match fillPV (fun i => some (i * ei.size, ei.size)) (List.replicate n (zeroPV ei)).flatten parts with
    | some out => match forceL out with
      | some out => bif PV.frozL out && out.all PV.one && Nat.beq (zeroPV ei).length ei.size && Nat.blt 0 ei.size && Nat.ble (n * ei.size) 16777216 && Nat.ble (n * ei.bytes) 140737488355328 then some (chunks ei.size n out) else none
      | none => none
    | none => none
  | none => none

section
variable {P : Program} {T : TT} (hT : T.Ok P)
include hT

theorem bs_run {t e : TypeId} {ti : TInfo} (hti : T.get t = some ti) (hd : ti.desc = .slice e) {n : Nat} {ps : Array (Nat × Operand)} {rows : List (List PV)} {ev : Operand → PV} {ρ : Operand → Value} (h : bsRows T e n (evParts ev ps) = some rows)
    {M : Mem} (w : World) (he : ∀ x ∈ ps.toList.map (·.2), Rep P M true (ev x) (ρ x)) :
    ∃ i cs, P.info? e = some i ∧ (Instr.buildSlice t n (ps.map fun p => (p.1, ρ p.2))).run P w = .ok (.slice (some ⟨w.heap.size, 0, none⟩) n n) (w.alloc (.cells cs e)) ∧
      RepAll P M false rows.flatten cs.toList ∧ (∀ v ∈ cs.toList, v.oneCell' = true) ∧ rows.length = n ∧ (∀ r ∈ rows, r.length = i.size) ∧ cs.size = n * i.size ∧ n * i.bytes ≤ 2 ^ 47 ∧ n ≤ 16777216 := by
  unfold bsRows at h
  split at h
  · rename_i ei hei
    split at h
    · rename_i out hf
      rw [forceL_eq] at h
      simp only at h
      generalize hc : (PV.frozL out && out.all PV.one && Nat.beq (zeroPV ei).length ei.size && Nat.blt 0 ei.size && Nat.ble (n * ei.size) 16777216 && Nat.ble (n * ei.bytes) 140737488355328) = c at h
      cases c with
      | false => simp at h
      | true =>
        simp only [cond_true, Option.some.injEq] at h
        subst h
        simp only [Bool.and_eq_true] at hc
        obtain ⟨⟨⟨⟨⟨c1, c2⟩, c3⟩, c6⟩, c4⟩, c5⟩ := hc
        have c3 := Nat.eq_of_beq_eq_true c3
        have c4 := Nat.le_of_ble_eq_true c4
        have c5 := Nat.le_of_ble_eq_true c5
        have c6 : 0 < ei.size := by simpa [Nat.blt_eq] using c6
        obtain ⟨i, hi, hs, hby, hz⟩ := (hT.get hei).info
        have hzl : ei.zero.cells.size = ei.size := by simpa [zeroPV] using c3
        obtain ⟨h1, h2⟩ := evParts_rep (P := P) (M := M) (s := true) ps.toList he
        have hinit : RepAll P M true (List.replicate n (zeroPV ei)).flatten ((Array.range (n * ei.zero.cells.size)).map (ei.zero.cells[· % ei.zero.cells.size]!)).toList := by
          rw [zeros_eq]
          exact repAll_flat (zeroPV_rep _) n
        obtain ⟨cs, hfill, hrep⟩ := fillPV_sound (s := true) (vals := ps.toList.map fun (p : Nat × Operand) => (p.1, ρ p.2)) hf hinit h1 h2
        have hlen : out.length = n * ei.size := by
          have hl := hrep.length
          have hfl : ∀ {parts : List (Nat × PV)} {cells out : List PV}, fillPV (fun i => some (i * ei.size, ei.size)) cells parts = some out → out.length = cells.length := by
            intro parts
            induction parts with
            | nil => intro cells out h; simp only [fillPV, Option.some.injEq] at h; rw [h]
            | cons q r ih =>
              intro cells out h
              obtain ⟨j, p⟩ := q
              simp only [fillPV] at h
              split at h
              · rename_i off size pc hpl hpc
                generalize hb : (Nat.beq pc.length size && Nat.ble (off + size) cells.length) = b at h
                cases b with
                | false => simp at h
                | true =>
                  simp only [cond_true] at h
                  simp only [Bool.and_eq_true] at hb
                  have h1 := Nat.eq_of_beq_eq_true hb.1
                  have h2 := Nat.le_of_ble_eq_true hb.2
                  rw [ih h]
                  simp [splice]; omega
              · cases h
          rw [hfl hf]
          simp [c3]
        obtain ⟨f1, f2, f3⟩ := chunks_flat ei.size n out hlen
        have hone := RepAll.oneCell c2 hrep
        have hcs : cs.size = n * ei.size := by have := hrep.length; simp at this; omega
        refine ⟨i, cs, hi, ?_, by rw [f1]; exact RepAll.unslot c1 hrep, hone, f2, by rw [hs]; exact f3, by rw [hs]; exact hcs, by rw [hby]; exact c5, ?_⟩
        · have hu := (hT.get hti).rund w
          rw [hd] at hu
          have hb : ¬ (n * ei.size > 2 ^ 24) := by omega
          have hsz := (hT.get hei).rsize w
          have hzr := (hT.get hei).rzero w
          by_cases h0 : n * ei.size = 0
          · have hn0 : n = 0 := by rcases Nat.mul_eq_zero.1 h0 with h | h <;> omega
            subst hn0
            have e1 : ((Array.range (0 * ei.zero.cells.size)).map (ei.zero.cells[· % ei.zero.cells.size]!)) = #[] := by simp
            rw [e1] at hfill
            have e2 : ((Array.range (0 * ei.size)).map ((#[] : Array Value)[· % (#[] : Array Value).size]!)) = #[] := by simp
            simp only [Instr.buildSlice, Sem.run_bind, hu, Result.andThen_ok, hsz, Array.toList_map]
            rw [if_neg hb, if_pos h0]
            simp only [Sem.run_bind, Sem.run_pure, Result.andThen_ok]
            rw [e2, hfill]
            simp [newRow]
          · rw [hzl] at hfill
            simp only [Instr.buildSlice, Sem.run_bind, hu, Result.andThen_ok, hsz, hb, if_false, h0, hzr, Sem.run_pure, Array.toList_map, hzl]
            rw [hfill]
            simp [newRow]
        · have := Nat.le_mul_of_pos_right n c6; omega
    · cases h
  · cases h

/-- A slice literal that nobody will write: frozen at once. -/
theorem eff_bsF {o : Oper} {ev : Operand → PV} {H : Heap} {t e : TypeId} {n : Nat} {ps : Array (Nat × Operand)} (ho : o.op = .buildSlice t n ps) {ti : TInfo} (hti : T.get t = some ti) (hd : ti.desc = .slice e) {rows : List (List PV)}
    (h : bsRows T e n (evParts ev ps) = some rows) : DetOk P o ev H (.list e rows) := by
  intro C M a w hi he
  obtain ⟨i, cs, hinf, hrun, hrep, hone, hlen, hrl, hcs, hby, hn⟩ := bs_run hT hti hd h w (fun x hx => he x (by rw [ho]; simpa [Op.operands] using hx))
  have hle := hi.add_le cs
  refine ⟨.slice (some ⟨w.heap.size, 0, none⟩) n n, M.add w.heap.size cs, w.alloc (.cells cs e), ?_, hle, hi.alloc_frozen cs e, ?_⟩
  · simp only [execOp, ho, Sem.run_bind, hrun]
    rfl
  · simp only [Rep]
    refine ⟨_, n, i, by rw [hlen], by omega, by unfold maxLen; omega, hinf, by rw [hlen]; exact hby, fun _ => ⟨_, _, rfl, ?_⟩⟩
    exact RepRows.of_flat hrl (repAt_add hi rows.flatten cs hone hrep)

/-- A slice literal of the call's own. -/
theorem eff_bsO {o : Oper} {ev : Operand → PV} {H : Heap} {t e : TypeId} {n : Nat} {ps : Array (Nat × Operand)} (ho : o.op = .buildSlice t n ps) (tag : Nat) {ti : TInfo} (hti : T.get t = some ti) (hd : ti.desc = .slice e) {rows : List (List PV)}
    (h : bsRows T e n (evParts ev ps) = some rows) {K : PV → Heap → Prop} (hk : ∀ g, K (.own tag g n) ⟨H.bx, upd H.ob tag (some ⟨g, e, rows, true⟩)⟩) : Eff P o ev H K := by
  intro C M a w next Q hi he hn
  obtain ⟨i, cs, hinf, hrun, hrep, hone, hlen, hrl, hcs, hby, hn16⟩ := bs_run hT hti hd h w (fun x hx => he x (by rw [ho]; simpa [Op.operands] using hx))
  unfold Oper.wp
  have hrun' : (execOp a.eval o).run P w = .ok (.value (.slice (some ⟨w.heap.size, 0, none⟩) n n)) (w.alloc (.cells cs e)) := by
    simp only [execOp, ho, Sem.run_bind, hrun]
    rfl
  rw [hrun']
  have htake : cs.toList.take (rows.length * i.size) = cs.toList := List.take_of_length_le (by rw [hlen]; simp [hcs])
  refine hn _ _ _ M _ (hk ⟨some w.heap.size, n⟩) (Mem.le_refl M) (hi.alloc_obj tag e rows true n cs i hinf (by rw [hlen]; exact hby) hrl hcs (by omega) (by unfold maxLen; omega) (by rw [htake]; exact hrep) (by rw [htake]; exact hone)) ?_
  simp [Rep, OwnRef.val]
end

section
variable {P : Program} {ops : Array Oper} {rest : List Oper} {o : Oper} {n : Nat} {s s' : Nat → PV} {bx : Nat → Option Box} {ob : Nat → Option Obj} {K : PState → Prop} {T : TT}

theorem AOps.bsF (hT : T.Ok P) (hg : guardA ops s o = some true) {t e : TypeId} {m : Nat} {ps : Array (Nat × Operand)} (ho : o.op = .buildSlice t m ps) {ti : TInfo} (hti : T.get t = some ti) (hd : ti.desc = .slice e) {rows : List (List PV)}
    (hr : bsRows T e m (evParts (evS s) ps) = some rows) (hp : putD n s o.dst (.list e rows) = some s') (h : AOps P ops rest ⟨n, s', bx, ob⟩ K) : AOps P ops (o :: rest) ⟨n, s, bx, ob⟩ K :=
  AOps.eff hg ((Eff.of_det (eff_bsF hT (H := ⟨bx, ob⟩) ho hti hd hr)).mono fun u H' ⟨hu, hH⟩ => by subst hu; subst hH; exact ⟨s', hp, h⟩)

theorem AOps.bsO (hT : T.Ok P) (hg : guardA ops s o = some true) {t e : TypeId} {m : Nat} {ps : Array (Nat × Operand)} (ho : o.op = .buildSlice t m ps) {d : Nat} (hdst : o.dst = some d) (hlt : Nat.blt d n = true) {ti : TInfo} (hti : T.get t = some ti) (hd : ti.desc = .slice e) {rows : List (List PV)}
    (hr : bsRows T e m (evParts (evS s) ps) = some rows) (h : ∀ g, AOps P ops rest ⟨n, upd s d (.own d g m), bx, upd ob d (some ⟨g, e, rows, true⟩)⟩ K) : AOps P ops (o :: rest) ⟨n, s, bx, ob⟩ K :=
  AOps.eff hg (eff_bsO hT ho d hti hd hr fun g => ⟨_, by simp [hdst, putD, hlt], h g⟩)

/-- A call whose result is known. -/
theorem AOps.callP (hg : guardA ops s o = some true) {fx : Operand} {as : Array Operand} {ts : Array TypeId} (ho : o.op = .call { callee := .value fx, args := as, argTypes := ts }) {g : FuncId} {caps : List PV}
    (hf : evS s fx = .fn g caps) (hcall : ∀ vs w, (callFunc g vs).run P w = .ok (.enter g vs) w) {args : List PV} (hle : PLeAll P (as.toList.map (evS s) ++ caps) args) {r : PV} (hc : PFun P g args r)
    (hp : putD n s o.dst r = some s') (h : AOps P ops rest ⟨n, s', bx, ob⟩ K) : AOps P ops (o :: rest) ⟨n, s, bx, ob⟩ K :=
  AOps.eff hg (eff_callP ho hf hcall hle hc ⟨s', hp, h⟩)

/-- A call that hands back a slice of the caller's own. -/
theorem AOps.callO (hg : guardA ops s o = some true) {fx : Operand} {as : Array Operand} {ts : Array TypeId} (ho : o.op = .call { callee := .value fx, args := as, argTypes := ts }) {g : FuncId} {caps : List PV}
    (hf : evS s fx = .fn g caps) (hcall : ∀ vs w, (callFunc g vs).run P w = .ok (.enter g vs) w) {args : List PV} (hle : PLeAll P (as.toList.map (evS s) ++ caps) args) {d : Nat} (hd : o.dst = some d) (hlt : Nat.blt d n = true) {e : TypeId} {rows : List (List PV)} (hc : PCalls P g args (OwnR d e rows))
    (h : ∀ q, AOps P ops rest ⟨n, upd s d (.own d q rows.length), bx, upd ob d (some ⟨q, e, rows, true⟩)⟩ K) : AOps P ops (o :: rest) ⟨n, s, bx, ob⟩ K :=
  AOps.eff hg (eff_call ho hf hcall hle hc fun u H' ⟨q, hu, hH⟩ => by
    subst hu
    subst hH
    rw [Heap.over_one]
    exact ⟨_, by simp [hd, putD, hlt], h q⟩)

/-- An element of a frozen slice, at an index that is in range. -/
theorem AOps.idx (hT : T.Ok P) (hg : guardA ops s o = some true) {t : TypeId} {x i : Operand} (ho : o.op = .indexAddr t x i) {ti : TInfo} (hti : T.get t = some ti) {e : TypeId} (hd : ti.desc = .slice e) {rows : List (List PV)} (hx : evS s x = .list e rows) {k : IntKind} {j : Int}
    (hi : evS s i = .val (.int k j)) {r : List PV} (h0 : 0 ≤ j) (hr : rows[j.toNat]? = some r) (hp : putD n s o.dst (.ptr r) = some s') (h : AOps P ops rest ⟨n, s', bx, ob⟩ K) : AOps P ops (o :: rest) ⟨n, s, bx, ob⟩ K := by
  refine AOps.det hT hg (r := .ptr r) ?_ hp h
  rw [ho]
  simp [det0, hti, hx, hi, hd, h0, hr]

/-- A byte of a string, at an index that is in range. -/
theorem AOps.idxS (hT : T.Ok P) (hg : guardA ops s o = some true) {t : TypeId} {x i : Operand} (ho : o.op = .index t x i) {ti : TInfo} (hti : T.get t = some ti) (hd : ti.desc = .string) {l : List UInt8} (hx : evS s x = .str l) {k : IntKind} {j : Int}
    (hi : evS s i = .val (.int k j)) {c : UInt8} (h0 : 0 ≤ j) (hr : l[j.toNat]? = some c) (hp : putD n s o.dst (.val (.int .u8 c.toNat)) = some s') (h : AOps P ops rest ⟨n, s', bx, ob⟩ K) : AOps P ops (o :: rest) ⟨n, s, bx, ob⟩ K := by
  refine AOps.det hT hg (r := .val (.int .u8 c.toNat)) ?_ hp h
  rw [ho]
  simp [det0, hti, hx, hi, hd, h0, hr]

/-- A quiet operation whose value is shown by hand. -/
theorem AOps.by (hT : T.Ok P) (hg : guardA ops s o = some true) {r : PV} (hd : det0 T bx o.op (evS s) = some r) (hp : putD n s o.dst r = some s') (h : AOps P ops rest ⟨n, s', bx, ob⟩ K) : AOps P ops (o :: rest) ⟨n, s, bx, ob⟩ K := AOps.det hT hg hd hp h
end
end Go.Ab
