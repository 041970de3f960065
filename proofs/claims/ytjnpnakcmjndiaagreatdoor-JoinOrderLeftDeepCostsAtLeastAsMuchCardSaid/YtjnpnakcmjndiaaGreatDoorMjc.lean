/- The abstract layer, part I: slice literals, calls, appends, own slices, asQ steps of a walk. -/
import Derived.Test.YtjnpnakcmjndiaaGreatDoorMjb
namespace Go.Ab

def chunks (k : Nat) : Nat → List PV → List (List PV)
  | 0, _ => []
  | n + 1, l => l.take k :: chunks k n (l.drop k)

theorem chunks_flat (k : Nat) : ∀ (n : Nat) (l : List PV), l.length = n * k → (chunks k n l).flatten = l ∧ (chunks k n l).length = n ∧ ∀ r ∈ chunks k n l, r.length = k
  | 0, l, h => by
    have : l = [] := List.eq_nil_of_length_eq_zero (by simpa using h)
    subst this
    simp [chunks]
  | n + 1, l, h => by
    have hl : k ≤ l.length := by rw [h, Nat.add_mul]; omega
    obtain ⟨h1, h2, h3⟩ := chunks_flat k n (l.drop k) (by simp [h, Nat.add_mul])
    refine ⟨by simp [chunks, h1], by simp [chunks, h2], fun r hr => ?_⟩
    simp only [chunks, List.mem_cons] at hr
    rcases hr with rfl | hr
    · simp; omega
    · exact h3 r hr

theorem rep_flat_get {α : Type} (l : List α) : ∀ (n j : Nat), j < n * l.length → (List.replicate n l).flatten[j]? = l[j % l.length]?
  | 0, j, h => by simp at h
  | n + 1, j, h => by
    simp only [List.replicate_succ, List.flatten_cons]
    by_cases hj : j < l.length
    · rw [List.getElem?_append_left hj, Nat.mod_eq_of_lt hj]
    · have hlen : l.length ≤ j := by omega
      rw [List.getElem?_append_right hlen, rep_flat_get l n (j - l.length) (by rw [Nat.add_mul] at h; omega)]
      rw [← Nat.mod_eq_sub_mod hlen]

theorem zeros_eq (z : Array Value) (n : Nat) : ((Array.range (n * z.size)).map (z[· % z.size]!)).toList = (List.replicate n z.toList).flatten := by
  apply List.ext_getElem?
  intro j
  by_cases hj : j < n * z.size
  · rw [rep_flat_get z.toList n j (by simpa using hj)]
    have hz : 0 < z.size := by
      rcases Nat.eq_zero_or_pos z.size with h | h
      · rw [h] at hj; simp at hj
      · exact h
    have hm : j % z.size < z.size := Nat.mod_lt _ hz
    simp [hj, hm]
  · have h1 : ((Array.range (n * z.size)).map (z[· % z.size]!)).toList.length ≤ j := by simp; omega
    have h2 : (List.replicate n z.toList).flatten.length ≤ j := by simp; omega
    rw [List.getElem?_eq_none h1, List.getElem?_eq_none h2]

theorem repAll_flat {P : Program} {M : Mem} {s : Bool} {ps : List PV} {xs : List Value} (h : RepAll P M s ps xs) : ∀ n, RepAll P M s (List.replicate n ps).flatten (List.replicate n xs).flatten
  | 0 => by simp [RepAll]
  | n + 1 => by
    simp only [List.replicate_succ, List.flatten_cons]
    exact h.append (repAll_flat h n)

/-- The rows of a slice literal. -/
def bsRows (T : TT) (e : TypeId) (n : Nat) (parts : List (Nat × PV)) : Option (List (List PV)) :=
  match T.get e with
  | some ei => match fillPV (fun i => some (i * ei.size, ei.size)) (List.replicate n (zeroPV ei)).flatten parts with
    | some out => match forceL out with
      | some out => bif PV.frozL out && out.all PV.one && Nat.beq (zeroPV ei).length ei.size && Nat.blt 0 ei.size && Nat.ble (n * ei.size) 16777216 && Nat.ble (n * ei.bytes) 140737488355328 then some (chunks ei.size n out) else none
      | none => none
    | none => none
  | none => none

section
variable {P : Program} {T : TT} (hT : T.Ok P)
include hT

theorem bs_run {t e : TypeId} {ti : TInfo} (hti : T.get t = some ti) (hd : ti.desc = .slice e) {n : Nat} {ps : Array (Nat × Operand)} {rows : List (List PV)} {ev : Operand → PV} {ρ : Operand → Value} (h : bsRows T e n (evParts ev ps) = some rows)
    {M : Mem} (w : World) (he : ∀ x ∈ ps.toList.map (·.2), Rep P M true (ev x) (ρ x)) :
    ∃ i cs, P.info? e = some i ∧ (Instr.buildSlice t n (ps.map fun p => (p.1, ρ p.2))).run P w = .ok (.slice (some ⟨w.heap.size, 0, none⟩) n n) (w.alloc (.cells cs e)) ∧
      RepAll P M false rows.flatten cs.toList ∧ (∀ v ∈ cs.toList, v.oneCell' = true) ∧ rows.length = n ∧ (∀ r ∈ rows, r.length = i.size) ∧ cs.size = n * i.size ∧ n * i.bytes ≤ 2 ^ 47 ∧ n ≤ 16777216 := by
  unfold bsRows at h
  split at h
  · rename_i ei hei
    split at h
    · rename_i out hf
      rw [forceL_eq] at h
      simp only at h
      generalize hc : (PV.frozL out && out.all PV.one && Nat.beq (zeroPV ei).length ei.size && Nat.blt 0 ei.size && Nat.ble (n * ei.size) 16777216 && Nat.ble (n * ei.bytes) 140737488355328) = c at h
      cases c with
      | false => simp at h
      | true =>
        simp only [cond_true, Option.some.injEq] at h
        subst h
        simp only [Bool.and_eq_true] at hc
        obtain ⟨⟨⟨⟨⟨c1, c2⟩, c3⟩, c6⟩, c4⟩, c5⟩ := hc
        have c3 := Nat.eq_of_beq_eq_true c3
        have c4 := Nat.le_of_ble_eq_true c4
        have c5 := Nat.le_of_ble_eq_true c5
        have c6 : 0 < ei.size := by simpa [Nat.blt_eq] using c6
        obtain ⟨i, hi, hs, hby, hz⟩ := (hT.get hei).info
        have hzl : ei.zero.cells.size = ei.size := by simpa [zeroPV] using c3
        obtain ⟨h1, h2⟩ := evParts_rep (P := P) (M := M) (s := true) ps.toList he
        have hinit : RepAll P M true (List.replicate n (zeroPV ei)).flatten ((Array.range (n * ei.zero.cells.size)).map (ei.zero.cells[· % ei.zero.cells.size]!)).toList := by
          rw [zeros_eq]
          exact repAll_flat (zeroPV_rep _) n
        obtain ⟨cs, hfill, hrep⟩ := fillPV_sound (s := true) (vals := ps.toList.map fun (p : Nat × Operand) => (p.1, ρ p.2)) hf hinit h1 h2
        have hlen : out.length = n * ei.size := by
          have hl := hrep.length
          have hfl : ∀ {parts : List (Nat × PV)} {cells out : List PV}, fillPV (fun i => some (i * ei.size, ei.size)) cells parts = some out → out.length = cells.length := by
            intro parts
            induction parts with
            | nil => intro cells out h; simp only [fillPV, Option.some.injEq] at h; rw [h]
            | cons q r ih =>
              intro cells out h
              obtain ⟨j, p⟩ := q
              simp only [fillPV] at h
              split at h
              · rename_i off size pc hpl hpc
                generalize hb : (Nat.beq pc.length size && Nat.ble (off + size) cells.length) = b at h
                cases b with
                | false => simp at h
                | true =>
                  simp only [cond_true] at h
                  simp only [Bool.and_eq_true] at hb
                  have h1 := Nat.eq_of_beq_eq_true hb.1
                  have h2 := Nat.le_of_ble_eq_true hb.2
                  rw [ih h]
                  simp [splice]; omega
              · cases h
          rw [hfl hf]
          simp [c3]
        obtain ⟨f1, f2, f3⟩ := chunks_flat ei.size n out hlen
        have hone := RepAll.oneCell c2 hrep
        have hcs : cs.size = n * ei.size := by have := hrep.length; simp at this; omega
        refine ⟨i, cs, hi, ?_, by rw [f1]; exact RepAll.unslot c1 hrep, hone, f2, by rw [hs]; exact f3, by rw [hs]; exact hcs, by rw [hby]; exact c5, ?_⟩
        · have hu := (hT.get hti).rund w
          rw [hd] at hu
          have hb : ¬ (n * ei.size > 2 ^ 24) := by omega
          have hsz := (hT.get hei).rsize w
          have hzr := (hT.get hei).rzero w
          by_cases h0 : n * ei.size = 0
          · have hn0 : n = 0 := by rcases Nat.mul_eq_zero.1 h0 with h | h <;> omega
            subst hn0
            have e1 : ((Array.range (0 * ei.zero.cells.size)).map (ei.zero.cells[· % ei.zero.cells.size]!)) = #[] := by simp
            rw [e1] at hfill
            have e2 : ((Array.range (0 * ei.size)).map ((#[] : Array Value)[· % (#[] : Array Value).size]!)) = #[] := by simp
            simp only [Instr.buildSlice, Sem.run_bind, hu, Result.andThen_ok, hsz, Array.toList_map]
            rw [if_neg hb, if_pos h0]
            simp only [Sem.run_bind, Sem.run_pure, Result.andThen_ok]
            rw [e2, hfill]
            simp [newRow]
          · rw [hzl] at hfill
            simp only [Instr.buildSlice, Sem.run_bind, hu, Result.andThen_ok, hsz, hb, if_false, h0, hzr, Sem.run_pure, Array.toList_map, hzl]
            rw [hfill]
            simp [newRow]
        · have := Nat.le_mul_of_pos_right n c6; omega
    · cases h
  · cases h

/-- A slice literal that nobody will write: frozen at once. -/
theorem eff_bsF {o : Oper} {ev : Operand → PV} {H : Heap} {t e : TypeId} {n : Nat} {ps : Array (Nat × Operand)} (ho : o.op = .buildSlice t n ps) {ti : TInfo} (hti : T.get t = some ti) (hd : ti.desc = .slice e) {rows : List (List PV)}
    (h : bsRows T e n (evParts ev ps) = some rows) : DetOk P o ev H (.list e rows) := by
  intro C M a w hi he
  obtain ⟨i, cs, hinf, hrun, hrep, hone, hlen, hrl, hcs, hby, hn⟩ := bs_run hT hti hd h w (fun x hx => he x (by rw [ho]; simpa [Op.operands] using hx))
  have hle := hi.add_le cs
  refine ⟨.slice (some ⟨w.heap.size, 0, none⟩) n n, M.add w.heap.size cs, w.alloc (.cells cs e), ?_, hle, hi.alloc_frozen cs e, ?_⟩
  · simp only [execOp, ho, Sem.run_bind, hrun]
    rfl
  · simp only [Rep]
    refine ⟨_, n, i, by rw [hlen], by omega, by unfold maxLen; omega, hinf, by rw [hlen]; exact hby, fun _ => ⟨_, _, rfl, ?_⟩⟩
    exact RepRows.of_flat hrl (repAt_add hi rows.flatten cs hone hrep)

/-- A slice literal of the call's own. -/
theorem eff_bsO {o : Oper} {ev : Operand → PV} {H : Heap} {t e : TypeId} {n : Nat} {ps : Array (Nat × Operand)} (ho : o.op = .buildSlice t n ps) (tag : Nat) {ti : TInfo} (hti : T.get t = some ti) (hd : ti.desc = .slice e) {rows : List (List PV)}
    (h : bsRows T e n (evParts ev ps) = some rows) {K : PV → Heap → Prop} (hk : ∀ g, K (.own tag g n) ⟨H.bx, upd H.ob tag (some ⟨g, e, rows, true⟩)⟩) : Eff P o ev H K := by
  intro C M a w next Q hi he hn
  obtain ⟨i, cs, hinf, hrun, hrep, hone, hlen, hrl, hcs, hby, hn16⟩ := bs_run hT hti hd h w (fun x hx => he x (by rw [ho]; simpa [Op.operands] using hx))
  unfold Oper.wp
  have hrun' : (execOp a.eval o).run P w = .ok (.value (.slice (some ⟨w.heap.size, 0, none⟩) n n)) (w.alloc (.cells cs e)) := by
    simp only [execOp, ho, Sem.run_bind, hrun]
    rfl
  rw [hrun']
  have htake : cs.toList.take (rows.length * i.size) = cs.toList := List.take_of_length_le (by rw [hlen]; simp [hcs])
  refine hn _ _ _ M _ (hk ⟨some w.heap.size, n⟩) (Mem.le_refl M) (hi.alloc_obj tag e rows true n cs i hinf (by rw [hlen]; exact hby) hrl hcs (by omega) (by unfold maxLen; omega) (by rw [htake]; exact hrep) (by rw [htake]; exact hone)) ?_
  simp [Rep, OwnRef.val]
end

section
variable {P : Program} {ops : Array Oper} {rest : List Oper} {o : Oper} {n : Nat} {s s' : Nat → PV} {bx : Nat → Option Box} {ob : Nat → Option Obj} {K : PState → Prop} {T : TT}

theorem AOps.bsF (hT : T.Ok P) (hg : guardA ops s o = some true) {t e : TypeId} {m : Nat} {ps : Array (Nat × Operand)} (ho : o.op = .buildSlice t m ps) {ti : TInfo} (hti : T.get t = some ti) (hd : ti.desc = .slice e) {rows : List (List PV)}
    (hr : bsRows T e m (evParts (evS s) ps) = some rows) (hp : putD n s o.dst (.list e rows) = some s') (h : AOps P ops rest ⟨n, s', bx, ob⟩ K) : AOps P ops (o :: rest) ⟨n, s, bx, ob⟩ K :=
  AOps.eff hg ((Eff.of_det (eff_bsF hT (H := ⟨bx, ob⟩) ho hti hd hr)).mono fun u H' ⟨hu, hH⟩ => by subst hu; subst hH; exact ⟨s', hp, h⟩)

theorem AOps.bsO (hT : T.Ok P) (hg : guardA ops s o = some true) {t e : TypeId} {m : Nat} {ps : Array (Nat × Operand)} (ho : o.op = .buildSlice t m ps) {d : Nat} (hdst : o.dst = some d) (hlt : Nat.blt d n = true) {ti : TInfo} (hti : T.get t = some ti) (hd : ti.desc = .slice e) {rows : List (List PV)}
    (hr : bsRows T e m (evParts (evS s) ps) = some rows) (h : ∀ g, AOps P ops rest ⟨n, upd s d (.own d g m), bx, upd ob d (some ⟨g, e, rows, true⟩)⟩ K) : AOps P ops (o :: rest) ⟨n, s, bx, ob⟩ K :=
  AOps.eff hg (eff_bsO hT ho d hti hd hr fun g => ⟨_, by simp [hdst, putD, hlt], h g⟩)

/-- A call whose result is known. -/
theorem AOps.callP (hg : guardA ops s o = some true) {fx : Operand} {asQ : Array Operand} {ts : Array TypeId} (ho : o.op = .call { callee := .value fx, args := asQ, argTypes := ts }) {g : FuncId} {caps : List PV}
    (hf : evS s fx = .fn g caps) (hcall : ∀ vs w, (callFunc g vs).run P w = .ok (.enter g vs) w) {args : List PV} (hle : PLeAll P (asQ.toList.map (evS s) ++ caps) args) {r : PV} (hc : PFun P g args r)
    (hp : putD n s o.dst r = some s') (h : AOps P ops rest ⟨n, s', bx, ob⟩ K) : AOps P ops (o :: rest) ⟨n, s, bx, ob⟩ K :=
  AOps.eff hg (eff_callP ho hf hcall hle hc ⟨s', hp, h⟩)

/-- A call that hands back a slice of the caller's own. -/
theorem AOps.callO (hg : guardA ops s o = some true) {fx : Operand} {asQ : Array Operand} {ts : Array TypeId} (ho : o.op = .call { callee := .value fx, args := asQ, argTypes := ts }) {g : FuncId} {caps : List PV}
    (hf : evS s fx = .fn g caps) (hcall : ∀ vs w, (callFunc g vs).run P w = .ok (.enter g vs) w) {args : List PV} (hle : PLeAll P (asQ.toList.map (evS s) ++ caps) args) {d : Nat} (hd : o.dst = some d) (hlt : Nat.blt d n = true) {e : TypeId} {rows : List (List PV)} (hc : PCalls P g args (OwnR d e rows))
    (h : ∀ q, AOps P ops rest ⟨n, upd s d (.own d q rows.length), bx, upd ob d (some ⟨q, e, rows, true⟩)⟩ K) : AOps P ops (o :: rest) ⟨n, s, bx, ob⟩ K :=
  AOps.eff hg (eff_call ho hf hcall hle hc fun u H' ⟨q, hu, hH⟩ => by
    subst hu
    subst hH
    rw [Heap.over_one]
    exact ⟨_, by simp [hd, putD, hlt], h q⟩)

/-- An element of a frozen slice, at an index that is in range. -/
theorem AOps.idx (hT : T.Ok P) (hg : guardA ops s o = some true) {t : TypeId} {x i : Operand} (ho : o.op = .indexAddr t x i) {ti : TInfo} (hti : T.get t = some ti) {e : TypeId} (hd : ti.desc = .slice e) {rows : List (List PV)} (hx : evS s x = .list e rows) {k : IntKind} {j : Int}
    (hi : evS s i = .val (.int k j)) {r : List PV} (h0 : 0 ≤ j) (hr : rows[j.toNat]? = some r) (hp : putD n s o.dst (.ptr r) = some s') (h : AOps P ops rest ⟨n, s', bx, ob⟩ K) : AOps P ops (o :: rest) ⟨n, s, bx, ob⟩ K := by
  refine AOps.det hT hg (r := .ptr r) ?_ hp h
  rw [ho]
  simp [det0, hti, hx, hi, hd, h0, hr]

/-- A byte of a string, at an index that is in range. -/
theorem AOps.idxS (hT : T.Ok P) (hg : guardA ops s o = some true) {t : TypeId} {x i : Operand} (ho : o.op = .index t x i) {ti : TInfo} (hti : T.get t = some ti) (hd : ti.desc = .string) {l : List UInt8} (hx : evS s x = .str l) {k : IntKind} {j : Int}
    (hi : evS s i = .val (.int k j)) {c : UInt8} (h0 : 0 ≤ j) (hr : l[j.toNat]? = some c) (hp : putD n s o.dst (.val (.int .u8 c.toNat)) = some s') (h : AOps P ops rest ⟨n, s', bx, ob⟩ K) : AOps P ops (o :: rest) ⟨n, s, bx, ob⟩ K := by
  refine AOps.det hT hg (r := .val (.int .u8 c.toNat)) ?_ hp h
  rw [ho]
  simp [det0, hti, hx, hi, hd, h0, hr]

/-- A quiet operation whose value is shown by hand. -/
theorem AOps.by (hT : T.Ok P) (hg : guardA ops s o = some true) {r : PV} (hd : det0 T bx o.op (evS s) = some r) (hp : putD n s o.dst r = some s') (h : AOps P ops rest ⟨n, s', bx, ob⟩ K) : AOps P ops (o :: rest) ⟨n, s, bx, ob⟩ K := AOps.det hT hg hd hp h
end
end Go.Ab
/- The abstract layer, part J: slices of the call's own (append, elements, freezing), weakening, loops, facts on lengths. -/
namespace Go.Ab

section
variable {P : Program} {C : Ctx} {M : Mem} {H : Heap} {w : World}

theorem upd_self {α : Type} (f : Nat → α) (k : Nat) (v : α) (h : f k = v) : upd f k v = f := by
  funext t
  rw [upd_eq]
  split
  · rename_i e; subst e; exact h.symm
  · rfl

/-- The facts on a frozen slice. -/
theorem list_src {e : TypeId} {rows : List (List PV)} {v : Value} (hi : InvH P C M H w) (h : Rep P M true (.list e rows) v) :
    ∃ i sa c news, P.info? e = some i ∧ v = .slice sa rows.length c ∧ rows.length * i.bytes ≤ 2 ^ 47 ∧ news.length = rows.length * i.size ∧ (∀ r ∈ rows, r.length = i.size) ∧
      (rows ≠ [] → ∃ a, sa = some a ∧ ∀ j x, news[j]? = some x → w.cell? (a.add j) = some x) ∧ RepAll P M false rows.flatten news ∧ ∀ x ∈ news, x.oneCell' = true := by
  simp only [Rep] at h
  obtain ⟨a, c, i, rfl, hlc, hcm, hinf, hby, hrows⟩ := h
  by_cases h0 : rows = []
  · subst h0
    exact ⟨i, a, c, [], hinf, rfl, hby, by simp, by simp, by simp, by simp [RepAll], by simp⟩
  · obtain ⟨b, o, rfl, hr⟩ := hrows h0
    obtain ⟨hf, hl⟩ := hr.flat
    obtain ⟨news, h1, h2, h3⟩ := hf.vals
    refine ⟨i, _, c, news, hinf, rfl, hby, by rw [h1.length, hl], hr.lens, fun _ => ⟨_, rfl, fun j x hj => ?_⟩, h1, h2⟩
    rw [add_off]
    exact hi.mem _ _ _ (h3 j x hj)

theorem run_append_zero (t ty e : TypeId) (i : TypeInfo) (ht : P.underlying t = some (.slice e)) (hi : P.info? e = some i) (base sa : Option Addr) (sLen sCap c : Nat) (hle : sLen ≤ sCap) :
    (Builtin.append_ #[t, t] ty #[.slice base sLen sCap, .slice sa 0 c]).run P w = .ok (.slice base sLen sCap) w := by
  cases base <;> cases sa <;> simp [Builtin.append_, run_underlying ht, sizeOf, typeInfo, hi, Builtin.lenOf, hle, Builtin.firstCells, loadCells, loadCellsFrom, storeCells]

theorem append_core (hi : InvH P C M H w) {T : TT} (hT : T.Ok P) {tag : Nat} {x : Obj} (hx : H.ob tag = some x) {t ty : TypeId} {ti ei : TInfo} (hti : T.get t = some ti) (hd : ti.desc = .slice x.e) (hei : T.get x.e = some ei)
    (hz1 : Nat.beq ei.zero.cells.size ei.size = true) (hsz : Nat.blt 0 ei.size = true) {rows : List (List PV)} {v : Value} (hv : Rep P M true (.list x.e rows) v) (hby : (x.rows.length + rows.length) * ei.bytes ≤ 2 ^ 47) (hmx : x.rows.length + rows.length ≤ maxLen) :
    ∃ g w', (Builtin.append_ #[t, t] ty #[x.g.val x.rows.length, v]).run P w = .ok (g.val (x.rows ++ rows).length) w' ∧ InvH P C M ⟨H.bx, upd H.ob tag (some ⟨g, x.e, x.rows ++ rows, x.wr⟩)⟩ w' := by
  obtain ⟨i, sa, c, news, hinf, rfl, hby2, hnl, hrl, hcells, hrep, hone⟩ := list_src hi hv
  obtain ⟨i', hinf', hs, hbs, hzero⟩ := (hT.get hei).info
  rw [hinf] at hinf'
  cases hinf'
  have hz1 := Nat.eq_of_beq_eq_true hz1
  have hsz : 0 < i.size := by have : 0 < ei.size := by simpa [Nat.blt_eq] using hsz
                              omega
  have hu := (hT.get hti).und
  rw [hd] at hu
  obtain ⟨i2, hinf2, hxb, hxl, hxx⟩ := hi.objs tag x hx
  rw [hinf] at hinf2
  cases hinf2
  have hby' : (x.rows.length + rows.length) * i.bytes ≤ 140737488355328 := by rw [hbs]; exact hby
  by_cases h0 : rows = []
  · subst h0
    have hle : x.rows.length ≤ x.g.cap := by
      rcases hxx with ⟨_, h2, _⟩ | ⟨b, cur, _, _, _, _, h5, _⟩
      · simp [h2]
      · exact h5
    refine ⟨x.g, w, ?_, ?_⟩
    · simpa [OwnRef.val] using run_append_zero (w := w) t ty x.e i hu hinf (x.g.blk.map fun b => ⟨b, 0, none⟩) sa x.rows.length x.g.cap c hle
    · rw [List.append_nil, upd_self _ _ _ (by rw [hx])]
      exact hi
  · obtain ⟨a, rfl, hac⟩ := hcells h0
    have hm0 : 0 < rows.length := List.length_pos_iff.2 h0
    have h63 : ((x.rows.length + rows.length : Nat) : Int) ≤ 9223372036854775807 := by unfold maxLen at hmx; omega
    have hflat : (x.rows ++ rows).flatten = x.rows.flatten ++ rows.flatten := by simp
    have hfl : ∀ {l : List (List PV)}, (∀ r ∈ l, r.length = i.size) → l.flatten.length = l.length * i.size := by
      intro l hl
      induction l with
      | nil => simp
      | cons r l ih => simp [ih fun r hr => hl r (by simp [hr]), hl r (by simp), Nat.add_mul]; omega
    have hlens : ∀ r ∈ x.rows ++ rows, r.length = i.size := fun r hr => by
      rcases List.mem_append.1 hr with h | h
      · exact hxl r h
      · exact hrl r h
    rcases hxx with ⟨hbn, hrn, hcn⟩ | ⟨b, cur, hb, hmine, hcur, hcs, hlc, hcm, hcr, hc1, hw1, hw2⟩
    · have hg := run_append_nil (P := P) w t ty x.e i ei.zero hu hinf hzero a rows.length c news hnl hac hm0 (by rw [hrn] at h63; simpa using h63) (by rw [hrn] at hby'; simp at hby'; omega)
      have hge := grownCap_ge w rows.length 0 x.e
      have hgm : grownCap w rows.length 0 x.e ≤ maxLen := grownCap_le_maxLen w rows.length 0 x.e (by rw [hrn] at hmx; simpa using hmx)
      have hlist : (news.toArray ++ Builtin.zeroCells ei.zero.cells (grownCap w rows.length 0 x.e - rows.length)).toList.take (rows.length * i.size) = news := by
        simp only [Array.toList_append]
        rw [← hnl, List.take_left]
      refine ⟨⟨some w.heap.size, grownCap w rows.length 0 x.e⟩, w.drew.alloc (.cells (news.toArray ++ Builtin.zeroCells ei.zero.cells (grownCap w rows.length 0 x.e - rows.length)) x.e), ?_, (show InvH P C M H w.drew from hi.drew).alloc_obj tag x.e (x.rows ++ rows) x.wr _ (news.toArray ++ Builtin.zeroCells ei.zero.cells (grownCap w rows.length 0 x.e - rows.length)) i hinf ?_ hlens ?_ ?_ hgm ?_ ?_⟩
      · have e1 : x.g.val x.rows.length = .slice none 0 0 := by simp [OwnRef.val, hbn, hrn, hcn]
        rw [e1, hg]
        simp [OwnRef.val, hrn]
      · simp only [List.length_append]; exact hby'
      · simp only [Array.size_append, List.size_toArray, size_zeroCells, hz1, hnl, ← hs, ← Nat.add_mul]
        congr 1
        omega
      · rw [hrn]; simpa using hge
      · rw [hrn]; simp only [List.nil_append]; rw [hlist]; exact hrep
      · rw [hrn]; simp only [List.nil_append]; rw [hlist]; exact hone
    · have hval : x.g.val x.rows.length = .slice (some ⟨b, 0, none⟩) x.rows.length x.g.cap := by simp [OwnRef.val, hb]
      have hxfl := hfl hxl
      have holdlen : (cur.toList.take (x.rows.length * i.size)).length = x.rows.length * i.size := by rw [hcr.length, hxfl]
      by_cases hroom : x.rows.length + rows.length ≤ x.g.cap
      · have hfit : x.rows.length * i.size + news.length ≤ cur.size := by rw [hnl, hcs, ← Nat.add_mul]; exact Nat.mul_le_mul_right _ hroom
        have hr := run_append_room (P := P) w t ty x.e i hu hinf b x.rows.length x.g.cap cur hcur a rows.length c news hnl hac hone hroom hfit
        have hlist : (cur.toList.take (x.rows.length * i.size) ++ news ++ cur.toList.drop (x.rows.length * i.size + news.length)).take ((x.rows.length + rows.length) * i.size) = cur.toList.take (x.rows.length * i.size) ++ news := by
          rw [show (x.rows.length + rows.length) * i.size = (cur.toList.take (x.rows.length * i.size) ++ news).length from by rw [List.length_append, holdlen, hnl, Nat.add_mul]]
          exact List.take_left
        refine ⟨x.g, w.setRow b ((cur.toList.take (x.rows.length * i.size) ++ news ++ cur.toList.drop (x.rows.length * i.size + news.length)).toArray), ?_, hi.set_obj tag x hx b hb (x.rows ++ rows) x.wr ((cur.toList.take (x.rows.length * i.size) ++ news ++ cur.toList.drop (x.rows.length * i.size + news.length)).toArray) i hinf ?_ hlens ?_ ?_ hcm ?_ ?_ ?_ hw1 ?_⟩
        · rw [hval, hr]
          simp [OwnRef.val, hb]
        · simp only [List.length_append]; exact hby'
        · simp only [List.size_toArray, List.length_append, holdlen, List.length_drop, Array.length_toList]
          omega
        · simpa using hroom
        · rw [hflat]
          simp only [List.length_append]
          rw [hlist]
          exact hcr.append hrep
        · simp only [List.length_append]
          rw [hlist]
          intro v hv
          rcases List.mem_append.1 hv with h | h
          · exact hc1 v h
          · exact hone v h
        · intro o v hm
          have hlt : o < x.rows.length * i.size := by
            rcases Nat.lt_or_ge o (x.rows.length * i.size) with h | h
            · exact h
            · rw [hw2 o h] at hm; cases hm
          have hcell := hi.mem b o v hm
          rw [cell_of_row w b o cur x.e (0, 0) hcur] at hcell
          simp only [List.getElem?_toArray, List.append_assoc]
          rw [List.getElem?_append_left (by rw [holdlen]; exact hlt), List.getElem?_take, if_pos hlt]
          simpa using hcell
        · intro o ho
          simp only [List.length_append] at ho
          exact hw2 o (Nat.le_trans (Nat.mul_le_mul_right _ (Nat.le_add_right _ _)) ho)
      · have holds : ∀ (j : Nat) (v : Value), (cur.toList.take (x.rows.length * i.size))[j]? = some v → w.cell? ((⟨b, 0, none⟩ : Addr).add j) = some v := by
          intro j v hj
          rw [add_off, cell_of_row w b (0 + j) cur x.e (0, 0) hcur]
          rw [List.getElem?_take] at hj
          split at hj
          · simpa using hj
          · cases hj
        have hr := run_append_grow (P := P) w t ty x.e i ei.zero hu hinf hzero ⟨b, 0, none⟩ x.rows.length x.g.cap _ holdlen holds a rows.length c news hnl hac (by omega) h63 (growslice_fits (by omega) hby')
        have hge := grownCap_ge w (x.rows.length + rows.length) x.g.cap x.e
        have hgm : grownCap w (x.rows.length + rows.length) x.g.cap x.e ≤ maxLen := grownCap_le_maxLen w _ _ x.e hmx
        have hlist : ((cur.toList.take (x.rows.length * i.size)).toArray ++ news.toArray ++ Builtin.zeroCells ei.zero.cells (grownCap w (x.rows.length + rows.length) x.g.cap x.e - (x.rows.length + rows.length))).toList.take ((x.rows.length + rows.length) * i.size) = cur.toList.take (x.rows.length * i.size) ++ news := by
          simp only [Array.toList_append]
          rw [show (x.rows.length + rows.length) * i.size = (cur.toList.take (x.rows.length * i.size) ++ news).length from by rw [List.length_append, holdlen, hnl, Nat.add_mul]]
          exact List.take_left
        refine ⟨⟨some w.heap.size, grownCap w (x.rows.length + rows.length) x.g.cap x.e⟩, w.drew.alloc (.cells ((cur.toList.take (x.rows.length * i.size)).toArray ++ news.toArray ++ Builtin.zeroCells ei.zero.cells (grownCap w (x.rows.length + rows.length) x.g.cap x.e - (x.rows.length + rows.length))) x.e), ?_, (show InvH P C M H w.drew from hi.drew).alloc_obj tag x.e (x.rows ++ rows) x.wr _ ((cur.toList.take (x.rows.length * i.size)).toArray ++ news.toArray ++ Builtin.zeroCells ei.zero.cells (grownCap w (x.rows.length + rows.length) x.g.cap x.e - (x.rows.length + rows.length))) i hinf ?_ hlens ?_ ?_ hgm ?_ ?_⟩
        · rw [hval, hr]
          simp [OwnRef.val]
        · simp only [List.length_append]; exact hby'
        · simp only [Array.size_append, List.size_toArray, size_zeroCells, hz1, hnl, holdlen, ← hs, ← Nat.add_mul]
          congr 1
          omega
        · simpa using hge
        · rw [hflat]
          simp only [List.length_append]
          rw [hlist]
          exact hcr.append hrep
        · simp only [List.length_append]
          rw [hlist]
          intro v hv
          rcases List.mem_append.1 hv with h | h
          · exact hc1 v h
          · exact hone v h

/-- A nil slice, taken for one of the call's own. -/
theorem InvH.nilobj (h : InvH P C M H w) {T : TT} (hT : T.Ok P) (tag : Nat) {e : TypeId} {ei : TInfo} (hei : T.get e = some ei) : InvH P C M ⟨H.bx, upd H.ob tag (some ⟨⟨none, 0⟩, e, [], true⟩)⟩ w := by
  obtain ⟨i, hi, _⟩ := (hT.get hei).info
  have key : ∀ t x, upd H.ob tag (some ⟨⟨none, 0⟩, e, [], true⟩) t = some x → x = ⟨⟨none, 0⟩, e, [], true⟩ ∨ H.ob t = some x := by
    intro t x hx
    rw [upd_eq] at hx
    split at hx
    · exact .inl (Option.some.inj hx).symm
    · exact .inr hx
  refine ⟨h.mem, h.ext, h.new, h.os, h.tape, h.output, h.size, h.frame, h.boxes, ?_, h.dbox, ?_, ?_⟩
  · intro t x hx
    rcases key t x hx with rfl | hx
    · exact ⟨i, hi, by simp, by simp, .inl ⟨rfl, rfl, rfl⟩⟩
    · exact h.objs t x hx
  · intro t t' x x' b hx hx' hb hb'
    rcases key t x hx with rfl | hy
    · cases hb
    · rcases key t' x' hx' with rfl | hy'
      · cases hb'
      · exact h.dobj t t' x x' b hy hy' hb hb'
  · intro t t' x x' hx hx' hb
    rcases key t' x' hx' with rfl | hy'
    · cases hb
    · exact h.dmix t t' x x' hx hy' hb

theorem eff_appendO {o : Oper} {ev : Operand → PV} {T : TT} (hT : T.Ok P) {x y : Operand} {t : TypeId} (ho : o.op = .call { callee := .builtin .append, args := #[x, y], argTypes := #[t, t] }) {ti ei : TInfo} {e : TypeId} (hti : T.get t = some ti) (hd : ti.desc = .slice e) (hei : T.get e = some ei)
    (hz : Nat.beq ei.zero.cells.size ei.size = true) (hsz : Nat.blt 0 ei.size = true) {tag : Nat} {g : OwnRef} {len : Nat} {rows rows2 : List (List PV)} {wr : Bool} (hx : ev x = .own tag g len) (hob : H.ob tag = some ⟨g, e, rows, wr⟩) (hlen : len = rows.length) (hy : ev y = .list e rows2)
    (hby : (rows.length + rows2.length) * ei.bytes ≤ 2 ^ 47) (hmx : rows.length + rows2.length ≤ maxLen) {K : PV → Heap → Prop} (hk : ∀ g', K (.own tag g' (rows ++ rows2).length) ⟨H.bx, upd H.ob tag (some ⟨g', e, rows ++ rows2, wr⟩)⟩) : Eff P o ev H K := by
  subst hlen
  intro C M a w next Q hi he hn
  have hxr := he x (by rw [ho]; simp [Op.operands, Call.operands])
  have hyr := he y (by rw [ho]; simp [Op.operands, Call.operands])
  rw [hx] at hxr
  rw [hy] at hyr
  simp only [Rep] at hxr
  obtain ⟨g', w', hrun, hi'⟩ := append_core (ty := o.type) hi hT hob hti hd hei hz hsz hyr hby hmx
  have hrun' : (execOp a.eval o).run P w = .ok (.value (g'.val (rows ++ rows2).length)) w' := by
    simp only [execOp, ho, resolve, Sem.run_bind, Sem.run_pure, Result.andThen_ok, invoke, builtin, List.map_toArray, List.map_cons, List.map_nil, hxr.2]
    rw [hrun]
    rfl
  unfold Oper.wp
  rw [hrun']
  exact hn _ _ _ M w' (hk g') (Mem.le_refl M) hi' (by simp [Rep])

theorem eff_appendN {o : Oper} {ev : Operand → PV} {T : TT} (hT : T.Ok P) {x y : Operand} {t : TypeId} (ho : o.op = .call { callee := .builtin .append, args := #[x, y], argTypes := #[t, t] }) {ti ei : TInfo} {e : TypeId} (hti : T.get t = some ti) (hd : ti.desc = .slice e) (hei : T.get e = some ei)
    (hz : Nat.beq ei.zero.cells.size ei.size = true) (hsz : Nat.blt 0 ei.size = true) (tag : Nat) {rows2 : List (List PV)} (hx : ev x = .val (.slice none 0 0)) (hy : ev y = .list e rows2)
    {K : PV → Heap → Prop} (hk : ∀ g', K (.own tag g' rows2.length) ⟨H.bx, upd H.ob tag (some ⟨g', e, rows2, true⟩)⟩) : Eff P o ev H K := by
  intro C M a w next Q hi he hn
  have hxr := he x (by rw [ho]; simp [Op.operands, Call.operands])
  have hyr := he y (by rw [ho]; simp [Op.operands, Call.operands])
  rw [hx] at hxr
  rw [hy] at hyr
  simp only [Rep] at hxr
  have hi0 := hi.nilobj hT tag hei
  obtain ⟨i, sa, c, news, hinf, _, hby2, _⟩ := list_src hi hyr
  obtain ⟨i', hinf', hs, hbs, _⟩ := (hT.get hei).info
  rw [hinf] at hinf'
  cases hinf'
  have hmx : rows2.length ≤ maxLen := by
    have := hyr
    simp only [Rep] at this
    obtain ⟨_, c, _, _, h1, h2, _⟩ := this
    omega
  obtain ⟨g', w', hrun, hi'⟩ := append_core (ty := o.type) hi0 hT (upd_same _ _ _) hti hd hei hz hsz hyr (by simpa [← hbs] using hby2) (by simpa using hmx)
  have hrun' : (execOp a.eval o).run P w = .ok (.value (g'.val rows2.length)) w' := by
    have e1 : (⟨none, 0⟩ : OwnRef).val ([] : List (List PV)).length = .slice none 0 0 := rfl
    simp only [e1, List.nil_append] at hrun
    simp only [execOp, ho, resolve, Sem.run_bind, Sem.run_pure, Result.andThen_ok, invoke, builtin, List.map_toArray, List.map_cons, List.map_nil, hxr]
    rw [hrun]
    rfl
  unfold Oper.wp
  rw [hrun']
  refine hn _ _ _ M w' (hk g') (Mem.le_refl M) ?_ (by simp [Rep])
  have e2 : upd (upd H.ob tag (some ⟨⟨none, 0⟩, e, [], true⟩)) tag (some ⟨g', e, [] ++ rows2, true⟩) = upd H.ob tag (some ⟨g', e, rows2, true⟩) := by
    funext t
    simp only [upd_eq, List.nil_append]
    split <;> rfl
  rw [← e2]
  exact hi'
end
end Go.Ab
/- The abstract layer, part K: appends asQ steps, freezing, weakening, loops, facts on what a slot holds. -/
namespace Go.Ab

section
variable {P : Program} {ops : Array Oper} {rest : List Oper} {o : Oper} {n : Nat} {s s' : Nat → PV} {bx : Nat → Option Box} {ob : Nat → Option Obj} {K : PState → Prop} {T : TT}

theorem AOps.appendO (hT : T.Ok P) (hg : guardA ops s o = some true) {x y : Operand} {t : TypeId} (ho : o.op = .call { callee := .builtin .append, args := #[x, y], argTypes := #[t, t] }) {d : Nat} (hdst : o.dst = some d) (hlt : Nat.blt d n = true) {ti ei : TInfo} {e : TypeId} (hti : T.get t = some ti) (hd : ti.desc = .slice e) (hei : T.get e = some ei)
    (hz : Nat.beq ei.zero.cells.size ei.size = true) (hsz : Nat.blt 0 ei.size = true) {tag : Nat} {g : OwnRef} {len : Nat} {rows rows2 : List (List PV)} {wr : Bool} (hx : evS s x = .own tag g len) (hob : ob tag = some ⟨g, e, rows, wr⟩) (hlen : len = rows.length) (hy : evS s y = .list e rows2)
    (hby : (rows.length + rows2.length) * ei.bytes ≤ 2 ^ 47) (hmx : rows.length + rows2.length ≤ maxLen) (h : ∀ g', AOps P ops rest ⟨n, upd s d (.own tag g' (rows ++ rows2).length), bx, upd ob tag (some ⟨g', e, rows ++ rows2, wr⟩)⟩ K) : AOps P ops (o :: rest) ⟨n, s, bx, ob⟩ K :=
  AOps.eff hg (eff_appendO hT ho hti hd hei hz hsz hx hob hlen hy hby hmx fun g' => ⟨_, by simp [hdst, putD, hlt], h g'⟩)

theorem AOps.appendN (hT : T.Ok P) (hg : guardA ops s o = some true) {x y : Operand} {t : TypeId} (ho : o.op = .call { callee := .builtin .append, args := #[x, y], argTypes := #[t, t] }) {d : Nat} (hdst : o.dst = some d) (hlt : Nat.blt d n = true) {ti ei : TInfo} {e : TypeId} (hti : T.get t = some ti) (hd : ti.desc = .slice e) (hei : T.get e = some ei)
    (hz : Nat.beq ei.zero.cells.size ei.size = true) (hsz : Nat.blt 0 ei.size = true) {rows2 : List (List PV)} (hx : evS s x = .val (.slice none 0 0)) (hy : evS s y = .list e rows2)
    (h : ∀ g', AOps P ops rest ⟨n, upd s d (.own d g' rows2.length), bx, upd ob d (some ⟨g', e, rows2, true⟩)⟩ K) : AOps P ops (o :: rest) ⟨n, s, bx, ob⟩ K :=
  AOps.eff hg (eff_appendN hT ho hti hd hei hz hsz d hx hy fun g' => ⟨_, by simp [hdst, putD, hlt], h g'⟩)
end

section
variable {P : Program} {C : Ctx} {M : Mem} {H : Heap} {w : World}

/-- The memory, with the first cells of a block frozen. -/
def Mem.addN (M : Mem) (b n : Nat) (cs : Array Value) : Mem := fun k o => if k = b ∧ o < n then cs[o]? else M k o

/-- A slice of the call's own is frozen asQ far asQ it goes; it may still grow. -/
theorem InvH.freezeO (h : InvH P C M H w) {tag : Nat} {x : Obj} (hx : H.ob tag = some x) :
    ∃ M', M.le M' ∧ InvH P C M' ⟨H.bx, upd H.ob tag (some { x with wr := false })⟩ w ∧ Rep P M' true (.list x.e x.rows) (x.g.val x.rows.length) := by
  obtain ⟨i, hinf, hxb, hxl, hxx⟩ := h.objs tag x hx
  have key : ∀ t y, upd H.ob tag (some { x with wr := false }) t = some y → (t = tag ∧ y = { x with wr := false }) ∨ (t ≠ tag ∧ H.ob t = some y) := by
    intro t y hy
    by_cases ht : t = tag
    · subst ht; rw [upd_same] at hy; exact .inl ⟨rfl, (Option.some.inj hy).symm⟩
    · rw [upd_ne _ _ ht] at hy; exact .inr ⟨ht, hy⟩
  have dobj' : ∀ t t' y y' k, upd H.ob tag (some { x with wr := false }) t = some y → upd H.ob tag (some { x with wr := false }) t' = some y' → y.g.blk = some k → y'.g.blk = some k → t = t' := by
    intro t t' y y' k hy hy' hk hk'
    rcases key t y hy with ⟨h1, h2⟩ | ⟨_, hz⟩ <;> rcases key t' y' hy' with ⟨h3, h4⟩ | ⟨_, hz'⟩
    · rw [h1, h3]
    · subst h1; subst h2; exact h.dobj _ t' x y' k hx hz' hk hk'
    · subst h3; subst h4; exact h.dobj t _ y x k hz hx hk hk'
    · exact h.dobj t t' y y' k hz hz' hk hk'
  have dmix' : ∀ t t' (y : Box) (y' : Obj), H.bx t = some y → upd H.ob tag (some { x with wr := false }) t' = some y' → y'.g.blk ≠ some y.b := by
    intro t t' y y' hy hy' hk
    rcases key t' y' hy' with ⟨h1, h2⟩ | ⟨_, hz'⟩
    · subst h1; subst h2; exact h.dmix t _ y x hy hx hk
    · exact h.dmix t t' y y' hy hz' hk
  rcases hxx with ⟨hbn, hrn, hcn⟩ | ⟨b, cur, hb, hmine, hcur, hcs, hlc, hcm, hcr, hc1, hw1, hw2⟩
  · refine ⟨M, Mem.le_refl M, ⟨h.mem, h.ext, h.new, h.os, h.tape, h.output, h.size, h.frame, h.boxes, ?_, h.dbox, dobj', dmix'⟩, ?_⟩
    · intro t y hy
      rcases key t y hy with ⟨_, rfl⟩ | ⟨_, hy⟩
      · exact ⟨i, hinf, hxb, hxl, .inl ⟨hbn, hrn, hcn⟩⟩
      · exact h.objs t y hy
    · simp only [Rep]
      exact ⟨none, 0, i, by simp [OwnRef.val, hbn, hcn], by simp [hrn], by simp, hinf, hxb, fun hne => absurd hrn hne⟩
  · have hsame : ∀ o v, M b o = some v → cur[o]? = some v := fun o v hm => by
      have := h.mem b o v hm
      rwa [cell_of_row w b o cur x.e (0, 0) hcur] at this
    have hle : M.le (M.addN b (x.rows.length * i.size) cur) := by
      intro k o v hm
      simp only [Mem.addN]
      split
      · rename_i hc; obtain ⟨rfl, _⟩ := hc; exact hsame o v hm
      · exact hm
    have hoth : ∀ k o, k ≠ b → M.addN b (x.rows.length * i.size) cur k o = M k o := fun k o hk => by simp [Mem.addN, hk]
    have hrows : RepRows P (M.addN b (x.rows.length * i.size) cur) i.size b 0 x.rows := by
      refine RepRows.of_flat hxl ?_
      have hcr' := RepAll.mono hle hcr
      have key2 : ∀ (ps : List PV) (xs : List Value) (o : Nat), (∀ j y, xs[j]? = some y → cur[o + j]? = some y ∧ o + j < x.rows.length * i.size) → (∀ v ∈ xs, v.oneCell' = true) → RepAll P (M.addN b (x.rows.length * i.size) cur) false ps xs → RepAt P (M.addN b (x.rows.length * i.size) cur) b o ps := by
        intro ps
        induction ps with
        | nil => intro xs o _ _ _; simp [RepAt]
        | cons p ps ih =>
          intro xs o hx h1 hr
          simp only [RepAll] at hr
          obtain ⟨y, ys, rfl, hp, hrest⟩ := hr
          simp only [RepAt]
          refine ⟨⟨y, ?_, h1 y (by simp), hp⟩, ih ys (o + 1) (fun j z hz => ?_) (fun v hv => h1 v (by simp [hv])) hrest⟩
          · have := hx 0 y rfl
            simp only [Nat.add_zero] at this
            simp [Mem.addN, this.1, this.2]
          · have := hx (j + 1) z (by simpa using hz)
            rwa [show o + 1 + j = o + (j + 1) from by omega]
      refine key2 _ _ 0 (fun j y hy => ?_) hc1 hcr'
      rw [List.getElem?_take] at hy
      split at hy
      · rename_i hlt
        exact ⟨by simpa using hy, by omega⟩
      · cases hy
    refine ⟨_, hle, ⟨?_, Mem.le_trans h.ext hle, ?_, h.os, h.tape, h.output, h.size, h.frame, ?_, ?_, h.dbox, dobj', dmix'⟩, ?_⟩
    · intro k o v hm
      simp only [Mem.addN] at hm
      split at hm
      · rename_i hc; obtain ⟨rfl, _⟩ := hc
        rw [cell_of_row w k o cur x.e (0, 0) hcur]
        exact hm
      · exact h.mem k o v hm
    · intro k o v hm
      by_cases hk : k = b
      · subst hk; exact .inr hmine
      · rw [hoth k o hk] at hm; exact h.new k o v hm
    · intro t y hy
      have hne : y.b ≠ b := fun e => h.dmix t tag y x hy hx (by rw [hb, e])
      exact (h.boxes t y hy).keep hle (fun o ho => by rw [hoth _ o hne]; exact ho) rfl
    · intro t y hy
      rcases key t y hy with ⟨_, rfl⟩ | ⟨ht, hy⟩
      · refine ⟨i, hinf, hxb, hxl, .inr ⟨b, cur, hb, hmine, hcur, hcs, hlc, hcm, RepAll.mono hle hcr, hc1, fun e => by simp at e, fun o ho => ?_⟩⟩
        have : ¬ o < x.rows.length * i.size := Nat.not_lt.2 ho
        simp only [Mem.addN, this, and_false, if_false]
        exact hw2 o ho
      · exact (h.objs t y hy).keep hle (fun k o hk ho => by rw [hoth k o fun e => ht (h.dobj t tag y x b hy hx (e ▸ hk) hb)]; exact ho) (fun _ _ => rfl)
    · simp only [Rep]
      exact ⟨_, _, i, by simp only [OwnRef.val, hb]; rfl, hlc, hcm, hinf, hxb, fun _ => ⟨b, 0, rfl, hrows⟩⟩

theorem InvH.dropO (h : InvH P C M H w) (tag : Nat) : InvH P C M ⟨H.bx, upd H.ob tag none⟩ w :=
  h.less (fun _ _ hx => hx) (fun t x hx => by
    simp only [upd_eq] at hx
    split at hx
    · cases hx
    · exact hx)

/-- A box is frozen: it is not written again. -/
theorem InvH.freezeB (h : InvH P C M H w) {tag : Nat} {x : Box} (hx : H.bx tag = some x) (hf : PV.frozL x.cells = true) (h1 : x.cells.all PV.one = true) :
    ∃ M', M.le M' ∧ InvH P C M' ⟨upd H.bx tag none, H.ob⟩ w ∧ RepAt P M' x.b 0 x.cells := by
  obtain ⟨hmine, ⟨cs, e, hcs, hr⟩, hnone⟩ := h.boxes tag x hx
  have hle : M.le (M.add x.b cs) := by
    intro k o v hm
    have hk : k ≠ x.b := fun e => by rw [e, hnone] at hm; cases hm
    simp [Mem.add, hk, hm]
  have hoth : ∀ k o, k ≠ x.b → M.add x.b cs k o = M k o := fun k o hk => by simp [Mem.add, hk]
  have hbk : ∀ t y, upd H.bx tag none t = some y → t ≠ tag ∧ H.bx t = some y := by
    intro t y hy
    rw [upd_eq] at hy
    split at hy
    · cases hy
    · rename_i ht; exact ⟨ht, hy⟩
  have hone := RepAll.oneCell h1 hr
  have hr' := RepAll.mono hle (RepAll.unslot hf hr)
  refine ⟨_, hle, ⟨?_, Mem.le_trans h.ext hle, ?_, h.os, h.tape, h.output, h.size, h.frame, ?_, ?_, ?_, h.dobj, ?_⟩, ?_⟩
  · intro k o v hm
    by_cases hk : k = x.b
    · subst hk
      rw [cell_of_row w x.b o cs e (0, 0) hcs]
      simpa [Mem.add] using hm
    · rw [hoth k o hk] at hm; exact h.mem k o v hm
  · intro k o v hm
    by_cases hk : k = x.b
    · subst hk; exact .inr hmine
    · rw [hoth k o hk] at hm; exact h.new k o v hm
  · intro t y hy
    obtain ⟨ht, hy⟩ := hbk t y hy
    exact (h.boxes t y hy).keep hle (fun o ho => by rw [hoth _ o fun e => ht (h.dbox t tag y x hy hx e)]; exact ho) rfl
  · intro t y hy
    exact (h.objs t y hy).keep hle (fun k o hk ho => by rw [hoth k o fun e => h.dmix tag t x y hx hy (e ▸ hk)]; exact ho) (fun _ _ => rfl)
  · intro t t' y y' hy hy' hb
    exact h.dbox t t' y y' (hbk t y hy).2 (hbk t' y' hy').2 hb
  · intro t t' y y' hy hy' hb
    exact h.dmix t t' y y' (hbk t y hy).2 hy' hb
  · have key2 : ∀ (ps : List PV) (xs : List Value) (o : Nat), (∀ j y, xs[j]? = some y → cs[o + j]? = some y) → (∀ v ∈ xs, v.oneCell' = true) → RepAll P (M.add x.b cs) false ps xs → RepAt P (M.add x.b cs) x.b o ps := by
      intro ps
      induction ps with
      | nil => intro xs o _ _ _; simp [RepAt]
      | cons p ps ih =>
        intro xs o hx h1 hr
        simp only [RepAll] at hr
        obtain ⟨y, ys, rfl, hp, hrest⟩ := hr
        simp only [RepAt]
        refine ⟨⟨y, ?_, h1 y (by simp), hp⟩, ih ys (o + 1) (fun j z hz => ?_) (fun v hv => h1 v (by simp [hv])) hrest⟩
        · have := hx 0 y rfl
          simpa [Mem.add] using this
        · have := hx (j + 1) z (by simpa using hz)
          rwa [show o + 1 + j = o + (j + 1) from by omega]
    exact key2 _ _ 0 (fun j y hy => by simpa using hy) hone hr'
end

/-! Steps that change only what is known. -/
section
variable {P : Program} {n : Nat} {s s' : Nat → PV} {bx bx' : Nat → Option Box} {ob ob' : Nat → Option Obj}

def SLe (P : Program) (s s' : Nat → PV) : Prop := ∀ t, PLe P (s t) (s' t)
theorem SLe.nil : SLe P s fun _ => .any := fun _ => PLe.any P _
theorem SLe.refl (P : Program) (s : Nat → PV) : SLe P s s := fun _ => PLe.refl P _
theorem SLe.cons {d : Nat} {p : PV} (h : PLe P (s d) p) (h' : SLe P s s') : SLe P s (upd s' d p) := fun t => by
  rw [upd_eq]
  split
  · rename_i e; subst e; exact h
  · exact h' t
theorem SLe.c {d : Nat} (h : SLe P s s') : SLe P s (upd s' d (s d)) := SLe.cons (fun _ _ h => h) h

def BLe (P : Program) (bx bx' : Nat → Option Box) : Prop := ∀ t x, bx' t = some x → ∃ y, bx t = some y ∧ y.b = x.b ∧ PLeAll P y.cells x.cells
theorem BLe.nil : BLe P bx fun _ => none := fun _ _ h => by simp at h
theorem BLe.refl (P : Program) (bx : Nat → Option Box) : BLe P bx bx := fun _ x h => ⟨x, h, rfl, PLeAll.refl P _⟩
theorem BLe.cons {d b : Nat} {cells cells' : List PV} (h : bx d = some ⟨b, cells⟩) (hc : PLeAll P cells cells') (h' : BLe P bx bx') : BLe P bx (upd bx' d (some ⟨b, cells'⟩)) := fun t x hx => by
  rw [upd_eq] at hx
  split at hx
  · rename_i e; subst e; cases hx; exact ⟨_, h, rfl, hc⟩
  · exact h' t x hx

def OLe (ob ob' : Nat → Option Obj) : Prop := ∀ t x, ob' t = some x → ob t = some x
theorem OLe.nil : OLe ob fun _ => none := fun _ _ h => by simp at h
theorem OLe.refl (ob : Nat → Option Obj) : OLe ob ob := fun _ _ h => h
theorem OLe.cons {d : Nat} {x : Obj} (h : ob d = some x) (h' : OLe ob ob') : OLe ob (upd ob' d (some x)) := fun t y hy => by
  rw [upd_eq] at hy
  split at hy
  · rename_i e; subst e; cases hy; exact h
  · exact h' t y hy
theorem OLe.c {d : Nat} (h : OLe ob ob') : OLe ob (upd ob' d (ob d)) := fun t y hy => by
  rw [upd_eq] at hy
  split at hy
  · rename_i e; subst e; exact hy
  · exact h t y hy

theorem Gh.le (hs : SLe P s s') (hb : BLe P bx bx') (ho : OLe ob ob') : Gh P ⟨n, s, bx, ob⟩ ⟨n, s', bx', ob'⟩ := by
  intro C M a w hi
  refine ⟨M, ⟨hi.1.1, hi.1.2.1, fun t => hs t M _ (hi.1.2.2 t)⟩, ?_⟩
  have h := hi.2
  refine ⟨h.mem, h.ext, h.new, h.os, h.tape, h.output, h.size, h.frame, ?_, fun t x hx => h.objs t x (ho t x hx), ?_, fun t t' x x' b hx hx' => h.dobj t t' x x' b (ho _ _ hx) (ho _ _ hx'), ?_⟩
  · intro t x hx
    obtain ⟨y, hy, hyb, hyc⟩ := hb t x hx
    obtain ⟨h1, ⟨cs, e, h2, h3⟩, h4⟩ := h.boxes t y hy
    exact ⟨hyb ▸ h1, ⟨cs, e, hyb ▸ h2, hyc M _ h3⟩, hyb ▸ h4⟩
  · intro t t' x x' hx hx' hbb
    obtain ⟨y, hy, hyb, _⟩ := hb t x hx
    obtain ⟨y', hy', hyb', _⟩ := hb t' x' hx'
    exact h.dbox t t' y y' hy hy' (by rw [hyb, hyb']; exact hbb)
  · intro t t' x x' hx hx' hbb
    obtain ⟨y, hy, hyb, _⟩ := hb t x hx
    exact h.dmix t t' y x' hy (ho _ _ hx') (by rw [hyb]; exact hbb)

/-- A nil slice in a slot, taken for one of the call's own. -/
theorem Gh.nilO {T : TT} (hT : T.Ok P) (d tag : Nat) {e : TypeId} {ei : TInfo} (hei : T.get e = some ei) (hs : s d = .val (.slice none 0 0)) :
    Gh P ⟨n, s, bx, ob⟩ ⟨n, upd s d (.own tag ⟨none, 0⟩ 0), bx, upd ob tag (some ⟨⟨none, 0⟩, e, [], true⟩)⟩ := by
  intro C M a w hi
  refine ⟨M, ⟨hi.1.1, hi.1.2.1, fun t => ?_⟩, hi.2.nilobj hT tag hei⟩
  simp only [upd_eq]
  have := hi.1.2.2 t
  simp only at this
  split
  · rename_i e; subst e; rw [hs] at this; simpa [Rep, OwnRef.val] using this
  · exact this

/-- A slice of the call's own in a slot: frozen; and it is given up. -/
theorem Gh.freezeO (d : Nat) {tag : Nat} {g : OwnRef} {len : Nat} {e : TypeId} {rows : List (List PV)} {wr : Bool} (hs : s d = .own tag g len) (hob : ob tag = some ⟨g, e, rows, wr⟩) (hlen : len = rows.length) :
    Gh P ⟨n, s, bx, ob⟩ ⟨n, upd s d (.list e rows), bx, upd ob tag (some ⟨g, e, rows, false⟩)⟩ := by
  subst hlen
  intro C M a w hi
  obtain ⟨M', hle, hi', hr⟩ := hi.2.freezeO (tag := tag) hob
  refine ⟨M', ⟨hi.1.1, hi.1.2.1, fun t => ?_⟩, hi'⟩
  have := hi.1.2.2 t
  simp only at this
  simp only [upd_eq]
  split
  · rename_i e; subst e; rw [hs] at this; simp only [Rep] at this; rw [this.2]; exact hr
  · exact Rep.mono hle this

theorem Gh.freezeB (d : Nat) {tag b : Nat} {cells : List PV} (hs : s d = .box tag b 0) (hb : bx tag = some ⟨b, cells⟩) (hf : PV.frozL cells = true) (h1 : cells.all PV.one = true) :
    Gh P ⟨n, s, bx, ob⟩ ⟨n, upd s d (.ptr cells), upd bx tag none, ob⟩ := by
  intro C M a w hi
  obtain ⟨M', hle, hi', hr⟩ := hi.2.freezeB (tag := tag) hb hf h1
  refine ⟨M', ⟨hi.1.1, hi.1.2.1, fun t => ?_⟩, hi'⟩
  have := hi.1.2.2 t
  simp only at this
  simp only [upd_eq]
  split
  · rename_i e; subst e; rw [hs] at this; simp only [Rep] at this ⊢; exact ⟨b, 0, this.2, hr⟩
  · exact Rep.mono hle this
end

section
variable {P : Program} {fn : Func} {R : PV → Heap → Prop} {k : List KI} {n : Nat} {s : Nat → PV} {bx : Nat → Option Box} {ob : Nat → Option Obj} {T : TT} {st : PState}

/-- A fact that what a slot holds brings with it. -/
theorem V.fact {Q : Prop} (d : Nat) {p : PV} (hs : st.s d = p) (hq : ∀ M x, Rep P M true p x → Q) (h : Q → V P fn R k st) : V P fn R k st := fun C M a w hi => by
  have := hi.1.2.2 d
  rw [hs] at this
  exact h (hq M _ this) C M a w hi

theorem Rep.listLen {M : Mem} {s : Bool} (hT : T.Ok P) {e : TypeId} {rows : List (List PV)} {ei : TInfo} (hei : T.get e = some ei) {x : Value} (h : Rep P M s (.list e rows) x) : rows.length ≤ maxLen ∧ rows.length * ei.bytes ≤ 2 ^ 47 := by
  simp only [Rep] at h
  obtain ⟨a, c, i, _, h1, h2, h3, h4, _⟩ := h
  obtain ⟨i', h5, _, h6, _⟩ := (hT.get hei).info
  rw [h3] at h5
  cases h5
  exact ⟨by omega, by rw [← h6]; exact h4⟩

theorem V.lenF (hT : T.Ok P) (d : Nat) {e : TypeId} {rows : List (List PV)} {ei : TInfo} (hei : T.get e = some ei) (hs : s d = .list e rows) (h : rows.length ≤ maxLen → rows.length * ei.bytes ≤ 2 ^ 47 → V P fn R k ⟨n, s, bx, ob⟩) : V P fn R k ⟨n, s, bx, ob⟩ :=
  V.fact (Q := rows.length ≤ maxLen ∧ rows.length * ei.bytes ≤ 2 ^ 47) d hs (fun _ _ hx => hx.listLen hT hei) fun hq => h hq.1 hq.2

theorem V.loopF {X : Type} (F : X → PState) (Cnd : X → Prop) (m : X → Nat) {c : Code} (x₀ : X) (hc₀ : Cnd x₀) (h₀ : Gh P st (F x₀))
    (round : ∀ x, Cnd x → V P fn R (.code c :: .stop (fun st' => ∃ y, m y < m x ∧ Cnd y ∧ st' = F y) :: k) (F x)) : V P fn R (.code (.loop c) :: k) st :=
  V.gh h₀ (V.loop (fun i st => ∃ x, m x = i ∧ Cnd x ∧ st = F x) ⟨x₀, rfl, hc₀, rfl⟩ (by
    rintro i st ⟨x, rfl, hx, rfl⟩
    have := round x hx
    have e : (fun st' => ∃ y, m y < m x ∧ Cnd y ∧ st' = F y) = (fun st' => ∃ i, i < m x ∧ ∃ y, m y = i ∧ Cnd y ∧ st' = F y) := by
      funext st'
      apply propext
      constructor
      · rintro ⟨y, h1, h2, h3⟩; exact ⟨_, h1, y, rfl, h2, h3⟩
      · rintro ⟨i, h1, y, h2, h3, h4⟩; exact ⟨y, by omega, h3, h4⟩
    rwa [e] at this))

theorem V.again {X : Type} {F : X → PState} {Cnd : X → Prop} {m : X → Nat} {x : X} (y : X) (hm : m y < m x) (hc : Cnd y) (h : Gh P st (F y)) : V P fn R (.stop (fun st' => ∃ y, m y < m x ∧ Cnd y ∧ st' = F y) :: k) st :=
  V.gh h (V.stop ⟨y, hm, hc, rfl⟩)

theorem InvH.pick {C : Ctx} {M : Mem} {H : Heap} {w : World} (h : InvH P C M H w) {tag : Nat} {x : Obj} (hx : H.ob tag = some x) (m : Nat) : InvH P C M ⟨fun _ => none, upd (fun _ => none) m (some x)⟩ w := by
  have key : ∀ t y, upd (fun _ => none) m (some x) t = some y → t = m ∧ y = x := by
    intro t y hy
    rw [upd_eq] at hy
    split at hy
    · rename_i e; exact ⟨e, (Option.some.inj hy).symm⟩
    · cases hy
  exact ⟨h.mem, h.ext, h.new, h.os, h.tape, h.output, h.size, h.frame, fun _ _ hy => by simp at hy, fun t y hy => (key t y hy).2 ▸ h.objs tag x hx, fun _ _ _ _ hy => by simp at hy,
    fun t t' y y' b hy hy' _ _ => by rw [(key t y hy).1, (key t' y' hy').1], fun _ _ _ _ hy => by simp at hy⟩

/-- Returning a slice of the call's own. -/
theorem V.retO (hT : T.Ok P) {t : Nat} (hres : fn.results = #[.tmp t]) {m : Nat} {e : TypeId} {rows rows' : List (List PV)} {tag : Nat} {g : OwnRef} {len : Nat} (hs : s t = .own tag g len) (hob : ob tag = some ⟨g, e, rows', true⟩) (hlen : len = rows'.length) (he : rows' = rows) :
    V P fn (OwnR m e rows) (.code .ret :: k) ⟨n, s, bx, ob⟩ := by
  subst he
  subst hlen
  intro C M a w hi
  refine wp_ret (after_ret ?_)
  obtain ⟨v, hv, hr⟩ := results_run (st := ⟨n, s, bx, ob⟩) hT hres (ps := [.own tag g rows'.length]) ⟨_, [], rfl, hs, rfl⟩ hi
  exact ⟨hi.1.2.1, v, hv, v, .own m g rows'.length, ⟨fun _ => none, upd (fun _ => none) m (some ⟨g, e, rows', true⟩)⟩, M, rfl, ⟨g, rfl, rfl⟩, hi.2.pick (tag := tag) hob m, by simpa [tupOf, Rep] using hr⟩

/-- What is handed back asQ the caller's own may be taken for frozen. -/
theorem PFun.of_own {f : FuncId} {args : List PV} {m : Nat} {e : TypeId} {rows : List (List PV)} (h : PCalls P f args (OwnR m e rows)) : PFun P f args (.list e rows) := by
  intro w M own hg vs hi ha
  refine (h w M own hg vs hi ha).mono ?_
  rintro e' w' ⟨v, u, H', M', rfl, ⟨g, rfl, rfl⟩, hi', hr⟩
  obtain ⟨M'', hle, hi'', hr''⟩ := hi'.freezeO (tag := m) (x := ⟨g, e, rows, true⟩) (by simp only; exact upd_same _ _ _)
  refine ⟨v, _, _, M'', rfl, ⟨rfl, rfl⟩, hi''.less (fun _ _ hx => by simp [Heap.empty] at hx) (fun _ _ hx => by simp [Heap.empty] at hx), ?_⟩
  simp only [Rep] at hr
  rw [hr.2]
  exact hr''
end
end Go.Ab
