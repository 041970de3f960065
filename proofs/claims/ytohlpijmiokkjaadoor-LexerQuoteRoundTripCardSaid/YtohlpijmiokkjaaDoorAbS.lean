/- The abstract layer, part S: elements of the call's own slices; variables and slices that are handed over to a callee and come back. -/
import Derived.Test.YtohlpijmiokkjaaDoorAbR
namespace Go.Ab

section
variable {P : Program} {T : TT}

theorem detS_idxO (hT : T.Ok P) {o : Oper} {ev : Operand → PV} {H : Heap} {t : TypeId} {x i : Operand} (ho : o.op = .indexAddr t x i) {ti ei : TInfo} {e : TypeId} (hti : T.get t = some ti) (hd : ti.desc = .slice e) (hei : T.get e = some ei)
    {tag : Nat} {g : OwnRef} {len : Nat} (hx : ev x = .own tag g len) {k : IntKind} {j : Int} (hi : ev i = .val (.int k j)) (hj : 0 ≤ j ∧ j.toNat < len) (hb : ∃ b, g.blk = some b) : DetS P o ev H (.optr tag g ei.size j.toNat 0) := by
  intro C M a w _ he
  have hxr := he x (by rw [ho]; simp [Op.operands])
  have hir := he i (by rw [ho]; simp [Op.operands])
  rw [hx] at hxr
  rw [hi] at hir
  simp only [Rep] at hxr hir
  obtain ⟨b, hb⟩ := hb
  have hu := (hT.get hti).rund w
  rw [hd] at hu
  have hsz := (hT.get hei).rsize w
  have h2 : j < (len : Int) := by omega
  refine ⟨.pointer (some ⟨b, j.toNat * ei.size, none⟩), ?_, ?_⟩
  · simp [execOp, ho, Instr.indexAt, hir, hxr.2, OwnRef.val, hb, asIntOf, hu, hj.1, h2, hsz, add_off]
  · simp only [Rep]
    exact ⟨trivial, b, hb, by simp⟩

theorem rows_flat_get {k : Nat} : ∀ {rows : List (List PV)} {j : Nat} {r : List PV}, (∀ q ∈ rows, q.length = k) → rows[j]? = some r → ∀ i p, r[i]? = some p → rows.flatten[j * k + i]? = some p
  | [], j, r, _, h, _, _, _ => by simp at h
  | q :: rows, 0, r, hl, h, i, p, hp => by
    simp only [List.getElem?_cons_zero, Option.some.injEq] at h
    subst h
    simp only [List.flatten_cons, Nat.zero_mul, Nat.zero_add]
    rw [List.getElem?_append_left (List.getElem?_eq_some_iff.1 hp).1]
    exact hp
  | q :: rows, j + 1, r, hl, h, i, p, hp => by
    have hq := hl q (by simp)
    have := rows_flat_get (rows := rows) (j := j) (fun q hq => hl q (by simp [hq])) (by simpa using h) i p hp
    simp only [List.flatten_cons]
    rw [List.getElem?_append_right (by rw [hq, Nat.add_mul]; omega), hq, show (j + 1) * k + i - k = j * k + i from by rw [Nat.add_mul]; omega]
    exact this

theorem detS_loadO (hT : T.Ok P) {o : Oper} {ev : Operand → PV} {H : Heap} {t : TypeId} {x : Operand} (ho : o.op = .load t x) {ti : TInfo} (hti : T.get t = some ti) {tag : Nat} {g : OwnRef} {k row off : Nat} (hx : ev x = .optr tag g k row off)
    {e : TypeId} {rows : List (List PV)} {wr : Bool} (hob : H.ob tag = some ⟨g, e, rows, wr⟩) {ei : TInfo} (hei : T.get e = some ei) (hk : k = ei.size) {cells : List PV} (hr : rows[row]? = some cells) {r : PV} (hc : readCells ti off cells = some r) : DetS P o ev H r := by
  intro C M a w hi he
  have hxr := he x (by rw [ho]; simp [Op.operands])
  rw [hx] at hxr
  simp only [Rep] at hxr
  obtain ⟨_, b, hb, hv⟩ := hxr
  obtain ⟨i, h1, h2, h3, h4⟩ := hi.objs tag _ hob
  obtain ⟨i', h5, h6, _, _⟩ := (hT.get hei).info
  simp only at h1 h3 h4
  rw [h1] at h5
  cases h5
  rcases h4 with ⟨hn, _⟩ | ⟨b', cur, hb', hm, hcur, hcs, hlc, hcm, hcr, h1c, _, _⟩
  · rw [hb] at hn; cases hn
  · rw [hb] at hb'
    cases hb'
    have hlt : row < rows.length := (List.getElem?_eq_some_iff.1 hr).1
    have hcl : cells.length = i.size := h3 cells (List.mem_of_getElem? hr)
    have hks : k = i.size := by rw [hk, h6]
    subst hks
    -- the cells of that row
    have hflat : rows.flatten.length = rows.length * i.size := by
      have : ∀ l : List (List PV), (∀ q ∈ l, q.length = i.size) → l.flatten.length = l.length * i.size := by
        intro l
        induction l with
        | nil => simp
        | cons q l ih => intro hl; simp [ih fun q hq => hl q (by simp [hq]), hl q (by simp), Nat.add_mul]; omega
      exact this rows h3
    have hseg : RepAll P M false cells ((cur.toList.take (rows.length * i.size)).drop (row * i.size) |>.take i.size) := by
      have h7 := (hcr.drop (row * i.size)).take i.size
      have e1 : (rows.flatten.drop (row * i.size)).take i.size = cells := by
        apply List.ext_getElem?
        intro m
        rw [List.getElem?_take]
        split
        · rename_i hm
          rw [List.getElem?_drop]
          have hcm : cells[m]? = some cells[m] := List.getElem?_eq_getElem (by omega)
          rw [hcm]
          exact rows_flat_get h3 hr m _ hcm
        · rw [List.getElem?_eq_none (by omega)]
      rwa [e1] at h7
    obtain ⟨v, h8, h9⟩ := run_load_cells (hT.get hti) w b (row * i.size) off cells _ hseg (fun j y hj => by
      rw [cell_of_row w b (row * i.size + j) cur e (0, 0) hcur]
      rw [List.getElem?_take] at hj
      split at hj
      · rw [List.getElem?_drop, List.getElem?_take] at hj
        split at hj
        · simpa using hj
        · cases hj
      · cases hj) hc
    refine ⟨v, ?_, h9.slot⟩
    simp [execOp, ho, hv, Instr.loadAt, Instr.sureAddr, h8]

theorem splice_seg {α : Type} (X Y Z cs : List α) (off : Nat) (h : off + cs.length ≤ Y.length) :
    X ++ (Y.take off ++ cs ++ Y.drop (off + cs.length)) ++ Z = (X ++ (Y ++ Z)).take (X.length + off) ++ cs ++ (X ++ (Y ++ Z)).drop (X.length + off + cs.length) := by
  rw [List.take_length_add_append, List.take_append_of_le_length (by omega), show X.length + off + cs.length = X.length + (off + cs.length) from by omega, List.drop_length_add_append, List.drop_append_of_le_length h]
  simp
theorem splice_take {α : Type} (l cs : List α) (p N : Nat) (h : p + cs.length ≤ N) (hN : N ≤ l.length) :
    (l.take p ++ cs ++ l.drop (p + cs.length)).take N = (l.take N).take p ++ cs ++ (l.take N).drop (p + cs.length) := by
  obtain ⟨U, hU⟩ : ∃ U, U = l.take N := ⟨_, rfl⟩
  obtain ⟨W, hW⟩ : ∃ W, W = l.drop N := ⟨_, rfl⟩
  have hl : l = U ++ W := by rw [hU, hW, List.take_append_drop]
  have hUl : U.length = N := by rw [hU]; simp; omega
  rw [← hU, hl, List.take_append_of_le_length (l₁ := U) (i := p) (by omega), List.drop_append_of_le_length (l₁ := U) (i := p + cs.length) (by omega)]
  rw [← List.append_assoc]
  have e : (U.take p ++ cs ++ U.drop (p + cs.length)).length = N := by simp; omega
  rw [← e, List.take_left]

/-- The rows, with some cells of one of them written. -/
def setRow (rows : List (List PV)) (row off : Nat) (cs : List PV) : List (List PV) := rows.set row (splice (rows.getD row []) off cs)

theorem set_flat {k : Nat} : ∀ {rows : List (List PV)} {j : Nat} {q : List PV}, (∀ r ∈ rows, r.length = k) → q.length = k → j < rows.length → (rows.set j q).flatten = rows.flatten.take (j * k) ++ q ++ rows.flatten.drop (j * k + k)
  | [], j, q, _, _, h => by simp at h
  | r :: rows, 0, q, hl, hq, _ => by
    have hr := hl r (by simp)
    simp only [List.set_cons_zero, List.flatten_cons, Nat.zero_mul, List.take_zero, List.nil_append, Nat.zero_add]
    rw [← hr, List.drop_left]
  | r :: rows, j + 1, q, hl, hq, h => by
    have hr := hl r (by simp)
    have ih := set_flat (rows := rows) (j := j) (q := q) (fun r hr => hl r (by simp [hr])) hq (by simpa using h)
    simp only [List.set_cons_succ, List.flatten_cons, ih]
    have e1 : (j + 1) * k = r.length + j * k := by rw [Nat.add_mul, hr]; omega
    have e2 : r.length + j * k + k = r.length + (j * k + k) := by omega
    rw [e1, List.take_length_add_append, e2, List.drop_length_add_append]
    simp

theorem eff_storeO (hT : T.Ok P) {o : Oper} {ev : Operand → PV} {H : Heap} {t : TypeId} {x y : Operand} (ho : o.op = .store t x y) {ti : TInfo} (hti : T.get t = some ti) {tag : Nat} {g : OwnRef} {k row off : Nat} (hx : ev x = .optr tag g k row off)
    {e : TypeId} {rows : List (List PV)} (hob : H.ob tag = some ⟨g, e, rows, true⟩) {ei : TInfo} (hei : T.get e = some ei) (hk : k = ei.size) (hrow : row < rows.length) {py : PV} (hy : PLe P (ev y) py) {cs : List PV} (hc : cellsPV py = some cs) (hf : PV.frozL cs = true) (h1 : cs.all PV.one = true) (hl : cs.length = ti.size) (hle : off + ti.size ≤ ei.size)
    {K : PV → Heap → Prop} (hK : K .any ⟨H.bx, upd H.ob tag (some ⟨g, e, setRow rows row off cs, true⟩)⟩) : Eff P o ev H K := by
  intro C M a w next Q hi he hn
  have hxr := he x (by rw [ho]; simp [Op.operands])
  have hyr := he y (by rw [ho]; simp [Op.operands])
  rw [hx] at hxr
  simp only [Rep] at hxr
  obtain ⟨_, b, hb, hv⟩ := hxr
  have hr := cellsPV_sound hc (hy M _ hyr)
  have hone := RepAll.oneCell h1 hr
  have hrf := RepAll.unslot hf hr
  have hvs : (a.eval y).cells.size = ti.size := by have := hr.length; simp at this; omega
  obtain ⟨i, g1, g2, g3, g4⟩ := hi.objs tag _ hob
  obtain ⟨i', g5, g6, _, _⟩ := (hT.get hei).info
  simp only at g1 g2 g3 g4
  rw [g1] at g5
  cases g5
  rcases g4 with ⟨hn', _⟩ | ⟨b', cur, hb', hm, hcur, hcs, hlc, hcm, hcr, h1c, hw1, hw2⟩
  · rw [hb] at hn'; cases hn'
  rw [hb] at hb'
  cases hb'
  have hks : k = i.size := by rw [hk, g6]
  subst hks
  rw [← g6] at hle
  have hfit : row * i.size + i.size ≤ rows.length * i.size := by
    have := Nat.mul_le_mul_right i.size (show row + 1 ≤ rows.length from hrow)
    rw [Nat.add_mul] at this
    omega
  have hcap : rows.length * i.size ≤ cur.size := by rw [hcs]; exact Nat.mul_le_mul_right _ hlc
  have hvl : (a.eval y).cells.toList.length = ti.size := by simpa using hvs
  have hst := run_storeCells_at P b (row * i.size + off) e (a.eval y).cells.toList 0 cur w hcur (by rw [hvl]; omega) hone
  simp only [Nat.add_zero] at hst
  have hrun : (execOp a.eval o).run P w = .ok .skip (w.setRow b (cur.toList.take (row * i.size + off) ++ (a.eval y).cells.toList ++ cur.toList.drop (row * i.size + off + (a.eval y).cells.toList.length)).toArray) := by
    simp only [execOp, ho, Instr.storeAt, hv, Instr.sureAddr, Sem.run_bind, Sem.run_pure, Result.andThen_ok, storeVar, (hT.get hti).rsize w, hvs]
    simp only [ne_eq, not_true_eq_false, if_false]
    rw [hst]
    rfl
  unfold Oper.wp
  rw [hrun]
  have hgetD : rows.getD row [] = rows[row] := by simp [hrow]
  have hrl : (rows.getD row []).length = i.size := by rw [hgetD]; exact g3 _ (List.getElem_mem hrow)
  have hspl : (splice (rows.getD row []) off cs).length = i.size := by
    unfold splice
    rw [List.length_append, List.length_append, List.length_take, List.length_drop, hrl, hl]
    omega
  have hlens : ∀ r ∈ setRow rows row off cs, r.length = i.size := by
    intro r hr'
    rcases List.mem_or_eq_of_mem_set hr' with h | h
    · exact g3 r h
    · rw [h]; exact hspl
  have hlen : (setRow rows row off cs).length = rows.length := by simp [setRow]
  have hflat : rows.flatten.length = rows.length * i.size := by
    have : ∀ l : List (List PV), (∀ q ∈ l, q.length = i.size) → l.flatten.length = l.length * i.size := by
      intro l
      induction l with
      | nil => simp
      | cons q l ih => intro hl; simp [ih fun q hq => hl q (by simp [hq]), hl q (by simp), Nat.add_mul]; omega
    exact this rows g3
  have hrl2 : rows[row].length = i.size := g3 _ (List.getElem_mem hrow)
  have hrowcells : (rows.flatten.drop (row * i.size)).take i.size = rows.getD row [] := by
    rw [hgetD]
    apply List.ext_getElem?
    intro m
    rw [List.getElem?_take]
    split
    · rename_i hm'
      rw [List.getElem?_drop]
      have hml : m < rows[row].length := by rw [hrl2]; exact hm'
      have hcm' : rows[row][m]? = some (rows[row][m]'hml) := List.getElem?_eq_getElem hml
      rw [hcm']
      exact rows_flat_get g3 (List.getElem?_eq_getElem hrow) m _ hcm'
    · rw [List.getElem?_eq_none (by rw [hrl2]; omega)]
  have hpv : (setRow rows row off cs).flatten = splice rows.flatten (row * i.size + off) cs := by
    unfold setRow
    rw [set_flat g3 hspl hrow, ← hrowcells]
    have hA : (rows.flatten.take (row * i.size)).length = row * i.size := by rw [List.length_take, hflat]; omega
    have hY : ((rows.flatten.drop (row * i.size)).take i.size).length = i.size := by rw [List.length_take, List.length_drop, hflat]; omega
    have hdec : rows.flatten = rows.flatten.take (row * i.size) ++ ((rows.flatten.drop (row * i.size)).take i.size ++ rows.flatten.drop (row * i.size + i.size)) := by
      rw [← List.drop_drop, List.take_append_drop, List.take_append_drop]
    have key := splice_seg (rows.flatten.take (row * i.size)) ((rows.flatten.drop (row * i.size)).take i.size) (rows.flatten.drop (row * i.size + i.size)) cs off (by rw [hY, hl]; omega)
    rw [← hdec, hA] at key
    exact key
  have hvlist : (cur.toList.take (row * i.size + off) ++ (a.eval y).cells.toList ++ cur.toList.drop (row * i.size + off + (a.eval y).cells.toList.length)).take (rows.length * i.size) =
      (cur.toList.take (rows.length * i.size)).take (row * i.size + off) ++ (a.eval y).cells.toList ++ (cur.toList.take (rows.length * i.size)).drop (row * i.size + off + (a.eval y).cells.toList.length) := by
    exact splice_take cur.toList (a.eval y).cells.toList (row * i.size + off) (rows.length * i.size) (by rw [hvl]; omega) (by simpa using hcap)
  refine hn undef _ _ M _ hK (Mem.le_refl M) (hi.set_obj tag _ hob b hb (setRow rows row off cs) true _ i g1 ?_ hlens ?_ ?_ hcm ?_ ?_ ?_ (fun _ => hw1 trivial) ?_) (by simp [Rep])
  · rw [hlen]; exact g2
  · simp only [List.size_toArray, List.length_append, List.length_take, List.length_drop, Array.length_toList, hvl]
    omega
  · rw [hlen]; exact hlc
  · rw [hlen, hpv]
    simp only
    rw [hvlist]
    exact splice_rep hcr hrf (row * i.size + off)
  · rw [hlen]
    simp only
    rw [hvlist]
    intro v hv'
    simp only [List.mem_append] at hv'
    rcases hv' with (h | h) | h
    · exact h1c v (List.mem_of_mem_take h)
    · exact hone v h
    · exact h1c v (List.mem_of_mem_drop h)
  · intro o' v' hm'
    rw [hw1 trivial o'] at hm'
    cases hm'
  · intro o' _
    exact hw1 trivial o'
end

section
variable {P : Program} {ops : Array Oper} {rest : List Oper} {o : Oper} {n : Nat} {s s' : Nat → PV} {bx : Nat → Option Box} {ob : Nat → Option Obj} {K : PState → Prop} {T : TT} {rb : RB} {k : Nat} {L : List Nat}

theorem AOps.detS (hg : guardA ops s o = some true) {r : PV} (hd : DetS P o (evS s) ⟨bx, ob⟩ r) (hp : putD n s o.dst r = some s') (h : AOps P ops rest ⟨n, s', bx, ob⟩ K) : AOps P ops (o :: rest) ⟨n, s, bx, ob⟩ K :=
  AOps.eff hg (fun C M a w next Q hi he hn => by
    obtain ⟨v, hrun, hr⟩ := hd C M a w hi he
    unfold Oper.wp
    rw [hrun]
    exact hn v r ⟨bx, ob⟩ M w ⟨s', hp, h⟩ (Mem.le_refl M) hi hr)

theorem DOps.detS (ho : ops[k]? = some o) (hg : guardA ops s o = some true) (hc : clsOf o.op = .det) {r : PV} (hd : ∀ bx', DetS P o (evS s) ⟨bx', if rb.o o && isLoad o.op then ob else fun _ => none⟩ r) (hp : putD n s o.dst r = some s')
    (h : DOps P T rb ops L ⟨n, s', bx, ob⟩ K) : DOps P T rb ops (k :: L) ⟨n, s, bx, ob⟩ K := by
  refine ⟨o, ho, true, hg, ?_⟩
  simp only [if_true, hc]
  exact ⟨r, s', .inr hd, hp, h⟩

theorem AOps.idxO (hT : T.Ok P) (hg : guardA ops s o = some true) {t : TypeId} {x i : Operand} (ho : o.op = .indexAddr t x i) {ti ei : TInfo} {e : TypeId} (hti : T.get t = some ti) (hd : ti.desc = .slice e) (hei : T.get e = some ei)
    {tag : Nat} {g : OwnRef} {len : Nat} (hx : evS s x = .own tag g len) {kk : IntKind} {j : Int} (hi : evS s i = .val (.int kk j)) (hj : 0 ≤ j ∧ j.toNat < len) (hb : ∃ b, g.blk = some b) (hp : putD n s o.dst (.optr tag g ei.size j.toNat 0) = some s') (h : AOps P ops rest ⟨n, s', bx, ob⟩ K) :
    AOps P ops (o :: rest) ⟨n, s, bx, ob⟩ K := AOps.detS hg (detS_idxO hT ho hti hd hei hx hi hj hb) hp h
theorem DOps.idxO (hT : T.Ok P) (ho : ops[k]? = some o) (hg : guardA ops s o = some true) {t : TypeId} {x i : Operand} (hop : o.op = .indexAddr t x i) {ti ei : TInfo} {e : TypeId} (hti : T.get t = some ti) (hd : ti.desc = .slice e) (hei : T.get e = some ei)
    {tag : Nat} {g : OwnRef} {len : Nat} (hx : evS s x = .own tag g len) {kk : IntKind} {j : Int} (hi : evS s i = .val (.int kk j)) (hj : 0 ≤ j ∧ j.toNat < len) (hb : ∃ b, g.blk = some b) (hp : putD n s o.dst (.optr tag g ei.size j.toNat 0) = some s') (h : DOps P T rb ops L ⟨n, s', bx, ob⟩ K) :
    DOps P T rb ops (k :: L) ⟨n, s, bx, ob⟩ K := DOps.detS ho hg (by rw [hop]; rfl) (fun _ => detS_idxO hT hop hti hd hei hx hi hj hb) hp h
theorem AOps.loadO (hT : T.Ok P) (hg : guardA ops s o = some true) {t : TypeId} {x : Operand} (ho : o.op = .load t x) {ti : TInfo} (hti : T.get t = some ti) {tag : Nat} {g : OwnRef} {kz row off : Nat} (hx : evS s x = .optr tag g kz row off)
    {e : TypeId} {rows : List (List PV)} {wr : Bool} (hob : ob tag = some ⟨g, e, rows, wr⟩) {ei : TInfo} (hei : T.get e = some ei) (hk : kz = ei.size) {cells : List PV} (hr : rows[row]? = some cells) {r : PV} (hc : readCells ti off cells = some r) (hp : putD n s o.dst r = some s') (h : AOps P ops rest ⟨n, s', bx, ob⟩ K) :
    AOps P ops (o :: rest) ⟨n, s, bx, ob⟩ K := AOps.detS hg (detS_loadO hT ho hti hx hob hei hk hr hc) hp h
theorem DOps.loadO (hT : T.Ok P) (ho : ops[k]? = some o) (hro : rb.o o = true) (hg : guardA ops s o = some true) {t : TypeId} {x : Operand} (hop : o.op = .load t x) {ti : TInfo} (hti : T.get t = some ti) {tag : Nat} {g : OwnRef} {kz row off : Nat} (hx : evS s x = .optr tag g kz row off)
    {e : TypeId} {rows : List (List PV)} {wr : Bool} (hob : ob tag = some ⟨g, e, rows, wr⟩) {ei : TInfo} (hei : T.get e = some ei) (hk : kz = ei.size) {cells : List PV} (hr : rows[row]? = some cells) {r : PV} (hc : readCells ti off cells = some r) (hp : putD n s o.dst r = some s') (h : DOps P T rb ops L ⟨n, s', bx, ob⟩ K) :
    DOps P T rb ops (k :: L) ⟨n, s, bx, ob⟩ K := by
  refine DOps.detS ho hg (by rw [hop]; rfl) (fun bx' => ?_) hp h
  have : (rb.o o && isLoad o.op) = true := by rw [hro, hop]; rfl
  rw [this]
  exact detS_loadO hT hop hti hx hob hei hk hr hc

theorem AOps.storeO (hT : T.Ok P) (hg : guardA ops s o = some true) {t : TypeId} {x y : Operand} (ho : o.op = .store t x y) (hdst : o.dst = none) {ti : TInfo} (hti : T.get t = some ti) {tag : Nat} {g : OwnRef} {kz row off : Nat} (hx : evS s x = .optr tag g kz row off)
    {e : TypeId} {rows rows' : List (List PV)} (hob : ob tag = some ⟨g, e, rows, true⟩) {ei : TInfo} (hei : T.get e = some ei) (hk : kz = ei.size) (hrow : row < rows.length) {py : PV} (hy : PLe P (evS s y) py) {cs : List PV} (hc : cellsPV py = some cs) (hf : PV.frozL cs = true) (h1 : cs.all PV.one = true) (hl : cs.length = ti.size) (hle : off + ti.size ≤ ei.size)
    (hr : setRow rows row off cs = rows') (h : AOps P ops rest ⟨n, s, bx, upd ob tag (some ⟨g, e, rows', true⟩)⟩ K) : AOps P ops (o :: rest) ⟨n, s, bx, ob⟩ K := by
  subst hr
  exact AOps.eff hg (eff_storeO hT ho hti hx hob hei hk hrow hy hc hf h1 hl hle ⟨s, by simp [hdst, putD], h⟩)
theorem DOps.storeO (hT : T.Ok P) (ho : ops[k]? = some o) (hg : guardA ops s o = some true) {t : TypeId} {x y : Operand} (hop : o.op = .store t x y) (hdst : o.dst = none) {ti : TInfo} (hti : T.get t = some ti) {tag : Nat} {g : OwnRef} {kz row off : Nat} (hx : evS s x = .optr tag g kz row off)
    {e : TypeId} {rows rows' : List (List PV)} (hob : ob tag = some ⟨g, e, rows, true⟩) {ei : TInfo} (hei : T.get e = some ei) (hk : kz = ei.size) (hrow : row < rows.length) {py : PV} (hy : PLe P (evS s y) py) {cs : List PV} (hc : cellsPV py = some cs) (hf : PV.frozL cs = true) (h1 : cs.all PV.one = true) (hl : cs.length = ti.size) (hle : off + ti.size ≤ ei.size)
    (hr : setRow rows row off cs = rows') (h : DOps P T rb ops L ⟨n, s, bx, upd ob tag (some ⟨g, e, rows', true⟩)⟩ K) : DOps P T rb ops (k :: L) ⟨n, s, bx, ob⟩ K := by
  subst hr
  refine ⟨o, ho, true, hg, ?_⟩
  simp only [if_true, hop, clsOf]
  exact ⟨hdst, .inr fun bx' => eff_storeO hT hop hti hx hob hei hk hrow hy hc hf h1 hl hle ⟨rfl, h⟩⟩

theorem idxLen {α β : Type} {f : α → β} {xs : List α} {j : Nat} {x : α} (h : xs[j]? = some x) : j < (xs.map f).length := by
  have := (List.getElem?_eq_some_iff.1 h).1
  simpa using this
theorem idxLenE {α β : Type} {f : α → β} {xs : List α} {j : Nat} {x : α} {l : Nat} (hl : l = (xs.map f).length) (h : xs[j]? = some x) : j < l := hl ▸ idxLen h
theorem idxBlk {α : Type} {f : α → List PV} {xs : List α} {j : Nat} {x : α} {g : OwnRef} (ho : xs.map f ≠ [] → ∃ b, g.blk = some b) (h : xs[j]? = some x) : ∃ b, g.blk = some b := by
  refine ho fun e => ?_
  have := (List.getElem?_eq_some_iff.1 h).1
  rw [List.map_eq_nil_iff] at e
  rw [e] at this
  simp at this
theorem setRow_map {α : Type} {f f' : α → List PV} (hE : ∀ x, f' x = f x) {xs ys : List α} {j off : Nat} {x v : α} {cs : List PV} (h : xs[j]? = some x) (hs : splice (f x) off cs = f v) (hy : xs.set j v = ys) : setRow (xs.map f') j off cs = ys.map f' := by
  subst hy
  have hlt := (List.getElem?_eq_some_iff.1 h).1
  unfold setRow
  have e : (xs.map f').getD j [] = f x := by simp [h, hE]
  rw [e, hs, ← hE v, List.map_set]
theorem set_len {α β : Type} {f : α → β} {xs ys : List α} {j : Nat} {v : α} (hy : xs.set j v = ys) : (xs.map f).length = (ys.map f).length := by subst hy; simp
theorem PLe.ownLen (P : Program) {tag : Nat} {g : OwnRef} {l l' : Nat} (h : l = l') : PLe P (.own tag g l) (.own tag g l') := h ▸ PLe.refl P _

/-- An own slice that is not empty has a block. -/
theorem V.ownF {fn : Func} {R : PV → Heap → Prop} {ks : List KI} {tag : Nat} {g : OwnRef} {e : TypeId} {rows : List (List PV)} {wr : Bool} (hob : ob tag = some ⟨g, e, rows, wr⟩) (h : (rows ≠ [] → ∃ b, g.blk = some b) → V P fn R ks ⟨n, s, bx, ob⟩) : V P fn R ks ⟨n, s, bx, ob⟩ := fun C M a w hi => by
  refine h (fun hne => ?_) C M a w hi
  obtain ⟨_, _, _, _, h4⟩ := hi.2.objs tag _ hob
  rcases h4 with ⟨_, h5, _⟩ | ⟨b, _, h5, _⟩
  · exact absurd h5 hne
  · exact ⟨b, h5⟩
/-- The length of an own slice. -/
theorem V.ownL {fn : Func} {R : PV → Heap → Prop} {ks : List KI} {tag : Nat} {g : OwnRef} {e : TypeId} {rows : List (List PV)} {wr : Bool} (hob : ob tag = some ⟨g, e, rows, wr⟩) (h : rows.length ≤ maxLen → V P fn R ks ⟨n, s, bx, ob⟩) : V P fn R ks ⟨n, s, bx, ob⟩ := fun C M a w hi => by
  refine h ?_ C M a w hi
  obtain ⟨_, _, _, _, h4⟩ := hi.2.objs tag _ hob
  rcases h4 with ⟨_, h5, _⟩ | ⟨b, _, h5, _, _, _, h6, h7, _⟩
  · simp only at h5; rw [h5]; simp
  · exact Nat.le_trans h6 h7
end
end Go.Ab
