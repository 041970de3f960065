/- The abstract layer, part S: elements of the call's own slices; variables and slices that are handed over to a callee and come back. -/
import Derived.Test.YtjnpnakcmjndiaaGreatDoorMjh
namespace Go.Ab

section
variable {P : Program} {T : TT}

theorem detS_idxO (hT : T.Ok P) {o : Oper} {ev : Operand → PV} {H : Heap} {t : TypeId} {x i : Operand} (ho : o.op = .indexAddr t x i) {ti ei : TInfo} {e : TypeId} (hti : T.get t = some ti) (hd : ti.desc = .slice e) (hei : T.get e = some ei)
    {tag : Nat} {g : OwnRef} {len : Nat} (hx : ev x = .own tag g len) {k : IntKind} {j : Int} (hi : ev i = .val (.int k j)) (hj : 0 ≤ j ∧ j.toNat < len) (hb : ∃ b, g.blk = some b) : DetS P o ev H (.optr tag g ei.size j.toNat 0) := by
  intro C M a w _ he
  have hxr := he x (by rw [ho]; simp [Op.operands])
  have hir := he i (by rw [ho]; simp [Op.operands])
  rw [hx] at hxr
  rw [hi] at hir
  simp only [Rep] at hxr hir
  obtain ⟨b, hb⟩ := hb
  have hu := (hT.get hti).rund w
  rw [hd] at hu
  have hsz := (hT.get hei).rsize w
  have h2 : j < (len : Int) := by omega
  refine ⟨.pointer (some ⟨b, j.toNat * ei.size, none⟩), ?_, ?_⟩
  · simp [execOp, ho, Instr.indexAt, hir, hxr.2, OwnRef.val, hb, asIntOf, hu, hj.1, h2, hsz, add_off]
  · simp only [Rep]
    exact ⟨trivial, b, hb, by simp⟩

theorem rows_flat_get {k : Nat} : ∀ {rows : List (List PV)} {j : Nat} {r : List PV}, (∀ q ∈ rows, q.length = k) → rows[j]? = some r → ∀ i p, r[i]? = some p → rows.flatten[j * k + i]? = some p
  | [], j, r, _, h, _, _, _ => by simp at h
  | q :: rows, 0, r, hl, h, i, p, hp => by
    simp only [List.getElem?_cons_zero, Option.some.injEq] at h
    subst h
    simp only [List.flatten_cons, Nat.zero_mul, Nat.zero_add]
    rw [List.getElem?_append_left (List.getElem?_eq_some_iff.1 hp).1]
    exact hp
  | q :: rows, j + 1, r, hl, h, i, p, hp => by
    have hq := hl q (by simp)
    have := rows_flat_get (rows := rows) (j := j) (fun q hq => hl q (by simp [hq])) (by simpa using h) i p hp
    simp only [List.flatten_cons]
    rw [List.getElem?_append_right (by rw [hq, Nat.add_mul]; omega), hq, show (j + 1) * k + i - k = j * k + i from by rw [Nat.add_mul]; omega]
    exact this

theorem detS_loadO (hT : T.Ok P) {o : Oper} {ev : Operand → PV} {H : Heap} {t : TypeId} {x : Operand} (ho : o.op = .load t x) {ti : TInfo} (hti : T.get t = some ti) {tag : Nat} {g : OwnRef} {k row off : Nat} (hx : ev x = .optr tag g k row off)
    {e : TypeId} {rows : List (List PV)} {wr : Bool} (hob : H.ob tag = some ⟨g, e, rows, wr⟩) {ei : TInfo} (hei : T.get e = some ei) (hk : k = ei.size) {cells : List PV} (hr : rows[row]? = some cells) {r : PV} (hc : readCells ti off cells = some r) : DetS P o ev H r := by
  intro C M a w hi he
  have hxr := he x (by rw [ho]; simp [Op.operands])
  rw [hx] at hxr
  simp only [Rep] at hxr
  obtain ⟨_, b, hb, hv⟩ := hxr
  obtain ⟨i, h1, h2, h3, h4⟩ := hi.objs tag _ hob
  obtain ⟨i', h5, h6, _, _⟩ := (hT.get hei).info
  simp only at h1 h3 h4
  rw [h1] at h5
  cases h5
  rcases h4 with ⟨hn, _⟩ | ⟨b', cur, hb', hm, hcur, hcs, hlc, hcm, hcr, h1c, _, _⟩
  · rw [hb] at hn; cases hn
  · rw [hb] at hb'
    cases hb'
    have hlt : row < rows.length := (List.getElem?_eq_some_iff.1 hr).1
    have hcl : cells.length = i.size := h3 cells (List.mem_of_getElem? hr)
    have hks : k = i.size := by rw [hk, h6]
    subst hks
    -- the cells of that row
    have hflat : rows.flatten.length = rows.length * i.size := by
      have : ∀ l : List (List PV), (∀ q ∈ l, q.length = i.size) → l.flatten.length = l.length * i.size := by
        intro l
        induction l with
        | nil => simp
        | cons q l ih => intro hl; simp [ih fun q hq => hl q (by simp [hq]), hl q (by simp), Nat.add_mul]; omega
      exact this rows h3
    have hseg : RepAll P M false cells ((cur.toList.take (rows.length * i.size)).drop (row * i.size) |>.take i.size) := by
      have h7 := (hcr.drop (row * i.size)).take i.size
      have e1 : (rows.flatten.drop (row * i.size)).take i.size = cells := by
        apply List.ext_getElem?
        intro m
        rw [List.getElem?_take]
        split
        · rename_i hm
          rw [List.getElem?_drop]
          have hcm : cells[m]? = some cells[m] := List.getElem?_eq_getElem (by omega)
          rw [hcm]
          exact rows_flat_get h3 hr m _ hcm
        · rw [List.getElem?_eq_none (by omega)]
      rwa [e1] at h7
    obtain ⟨v, h8, h9⟩ := run_load_cells (hT.get hti) w b (row * i.size) off cells _ hseg (fun j y hj => by
      rw [cell_of_row w b (row * i.size + j) cur e (0, 0) hcur]
      rw [List.getElem?_take] at hj
      split at hj
      · rw [List.getElem?_drop, List.getElem?_take] at hj
        split at hj
        · simpa using hj
        · cases hj
      · cases hj) hc
    refine ⟨v, ?_, h9.slot⟩
    simp [execOp, ho, hv, Instr.loadAt, Instr.sureAddr, h8]

theorem splice_seg {α : Type} (X Y Z cs : List α) (off : Nat) (h : off + cs.length ≤ Y.length) :
    X ++ (Y.take off ++ cs ++ Y.drop (off + cs.length)) ++ Z = (X ++ (Y ++ Z)).take (X.length + off) ++ cs ++ (X ++ (Y ++ Z)).drop (X.length + off + cs.length) := by
  rw [List.take_length_add_append, List.take_append_of_le_length (by omega), show X.length + off + cs.length = X.length + (off + cs.length) from by omega, List.drop_length_add_append, List.drop_append_of_le_length h]
  simp
theorem splice_take {α : Type} (l cs : List α) (p N : Nat) (h : p + cs.length ≤ N) (hN : N ≤ l.length) :
    (l.take p ++ cs ++ l.drop (p + cs.length)).take N = (l.take N).take p ++ cs ++ (l.take N).drop (p + cs.length) := by
  obtain ⟨U, hU⟩ : ∃ U, U = l.take N := ⟨_, rfl⟩
  obtain ⟨W, hW⟩ : ∃ W, W = l.drop N := ⟨_, rfl⟩
  have hl : l = U ++ W := by rw [hU, hW, List.take_append_drop]
  have hUl : U.length = N := by rw [hU]; simp; omega
  rw [← hU, hl, List.take_append_of_le_length (l₁ := U) (i := p) (by omega), List.drop_append_of_le_length (l₁ := U) (i := p + cs.length) (by omega)]
  rw [← List.append_assoc]
  have e : (U.take p ++ cs ++ U.drop (p + cs.length)).length = N := by simp; omega
  rw [← e, List.take_left]

/-- The rows, with some cells of one of them written. -/
def setRow (rows : List (List PV)) (row off : Nat) (cs : List PV) : List (List PV) := rows.set row (splice (rows.getD row []) off cs)

theorem set_flat {k : Nat} : ∀ {rows : List (List PV)} {j : Nat} {q : List PV}, (∀ r ∈ rows, r.length = k) → q.length = k → j < rows.length → (rows.set j q).flatten = rows.flatten.take (j * k) ++ q ++ rows.flatten.drop (j * k + k)
  | [], j, q, _, _, h => by simp at h
  | r :: rows, 0, q, hl, hq, _ => by
    have hr := hl r (by simp)
    simp only [List.set_cons_zero, List.flatten_cons, Nat.zero_mul, List.take_zero, List.nil_append, Nat.zero_add]
    rw [← hr, List.drop_left]
  | r :: rows, j + 1, q, hl, hq, h => by
    have hr := hl r (by simp)
    have ih := set_flat (rows := rows) (j := j) (q := q) (fun r hr => hl r (by simp [hr])) hq (by simpa using h)
    simp only [List.set_cons_succ, List.flatten_cons, ih]
    have e1 : (j + 1) * k = r.length + j * k := by rw [Nat.add_mul, hr]; omega
    have e2 : r.length + j * k + k = r.length + (j * k + k) := by omega
    rw [e1, List.take_length_add_append, e2, List.drop_length_add_append]
    simp

theorem eff_storeO (hT : T.Ok P) {o : Oper} {ev : Operand → PV} {H : Heap} {t : TypeId} {x y : Operand} (ho : o.op = .store t x y) {ti : TInfo} (hti : T.get t = some ti) {tag : Nat} {g : OwnRef} {k row off : Nat} (hx : ev x = .optr tag g k row off)
    {e : TypeId} {rows : List (List PV)} (hob : H.ob tag = some ⟨g, e, rows, true⟩) {ei : TInfo} (hei : T.get e = some ei) (hk : k = ei.size) (hrow : row < rows.length) {py : PV} (hy : PLe P (ev y) py) {cs : List PV} (hc : cellsPV py = some cs) (hf : PV.frozL cs = true) (h1 : cs.all PV.one = true) (hl : cs.length = ti.size) (hle : off + ti.size ≤ ei.size)
    {K : PV → Heap → Prop} (hK : K .any ⟨H.bx, upd H.ob tag (some ⟨g, e, setRow rows row off cs, true⟩)⟩) : Eff P o ev H K := by
  intro C M a w next Q hi he hn
  have hxr := he x (by rw [ho]; simp [Op.operands])
  have hyr := he y (by rw [ho]; simp [Op.operands])
  rw [hx] at hxr
  simp only [Rep] at hxr
  obtain ⟨_, b, hb, hv⟩ := hxr
  have hr := cellsPV_sound hc (hy M _ hyr)
  have hone := RepAll.oneCell h1 hr
  have hrf := RepAll.unslot hf hr
  have hvs : (a.eval y).cells.size = ti.size := by have := hr.length; simp at this; omega
  obtain ⟨i, g1, g2, g3, g4⟩ := hi.objs tag _ hob
  obtain ⟨i', g5, g6, _, _⟩ := (hT.get hei).info
  simp only at g1 g2 g3 g4
  rw [g1] at g5
  cases g5
  rcases g4 with ⟨hn', _⟩ | ⟨b', cur, hb', hm, hcur, hcs, hlc, hcm, hcr, h1c, hw1, hw2⟩
  · rw [hb] at hn'; cases hn'
  rw [hb] at hb'
  cases hb'
  have hks : k = i.size := by rw [hk, g6]
  subst hks
  rw [← g6] at hle
  have hfit : row * i.size + i.size ≤ rows.length * i.size := by
    have := Nat.mul_le_mul_right i.size (show row + 1 ≤ rows.length from hrow)
    rw [Nat.add_mul] at this
    omega
  have hcap : rows.length * i.size ≤ cur.size := by rw [hcs]; exact Nat.mul_le_mul_right _ hlc
  have hvl : (a.eval y).cells.toList.length = ti.size := by simpa using hvs
  have hst := run_storeCells_at P b (row * i.size + off) e (a.eval y).cells.toList 0 cur w hcur (by rw [hvl]; omega) hone
  simp only [Nat.add_zero] at hst
  have hrun : (execOp a.eval o).run P w = .ok .skip (w.setRow b (cur.toList.take (row * i.size + off) ++ (a.eval y).cells.toList ++ cur.toList.drop (row * i.size + off + (a.eval y).cells.toList.length)).toArray) := by
    simp only [execOp, ho, Instr.storeAt, hv, Instr.sureAddr, Sem.run_bind, Sem.run_pure, Result.andThen_ok, storeVar, (hT.get hti).rsize w, hvs]
    simp only [ne_eq, not_true_eq_false, if_false]
    rw [hst]
    rfl
  unfold Oper.wp
  rw [hrun]
  have hgetD : rows.getD row [] = rows[row] := by simp [hrow]
  have hrl : (rows.getD row []).length = i.size := by rw [hgetD]; exact g3 _ (List.getElem_mem hrow)
  have hspl : (splice (rows.getD row []) off cs).length = i.size := by
    unfold splice
    rw [List.length_append, List.length_append, List.length_take, List.length_drop, hrl, hl]
    omega
  have hlens : ∀ r ∈ setRow rows row off cs, r.length = i.size := by
    intro r hr'
    rcases List.mem_or_eq_of_mem_set hr' with h | h
    · exact g3 r h
    · rw [h]; exact hspl
  have hlen : (setRow rows row off cs).length = rows.length := by simp [setRow]
  have hflat : rows.flatten.length = rows.length * i.size := by
    have : ∀ l : List (List PV), (∀ q ∈ l, q.length = i.size) → l.flatten.length = l.length * i.size := by
      intro l
      induction l with
      | nil => simp
      | cons q l ih => intro hl; simp [ih fun q hq => hl q (by simp [hq]), hl q (by simp), Nat.add_mul]; omega
    exact this rows g3
  have hrl2 : rows[row].length = i.size := g3 _ (List.getElem_mem hrow)
  have hrowcells : (rows.flatten.drop (row * i.size)).take i.size = rows.getD row [] := by
    rw [hgetD]
    apply List.ext_getElem?
    intro m
    rw [List.getElem?_take]
    split
    · rename_i hm'
      rw [List.getElem?_drop]
      have hml : m < rows[row].length := by rw [hrl2]; exact hm'
      have hcm' : rows[row][m]? = some (rows[row][m]'hml) := List.getElem?_eq_getElem hml
      rw [hcm']
      exact rows_flat_get g3 (List.getElem?_eq_getElem hrow) m _ hcm'
    · rw [List.getElem?_eq_none (by rw [hrl2]; omega)]
  have hpv : (setRow rows row off cs).flatten = splice rows.flatten (row * i.size + off) cs := by
    unfold setRow
    rw [set_flat g3 hspl hrow, ← hrowcells]
    have hA : (rows.flatten.take (row * i.size)).length = row * i.size := by rw [List.length_take, hflat]; omega
    have hY : ((rows.flatten.drop (row * i.size)).take i.size).length = i.size := by rw [List.length_take, List.length_drop, hflat]; omega
    have hdec : rows.flatten = rows.flatten.take (row * i.size) ++ ((rows.flatten.drop (row * i.size)).take i.size ++ rows.flatten.drop (row * i.size + i.size)) := by
      rw [← List.drop_drop, List.take_append_drop, List.take_append_drop]
    have key := splice_seg (rows.flatten.take (row * i.size)) ((rows.flatten.drop (row * i.size)).take i.size) (rows.flatten.drop (row * i.size + i.size)) cs off (by rw [hY, hl]; omega)
    rw [← hdec, hA] at key
    exact key
  have hvlist : (cur.toList.take (row * i.size + off) ++ (a.eval y).cells.toList ++ cur.toList.drop (row * i.size + off + (a.eval y).cells.toList.length)).take (rows.length * i.size) =
      (cur.toList.take (rows.length * i.size)).take (row * i.size + off) ++ (a.eval y).cells.toList ++ (cur.toList.take (rows.length * i.size)).drop (row * i.size + off + (a.eval y).cells.toList.length) := by
    exact splice_take cur.toList (a.eval y).cells.toList (row * i.size + off) (rows.length * i.size) (by rw [hvl]; omega) (by simpa using hcap)
  refine hn undef _ _ M _ hK (Mem.le_refl M) (hi.set_obj tag _ hob b hb (setRow rows row off cs) true _ i g1 ?_ hlens ?_ ?_ hcm ?_ ?_ ?_ (fun _ => hw1 trivial) ?_) (by simp [Rep])
  · rw [hlen]; exact g2
  · simp only [List.size_toArray, List.length_append, List.length_take, List.length_drop, Array.length_toList, hvl]
    omega
  · rw [hlen]; exact hlc
  · rw [hlen, hpv]
    simp only
    rw [hvlist]
    exact splice_rep hcr hrf (row * i.size + off)
  · rw [hlen]
    simp only
    rw [hvlist]
    intro v hv'
    simp only [List.mem_append] at hv'
    rcases hv' with (h | h) | h
    · exact h1c v (List.mem_of_mem_take h)
    · exact hone v h
    · exact h1c v (List.mem_of_mem_drop h)
  · intro o' v' hm'
    rw [hw1 trivial o'] at hm'
    cases hm'
  · intro o' _
    exact hw1 trivial o'
end

section
variable {P : Program} {ops : Array Oper} {rest : List Oper} {o : Oper} {n : Nat} {s s' : Nat → PV} {bx : Nat → Option Box} {ob : Nat → Option Obj} {K : PState → Prop} {T : TT} {rb : RB} {k : Nat} {L : List Nat}

theorem AOps.detS (hg : guardA ops s o = some true) {r : PV} (hd : DetS P o (evS s) ⟨bx, ob⟩ r) (hp : putD n s o.dst r = some s') (h : AOps P ops rest ⟨n, s', bx, ob⟩ K) : AOps P ops (o :: rest) ⟨n, s, bx, ob⟩ K :=
  AOps.eff hg (fun C M a w next Q hi he hn => by
    obtain ⟨v, hrun, hr⟩ := hd C M a w hi he
    unfold Oper.wp
    rw [hrun]
    exact hn v r ⟨bx, ob⟩ M w ⟨s', hp, h⟩ (Mem.le_refl M) hi hr)

theorem DOps.detS (ho : ops[k]? = some o) (hg : guardA ops s o = some true) (hc : clsOf o.op = .det) {r : PV} (hd : ∀ bx', DetS P o (evS s) ⟨bx', if rb.o o && isLoad o.op then ob else fun _ => none⟩ r) (hp : putD n s o.dst r = some s')
    (h : DOps P T rb ops L ⟨n, s', bx, ob⟩ K) : DOps P T rb ops (k :: L) ⟨n, s, bx, ob⟩ K := by
  refine ⟨o, ho, true, hg, ?_⟩
  simp only [if_true, hc]
  exact ⟨r, s', .inr hd, hp, h⟩

theorem AOps.idxO (hT : T.Ok P) (hg : guardA ops s o = some true) {t : TypeId} {x i : Operand} (ho : o.op = .indexAddr t x i) {ti ei : TInfo} {e : TypeId} (hti : T.get t = some ti) (hd : ti.desc = .slice e) (hei : T.get e = some ei)
    {tag : Nat} {g : OwnRef} {len : Nat} (hx : evS s x = .own tag g len) {kk : IntKind} {j : Int} (hi : evS s i = .val (.int kk j)) (hj : 0 ≤ j ∧ j.toNat < len) (hb : ∃ b, g.blk = some b) (hp : putD n s o.dst (.optr tag g ei.size j.toNat 0) = some s') (h : AOps P ops rest ⟨n, s', bx, ob⟩ K) :
    AOps P ops (o :: rest) ⟨n, s, bx, ob⟩ K := AOps.detS hg (detS_idxO hT ho hti hd hei hx hi hj hb) hp h
theorem DOps.idxO (hT : T.Ok P) (ho : ops[k]? = some o) (hg : guardA ops s o = some true) {t : TypeId} {x i : Operand} (hop : o.op = .indexAddr t x i) {ti ei : TInfo} {e : TypeId} (hti : T.get t = some ti) (hd : ti.desc = .slice e) (hei : T.get e = some ei)
    {tag : Nat} {g : OwnRef} {len : Nat} (hx : evS s x = .own tag g len) {kk : IntKind} {j : Int} (hi : evS s i = .val (.int kk j)) (hj : 0 ≤ j ∧ j.toNat < len) (hb : ∃ b, g.blk = some b) (hp : putD n s o.dst (.optr tag g ei.size j.toNat 0) = some s') (h : DOps P T rb ops L ⟨n, s', bx, ob⟩ K) :
    DOps P T rb ops (k :: L) ⟨n, s, bx, ob⟩ K := DOps.detS ho hg (by rw [hop]; rfl) (fun _ => detS_idxO hT hop hti hd hei hx hi hj hb) hp h
theorem AOps.loadO (hT : T.Ok P) (hg : guardA ops s o = some true) {t : TypeId} {x : Operand} (ho : o.op = .load t x) {ti : TInfo} (hti : T.get t = some ti) {tag : Nat} {g : OwnRef} {kz row off : Nat} (hx : evS s x = .optr tag g kz row off)
    {e : TypeId} {rows : List (List PV)} {wr : Bool} (hob : ob tag = some ⟨g, e, rows, wr⟩) {ei : TInfo} (hei : T.get e = some ei) (hk : kz = ei.size) {cells : List PV} (hr : rows[row]? = some cells) {r : PV} (hc : readCells ti off cells = some r) (hp : putD n s o.dst r = some s') (h : AOps P ops rest ⟨n, s', bx, ob⟩ K) :
    AOps P ops (o :: rest) ⟨n, s, bx, ob⟩ K := AOps.detS hg (detS_loadO hT ho hti hx hob hei hk hr hc) hp h
theorem DOps.loadO (hT : T.Ok P) (ho : ops[k]? = some o) (hro : rb.o o = true) (hg : guardA ops s o = some true) {t : TypeId} {x : Operand} (hop : o.op = .load t x) {ti : TInfo} (hti : T.get t = some ti) {tag : Nat} {g : OwnRef} {kz row off : Nat} (hx : evS s x = .optr tag g kz row off)
    {e : TypeId} {rows : List (List PV)} {wr : Bool} (hob : ob tag = some ⟨g, e, rows, wr⟩) {ei : TInfo} (hei : T.get e = some ei) (hk : kz = ei.size) {cells : List PV} (hr : rows[row]? = some cells) {r : PV} (hc : readCells ti off cells = some r) (hp : putD n s o.dst r = some s') (h : DOps P T rb ops L ⟨n, s', bx, ob⟩ K) :
    DOps P T rb ops (k :: L) ⟨n, s, bx, ob⟩ K := by
  refine DOps.detS ho hg (by rw [hop]; rfl) (fun bx' => ?_) hp h
  have : (rb.o o && isLoad o.op) = true := by rw [hro, hop]; rfl
  rw [this]
  exact detS_loadO hT hop hti hx hob hei hk hr hc

theorem AOps.storeO (hT : T.Ok P) (hg : guardA ops s o = some true) {t : TypeId} {x y : Operand} (ho : o.op = .store t x y) (hdst : o.dst = none) {ti : TInfo} (hti : T.get t = some ti) {tag : Nat} {g : OwnRef} {kz row off : Nat} (hx : evS s x = .optr tag g kz row off)
    {e : TypeId} {rows rows' : List (List PV)} (hob : ob tag = some ⟨g, e, rows, true⟩) {ei : TInfo} (hei : T.get e = some ei) (hk : kz = ei.size) (hrow : row < rows.length) {py : PV} (hy : PLe P (evS s y) py) {cs : List PV} (hc : cellsPV py = some cs) (hf : PV.frozL cs = true) (h1 : cs.all PV.one = true) (hl : cs.length = ti.size) (hle : off + ti.size ≤ ei.size)
    (hr : setRow rows row off cs = rows') (h : AOps P ops rest ⟨n, s, bx, upd ob tag (some ⟨g, e, rows', true⟩)⟩ K) : AOps P ops (o :: rest) ⟨n, s, bx, ob⟩ K := by
  subst hr
  exact AOps.eff hg (eff_storeO hT ho hti hx hob hei hk hrow hy hc hf h1 hl hle ⟨s, by simp [hdst, putD], h⟩)
theorem DOps.storeO (hT : T.Ok P) (ho : ops[k]? = some o) (hg : guardA ops s o = some true) {t : TypeId} {x y : Operand} (hop : o.op = .store t x y) (hdst : o.dst = none) {ti : TInfo} (hti : T.get t = some ti) {tag : Nat} {g : OwnRef} {kz row off : Nat} (hx : evS s x = .optr tag g kz row off)
    {e : TypeId} {rows rows' : List (List PV)} (hob : ob tag = some ⟨g, e, rows, true⟩) {ei : TInfo} (hei : T.get e = some ei) (hk : kz = ei.size) (hrow : row < rows.length) {py : PV} (hy : PLe P (evS s y) py) {cs : List PV} (hc : cellsPV py = some cs) (hf : PV.frozL cs = true) (h1 : cs.all PV.one = true) (hl : cs.length = ti.size) (hle : off + ti.size ≤ ei.size)
    (hr : setRow rows row off cs = rows') (h : DOps P T rb ops L ⟨n, s, bx, upd ob tag (some ⟨g, e, rows', true⟩)⟩ K) : DOps P T rb ops (k :: L) ⟨n, s, bx, ob⟩ K := by
  subst hr
  refine ⟨o, ho, true, hg, ?_⟩
  simp only [if_true, hop, clsOf]
  exact ⟨hdst, .inr fun bx' => eff_storeO hT hop hti hx hob hei hk hrow hy hc hf h1 hl hle ⟨rfl, h⟩⟩

theorem idxLen {α β : Type} {f : α → β} {xs : List α} {j : Nat} {x : α} (h : xs[j]? = some x) : j < (xs.map f).length := by
  have := (List.getElem?_eq_some_iff.1 h).1
  simpa using this
theorem idxLenE {α β : Type} {f : α → β} {xs : List α} {j : Nat} {x : α} {l : Nat} (hl : l = (xs.map f).length) (h : xs[j]? = some x) : j < l := hl ▸ idxLen h
theorem idxBlk {α : Type} {f : α → List PV} {xs : List α} {j : Nat} {x : α} {g : OwnRef} (ho : xs.map f ≠ [] → ∃ b, g.blk = some b) (h : xs[j]? = some x) : ∃ b, g.blk = some b := by
  refine ho fun e => ?_
  have := (List.getElem?_eq_some_iff.1 h).1
  rw [List.map_eq_nil_iff] at e
  rw [e] at this
  simp at this
theorem setRow_map {α : Type} {f f' : α → List PV} (hE : ∀ x, f' x = f x) {xs ys : List α} {j off : Nat} {x v : α} {cs : List PV} (h : xs[j]? = some x) (hs : splice (f x) off cs = f v) (hy : xs.set j v = ys) : setRow (xs.map f') j off cs = ys.map f' := by
  subst hy
  have hlt := (List.getElem?_eq_some_iff.1 h).1
  unfold setRow
  have e : (xs.map f').getD j [] = f x := by simp [h, hE]
  rw [e, hs, ← hE v, List.map_set]
theorem set_len {α β : Type} {f : α → β} {xs ys : List α} {j : Nat} {v : α} (hy : xs.set j v = ys) : (xs.map f).length = (ys.map f).length := by subst hy; simp
theorem PLe.ownLen (P : Program) {tag : Nat} {g : OwnRef} {l l' : Nat} (h : l = l') : PLe P (.own tag g l) (.own tag g l') := h ▸ PLe.refl P _

/-- An own slice that is not empty has a block. -/
theorem V.ownF {fn : Func} {R : PV → Heap → Prop} {ks : List KI} {tag : Nat} {g : OwnRef} {e : TypeId} {rows : List (List PV)} {wr : Bool} (hob : ob tag = some ⟨g, e, rows, wr⟩) (h : (rows ≠ [] → ∃ b, g.blk = some b) → V P fn R ks ⟨n, s, bx, ob⟩) : V P fn R ks ⟨n, s, bx, ob⟩ := fun C M a w hi => by
  refine h (fun hne => ?_) C M a w hi
  obtain ⟨_, _, _, _, h4⟩ := hi.2.objs tag _ hob
  rcases h4 with ⟨_, h5, _⟩ | ⟨b, _, h5, _⟩
  · exact absurd h5 hne
  · exact ⟨b, h5⟩
/-- The length of an own slice. -/
theorem V.ownL {fn : Func} {R : PV → Heap → Prop} {ks : List KI} {tag : Nat} {g : OwnRef} {e : TypeId} {rows : List (List PV)} {wr : Bool} (hob : ob tag = some ⟨g, e, rows, wr⟩) (h : rows.length ≤ maxLen → V P fn R ks ⟨n, s, bx, ob⟩) : V P fn R ks ⟨n, s, bx, ob⟩ := fun C M a w hi => by
  refine h ?_ C M a w hi
  obtain ⟨_, _, _, _, h4⟩ := hi.2.objs tag _ hob
  rcases h4 with ⟨_, h5, _⟩ | ⟨b, _, h5, _, _, _, h6, h7, _⟩
  · simp only at h5; rw [h5]; simp
  · exact Nat.le_trans h6 h7
end
end Go.Ab
/- The abstract layer, part V: variables and slices of the call's own are handed over to a callee, and come back. -/
namespace Go.Ab

/-- What is handed over, under the callee's names: pairs (the caller's name, the callee's). -/
def giveB (bx : Nat → Option Box) (m : List (Nat × Nat)) : Nat → Option Box := fun t => match m.find? (fun p => Nat.beq p.2 t) with
  | some p => bx p.1
  | none => none
def giveO (ob : Nat → Option Obj) (m : List (Nat × Nat)) : Nat → Option Obj := fun t => match m.find? (fun p => Nat.beq p.2 t) with
  | some p => ob p.1
  | none => none
theorem beqC (a b : Nat) : Nat.beq a b = Nat.beq b a := by
  cases h : Nat.beq a b with
  | true => rw [Nat.eq_of_beq_eq_true h]; exact (Nat.beq_refl b).symm
  | false =>
    cases h' : Nat.beq b a with
    | true => rw [Nat.eq_of_beq_eq_true h'] at h; rw [show Nat.beq a a = true from Nat.beq_refl a] at h; cases h
    | false => rfl
theorem giveB_nil (bx : Nat → Option Box) : giveB bx [] = fun _ => none := rfl
theorem giveO_nil (ob : Nat → Option Obj) : giveO ob [] = fun _ => none := rfl
theorem giveB_cons (bx : Nat → Option Box) (c k : Nat) (m : List (Nat × Nat)) : giveB bx ((c, k) :: m) = upd (giveB bx m) k (bx c) := by
  funext t
  simp only [giveB, upd, List.find?_cons]
  rw [beqC t k]
  cases Nat.beq k t <;> rfl
theorem giveO_cons (ob : Nat → Option Obj) (c k : Nat) (m : List (Nat × Nat)) : giveO ob ((c, k) :: m) = upd (giveO ob m) k (ob c) := by
  funext t
  simp only [giveO, upd, List.find?_cons]
  rw [beqC t k]
  cases Nat.beq k t <;> rfl

/-- What has come back, under the caller's names. -/
def backB (bx : Nat → Option Box) (m : List (Nat × Nat)) (bx' : Nat → Option Box) : Nat → Option Box := fun t => match m.find? (fun p => Nat.beq p.1 t) with
  | some p => bx' p.2
  | none => bx t
def backO (ob : Nat → Option Obj) (m : List (Nat × Nat)) (ob' : Nat → Option Obj) : Nat → Option Obj := fun t => match m.find? (fun p => Nat.beq p.1 t) with
  | some p => ob' p.2
  | none => ob t

def distinctN : List Nat → Bool
  | [] => true
  | a :: l => l.all (fun b => !Nat.beq a b) && distinctN l

theorem find_of_distinct {f : Nat × Nat → Nat} : ∀ {m : List (Nat × Nat)} {p : Nat × Nat}, distinctN (m.map f) = true → p ∈ m → m.find? (fun q => Nat.beq (f q) (f p)) = some p
  | [], _, _, h => by simp at h
  | q :: m, p, hd, h => by
    simp only [List.map_cons, distinctN, Bool.and_eq_true] at hd
    rw [List.find?_cons]
    rcases List.mem_cons.1 h with rfl | h
    · rw [show Nat.beq (f p) (f p) = true from Nat.beq_refl _]
    · have hne : Nat.beq (f q) (f p) = false := by
        have := (List.all_eq_true.1 hd.1) (f p) (List.mem_map.2 ⟨p, h, rfl⟩)
        simpa using this
      rw [hne]
      exact find_of_distinct hd.2 h

theorem find_mem {f : Nat × Nat → Nat} {m : List (Nat × Nat)} {t : Nat} {p : Nat × Nat} (h : m.find? (fun q => Nat.beq (f q) t) = some p) : p ∈ m ∧ f p = t :=
  ⟨List.mem_of_find?_eq_some h, by
    have := List.find?_some h
    exact Nat.eq_of_beq_eq_true this⟩

def ownOf (H : Heap) (mb mo : List (Nat × Nat)) : List Nat := mb.filterMap (fun p => (H.bx p.1).map Box.b) ++ mo.filterMap (fun p => (H.ob p.1).bind fun x => x.g.blk)

theorem mem_ownOf {H : Heap} {mb mo : List (Nat × Nat)} {b : Nat} (h : b ∈ ownOf H mb mo) : (∃ p x, p ∈ mb ∧ H.bx p.1 = some x ∧ x.b = b) ∨ ∃ p x, p ∈ mo ∧ H.ob p.1 = some x ∧ x.g.blk = some b := by
  simp only [ownOf, List.mem_append, List.mem_filterMap] at h
  rcases h with ⟨p, hp, h⟩ | ⟨p, hp, h⟩
  · rw [Option.map_eq_some_iff] at h
    obtain ⟨x, hx, rfl⟩ := h
    exact .inl ⟨p, x, hp, hx, rfl⟩
  · rw [Option.bind_eq_some_iff] at h
    obtain ⟨x, hx, h⟩ := h
    exact .inr ⟨p, x, hp, hx, h⟩
theorem ownOf_box {H : Heap} {mb mo : List (Nat × Nat)} {p : Nat × Nat} {x : Box} (hp : p ∈ mb) (hx : H.bx p.1 = some x) : x.b ∈ ownOf H mb mo := by
  simp only [ownOf, List.mem_append, List.mem_filterMap]
  exact .inl ⟨p, hp, by rw [hx]; rfl⟩
theorem ownOf_obj {H : Heap} {mb mo : List (Nat × Nat)} {p : Nat × Nat} {x : Obj} {b : Nat} (hp : p ∈ mo) (hx : H.ob p.1 = some x) (hb : x.g.blk = some b) : b ∈ ownOf H mb mo := by
  simp only [ownOf, List.mem_append, List.mem_filterMap]
  exact .inr ⟨p, hp, by rw [hx]; exact hb⟩

section
variable {P : Program} {C : Ctx} {M : Mem} {H : Heap} {w : World} {mb mo : List (Nat × Nat)}

theorem giveB_some {bx : Nat → Option Box} {m : List (Nat × Nat)} {t : Nat} {x : Box} (h : giveB bx m t = some x) : ∃ p, p ∈ m ∧ p.2 = t ∧ bx p.1 = some x := by
  unfold giveB at h
  split at h
  · rename_i p hp
    obtain ⟨h1, h2⟩ := find_mem (f := Prod.snd) hp
    exact ⟨p, h1, h2, h⟩
  · cases h
theorem giveO_some {ob : Nat → Option Obj} {m : List (Nat × Nat)} {t : Nat} {x : Obj} (h : giveO ob m t = some x) : ∃ p, p ∈ m ∧ p.2 = t ∧ ob p.1 = some x := by
  unfold giveO at h
  split at h
  · rename_i p hp
    obtain ⟨h1, h2⟩ := find_mem (f := Prod.snd) hp
    exact ⟨p, h1, h2, h⟩
  · cases h

theorem fst_inj {m : List (Nat × Nat)} (hd : distinctN (m.map Prod.fst) = true) {p q : Nat × Nat} (hp : p ∈ m) (hq : q ∈ m) (h : p.1 = q.1) : p = q := by
  have h1 := find_of_distinct (f := Prod.fst) hd hp
  have h2 := find_of_distinct (f := Prod.fst) hd hq
  rw [h] at h1
  rw [h1] at h2
  exact Option.some.inj h2

theorem InvH.ownMine (h : InvH P C M H w) : ∀ b ∈ ownOf H mb mo, C.mine b := by
  intro b hb
  rcases mem_ownOf hb with ⟨p, x, _, hx, rfl⟩ | ⟨p, x, _, hx, hb⟩
  · exact (h.boxes _ _ hx).1
  · obtain ⟨_, _, _, _, h4⟩ := h.objs _ _ hx
    rcases h4 with ⟨h5, _⟩ | ⟨b', _, h5, h6, _⟩
    · rw [h5] at hb; cases hb
    · rw [h5] at hb; cases hb; exact h6

/-- What the callee finds. -/
theorem InvH.enterH (h : InvH P C M H w) (hb1 : distinctN (mb.map Prod.fst) = true) (ho1 : distinctN (mo.map Prod.fst) = true) : InvH P ⟨w, ownOf H mb mo, M, h.gl h.ownMine⟩ M ⟨giveB H.bx mb, giveO H.ob mo⟩ w := by
  refine ⟨h.mem, Mem.le_refl M, fun _ _ _ hm => .inl hm, rfl, rfl, rfl, Nat.le_refl _, fun _ _ _ => rfl, ?_, ?_, ?_, ?_, ?_⟩
  · intro t x hx
    obtain ⟨p, hp, _, hx⟩ := giveB_some hx
    obtain ⟨_, h2, h3⟩ := h.boxes _ _ hx
    exact ⟨.inr (ownOf_box hp hx), h2, h3⟩
  · intro t x hx
    obtain ⟨p, hp, _, hx⟩ := giveO_some hx
    obtain ⟨i, h1, h2, h3, h4⟩ := h.objs _ _ hx
    refine ⟨i, h1, h2, h3, ?_⟩
    rcases h4 with h4 | ⟨b, cur, hb, _, h5⟩
    · exact .inl h4
    · exact .inr ⟨b, cur, hb, .inr (ownOf_obj hp hx hb), h5⟩
  · intro t t' x x' hx hx' hb
    obtain ⟨p, hp, e1, hy⟩ := giveB_some hx
    obtain ⟨q, hq, e2, hy'⟩ := giveB_some hx'
    rw [← e1, ← e2, fst_inj hb1 hp hq (h.dbox _ _ x x' hy hy' hb)]
  · intro t t' x x' b hx hx' hb hb'
    obtain ⟨p, hp, e1, hy⟩ := giveO_some hx
    obtain ⟨q, hq, e2, hy'⟩ := giveO_some hx'
    rw [← e1, ← e2, fst_inj ho1 hp hq (h.dobj _ _ x x' b hy hy' hb hb')]
  · intro t t' x x' hx hx' hb
    obtain ⟨p, hp, _, hy⟩ := giveB_some hx
    obtain ⟨q, hq, _, hy'⟩ := giveO_some hx'
    exact h.dmix _ _ x x' hy hy' hb

/-- Behind the call. -/
theorem InvH.afterH {M' : Mem} {H' : Heap} {w' : World} (h : InvH P C M H w) (_hb1 : distinctN (mb.map Prod.fst) = true) (hb2 : distinctN (mb.map Prod.snd) = true) (_ho1 : distinctN (mo.map Prod.fst) = true) (ho2 : distinctN (mo.map Prod.snd) = true)
    {hg : Gl w (ownOf H mb mo)} (h' : InvH P ⟨w, ownOf H mb mo, M, hg⟩ M' H' w') : InvH P C M' ⟨backB H.bx mb H'.bx, backO H.ob mo H'.ob⟩ w' := by
  have hown : ∀ b, b ∈ ownOf H mb mo → C.mine b := by
    intro b hb
    rcases mem_ownOf hb with ⟨p, x, _, hx, rfl⟩ | ⟨p, x, _, hx, hb⟩
    · exact (h.boxes _ _ hx).1
    · obtain ⟨_, _, _, _, h4⟩ := h.objs _ _ hx
      rcases h4 with ⟨h5, _⟩ | ⟨b', _, h5, h6, _⟩
      · rw [h5] at hb; cases hb
      · rw [h5] at hb; cases hb; exact h6
  have hup : ∀ b, (⟨w, ownOf H mb mo, M, hg⟩ : Ctx).mine b → C.mine b := fun b hb => by
    rcases hb with hb | hb
    · exact .inl (Nat.le_trans h.size hb)
    · exact hown b hb
  have hnone : ∀ b o, b < w.heap.size → b ∉ ownOf H mb mo → M b o = none → M' b o = none := by
    intro b o hb hno hn
    cases hm : M' b o with
    | none => rfl
    | some v =>
      rcases h'.new b o v hm with h1 | h1 | h1
      · rw [show M b o = some v from h1] at hn; cases hn
      · exact absurd hb (Nat.not_lt.2 h1)
      · exact absurd h1 hno
  have kb : ∀ t x, backB H.bx mb H'.bx t = some x → (∃ p, p ∈ mb ∧ p.1 = t ∧ H'.bx p.2 = some x) ∨ ((∀ p ∈ mb, p.1 ≠ t) ∧ H.bx t = some x) := by
    intro t x hx
    unfold backB at hx
    split at hx
    · rename_i p hp
      obtain ⟨h1, h2⟩ := find_mem (f := Prod.fst) hp
      exact .inl ⟨p, h1, h2, hx⟩
    · rename_i hp
      rw [List.find?_eq_none] at hp
      exact .inr ⟨fun p hp' e => hp p hp' (by rw [e]; exact Nat.beq_refl _), hx⟩
  have ko : ∀ t x, backO H.ob mo H'.ob t = some x → (∃ p, p ∈ mo ∧ p.1 = t ∧ H'.ob p.2 = some x) ∨ ((∀ p ∈ mo, p.1 ≠ t) ∧ H.ob t = some x) := by
    intro t x hx
    unfold backO at hx
    split at hx
    · rename_i p hp
      obtain ⟨h1, h2⟩ := find_mem (f := Prod.fst) hp
      exact .inl ⟨p, h1, h2, hx⟩
    · rename_i hp
      rw [List.find?_eq_none] at hp
      exact .inr ⟨fun p hp' e => hp p hp' (by rw [e]; exact Nat.beq_refl _), hx⟩
  -- what was kept is not among what was handed over
  have nb : ∀ t x, (∀ p ∈ mb, p.1 ≠ t) → H.bx t = some x → x.b ∉ ownOf H mb mo := by
    intro t x hn hx hm
    rcases mem_ownOf hm with ⟨p, y, hp, hy, e⟩ | ⟨p, y, hp, hy, e⟩
    · exact hn p hp (h.dbox _ _ y x hy hx e)
    · exact h.dmix _ _ x y hx hy e
  have no : ∀ t x b, (∀ p ∈ mo, p.1 ≠ t) → H.ob t = some x → x.g.blk = some b → b ∉ ownOf H mb mo := by
    intro t x b hn hx hb hm
    rcases mem_ownOf hm with ⟨p, y, hp, hy, e⟩ | ⟨p, y, hp, hy, e⟩
    · exact h.dmix _ _ y x hy hx (by rw [hb, e])
    · exact hn p hp (h.dobj _ _ y x b hy hx e hb)
  have mb' : ∀ t x, H'.bx t = some x → w.heap.size ≤ x.b ∨ x.b ∈ ownOf H mb mo := fun t x hx => (h'.boxes t x hx).1
  have mo' : ∀ t x b, H'.ob t = some x → x.g.blk = some b → w.heap.size ≤ b ∨ b ∈ ownOf H mb mo := by
    intro t x b hx hb
    obtain ⟨_, _, _, _, h4⟩ := h'.objs t x hx
    rcases h4 with ⟨h5, _⟩ | ⟨b', _, h5, h6, _⟩
    · rw [h5] at hb; cases hb
    · rw [h5] at hb; cases hb; exact h6
  have bz : ∀ t x b, H.ob t = some x → x.g.blk = some b → b < w.heap.size := fun t x b hx hb => h.obj_lt hx hb
  have snd_eq : ∀ {m : List (Nat × Nat)}, distinctN (m.map Prod.snd) = true → ∀ {p q : Nat × Nat}, p ∈ m → q ∈ m → p.2 = q.2 → p = q := by
    intro m hd p q hp hq e
    have h1 := find_of_distinct (f := Prod.snd) hd hp
    have h2 := find_of_distinct (f := Prod.snd) hd hq
    rw [e] at h1
    rw [h1] at h2
    exact Option.some.inj h2
  refine ⟨h'.mem, Mem.le_trans h.ext h'.ext, ?_, h'.os.trans h.os, h'.tape.trans h.tape, h'.output.trans h.output, Nat.le_trans h.size h'.size, ?_, ?_, ?_, ?_, ?_, ?_⟩
  · intro b o v hm
    rcases h'.new b o v hm with h1 | h1
    · exact h.new b o v h1
    · exact .inr (hup b h1)
  · intro b hb hn
    have hno : b ∉ ownOf H mb mo := fun hm => by
      rcases hown b hm with h1 | h1
      · omega
      · exact hn h1
    exact (h'.frame b (Nat.lt_of_lt_of_le hb h.size) hno).trans (h.frame b hb hn)
  · intro t x hx
    rcases kb t x hx with ⟨p, hp, _, hx⟩ | ⟨hn, hx⟩
    · obtain ⟨h1, h2, h3⟩ := h'.boxes _ _ hx
      exact ⟨hup _ h1, h2, h3⟩
    · have hno := nb t x hn hx
      exact (h.boxes t x hx).keep h'.ext (fun o ho => hnone _ o (h.box_lt hx) hno ho) (h'.frame _ (h.box_lt hx) hno)
  · intro t x hx
    rcases ko t x hx with ⟨p, hp, _, hx⟩ | ⟨hn, hx⟩
    · obtain ⟨i, h1, h2, h3, h4⟩ := h'.objs _ _ hx
      refine ⟨i, h1, h2, h3, ?_⟩
      rcases h4 with h4 | ⟨b, cur, h5, h6, h7⟩
      · exact .inl h4
      · exact .inr ⟨b, cur, h5, hup _ h6, h7⟩
    · exact (h.objs t x hx).keep h'.ext (fun b o hb ho => hnone _ o (h.obj_lt hx hb) (no t x b hn hx hb) ho) (fun b hb => h'.frame _ (h.obj_lt hx hb) (no t x b hn hx hb))
  · intro t t' x x' hx hx' hb
    rcases kb t x hx with ⟨p, hp, e, hx⟩ | ⟨hn, hx⟩ <;> rcases kb t' x' hx' with ⟨q, hq, e', hx'⟩ | ⟨hn', hx'⟩
    · have := snd_eq hb2 hp hq (h'.dbox _ _ x x' hx hx' hb)
      rw [← e, ← e', this]
    · rcases mb' _ _ hx with h1 | h1
      · have := h.box_lt hx'; omega
      · exact absurd (hb ▸ h1) (nb t' x' hn' hx')
    · rcases mb' _ _ hx' with h1 | h1
      · have := h.box_lt hx; omega
      · exact absurd (hb ▸ h1) (nb t x hn hx)
    · exact h.dbox t t' x x' hx hx' hb
  · intro t t' x x' b hx hx' hb hb'
    rcases ko t x hx with ⟨p, hp, e, hx⟩ | ⟨hn, hx⟩ <;> rcases ko t' x' hx' with ⟨q, hq, e', hx'⟩ | ⟨hn', hx'⟩
    · have := snd_eq ho2 hp hq (h'.dobj _ _ x x' b hx hx' hb hb')
      rw [← e, ← e', this]
    · rcases mo' _ _ b hx hb with h1 | h1
      · have := h.obj_lt hx' hb'; omega
      · exact absurd h1 (no t' x' b hn' hx' hb')
    · rcases mo' _ _ b hx' hb' with h1 | h1
      · have := h.obj_lt hx hb; omega
      · exact absurd h1 (no t x b hn hx hb)
    · exact h.dobj t t' x x' b hx hx' hb hb'
  · intro t t' x x' hx hx' hb
    rcases kb t x hx with ⟨p, hp, e, hx⟩ | ⟨hn, hx⟩ <;> rcases ko t' x' hx' with ⟨q, hq, e', hx'⟩ | ⟨hn', hx'⟩
    · exact h'.dmix _ _ x x' hx hx' hb
    · rcases mb' _ _ hx with h1 | h1
      · have := h.obj_lt hx' hb; omega
      · exact no t' x' _ hn' hx' hb h1
    · rcases mo' _ _ _ hx' hb with h1 | h1
      · have := h.box_lt hx; omega
      · exact nb t x hn hx h1
    · exact h.dmix t t' x x' hx hx' hb

theorem eff_callH {o : Oper} {ev : Operand → PV} {H : Heap} {fx : Operand} {asQ : Array Operand} {ts : Array TypeId} (ho : o.op = .call { callee := .value fx, args := asQ, argTypes := ts }) {g : FuncId} {caps : List PV}
    (hf : ev fx = .fn g caps) (hcall : ∀ vs w, (callFunc g vs).run P w = .ok (.enter g vs) w) (mb mo : List (Nat × Nat)) (hb1 : distinctN (mb.map Prod.fst) = true) (hb2 : distinctN (mb.map Prod.snd) = true) (ho1 : distinctN (mo.map Prod.fst) = true) (ho2 : distinctN (mo.map Prod.snd) = true)
    {args : List PV} (hle : PLeAll P (asQ.toList.map ev ++ caps) args) {R : PV → Heap → Prop} (hc : PCallsH P g args ⟨giveB H.bx mb, giveO H.ob mo⟩ R)
    {K : PV → Heap → Prop} (hk : ∀ u H', R u H' → K u ⟨backB H.bx mb H'.bx, backO H.ob mo H'.ob⟩) : Eff P o ev H K := by
  intro C M a w next Q hi he hn
  have hfr := he fx (by rw [ho]; simp [Op.operands, Call.operands])
  rw [hf] at hfr
  simp only [Rep] at hfr
  obtain ⟨cs, hv, hcaps⟩ := hfr
  have hargs : RepAll P M true (asQ.toList.map ev) (asQ.map a.eval).toList := by
    simpa using repAll_map asQ.toList fun x hx => he x (by rw [ho]; simp_all [Op.operands, Call.operands])
  have hrep := hle M _ (hargs.append hcaps)
  have hrun : (execOp a.eval o).run P w = .ok (.enter g (asQ.map a.eval ++ cs)) w := by
    simp [execOp, ho, resolve, hv, Deferred.ofValue, invoke, hcall]
  unfold Oper.wp
  rw [hrun]
  simp only [Oper.upon]
  refine (hc w M (ownOf H mb mo) (hi.gl hi.ownMine) _ (hi.enterH hb1 ho1) (by simpa using hrep)).mono ?_
  rintro e w' ⟨v, u, H', M', rfl, hR, hi', hr⟩
  exact hn v u _ M' w' (hk u H' hR) hi'.ext (hi.afterH hb1 hb2 ho1 ho2 hi') hr
end

section
variable {P : Program} {ops : Array Oper} {rest : List Oper} {o : Oper} {n : Nat} {s s' : Nat → PV} {bx bx1 : Nat → Option Box} {ob ob1 : Nat → Option Obj} {K : PState → Prop} {T : TT} {rb : RB} {k : Nat} {L : List Nat}

/-- A call to which variables and slices are handed over. -/
theorem AOps.callH (hg : guardA ops s o = some true) {fx : Operand} {asQ : Array Operand} {ts : Array TypeId} (ho : o.op = .call { callee := .value fx, args := asQ, argTypes := ts }) {g : FuncId} {caps : List PV}
    (hf : evS s fx = .fn g caps) (hcall : ∀ vs w, (callFunc g vs).run P w = .ok (.enter g vs) w) (mb mo : List (Nat × Nat)) (hb1 : distinctN (mb.map Prod.fst) = true) (hb2 : distinctN (mb.map Prod.snd) = true) (ho1 : distinctN (mo.map Prod.fst) = true) (ho2 : distinctN (mo.map Prod.snd) = true)
    {args : List PV} (hle : PLeAll P (asQ.toList.map (evS s) ++ caps) args) {Hin : Heap} (hin : Hin = ⟨giveB bx mb, giveO ob mo⟩) {R : PV → Heap → Prop} (hc : PCallsH P g args Hin R)
    (h : ∀ u H', R u H' → ∃ s', putD n s o.dst u = some s' ∧ AOps P ops rest ⟨n, s', backB bx mb H'.bx, backO ob mo H'.ob⟩ K) : AOps P ops (o :: rest) ⟨n, s, bx, ob⟩ K :=
  AOps.eff hg (eff_callH ho hf hcall mb mo hb1 hb2 ho1 ho2 hle (hin ▸ hc) h)

theorem DOps.callHO (hop0 : ops[k]? = some o) (hg : guardA ops s o = some true) {fx : Operand} {asQ : Array Operand} {ts : Array TypeId} (ho : o.op = .call { callee := .value fx, args := asQ, argTypes := ts }) {g : FuncId} {caps : List PV}
    (hf : evS s fx = .fn g caps) (hcall : ∀ vs w, (callFunc g vs).run P w = .ok (.enter g vs) w) (mo : List (Nat × Nat)) (ho1 : distinctN (mo.map Prod.fst) = true) (ho2 : distinctN (mo.map Prod.snd) = true)
    {args : List PV} (hle : PLeAll P (asQ.toList.map (evS s) ++ caps) args) {Hin : Heap} (hin : Hin = ⟨fun _ => none, giveO ob mo⟩) {R : PV → Heap → Prop} (hc : PCallsH P g args Hin R)
    (h : ∀ u H', R u H' → ∃ s', putD n s o.dst u = some s' ∧ DOps P T rb ops L ⟨n, s', bx, backO ob mo H'.ob⟩ K) : DOps P T rb ops (k :: L) ⟨n, s, bx, ob⟩ K := by
  refine ⟨o, hop0, true, hg, ?_⟩
  simp only [if_true, ho, clsOf]
  intro bx'
  refine eff_callH (H := ⟨bx', ob⟩) ho hf hcall [] mo rfl rfl ho1 ho2 hle (hin ▸ hc) fun u H' hR => ?_
  obtain ⟨s', h1, h2⟩ := h u H' hR
  exact ⟨rfl, s', h1, h2⟩

theorem giveB_eq {bx bx' : Nat → Option Box} {m : List (Nat × Nat)} (h : ∀ t, giveB bx m t = bx' t) : giveB bx m = bx' := funext h

theorem PLe2.own {t t' : Nat} {g : OwnRef} {l l' : Nat} (h : l = l') : PLe2 P (.own t g l) (.own t' g l') := by
  subst h
  intro M s x hx
  simpa only [Rep] using hx
theorem PLe2.boxT {t t' b o : Nat} : PLe2 P (.box t b o) (.box t' b o) := by
  intro M s x hx
  simpa only [Rep] using hx

/-- Returning with what was handed over. -/
theorem V.retH {fn : Func} {R : PV → Heap → Prop} {ks : List KI} {T : TT} (hT : T.Ok P) {rs : Array ResultVar} (hres : fn.results = rs) {ps : List PV} (h : ResAll T ⟨n, s, bx, ob⟩ rs.toList ps) {u : PV} (hu : PLe P (tupOf ps) u) (hR : R u ⟨bx, ob⟩) :
    V P fn R (.code .ret :: ks) ⟨n, s, bx, ob⟩ := V.ret hT hres h hu ⟨fun _ _ hx => hx, fun _ _ hx => hx⟩ hR

/-- The code's end, of a function without results. -/
theorem V.endH {fn : Func} {R : PV → Heap → Prop} (hres : fn.results = #[]) {u : PV} (hu : PLe P (.tup []) u) (hR : R u ⟨bx, ob⟩) : V P fn R [] ⟨n, s, bx, ob⟩ := by
  intro C M a w hi
  have hr : (results fn a.tmps).run P w = .ok (.tuple #[]) w := by
    rw [results_eq hres]
    simp
  exact ⟨hi.1.2.1, .tuple #[], hr, .tuple #[], u, ⟨bx, ob⟩, M, rfl, hR, hi.2, hu M _ (by simp [Rep, RepAll])⟩
theorem V.endP {fn : Func} {r : PV} (hres : fn.results = #[]) (hu : PLe P (.tup []) r) : V P fn (fun u H => u = r ∧ H = Heap.empty) [] ⟨n, s, bx, ob⟩ := by
  intro C M a w hi
  have hr : (results fn a.tmps).run P w = .ok (.tuple #[]) w := by
    rw [results_eq hres]
    simp
  exact ⟨hi.1.2.1, .tuple #[], hr, .tuple #[], r, Heap.empty, M, rfl, ⟨rfl, rfl⟩, hi.2.less (HSub.empty _).1 (HSub.empty _).2, hu M _ (by simp [Rep, RepAll])⟩
end
end Go.Ab
/- Limits: a recursive function asQ the limit of its steps. -/
namespace Go.Ab

open Classical in
noncomputable def limN {β : Type} (F : Nat → Option β) : Option β :=
  if h : ∃ r, ∃ n, ∀ m, n ≤ m → F m = some r then some h.choose else none

theorem limN_some {β : Type} {F : Nat → Option β} {r : β} (h : limN F = some r) : ∃ n, F n = some r := by
  unfold limN at h
  split at h
  · next hx =>
    obtain ⟨n, hn⟩ := hx.choose_spec
    exact ⟨n, by rw [hn n (Nat.le_refl n)]; exact h⟩
  · cases h

theorem limN_eq {β : Type} {F : Nat → Option β} {r : β} (n : Nat) (h : ∀ m, n ≤ m → F m = some r) : limN F = some r := by
  have hx : ∃ r, ∃ n, ∀ m, n ≤ m → F m = some r := ⟨r, n, h⟩
  unfold limN
  rw [dif_pos hx]
  obtain ⟨k, hk⟩ := hx.choose_spec
  have e1 := hk (max n k) (Nat.le_max_right n k)
  have e2 := h (max n k) (Nat.le_max_left n k)
  rw [← e1, e2]

theorem limN_ev {β : Type} {F : Nat → Option β} {r : β} (h : limN F = some r) : ∃ n, ∀ m, n ≤ m → F m = some r := by
  unfold limN at h
  split at h
  · next hx =>
    obtain ⟨n, hn⟩ := hx.choose_spec
    exact ⟨n, fun m hm => by rw [hn m hm]; exact h⟩
  · cases h

end Go.Ab
