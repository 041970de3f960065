/- The abstract layer, part J: slices of the call's own (append, elements, freezing), weakening, loops, facts on lengths. -/
import Derived.Test.YtohlpijmiokkjaaDoorAbI
namespace Go.Ab

section
variable {P : Program} {C : Ctx} {M : Mem} {H : Heap} {w : World}

theorem upd_self {α : Type} (f : Nat → α) (k : Nat) (v : α) (h : f k = v) : upd f k v = f := by
  funext t
  rw [upd_eq]
  split
  · rename_i e; subst e; exact h.symm
  · rfl

/-- The facts on a frozen slice. -/
theorem list_src {e : TypeId} {rows : List (List PV)} {v : Value} (hi : InvH P C M H w) (h : Rep P M true (.list e rows) v) :
    ∃ i sa c news, P.info? e = some i ∧ v = .slice sa rows.length c ∧ rows.length * i.bytes ≤ 2 ^ 47 ∧ news.length = rows.length * i.size ∧ (∀ r ∈ rows, r.length = i.size) ∧
      (rows ≠ [] → ∃ a, sa = some a ∧ ∀ j x, news[j]? = some x → w.cell? (a.add j) = some x) ∧ RepAll P M false rows.flatten news ∧ ∀ x ∈ news, x.oneCell' = true := by
  simp only [Rep] at h
  obtain ⟨a, c, i, rfl, hlc, hcm, hinf, hby, hrows⟩ := h
  by_cases h0 : rows = []
  · subst h0
    exact ⟨i, a, c, [], hinf, rfl, hby, by simp, by simp, by simp, by simp [RepAll], by simp⟩
  · obtain ⟨b, o, rfl, hr⟩ := hrows h0
    obtain ⟨hf, hl⟩ := hr.flat
    obtain ⟨news, h1, h2, h3⟩ := hf.vals
    refine ⟨i, _, c, news, hinf, rfl, hby, by rw [h1.length, hl], hr.lens, fun _ => ⟨_, rfl, fun j x hj => ?_⟩, h1, h2⟩
    rw [add_off]
    exact hi.mem _ _ _ (h3 j x hj)

theorem run_append_zero (t ty e : TypeId) (i : TypeInfo) (ht : P.underlying t = some (.slice e)) (hi : P.info? e = some i) (base sa : Option Addr) (sLen sCap c : Nat) (hle : sLen ≤ sCap) :
    (Builtin.append_ #[t, t] ty #[.slice base sLen sCap, .slice sa 0 c]).run P w = .ok (.slice base sLen sCap) w := by
  cases base <;> cases sa <;> simp [Builtin.append_, run_underlying ht, sizeOf, typeInfo, hi, Builtin.lenOf, hle, Builtin.firstCells, loadCells, loadCellsFrom, storeCells]

theorem append_core (hi : InvH P C M H w) {T : TT} (hT : T.Ok P) {tag : Nat} {x : Obj} (hx : H.ob tag = some x) {t ty : TypeId} {ti ei : TInfo} (hti : T.get t = some ti) (hd : ti.desc = .slice x.e) (hei : T.get x.e = some ei)
    (hz1 : Nat.beq ei.zero.cells.size ei.size = true) (hsz : Nat.blt 0 ei.size = true) {rows : List (List PV)} {v : Value} (hv : Rep P M true (.list x.e rows) v) (hby : (x.rows.length + rows.length) * ei.bytes ≤ 2 ^ 47) (hmx : x.rows.length + rows.length ≤ maxLen) :
    ∃ g w', (Builtin.append_ #[t, t] ty #[x.g.val x.rows.length, v]).run P w = .ok (g.val (x.rows ++ rows).length) w' ∧ InvH P C M ⟨H.bx, upd H.ob tag (some ⟨g, x.e, x.rows ++ rows, x.wr⟩)⟩ w' := by
  obtain ⟨i, sa, c, news, hinf, rfl, hby2, hnl, hrl, hcells, hrep, hone⟩ := list_src hi hv
  obtain ⟨i', hinf', hs, hbs, hzero⟩ := (hT.get hei).info
  rw [hinf] at hinf'
  cases hinf'
  have hz1 := Nat.eq_of_beq_eq_true hz1
  have hsz : 0 < i.size := by have : 0 < ei.size := by simpa [Nat.blt_eq] using hsz
                              omega
  have hu := (hT.get hti).und
  rw [hd] at hu
  obtain ⟨i2, hinf2, hxb, hxl, hxx⟩ := hi.objs tag x hx
  rw [hinf] at hinf2
  cases hinf2
  have hby' : (x.rows.length + rows.length) * i.bytes ≤ 140737488355328 := by rw [hbs]; exact hby
  by_cases h0 : rows = []
  · subst h0
    have hle : x.rows.length ≤ x.g.cap := by
      rcases hxx with ⟨_, h2, _⟩ | ⟨b, cur, _, _, _, _, h5, _⟩
      · simp [h2]
      · exact h5
    refine ⟨x.g, w, ?_, ?_⟩
    · simpa [OwnRef.val] using run_append_zero (w := w) t ty x.e i hu hinf (x.g.blk.map fun b => ⟨b, 0, none⟩) sa x.rows.length x.g.cap c hle
    · rw [List.append_nil, upd_self _ _ _ (by rw [hx])]
      exact hi
  · obtain ⟨a, rfl, hac⟩ := hcells h0
    have hm0 : 0 < rows.length := List.length_pos_iff.2 h0
    have h63 : ((x.rows.length + rows.length : Nat) : Int) ≤ 9223372036854775807 := by unfold maxLen at hmx; omega
    have hflat : (x.rows ++ rows).flatten = x.rows.flatten ++ rows.flatten := by simp
    have hfl : ∀ {l : List (List PV)}, (∀ r ∈ l, r.length = i.size) → l.flatten.length = l.length * i.size := by
      intro l hl
      induction l with
      | nil => simp
      | cons r l ih => simp [ih fun r hr => hl r (by simp [hr]), hl r (by simp), Nat.add_mul]; omega
    have hlens : ∀ r ∈ x.rows ++ rows, r.length = i.size := fun r hr => by
      rcases List.mem_append.1 hr with h | h
      · exact hxl r h
      · exact hrl r h
    rcases hxx with ⟨hbn, hrn, hcn⟩ | ⟨b, cur, hb, hmine, hcur, hcs, hlc, hcm, hcr, hc1, hw1, hw2⟩
    · have hg := run_append_nil (P := P) w t ty x.e i ei.zero hu hinf hzero a rows.length c news hnl hac hm0 (by rw [hrn] at h63; simpa using h63) (by rw [hrn] at hby'; simp at hby'; omega)
      have hge := grownCap_ge w rows.length 0 x.e
      have hgm : grownCap w rows.length 0 x.e ≤ maxLen := grownCap_le_maxLen w rows.length 0 x.e (by rw [hrn] at hmx; simpa using hmx)
      have hlist : (news.toArray ++ Builtin.zeroCells ei.zero.cells (grownCap w rows.length 0 x.e - rows.length)).toList.take (rows.length * i.size) = news := by
        simp only [Array.toList_append]
        rw [← hnl, List.take_left]
      refine ⟨⟨some w.heap.size, grownCap w rows.length 0 x.e⟩, w.drew.alloc (.cells (news.toArray ++ Builtin.zeroCells ei.zero.cells (grownCap w rows.length 0 x.e - rows.length)) x.e), ?_, (show InvH P C M H w.drew from hi.drew).alloc_obj tag x.e (x.rows ++ rows) x.wr _ (news.toArray ++ Builtin.zeroCells ei.zero.cells (grownCap w rows.length 0 x.e - rows.length)) i hinf ?_ hlens ?_ ?_ hgm ?_ ?_⟩
      · have e1 : x.g.val x.rows.length = .slice none 0 0 := by simp [OwnRef.val, hbn, hrn, hcn]
        rw [e1, hg]
        simp [OwnRef.val, hrn]
      · simp only [List.length_append]; exact hby'
      · simp only [Array.size_append, List.size_toArray, size_zeroCells, hz1, hnl, ← hs, ← Nat.add_mul]
        congr 1
        omega
      · rw [hrn]; simpa using hge
      · rw [hrn]; simp only [List.nil_append]; rw [hlist]; exact hrep
      · rw [hrn]; simp only [List.nil_append]; rw [hlist]; exact hone
    · have hval : x.g.val x.rows.length = .slice (some ⟨b, 0, none⟩) x.rows.length x.g.cap := by simp [OwnRef.val, hb]
      have hxfl := hfl hxl
      have holdlen : (cur.toList.take (x.rows.length * i.size)).length = x.rows.length * i.size := by rw [hcr.length, hxfl]
      by_cases hroom : x.rows.length + rows.length ≤ x.g.cap
      · have hfit : x.rows.length * i.size + news.length ≤ cur.size := by rw [hnl, hcs, ← Nat.add_mul]; exact Nat.mul_le_mul_right _ hroom
        have hr := run_append_room (P := P) w t ty x.e i hu hinf b x.rows.length x.g.cap cur hcur a rows.length c news hnl hac hone hroom hfit
        have hlist : (cur.toList.take (x.rows.length * i.size) ++ news ++ cur.toList.drop (x.rows.length * i.size + news.length)).take ((x.rows.length + rows.length) * i.size) = cur.toList.take (x.rows.length * i.size) ++ news := by
          rw [show (x.rows.length + rows.length) * i.size = (cur.toList.take (x.rows.length * i.size) ++ news).length from by rw [List.length_append, holdlen, hnl, Nat.add_mul]]
          exact List.take_left
        refine ⟨x.g, w.setRow b ((cur.toList.take (x.rows.length * i.size) ++ news ++ cur.toList.drop (x.rows.length * i.size + news.length)).toArray), ?_, hi.set_obj tag x hx b hb (x.rows ++ rows) x.wr ((cur.toList.take (x.rows.length * i.size) ++ news ++ cur.toList.drop (x.rows.length * i.size + news.length)).toArray) i hinf ?_ hlens ?_ ?_ hcm ?_ ?_ ?_ hw1 ?_⟩
        · rw [hval, hr]
          simp [OwnRef.val, hb]
        · simp only [List.length_append]; exact hby'
        · simp only [List.size_toArray, List.length_append, holdlen, List.length_drop, Array.length_toList]
          omega
        · simpa using hroom
        · rw [hflat]
          simp only [List.length_append]
          rw [hlist]
          exact hcr.append hrep
        · simp only [List.length_append]
          rw [hlist]
          intro v hv
          rcases List.mem_append.1 hv with h | h
          · exact hc1 v h
          · exact hone v h
        · intro o v hm
          have hlt : o < x.rows.length * i.size := by
            rcases Nat.lt_or_ge o (x.rows.length * i.size) with h | h
            · exact h
            · rw [hw2 o h] at hm; cases hm
          have hcell := hi.mem b o v hm
          rw [cell_of_row w b o cur x.e (0, 0) hcur] at hcell
          simp only [List.getElem?_toArray, List.append_assoc]
          rw [List.getElem?_append_left (by rw [holdlen]; exact hlt), List.getElem?_take, if_pos hlt]
          simpa using hcell
        · intro o ho
          simp only [List.length_append] at ho
          exact hw2 o (Nat.le_trans (Nat.mul_le_mul_right _ (Nat.le_add_right _ _)) ho)
      · have holds : ∀ (j : Nat) (v : Value), (cur.toList.take (x.rows.length * i.size))[j]? = some v → w.cell? ((⟨b, 0, none⟩ : Addr).add j) = some v := by
          intro j v hj
          rw [add_off, cell_of_row w b (0 + j) cur x.e (0, 0) hcur]
          rw [List.getElem?_take] at hj
          split at hj
          · simpa using hj
          · cases hj
        have hr := run_append_grow (P := P) w t ty x.e i ei.zero hu hinf hzero ⟨b, 0, none⟩ x.rows.length x.g.cap _ holdlen holds a rows.length c news hnl hac (by omega) h63 (growslice_fits (by omega) hby')
        have hge := grownCap_ge w (x.rows.length + rows.length) x.g.cap x.e
        have hgm : grownCap w (x.rows.length + rows.length) x.g.cap x.e ≤ maxLen := grownCap_le_maxLen w _ _ x.e hmx
        have hlist : ((cur.toList.take (x.rows.length * i.size)).toArray ++ news.toArray ++ Builtin.zeroCells ei.zero.cells (grownCap w (x.rows.length + rows.length) x.g.cap x.e - (x.rows.length + rows.length))).toList.take ((x.rows.length + rows.length) * i.size) = cur.toList.take (x.rows.length * i.size) ++ news := by
          simp only [Array.toList_append]
          rw [show (x.rows.length + rows.length) * i.size = (cur.toList.take (x.rows.length * i.size) ++ news).length from by rw [List.length_append, holdlen, hnl, Nat.add_mul]]
          exact List.take_left
        refine ⟨⟨some w.heap.size, grownCap w (x.rows.length + rows.length) x.g.cap x.e⟩, w.drew.alloc (.cells ((cur.toList.take (x.rows.length * i.size)).toArray ++ news.toArray ++ Builtin.zeroCells ei.zero.cells (grownCap w (x.rows.length + rows.length) x.g.cap x.e - (x.rows.length + rows.length))) x.e), ?_, (show InvH P C M H w.drew from hi.drew).alloc_obj tag x.e (x.rows ++ rows) x.wr _ ((cur.toList.take (x.rows.length * i.size)).toArray ++ news.toArray ++ Builtin.zeroCells ei.zero.cells (grownCap w (x.rows.length + rows.length) x.g.cap x.e - (x.rows.length + rows.length))) i hinf ?_ hlens ?_ ?_ hgm ?_ ?_⟩
        · rw [hval, hr]
          simp [OwnRef.val]
        · simp only [List.length_append]; exact hby'
        · simp only [Array.size_append, List.size_toArray, size_zeroCells, hz1, hnl, holdlen, ← hs, ← Nat.add_mul]
          congr 1
          omega
        · simpa using hge
        · rw [hflat]
          simp only [List.length_append]
          rw [hlist]
          exact hcr.append hrep
        · simp only [List.length_append]
          rw [hlist]
          intro v hv
          rcases List.mem_append.1 hv with h | h
          · exact hc1 v h
          · exact hone v h

/-- A nil slice, taken for one of the call's own. -/
theorem InvH.nilobj (h : InvH P C M H w) {T : TT} (hT : T.Ok P) (tag : Nat) {e : TypeId} {ei : TInfo} (hei : T.get e = some ei) : InvH P C M ⟨H.bx, upd H.ob tag (some ⟨⟨none, 0⟩, e, [], true⟩)⟩ w := by
  obtain ⟨i, hi, _⟩ := (hT.get hei).info
  have key : ∀ t x, upd H.ob tag (some ⟨⟨none, 0⟩, e, [], true⟩) t = some x → x = ⟨⟨none, 0⟩, e, [], true⟩ ∨ H.ob t = some x := by
    intro t x hx
    rw [upd_eq] at hx
    split at hx
    · exact .inl (Option.some.inj hx).symm
    · exact .inr hx
  refine ⟨h.mem, h.ext, h.new, h.os, h.tape, h.output, h.size, h.frame, h.boxes, ?_, h.dbox, ?_, ?_⟩
  · intro t x hx
    rcases key t x hx with rfl | hx
    · exact ⟨i, hi, by simp, by simp, .inl ⟨rfl, rfl, rfl⟩⟩
    · exact h.objs t x hx
  · intro t t' x x' b hx hx' hb hb'
    rcases key t x hx with rfl | hy
    · cases hb
    · rcases key t' x' hx' with rfl | hy'
      · cases hb'
      · exact h.dobj t t' x x' b hy hy' hb hb'
  · intro t t' x x' hx hx' hb
    rcases key t' x' hx' with rfl | hy'
    · cases hb
    · exact h.dmix t t' x x' hx hy' hb

theorem eff_appendO {o : Oper} {ev : Operand → PV} {T : TT} (hT : T.Ok P) {x y : Operand} {t : TypeId} (ho : o.op = .call { callee := .builtin .append, args := #[x, y], argTypes := #[t, t] }) {ti ei : TInfo} {e : TypeId} (hti : T.get t = some ti) (hd : ti.desc = .slice e) (hei : T.get e = some ei)
    (hz : Nat.beq ei.zero.cells.size ei.size = true) (hsz : Nat.blt 0 ei.size = true) {tag : Nat} {g : OwnRef} {len : Nat} {rows rows2 : List (List PV)} {wr : Bool} (hx : ev x = .own tag g len) (hob : H.ob tag = some ⟨g, e, rows, wr⟩) (hlen : len = rows.length) (hy : ev y = .list e rows2)
    (hby : (rows.length + rows2.length) * ei.bytes ≤ 2 ^ 47) (hmx : rows.length + rows2.length ≤ maxLen) {K : PV → Heap → Prop} (hk : ∀ g', K (.own tag g' (rows ++ rows2).length) ⟨H.bx, upd H.ob tag (some ⟨g', e, rows ++ rows2, wr⟩)⟩) : Eff P o ev H K := by
  subst hlen
  intro C M a w next Q hi he hn
  have hxr := he x (by rw [ho]; simp [Op.operands, Call.operands])
  have hyr := he y (by rw [ho]; simp [Op.operands, Call.operands])
  rw [hx] at hxr
  rw [hy] at hyr
  simp only [Rep] at hxr
  obtain ⟨g', w', hrun, hi'⟩ := append_core (ty := o.type) hi hT hob hti hd hei hz hsz hyr hby hmx
  have hrun' : (execOp a.eval o).run P w = .ok (.value (g'.val (rows ++ rows2).length)) w' := by
    simp only [execOp, ho, resolve, Sem.run_bind, Sem.run_pure, Result.andThen_ok, invoke, builtin, List.map_toArray, List.map_cons, List.map_nil, hxr.2]
    rw [hrun]
    rfl
  unfold Oper.wp
  rw [hrun']
  exact hn _ _ _ M w' (hk g') (Mem.le_refl M) hi' (by simp [Rep])

theorem eff_appendN {o : Oper} {ev : Operand → PV} {T : TT} (hT : T.Ok P) {x y : Operand} {t : TypeId} (ho : o.op = .call { callee := .builtin .append, args := #[x, y], argTypes := #[t, t] }) {ti ei : TInfo} {e : TypeId} (hti : T.get t = some ti) (hd : ti.desc = .slice e) (hei : T.get e = some ei)
    (hz : Nat.beq ei.zero.cells.size ei.size = true) (hsz : Nat.blt 0 ei.size = true) (tag : Nat) {rows2 : List (List PV)} (hx : ev x = .val (.slice none 0 0)) (hy : ev y = .list e rows2)
    {K : PV → Heap → Prop} (hk : ∀ g', K (.own tag g' rows2.length) ⟨H.bx, upd H.ob tag (some ⟨g', e, rows2, true⟩)⟩) : Eff P o ev H K := by
  intro C M a w next Q hi he hn
  have hxr := he x (by rw [ho]; simp [Op.operands, Call.operands])
  have hyr := he y (by rw [ho]; simp [Op.operands, Call.operands])
  rw [hx] at hxr
  rw [hy] at hyr
  simp only [Rep] at hxr
  have hi0 := hi.nilobj hT tag hei
  obtain ⟨i, sa, c, news, hinf, _, hby2, _⟩ := list_src hi hyr
  obtain ⟨i', hinf', hs, hbs, _⟩ := (hT.get hei).info
  rw [hinf] at hinf'
  cases hinf'
  have hmx : rows2.length ≤ maxLen := by
    have := hyr
    simp only [Rep] at this
    obtain ⟨_, c, _, _, h1, h2, _⟩ := this
    omega
  obtain ⟨g', w', hrun, hi'⟩ := append_core (ty := o.type) hi0 hT (upd_same _ _ _) hti hd hei hz hsz hyr (by simpa [← hbs] using hby2) (by simpa using hmx)
  have hrun' : (execOp a.eval o).run P w = .ok (.value (g'.val rows2.length)) w' := by
    have e1 : (⟨none, 0⟩ : OwnRef).val ([] : List (List PV)).length = .slice none 0 0 := rfl
    simp only [e1, List.nil_append] at hrun
    simp only [execOp, ho, resolve, Sem.run_bind, Sem.run_pure, Result.andThen_ok, invoke, builtin, List.map_toArray, List.map_cons, List.map_nil, hxr]
    rw [hrun]
    rfl
  unfold Oper.wp
  rw [hrun']
  refine hn _ _ _ M w' (hk g') (Mem.le_refl M) ?_ (by simp [Rep])
  have e2 : upd (upd H.ob tag (some ⟨⟨none, 0⟩, e, [], true⟩)) tag (some ⟨g', e, [] ++ rows2, true⟩) = upd H.ob tag (some ⟨g', e, rows2, true⟩) := by
    funext t
    simp only [upd_eq, List.nil_append]
    split <;> rfl
  rw [← e2]
  exact hi'
end
end Go.Ab
