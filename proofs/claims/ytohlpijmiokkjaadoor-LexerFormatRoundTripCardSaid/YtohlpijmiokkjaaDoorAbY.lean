/- The abstract layer, part Y: a string's bytes, slices that are made, functions of the run-time. -/
import Derived.Test.YtohlpijmiokkjaaDoorAbX
import Derived.Lib.Bytealg
import Derived.Laws.MakeOwn
namespace Go.Ab

section
variable {P : Program} {C : Ctx} {M : Mem} {H : Heap} {w : World}

/-- A new block, of which the first cells are frozen. -/
theorem InvH.alloc_part (h : InvH P C M H w) (pre cs : Array Value) (e : TypeId) (fz : Nat × Nat) (hp : ∀ (o : Nat) (v : Value), pre[o]? = some v → cs[o]? = some v) : InvH P C (M.add w.heap.size pre) H (w.alloc (.cells cs e fz)) := by
  have hle := h.add_le pre
  refine ⟨?_, Mem.le_trans h.ext hle, ?_, h.os, h.tape, h.output, ?_, ?_, ?_, ?_, h.dbox, h.dobj, h.dmix⟩
  · intro b o v hm
    by_cases hb : b = w.heap.size
    · subst hb
      rw [cell_of_row (w.alloc (.cells cs e fz)) w.heap.size o cs e fz (heap_alloc_new w _)]
      exact hp o v (by simpa [Mem.add] using hm)
    · simp only [Mem.add, hb, if_false] at hm
      rw [cell_alloc_old w _ (h.mem_lt hm)]
      exact h.mem b o v hm
  · intro b o v hm
    by_cases hb : b = w.heap.size
    · exact .inr (.inl (hb ▸ h.size))
    · simp only [Mem.add, hb, if_false] at hm
      exact h.new b o v hm
  · rw [size_alloc]; exact Nat.le_succ_of_le h.size
  · intro b hb hn
    rw [heap_alloc_old w _ (Nat.lt_of_lt_of_le hb h.size)]
    exact h.frame b hb hn
  · intro t x hx
    have hlt := h.box_lt hx
    exact (h.boxes t x hx).keep hle (fun o ho => by simp [Mem.add, Nat.ne_of_lt hlt, ho]) (heap_alloc_old w _ hlt)
  · intro t x hx
    exact (h.objs t x hx).keep hle (fun b o hb ho => by simp [Mem.add, Nat.ne_of_lt (h.obj_lt hx hb), ho]) (fun b hb => heap_alloc_old w _ (h.obj_lt hx hb))

theorem freeze_new (w : World) (cs : Array Value) (e : TypeId) (n : Nat) : (w.alloc (.cells cs e)).freeze ⟨w.heap.size, n, none⟩ 1 = w.alloc (.cells cs e (n, n + 1)) := by
  unfold World.freeze World.alloc
  simp only [Nat.one_ne_zero, if_false]
  congr 1
  apply Array.ext
  · simp
  · intro i h1 h2
    rw [Array.getElem_modify]
    split
    · rename_i hi
      subst hi
      simp
    · rename_i hi
      have : i < w.heap.size := by simp at h2; omega
      simp [Array.getElem_push, this]
end

section
variable {P : Program} {ops : Array Oper} {rest : List Oper} {o : Oper} {n : Nat} {s s' : Nat → PV} {bx : Nat → Option Box} {ob : Nat → Option Obj} {K : PState → Prop} {T : TT} {rb : RB} {k : Nat} {L : List Nat}

theorem byteRows_rep (M : Mem) (xs : List UInt8) : RepAll P M false (byteRows xs).flatten (xs.map fun c => Value.int .u8 c.toNat) := by
  induction xs with
  | nil => simp [byteRows, RepAll]
  | cons c xs ih => simp only [byteRows, List.map_cons, List.flatten_cons, List.cons_append, List.nil_append, RepAll, Rep]; exact ⟨_, _, rfl, rfl, ih⟩

/-- The bytes of a string. -/
theorem AOps.s2b (hT : T.Ok P) (hg : guardA ops s o = some true) {src dst e : TypeId} {x : Operand} (ho : o.op = .convert src dst x) {si di ei : TInfo} (hsi : T.get src = some si) (hsd : si.desc = .string) (hdi : T.get dst = some di) (hdd : di.desc = .slice e) (hei : T.get e = some ei) (hed : ei.desc = .int .u8) (hes : ei.size = 1) (heb : ei.bytes = 1)
    {xs : List UInt8} (hx : evS s x = .str xs) (hl : xs.length ≤ 2 ^ 47) (hp : putD n s o.dst (.list e (byteRows xs)) = some s') (h : AOps P ops rest ⟨n, s', bx, ob⟩ K) : AOps P ops (o :: rest) ⟨n, s, bx, ob⟩ K := by
  refine AOps.eff hg (fun C M a w next Q hi he hn => ?_)
  have hxr := he x (by rw [ho]; simp [Op.operands])
  rw [show (⟨n, s, bx, ob⟩ : PState).s = s from rfl, hx] at hxr
  simp only [Rep] at hxr
  have hs := (hT.get hsi).und
  have hd := (hT.get hdi).und
  have hee := (hT.get hei).und
  rw [hsd] at hs
  rw [hdd] at hd
  rw [hed] at hee
  obtain ⟨i, hinf, hsz, hby, _⟩ := (hT.get hei).info
  have hge := grownCap_ge w xs.length 0 e
  have hml : xs.length ≤ maxLen := by unfold maxLen; omega
  have hgm : grownCap w xs.length 0 e ≤ maxLen := grownCap_le_maxLen w xs.length 0 e hml
  obtain ⟨pre, hpre⟩ : ∃ pre : Array Value, pre = xs.toArray.map fun b => Value.int .u8 b.toNat := ⟨_, rfl⟩
  obtain ⟨cs, hcs⟩ : ∃ cs : Array Value, cs = pre ++ Array.replicate (grownCap w xs.length 0 e - xs.length) (.int .u8 0) := ⟨_, rfl⟩
  have hrun : (execOp a.eval o).run P w = .ok (.value (.slice (some ⟨w.heap.size, 0, none⟩) xs.length (grownCap w xs.length 0 e))) (w.drew.alloc (.cells cs e (cs.size, cs.size + 1))) := by
    have hz : (ByteArray.mk xs.toArray).size = xs.length := by simp [ByteArray.size]
    have key : (Conv.stringToBytes e ⟨xs.toArray⟩).run P w = .ok (.slice (some ⟨w.heap.size, 0, none⟩) xs.length (grownCap w xs.length 0 e)) (w.drew.alloc (.cells cs e (cs.size, cs.size + 1))) := by
      have hmk : ∀ w0 : World, (markStringish ⟨w0.heap.size, 0, none⟩).run P (w0.alloc (.cells cs e)) = .ok () (w0.alloc (.cells cs e (cs.size, cs.size + 1))) := by
        intro w0
        have hsh : (w0.alloc (.cells cs e)).shape? w0.heap.size = some (e, cs.size) := by unfold World.shape?; rw [heap_alloc_new]
        unfold markStringish
        simp only [Sem.run_bind, run_shape, Result.andThen_ok, hsh]
        rw [run_freeze, freeze_new]
      have hm0 := hmk w.drew
      subst hcs
      subst hpre
      unfold Conv.stringToBytes
      simp only [Sem.run_bind, hz, run_choose, Question.forced]
      simp [newRow]
      simp [grownCap] at hm0 ⊢
      rw [hm0]
      simp
    simp only [execOp, ho, hxr.1, convert, Sem.run_bind, run_underlying hs, run_underlying hd, run_underlying hee, Result.andThen_ok, key]
    rfl
  unfold Oper.wp
  rw [hrun]
  have hle := (show InvH P C M ⟨bx, ob⟩ w.drew from hi.drew).add_le pre
  have hi' := (show InvH P C M ⟨bx, ob⟩ w.drew from hi.drew).alloc_part pre cs e (cs.size, cs.size + 1) (fun o v hv => by rw [hcs, Array.getElem?_append_left (Array.getElem?_eq_some_iff.1 hv).1]; exact hv)
  refine hn _ (.list e (byteRows xs)) ⟨bx, ob⟩ (M.add w.drew.heap.size pre) _ ⟨s', hp, h⟩ hle hi' ?_
  simp only [Rep]
  have hbl : (byteRows xs).length = xs.length := by simp [byteRows]
  refine ⟨_, grownCap w xs.length 0 e, i, by rw [hbl], by rw [hbl]; exact hge, hgm, hinf, by rw [hbl, hby, heb]; omega, fun _ => ⟨_, _, rfl, ?_⟩⟩
  refine RepRows.of_flat (fun r hr => ?_) (repAt_add (show InvH P C M ⟨bx, ob⟩ w.drew from hi.drew) (byteRows xs).flatten pre ?_ ?_)
  · obtain ⟨c, _, rfl⟩ := List.mem_map.1 hr
    rw [hsz, hes]; rfl
  · rw [hpre]
    intro v hv
    simp at hv
    obtain ⟨c, _, rfl⟩ := hv
    rfl
  · rw [hpre]
    simpa using byteRows_rep M xs

/-- So many zero elements. -/
theorem AOps.makeS (hT : T.Ok P) (hg : guardA ops s o = some true) {x : Operand} {t : TypeId} (ho : o.op = .makeSlice t x x) {d : Nat} (hdst : o.dst = some d) (hlt : Nat.blt d n = true) {ti ei : TInfo} {e : TypeId} (hti : T.get t = some ti) (hd : ti.desc = .slice e) (hei : T.get e = some ei)
    (hz : Nat.beq ei.zero.cells.size ei.size = true) (h1 : (zeroPV ei).all PV.one = true) {kk : IntKind} {m : Int} (hx : evS s x = .val (.int kk m)) (hm : 0 ≤ m) (hby : m.toNat * ei.bytes ≤ 2 ^ 47) (hmx : m.toNat ≤ maxLen) {rows : List (List PV)} (hr : List.replicate m.toNat (zeroPV ei) = rows)
    (h : ∀ g, AOps P ops rest ⟨n, upd s d (.own d g rows.length), bx, upd ob d (some ⟨g, e, rows, true⟩)⟩ K) : AOps P ops (o :: rest) ⟨n, s, bx, ob⟩ K := by
  subst hr
  refine AOps.eff hg (fun C M a w next Q hi he hn => ?_)
  have hxr := he x (by rw [ho]; simp [Op.operands])
  rw [show (⟨n, s, bx, ob⟩ : PState).s = s from rfl, hx] at hxr
  simp only [Rep] at hxr
  have hu := (hT.get hti).und
  rw [hd] at hu
  obtain ⟨i, hinf, hs, hbs, hzero⟩ := (hT.get hei).info
  have hz1 := Nat.eq_of_beq_eq_true hz
  obtain ⟨k, hk⟩ : ∃ k : Nat, k = m.toNat := ⟨_, rfl⟩
  rw [← hk] at hby hmx h
  have hkm : m = (k : Int) := by omega
  subst hkm
  have hby2 : k * i.bytes ≤ 2 ^ 47 := by rw [hbs]; exact hby
  have hbi : (i.bytes : Int) * (k : Int) ≤ 281474976710656 := by
    have : ((k * i.bytes : Nat) : Int) ≤ ((2 ^ 47 : Nat) : Int) := Int.ofNat_le.2 hby2
    rw [Int.natCast_mul] at this
    rw [Int.mul_comm]
    omega
  have hrun : (execOp a.eval o).run P w = .ok (.value (.slice (some ⟨w.heap.size, 0, none⟩) k k)) (w.alloc (.cells (madeCells ei.zero.cells (k * i.size)) e)) := by
    have := run_make w t e i ei.zero hu hinf hzero kk kk (k : Int) (k : Int) (by omega) (by omega) hbi (by unfold maxLen at hmx; omega)
    simp only [Int.toNat_natCast] at this
    simp only [execOp, ho, hxr, Sem.run_bind, this]
    rfl
  unfold Oper.wp
  rw [hrun]
  have hzl : (zeroPV ei).length = i.size := by simp [zeroPV, hz1, hs]
  have hmc : (madeCells ei.zero.cells (k * i.size)).toList = (List.replicate k ei.zero.cells.toList).flatten := by
    rw [hs, ← hz1]
    exact zeros_eq ei.zero.cells k
  have hrep : RepAll P M false (List.replicate k (zeroPV ei)).flatten (List.replicate k ei.zero.cells.toList).flatten := repAll_flat (zeroPV_rep _) k
  have htake : (madeCells ei.zero.cells (k * i.size)).toList.take ((List.replicate k (zeroPV ei)).length * i.size) = (List.replicate k ei.zero.cells.toList).flatten := by
    rw [List.length_replicate, List.take_of_length_le (by simp [size_madeCells]), hmc]
  refine hn _ (.own d ⟨some w.heap.size, k⟩ (List.replicate k (zeroPV ei)).length) _ M _ ⟨_, by simp [hdst, putD, hlt], h ⟨some w.heap.size, k⟩⟩ (Mem.le_refl M)
    ((show InvH P C M ⟨bx, ob⟩ w from hi).alloc_obj d e (List.replicate k (zeroPV ei)) true _ _ i hinf ?_ ?_ ?_ ?_ hmx ?_ ?_) ?_
  · rw [List.length_replicate]; exact hby2
  · intro r hr
    rw [List.eq_of_mem_replicate hr]
    exact hzl
  · rw [size_madeCells]
  · rw [List.length_replicate]; exact Nat.le_refl _
  · rw [htake]; exact hrep
  · rw [htake]
    refine RepAll.oneCell ?_ hrep
    rw [List.all_flatten]
    rw [List.all_eq_true]
    intro r hr
    rw [List.eq_of_mem_replicate hr]
    exact h1
  · simp [Rep, OwnRef.val]

/-- A function of the run-time that leaves the world as it was. -/
theorem AOps.ext (hg : guardA ops s o = some true) {fx : Operand} {as : Array Operand} {ts : Array TypeId} (ho : o.op = .call { callee := .value fx, args := as, argTypes := ts }) {g : FuncId} (hf : evS s fx = .fn g []) {r : PV}
    (hcall : ∀ (M : Mem) (vs : Array Value) (w : World), RepAll P M true (as.toList.map (evS s)) vs.toList → ∃ v, (callFunc g vs).run P w = .ok (.value v) w ∧ Rep P M true r v)
    (hp : putD n s o.dst r = some s') (h : AOps P ops rest ⟨n, s', bx, ob⟩ K) : AOps P ops (o :: rest) ⟨n, s, bx, ob⟩ K := by
  refine AOps.eff hg (fun C M a w next Q hi he hn => ?_)
  have hfr := he fx (by rw [ho]; simp [Op.operands, Call.operands])
  rw [show (⟨n, s, bx, ob⟩ : PState).s = s from rfl, hf] at hfr
  simp only [Rep] at hfr
  obtain ⟨cs, hv, hcaps⟩ := hfr
  have hargs : RepAll P M true (as.toList.map (evS s)) (as.map a.eval).toList := by
    simpa using repAll_map as.toList fun x hx => he x (by rw [ho]; simp_all [Op.operands, Call.operands])
  have hc0 : cs = #[] := by
    simp only [RepAll] at hcaps
    exact Array.toList_eq_nil_iff.1 hcaps
  subst hc0
  obtain ⟨v, hrun, hr⟩ := hcall M (as.map a.eval) w hargs
  have hrun' : (execOp a.eval o).run P w = .ok (.value v) w := by
    simp [execOp, ho, resolve, hv, Deferred.ofValue, invoke, hrun]
  unfold Oper.wp
  rw [hrun']
  exact hn v r ⟨bx, ob⟩ M w ⟨s', hp, h⟩ (Mem.le_refl M) hi hr

/-- Strings are compared. -/
theorem AOps.cmpS (hg : guardA ops s o = some true) {fx x y : Operand} {ts : Array TypeId} (ho : o.op = .call { callee := .value fx, args := #[x, y], argTypes := ts }) {g : FuncId} (hf : evS s fx = .fn g []) {fn : Func} (h1 : P.funcs[g]? = some fn) (h2 : (fn.name == "runtime.NumGoroutine") = false) (h3 : fn.body.isNone = true) (h4 : Extern.findNext fn = none) (h5 : Extern.find fn = some Extern.BytealgCompare.compare)
    {a b : List UInt8} (hx : evS s x = .str a) (hy : evS s y = .str b) (hp : putD n s o.dst (.val (.int .i64 (Lib.compareBytes a b))) = some s') (h : AOps P ops rest ⟨n, s', bx, ob⟩ K) : AOps P ops (o :: rest) ⟨n, s, bx, ob⟩ K := by
  refine AOps.ext hg ho hf (fun M vs w hr => ?_) hp h
  simp only [List.map_cons, List.map_nil, hx, hy, RepAll, Rep] at hr
  obtain ⟨v1, l1, e1, ⟨r1, _⟩, v2, l2, e2, ⟨r2, _⟩, e3⟩ := hr
  subst e3 e2 r1 r2
  have hvs : vs = #[.string ⟨a.toArray⟩, .string ⟨b.toArray⟩] := by
    apply Array.toList_inj.1
    rw [e1]
  subst hvs
  refine ⟨.int .i64 (Lib.compareBytes a b), ?_, by simp only [Rep]⟩
  rw [run_callFunc_extern h1 h2 h3 h4 h5, Lib.run_compareString]
  rfl
end
end Go.Ab
