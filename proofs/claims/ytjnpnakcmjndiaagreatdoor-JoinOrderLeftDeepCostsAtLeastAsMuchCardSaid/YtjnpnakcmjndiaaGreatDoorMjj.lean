/- The abstract layer, part X: parts of the call's own slices: cut out, moved within, cleared; shifts. -/
import Derived.Test.YtjnpnakcmjndiaaGreatDoorMji
import Derived.Lib.Bytealg
import Derived.Laws.MakeOwn
namespace Go.Ab

/-- The first elements. -/
def cutI {α : Type} (xs : List α) (m : Int) : Option (List α) := if 0 ≤ m ∧ m.toNat ≤ xs.length then some (xs.take m.toNat) else none
theorem cutI_some {α : Type} {xs ys : List α} {m : Int} (h : cutI xs m = some ys) : 0 ≤ m ∧ m.toNat ≤ xs.length ∧ ys = xs.take m.toNat := by
  unfold cutI at h
  split at h
  · rename_i h0; exact ⟨h0.1, h0.2, (Option.some.inj h).symm⟩
  · cases h
theorem idxBlkE {α : Type} {f : α → List PV} {xs ys : List α} {j : Nat} {x : α} {g : OwnRef} (ho : xs.map f ≠ [] → ∃ b, g.blk = some b) (hl : (xs.map f).length = (ys.map f).length) (h : ys[j]? = some x) : ∃ b, g.blk = some b := by
  refine ho fun e => ?_
  have := (List.getElem?_eq_some_iff.1 h).1
  have h0 : ys.length = 0 := by
    rw [e] at hl
    simpa using hl.symm
  omega
/-- Some elements are taken out. -/
def delI {α : Type} (xs : List α) (i j : Int) : Option (List α) := if 0 ≤ i ∧ i ≤ j ∧ j.toNat ≤ xs.length then some (xs.take i.toNat ++ xs.drop j.toNat) else none
theorem delI_some {α : Type} {xs ys : List α} {i j : Int} (h : delI xs i j = some ys) : 0 ≤ i ∧ i ≤ j ∧ j.toNat ≤ xs.length ∧ ys = xs.take i.toNat ++ xs.drop j.toNat := by
  unfold delI at h
  split at h
  · rename_i h0; exact ⟨h0.1, h0.2.1, h0.2.2, (Option.some.inj h).symm⟩
  · cases h

/-- A part of a slice, asQ a value. -/
def OwnRef.sub (g : OwnRef) (k lo hi mx : Nat) : Value := .slice (if mx = lo then g.blk.map (fun b => ⟨b, 0, none⟩) else (g.blk.map fun b => (⟨b, 0, none⟩ : Addr)).map (·.add (lo * k))) (hi - lo) (mx - lo)

section
variable {P : Program} {T : TT}

def optAt (ev : Operand → PV) (o : Option Operand) (dflt n : Nat) : Prop := match o with
  | none => n = dflt
  | some x => ∃ kk z, ev x = .val (.int kk z) ∧ z = (n : Int)

theorem detS_subV (hT : T.Ok P) {o : Oper} {ev : Operand → PV} {H : Heap} {t : TypeId} {x : Operand} {lo hi mx : Option Operand} (ho : o.op = .slice t x lo hi mx) {ti ei : TInfo} {e : TypeId} (hti : T.get t = some ti) (hd : ti.desc = .slice e) (hei : T.get e = some ei)
    {tag : Nat} {g : OwnRef} {len : Nat} (hx : ev x = .own tag g len) {l h m : Nat} (hl : optAt ev lo 0 l) (hh : optAt ev hi len h) (hm : optAt ev mx g.cap m) (hs : mx.isSome = true → hi.isSome = true) (h1 : l ≤ h) (h2 : h ≤ m) (h3 : m ≤ g.cap) :
    DetS P o ev H (.val (g.sub ei.size l h m)) := by
  intro C M a w _ he
  have hxr := he x (by rw [ho]; cases lo <;> cases hi <;> cases mx <;> simp [Op.operands])
  rw [hx] at hxr
  simp only [Rep] at hxr
  have hu := (hT.get hti).und
  rw [hd] at hu
  refine ⟨g.sub ei.size l h m, ?_, by simp only [Rep]⟩
  have hbnd : ∀ (z y : Nat) (kk : IntKind) (c : BoundsCode), z ≤ y → (Instr.sliceBound (.int kk (z : Int)) y c).run P w = .ok z w := by
    intro z y kk c hzy
    have : (0 : Int) ≤ (z : Int) ∧ (z : Int) ≤ (y : Int) := ⟨by omega, by omega⟩
    simp [Instr.sliceBound, asIntOf, hzy]
  have get : ∀ y, y ∈ lo ∨ y ∈ hi ∨ y ∈ mx → Rep P M true (ev y) (a.eval y) := by
    intro y hy
    refine he y ?_
    rw [ho]
    clear he hl hh hm hs ho
    cases lo <;> cases hi <;> cases mx <;> simp [Op.operands] at hy ⊢ <;> (first | exact .inr (hy.imp Eq.symm Eq.symm) | exact .inr (hy.imp Eq.symm (Or.imp Eq.symm Eq.symm)) | exact .inr hy.symm | (rcases hy with h | h | h <;> simp [h]) | (rcases hy with h | h <;> simp [h]))
  have hsz := (hT.get hei).rsize w
  have key : ∀ (lv hv mv : Option Value), (match lv with | none => l = 0 | some v => ∃ kk, v = .int kk (l : Int)) → (match hv with | none => h = len | some v => ∃ kk, v = .int kk (h : Int)) →
      (match mv with | none => m = g.cap | some v => ∃ kk, v = .int kk (m : Int)) → (mv.isSome = true → hv.isSome = true) → (Instr.slice t (g.val len) lv hv mv).run P w = .ok (g.sub ei.size l h m) w := by
    intro lv hv mv p1 p2 p3 p4
    have b : (Instr.sliceBounds true len g.cap lv hv mv).run P w = .ok (l, h, m) w := by
      cases mv with
      | none =>
        simp only at p3
        subst p3
        cases hv with
        | none =>
          simp only at p2
          subst p2
          cases lv with
          | none => simp only at p1; subst p1; simp [Instr.sliceBounds]
          | some v => obtain ⟨kk, rfl⟩ := p1; simp [Instr.sliceBounds, hbnd _ _ _ _ h1]
        | some v' =>
          obtain ⟨kk', rfl⟩ := p2
          cases lv with
          | none => simp only at p1; subst p1; simp [Instr.sliceBounds, hbnd _ _ _ _ h2]
          | some v => obtain ⟨kk, rfl⟩ := p1; simp [Instr.sliceBounds, hbnd _ _ _ _ h1, hbnd _ _ _ _ h2]
      | some v2 =>
        obtain ⟨k2, rfl⟩ := p3
        cases hv with
        | none => exact absurd (p4 rfl) (by simp)
        | some v' =>
          obtain ⟨kk', rfl⟩ := p2
          cases lv with
          | none => simp only at p1; subst p1; simp [Instr.sliceBounds, hbnd _ _ _ _ h2, hbnd _ _ _ _ h3]
          | some v => obtain ⟨kk, rfl⟩ := p1; simp [Instr.sliceBounds, hbnd _ _ _ _ h1, hbnd _ _ _ _ h2, hbnd _ _ _ _ h3]
    simp only [Instr.slice, OwnRef.val, run_underlying hu, Sem.run_bind, Result.andThen_ok, b, hsz]
    rfl
  have gl : ∀ (oo : Option Operand) (df n : Nat), (∀ y, y ∈ oo → Rep P M true (ev y) (a.eval y)) → optAt ev oo df n → (match oo.map a.eval with | none => n = df | some v => ∃ kk, v = .int kk (n : Int)) := by
    intro oo df n hr ha
    cases oo with
    | none => exact ha
    | some y =>
      obtain ⟨kk, z, e1, rfl⟩ := ha
      have := hr y rfl
      rw [e1] at this
      simp only [Rep] at this
      exact ⟨kk, this⟩
  have := key (lo.map a.eval) (hi.map a.eval) (mx.map a.eval) (gl lo 0 l (fun y hy => get y (.inl hy)) hl) (gl hi len h (fun y hy => get y (.inr (.inl hy))) hh) (gl mx g.cap m (fun y hy => get y (.inr (.inr hy))) hm) (by simpa using hs)
  simp only [execOp, ho, Instr.sliceAt, hxr.2]
  rw [Sem.run_bind, Sem.run_bind, run_underlying hu]
  simp only [Result.andThen_ok]
  rw [this]
  rfl

theorem eff_appendIn (hT : T.Ok P) {o : Oper} {ev : Operand → PV} {H : Heap} {x y : Operand} {t : TypeId} (ho : o.op = .call { callee := .builtin .append, args := #[x, y], argTypes := #[t, t] }) {ti ei : TInfo} {e : TypeId} (hti : T.get t = some ti) (hd : ti.desc = .slice e) (hei : T.get e = some ei)
    {tag : Nat} {g : OwnRef} {rows : List (List PV)} (hob : H.ob tag = some ⟨g, e, rows, true⟩) {p q : Nat} (hpq : p ≤ q) (hq : q ≤ rows.length) (hx : ev x = .val (g.sub ei.size 0 p g.cap)) (hy : ev y = .val (g.sub ei.size q rows.length g.cap))
    {K : PV → Heap → Prop} (hk : K (.own tag g (rows.take p ++ rows.drop q).length) ⟨H.bx, upd H.ob tag (some ⟨g, e, rows.take p ++ rows.drop q, true⟩)⟩) : Eff P o ev H K := by
  intro C M a w next Q hi he hn
  have hxr := he x (by rw [ho]; simp [Op.operands, Call.operands])
  have hyr := he y (by rw [ho]; simp [Op.operands, Call.operands])
  rw [hx] at hxr
  rw [hy] at hyr
  simp only [Rep] at hxr hyr
  obtain ⟨i, g1, g2, g3, g4⟩ := hi.objs tag _ hob
  obtain ⟨i', g5, g6, _, _⟩ := (hT.get hei).info
  simp only at g1 g2 g3 g4
  rw [g1] at g5
  cases g5
  have hu := (hT.get hti).und
  rw [hd] at hu
  have hbase : (if g.cap = 0 then g.blk.map (fun b => (⟨b, 0, none⟩ : Addr)) else (g.blk.map fun b => (⟨b, 0, none⟩ : Addr)).map (·.add (0 * ei.size))) = g.blk.map fun b => ⟨b, 0, none⟩ := by
    split
    · rfl
    · rw [Nat.zero_mul]
      cases g.blk <;> simp [Addr.add]
  have hlen : (rows.take p ++ rows.drop q).length = p + (rows.length - q) := by simp; omega
  have fin : ∀ w', (Builtin.append_ #[t, t] o.type #[g.sub ei.size 0 p g.cap, g.sub ei.size q rows.length g.cap]).run P w = .ok (g.val (p + (rows.length - q))) w' →
      InvH P C M ⟨H.bx, upd H.ob tag (some ⟨g, e, rows.take p ++ rows.drop q, true⟩)⟩ w' → Oper.wp P o a w next Q := by
    intro w' hr hi'
    have hrun' : (execOp a.eval o).run P w = .ok (.value (g.val (rows.take p ++ rows.drop q).length)) w' := by
      rw [hlen]
      simp only [execOp, ho, resolve, Sem.run_bind, Sem.run_pure, Result.andThen_ok, invoke, builtin, List.map_toArray, List.map_cons, List.map_nil, hxr, hyr]
      rw [hr]
      rfl
    unfold Oper.wp
    rw [hrun']
    exact hn _ _ _ M w' hk (Mem.le_refl M) hi' (by simp [Rep])
  have hcap : rows.length ≤ g.cap := by
    rcases g4 with ⟨_, b, _⟩ | ⟨_, _, _, _, _, _, h9, _⟩
    · rw [b]; simp
    · exact h9
  by_cases h0 : rows.length - q = 0
  · refine fin w ?_ ?_
    · have e1 : g.sub ei.size 0 p g.cap = .slice (g.blk.map fun b => ⟨b, 0, none⟩) p g.cap := by unfold OwnRef.sub; rw [hbase]; simp
      have e2 : g.sub ei.size q rows.length g.cap = .slice (if g.cap = q then g.blk.map (fun b => ⟨b, 0, none⟩) else (g.blk.map fun b => (⟨b, 0, none⟩ : Addr)).map (·.add (q * ei.size))) 0 (g.cap - q) := by unfold OwnRef.sub; rw [h0]
      rw [e1, e2, run_append_zero (w := w) t o.type e i hu g1 _ _ p g.cap _ (by omega), h0]
      rfl
    · have e1 : rows.take p ++ rows.drop q = rows.take p := by rw [List.drop_of_length_le (by omega)]; simp
      rw [e1]
      exact hi.cutO hob p
  · rcases g4 with ⟨_, hn', _⟩ | ⟨b, cur, hb, hm, hcur, hcs, hlc, hcm, hcr, h1c, hw1, hw2⟩
    · rw [hn'] at h0; simp at h0
    · have hqc : ¬ g.cap = q := by omega
      have hcs2 : cur.toList.length = g.cap * i.size := by rw [Array.length_toList]; exact hcs
      have e1 : g.sub ei.size 0 p g.cap = .slice (some ⟨b, 0, none⟩) p g.cap := by unfold OwnRef.sub; rw [hbase, hb]; simp
      have e2 : g.sub ei.size q rows.length g.cap = .slice (some ⟨b, q * i.size, none⟩) (rows.length - q) (g.cap - q) := by unfold OwnRef.sub; rw [if_neg hqc, hb, g6]; simp [add_off]
      have hflat : ∀ l : List (List PV), (∀ r ∈ l, r.length = i.size) → l.flatten.length = l.length * i.size := by
        intro l
        induction l with
        | nil => simp
        | cons r l ih => intro hl; simp [ih fun r hr => hl r (by simp [hr]), hl r (by simp), Nat.add_mul]; omega
      have hold : (cur.toList.take (rows.length * i.size)).length = rows.length * i.size := by rw [hcr.length, hflat rows g3]
      have hcl : rows.length * i.size ≤ cur.size := by rw [hcs]; exact Nat.mul_le_mul_right _ hlc
      have hmulq : q * i.size ≤ rows.length * i.size := Nat.mul_le_mul_right _ hq
      have hmulp : p * i.size ≤ q * i.size := Nat.mul_le_mul_right _ hpq
      obtain ⟨news, hnews⟩ : ∃ news, news = (cur.toList.take (rows.length * i.size)).drop (q * i.size) := ⟨_, rfl⟩
      have hnl : news.length = (rows.length - q) * i.size := by rw [hnews, List.length_drop, hold, Nat.sub_mul]
      have hac : ∀ j u, news[j]? = some u → w.cell? ((⟨b, q * i.size, none⟩ : Addr).add j) = some u := by
        intro j u hj
        rw [add_off, cell_of_row w b (q * i.size + j) cur e (0, 0) hcur]
        rw [hnews, List.getElem?_drop, List.getElem?_take] at hj
        split at hj
        · simpa using hj
        · cases hj
      have hone : ∀ u ∈ news, u.oneCell' = true := fun u hu' => h1c u (by rw [hnews] at hu'; exact List.mem_of_mem_drop hu')
      have hsum : (p + (rows.length - q)) * i.size = p * i.size + (rows.length - q) * i.size := Nat.add_mul _ _ _
      have hsub : (rows.length - q) * i.size = rows.length * i.size - q * i.size := Nat.sub_mul _ _ _
      have hfit : p * i.size + news.length ≤ cur.size := by rw [hnl]; omega
      have hr := run_append_room (P := P) w t o.type e i hu g1 b p g.cap cur hcur ⟨b, q * i.size, none⟩ (rows.length - q) (g.cap - q) news hnl hac hone (by omega) hfit
      have htk : (rows.take p).flatten = rows.flatten.take (p * i.size) := by
        have e3 : rows.flatten = (rows.take p).flatten ++ (rows.drop p).flatten := by rw [← List.flatten_append, List.take_append_drop]
        have e4 : (rows.take p).flatten.length = p * i.size := by rw [hflat _ fun r hr => g3 r (List.mem_of_mem_take hr), List.length_take, Nat.min_eq_left (by omega)]
        rw [e3, ← e4, List.take_left]
      have hdk : (rows.drop q).flatten = rows.flatten.drop (q * i.size) := by
        have e3 : rows.flatten = (rows.take q).flatten ++ (rows.drop q).flatten := by rw [← List.flatten_append, List.take_append_drop]
        have e4 : (rows.take q).flatten.length = q * i.size := by rw [hflat _ fun r hr => g3 r (List.mem_of_mem_take hr), List.length_take, Nat.min_eq_left (by omega)]
        rw [e3, ← e4, List.drop_left]
      have hcp : cur.toList.take (p * i.size) = (cur.toList.take (rows.length * i.size)).take (p * i.size) := by rw [List.take_take, Nat.min_eq_left (by omega)]
      have hlist : (cur.toList.take (p * i.size) ++ news ++ cur.toList.drop (p * i.size + news.length)).take ((p + (rows.length - q)) * i.size) = cur.toList.take (p * i.size) ++ news := by
        rw [show (p + (rows.length - q)) * i.size = (cur.toList.take (p * i.size) ++ news).length from by
          rw [List.length_append, List.length_take, hnl, hsum, Array.length_toList, Nat.min_eq_left (by omega)]]
        exact List.take_left
      refine fin (w.setRow b (cur.toList.take (p * i.size) ++ news ++ cur.toList.drop (p * i.size + news.length)).toArray) (by rw [e1, e2, hr]; simp [OwnRef.val, hb]) (hi.set_obj tag _ hob b hb (rows.take p ++ rows.drop q) true (cur.toList.take (p * i.size) ++ news ++ cur.toList.drop (p * i.size + news.length)).toArray i g1 ?_ ?_ ?_ ?_ hcm ?_ ?_ ?_ (fun _ => hw1 trivial) (fun o' _ => hw1 trivial o'))
      · rw [hlen]
        exact Nat.le_trans (Nat.mul_le_mul_right _ (by omega)) g2
      · intro r hr'
        rcases List.mem_append.1 hr' with h | h
        · exact g3 r (List.mem_of_mem_take h)
        · exact g3 r (List.mem_of_mem_drop h)
      · have e9 : (cur.toList.take (p * i.size) ++ news ++ cur.toList.drop (p * i.size + news.length)).length = g.cap * i.size := by
          rw [List.length_append, List.length_append, List.length_take, List.length_drop, hcs2]
          have : p * i.size + news.length ≤ g.cap * i.size := by rw [← hcs]; exact hfit
          omega
        simpa using e9
      · rw [hlen]; exact (by omega : p + (rows.length - q) ≤ g.cap)
      · rw [hlen]
        simp only
        rw [hlist, List.flatten_append, htk, hdk, hcp, hnews]
        exact (hcr.take _).append (hcr.drop _)
      · rw [hlen]
        simp only
        rw [hlist]
        intro v hv
        rcases List.mem_append.1 hv with h | h
        · rw [hcp] at h; exact h1c v (List.mem_of_mem_take h)
        · exact hone v h
      · intro o' v' hm'
        rw [hw1 trivial o'] at hm'
        cases hm'

theorem eff_clearB (hT : T.Ok P) {o : Oper} {ev : Operand → PV} {H : Heap} {x : Operand} {t : TypeId} (ho : o.op = .call { callee := .builtin .clear, args := #[x], argTypes := #[t] }) {ti ei : TInfo} {e : TypeId} (hti : T.get t = some ti) (hd : ti.desc = .slice e) (hei : T.get e = some ei)
    (hz : Nat.beq ei.zero.cells.size ei.size = true) (h1 : (zeroPV ei).all PV.one = true) {tag : Nat} {g : OwnRef} {rows : List (List PV)} (hob : H.ob tag = some ⟨g, e, rows, true⟩) {p q m : Nat} (hp : rows.length ≤ p) (hpq : p ≤ q) (hq : q ≤ m) (hm : m ≤ g.cap)
    (hx : ev x = .val (g.sub ei.size p q m)) {K : PV → Heap → Prop} (hk : K (.tup []) H) : Eff P o ev H K := by
  intro C M a w next Q hi he hn
  have hxr := he x (by rw [ho]; simp [Op.operands, Call.operands])
  rw [hx] at hxr
  simp only [Rep] at hxr
  obtain ⟨i, g1, g2, g3, g4⟩ := hi.objs tag _ hob
  obtain ⟨i', g5, g6, _, hzero⟩ := (hT.get hei).info
  simp only at g1 g2 g3 g4
  rw [g1] at g5
  cases g5
  have hu := (hT.get hti).und
  rw [hd] at hu
  have hself : upd H.ob tag (some ⟨g, e, rows, true⟩) = H.ob := upd_self _ _ _ hob
  have fin : ∀ w', (Builtin.clear_ #[t] o.type #[g.sub ei.size p q m]).run P w = .ok (.tuple #[]) w' → InvH P C M ⟨H.bx, upd H.ob tag (some ⟨g, e, rows, true⟩)⟩ w' → Oper.wp P o a w next Q := by
    intro w' hr hi'
    have hrun' : (execOp a.eval o).run P w = .ok (.value (.tuple #[])) w' := by
      simp only [execOp, ho, resolve, Sem.run_bind, Sem.run_pure, Result.andThen_ok, invoke, builtin, List.map_toArray, List.map_cons, List.map_nil, hxr]
      rw [hr]
      rfl
    unfold Oper.wp
    rw [hrun']
    rw [hself] at hi'
    exact hn _ _ _ M w' hk (Mem.le_refl M) hi' (by simp [Rep, RepAll])
  by_cases h0 : q - p = 0
  · refine fin w ?_ (by rw [hself]; exact hi)
    unfold OwnRef.sub
    rw [h0]
    split <;> (cases g.blk <;> simp [Builtin.clear_, run_underlying hu])
  · rcases g4 with ⟨_, hn', hc0⟩ | ⟨b, cur, hb, hmn, hcur, hcs, hlc, hcm, hcr, h1c, hw1, hw2⟩
    · omega
    · have hz1 := Nat.eq_of_beq_eq_true hz
      have hcs' : cur.size = g.cap * i.size := hcs
      have hcs2 : cur.toList.length = g.cap * i.size := by rw [Array.length_toList]; exact hcs
      have e1 : g.sub ei.size p q m = .slice (some ⟨b, p * i.size, none⟩) (q - p) (m - p) := by unfold OwnRef.sub; rw [if_neg (by omega), hb, g6]; simp [add_off]
      have hzl : (zeroPV ei).length = i.size := by simp [zeroPV, hz1, g6]
      have hzc : (Builtin.zeroCells ei.zero.cells (q - p)).toList = (List.replicate (q - p) ei.zero.cells.toList).flatten := by
        unfold Builtin.zeroCells
        exact zeros_eq ei.zero.cells (q - p)
      have hzs : (Builtin.zeroCells ei.zero.cells (q - p)).toList.length = (q - p) * i.size := by rw [hzc]; simp [hz1, g6]
      have hrep : RepAll P M false (List.replicate (q - p) (zeroPV ei)).flatten (List.replicate (q - p) ei.zero.cells.toList).flatten := repAll_flat (zeroPV_rep _) (q - p)
      have hone : ∀ v ∈ (Builtin.zeroCells ei.zero.cells (q - p)).toList, v.oneCell' = true := by
        rw [hzc]
        refine RepAll.oneCell ?_ hrep
        rw [List.all_eq_true]
        intro x hx
        rw [List.mem_flatten] at hx
        obtain ⟨l, hl, hx⟩ := hx
        rw [List.eq_of_mem_replicate hl] at hx
        exact List.all_eq_true.1 h1 x hx
      have hmq : q * i.size ≤ g.cap * i.size := Nat.mul_le_mul_right _ (by omega)
      have hmp : rows.length * i.size ≤ p * i.size := Nat.mul_le_mul_right _ hp
      have hsub : (q - p) * i.size = q * i.size - p * i.size := Nat.sub_mul _ _ _
      have hpq' : p * i.size ≤ q * i.size := Nat.mul_le_mul_right _ hpq
      have hst := run_storeCells_at P b (p * i.size) e (Builtin.zeroCells ei.zero.cells (q - p)).toList 0 cur w hcur (by rw [hzs]; omega) hone
      simp only [Nat.add_zero] at hst
      obtain ⟨k, hk1⟩ : ∃ k, q - p = k + 1 := ⟨q - p - 1, by omega⟩
      have htake : (cur.toList.take (p * i.size) ++ (Builtin.zeroCells ei.zero.cells (q - p)).toList ++ cur.toList.drop (p * i.size + (Builtin.zeroCells ei.zero.cells (q - p)).toList.length)).take (rows.length * i.size) = cur.toList.take (rows.length * i.size) := by
        rw [List.append_assoc, List.take_append_of_le_length (by rw [List.length_take, hcs2]; omega), List.take_take, Nat.min_eq_left hmp]
      refine fin _ ?_ (hi.set_obj tag _ hob b hb rows true (cur.toList.take (p * i.size) ++ (Builtin.zeroCells ei.zero.cells (q - p)).toList ++ cur.toList.drop (p * i.size + (Builtin.zeroCells ei.zero.cells (q - p)).toList.length)).toArray i g1 g2 g3 ?_ hlc hcm ?_ ?_ ?_ (fun _ => hw1 trivial) (fun o' _ => hw1 trivial o'))
      · rw [e1]
        have hzv : (zeroValue e).run P w = .ok ei.zero w := by simp [zeroValue, typeInfo, g1, hzero]
        rw [hk1] at hst ⊢
        simp [Builtin.clear_, run_underlying hu, hzv]
        rw [hst]
        simp
      · have e9 : (cur.toList.take (p * i.size) ++ (Builtin.zeroCells ei.zero.cells (q - p)).toList ++ cur.toList.drop (p * i.size + (Builtin.zeroCells ei.zero.cells (q - p)).toList.length)).length = g.cap * i.size := by
          rw [List.length_append, List.length_append, List.length_take, List.length_drop, hcs2, hzs]
          omega
        simpa using e9
      · simp only
        rw [htake]
        exact hcr
      · simp only
        rw [htake]
        exact h1c
      · intro o' v' hm'
        rw [hw1 trivial o'] at hm'
        cases hm'
end

section
variable {P : Program} {ops : Array Oper} {rest : List Oper} {o : Oper} {n : Nat} {s s' : Nat → PV} {bx : Nat → Option Box} {ob : Nat → Option Obj} {K : PState → Prop} {T : TT} {rb : RB} {k : Nat} {L : List Nat}

theorem AOps.subV (hT : T.Ok P) (hg : guardA ops s o = some true) {t : TypeId} {x : Operand} {lo hi mx : Option Operand} (ho : o.op = .slice t x lo hi mx) {ti ei : TInfo} {e : TypeId} (hti : T.get t = some ti) (hd : ti.desc = .slice e) (hei : T.get e = some ei)
    {tag : Nat} {g : OwnRef} {len : Nat} (hx : evS s x = .own tag g len) {l h m : Nat} (hl : optAt (evS s) lo 0 l) (hh : optAt (evS s) hi len h) (hm : optAt (evS s) mx g.cap m) (hs : mx.isSome = true → hi.isSome = true) (h1 : l ≤ h) (h2 : h ≤ m) (h3 : m ≤ g.cap)
    (hp : putD n s o.dst (.val (g.sub ei.size l h m)) = some s') (hr : AOps P ops rest ⟨n, s', bx, ob⟩ K) : AOps P ops (o :: rest) ⟨n, s, bx, ob⟩ K :=
  AOps.detS hg (detS_subV hT ho hti hd hei hx hl hh hm hs h1 h2 h3) hp hr
theorem DOps.subV (hT : T.Ok P) (ho : ops[k]? = some o) (hg : guardA ops s o = some true) {t : TypeId} {x : Operand} {lo hi mx : Option Operand} (hop : o.op = .slice t x lo hi mx) {ti ei : TInfo} {e : TypeId} (hti : T.get t = some ti) (hd : ti.desc = .slice e) (hei : T.get e = some ei)
    {tag : Nat} {g : OwnRef} {len : Nat} (hx : evS s x = .own tag g len) {l h m : Nat} (hl : optAt (evS s) lo 0 l) (hh : optAt (evS s) hi len h) (hm : optAt (evS s) mx g.cap m) (hs : mx.isSome = true → hi.isSome = true) (h1 : l ≤ h) (h2 : h ≤ m) (h3 : m ≤ g.cap)
    (hp : putD n s o.dst (.val (g.sub ei.size l h m)) = some s') (hr : DOps P T rb ops L ⟨n, s', bx, ob⟩ K) : DOps P T rb ops (k :: L) ⟨n, s, bx, ob⟩ K :=
  DOps.detS ho hg (by rw [hop]; rfl) (fun _ => detS_subV hT hop hti hd hei hx hl hh hm hs h1 h2 h3) hp hr

theorem AOps.clearB (hT : T.Ok P) (hg : guardA ops s o = some true) {x : Operand} {t : TypeId} (ho : o.op = .call { callee := .builtin .clear, args := #[x], argTypes := #[t] }) (hdst : o.dst = none) {ti ei : TInfo} {e : TypeId} (hti : T.get t = some ti) (hd : ti.desc = .slice e) (hei : T.get e = some ei)
    (hz : Nat.beq ei.zero.cells.size ei.size = true) (h1 : (zeroPV ei).all PV.one = true) {tag : Nat} {g : OwnRef} {rows : List (List PV)} (hob : ob tag = some ⟨g, e, rows, true⟩) {p q m : Nat} (hp : rows.length ≤ p) (hpq : p ≤ q) (hq : q ≤ m) (hm : m ≤ g.cap)
    (hx : evS s x = .val (g.sub ei.size p q m)) (h : AOps P ops rest ⟨n, s, bx, ob⟩ K) : AOps P ops (o :: rest) ⟨n, s, bx, ob⟩ K :=
  AOps.eff hg (eff_clearB hT ho hti hd hei hz h1 hob hp hpq hq hm hx ⟨s, by simp [hdst, putD], h⟩)

/-- A shift to the right. -/
theorem AOps.shr (hg : guardA ops s o = some true) {t t' : TypeId} {x y : Operand} (ho : o.op = .binOp .shr t x y t') {kk k2 : IntKind} {a b : Int} (hx : evS s x = .val (.int kk a)) (hy : evS s y = .val (.int k2 b)) (hb : 0 ≤ b) {m : Nat} (hm : min b.toNat kk.bits = m)
    (hp : putD n s o.dst (.val (.int kk (a.fdiv (2 ^ m)))) = some s') (h : AOps P ops rest ⟨n, s', bx, ob⟩ K) : AOps P ops (o :: rest) ⟨n, s, bx, ob⟩ K := by
  refine AOps.eff hg (fun C M a' w next Q hi he hn => ?_)
  have hxr := he x (by rw [ho]; simp [Op.operands])
  have hyr := he y (by rw [ho]; simp [Op.operands])
  rw [show (⟨n, s, bx, ob⟩ : PState).s = s from rfl, hx] at hxr
  rw [show (⟨n, s, bx, ob⟩ : PState).s = s from rfl, hy] at hyr
  simp only [Rep] at hxr hyr
  subst hm
  have hrun : (execOp a'.eval o).run P w = .ok (.value (.int kk (a.fdiv (2 ^ (min b.toNat kk.bits))))) w := by
    have h2 : (eqGuard .shr t x y (.int kk a) (.int k2 b)).run P w = .ok () w := by simp [eqGuard]
    have hb' : ¬ b < 0 := by omega
    simp only [execOp, ho, hxr, hyr, Sem.run_bind, h2, Result.andThen_ok, binOp, Op.shift, if_neg hb']
    rfl
  unfold Oper.wp
  rw [hrun]
  exact hn _ _ ⟨bx, ob⟩ M w ⟨s', hp, h⟩ (Mem.le_refl M) hi (by simp only [Rep])

/-- An own slice that is not empty has a block. -/
theorem AOps.ownF {tag : Nat} {g : OwnRef} {e : TypeId} {rows : List (List PV)} {wr : Bool} (hob : ob tag = some ⟨g, e, rows, wr⟩) (h : (rows ≠ [] → ∃ b, g.blk = some b) → AOps P ops rest ⟨n, s, bx, ob⟩ K) : AOps P ops rest ⟨n, s, bx, ob⟩ K := fun C M a w Q hi hq => by
  refine h (fun hne => ?_) C M a w Q hi hq
  obtain ⟨_, _, _, _, h4⟩ := hi.2.objs tag _ hob
  rcases h4 with ⟨_, h5, _⟩ | ⟨b, _, h5, _⟩
  · exact absurd h5 hne
  · exact ⟨b, h5⟩
/-- An own slice's length is no more than its capacity. -/
theorem V.ownC {fn : Func} {R : PV → Heap → Prop} {ks : List KI} {tag : Nat} {g : OwnRef} {e : TypeId} {rows : List (List PV)} {wr : Bool} (hob : ob tag = some ⟨g, e, rows, wr⟩) (h : rows.length ≤ g.cap → V P fn R ks ⟨n, s, bx, ob⟩) : V P fn R ks ⟨n, s, bx, ob⟩ := fun C M a w hi => by
  refine h ?_ C M a w hi
  obtain ⟨_, _, _, _, h4⟩ := hi.2.objs tag _ hob
  rcases h4 with ⟨_, h5, h6⟩ | ⟨b, _, h5, _, _, _, h6, h7, _⟩
  · simp only at h5; rw [h5]; simp
  · exact h6
theorem AOps.ownC {tag : Nat} {g : OwnRef} {e : TypeId} {rows : List (List PV)} {wr : Bool} (hob : ob tag = some ⟨g, e, rows, wr⟩) (h : rows.length ≤ g.cap → AOps P ops rest ⟨n, s, bx, ob⟩ K) : AOps P ops rest ⟨n, s, bx, ob⟩ K := fun C M a w Q hi hq => by
  refine h ?_ C M a w Q hi hq
  obtain ⟨_, _, _, _, h4⟩ := hi.2.objs tag _ hob
  rcases h4 with ⟨_, h5, h6⟩ | ⟨b, _, h5, _, _, _, h6, h7, _⟩
  · simp only at h5; rw [h5]; simp
  · exact h6

theorem Gh.cutO {st : PState} {tag : Nat} {g : OwnRef} {e : TypeId} {rows rows' : List (List PV)} (hob : st.ob tag = some ⟨g, e, rows, true⟩) (m : Nat) (hr : rows.take m = rows') : Gh P st ⟨st.n, st.s, st.bx, upd st.ob tag (some ⟨g, e, rows', true⟩)⟩ := by
  subst hr
  intro C M a w hi
  exact ⟨M, hi.1, hi.2.cutO hob m⟩

theorem DOps.appendIn (hT : T.Ok P) (ho : ops[k]? = some o) (hg : guardA ops s o = some true) {x y : Operand} {t : TypeId} (hop : o.op = .call { callee := .builtin .append, args := #[x, y], argTypes := #[t, t] }) {ti ei : TInfo} {e : TypeId} (hti : T.get t = some ti) (hd : ti.desc = .slice e) (hei : T.get e = some ei)
    {tag : Nat} {g : OwnRef} {rows rows' : List (List PV)} (hob : ob tag = some ⟨g, e, rows, true⟩) {p q : Nat} (hpq : p ≤ q) (hq : q ≤ rows.length) (hx : evS s x = .val (g.sub ei.size 0 p g.cap)) (hy : evS s y = .val (g.sub ei.size q rows.length g.cap)) (hr : rows.take p ++ rows.drop q = rows')
    (hp : putD n s o.dst (.own tag g rows'.length) = some s') (h : DOps P T rb ops L ⟨n, s', bx, upd ob tag (some ⟨g, e, rows', true⟩)⟩ K) : DOps P T rb ops (k :: L) ⟨n, s, bx, ob⟩ K := by
  subst hr
  refine ⟨o, ho, true, hg, ?_⟩
  simp only [if_true, hop, clsOf]
  exact fun bx' => eff_appendIn hT hop hti hd hei hob hpq hq hx hy ⟨rfl, s', hp, h⟩

/-- The first elements of a slice of the call's own, whatever was known of its length. -/
theorem AOps.cutP (hT : T.Ok P) (hg : guardA ops s o = some true) {t : TypeId} {x y : Operand} (ho : o.op = .slice t x none (some y) none) {ti : TInfo} {e : TypeId} (hti : T.get t = some ti) (hd : ti.desc = .slice e) {ei : TInfo} (hei : T.get e = some ei)
    {tag : Nat} {g : OwnRef} {len : Nat} {rows rows' : List (List PV)} (hx : evS s x = .own tag g len) (hob : ob tag = some ⟨g, e, rows, true⟩) {kk : IntKind} {m : Int} (hy : evS s y = .val (.int kk m)) (hm : 0 ≤ m ∧ m.toNat ≤ rows.length) (hr : rows.take m.toNat = rows') {d : Nat} (hdst : o.dst = some d) (hlt : Nat.blt d n = true)
    (h : AOps P ops rest ⟨n, upd s d (.own tag g rows'.length), bx, upd ob tag (some ⟨g, e, rows', true⟩)⟩ K) : AOps P ops (o :: rest) ⟨n, s, bx, ob⟩ K := by
  subst hr
  refine AOps.eff hg (fun C M a w next Q hi he hn => ?_)
  have hxr := he x (by rw [ho]; simp [Op.operands])
  have hyr := he y (by rw [ho]; simp [Op.operands])
  rw [show (⟨n, s, bx, ob⟩ : PState).s = s from rfl, hx] at hxr
  rw [show (⟨n, s, bx, ob⟩ : PState).s = s from rfl, hy] at hyr
  simp only [Rep] at hxr hyr
  have hu := (hT.get hti).und
  rw [hd] at hu
  have hcap : rows.length ≤ g.cap := by
    obtain ⟨i, _, _, _, h4⟩ := hi.objs tag _ hob
    rcases h4 with ⟨_, b, _⟩ | ⟨_, _, _, _, _, _, h9, _⟩
    · simp only at b; rw [b]; simp
    · exact h9
  have hmc : m ≤ (g.cap : Int) := by omega
  have hl2 : (rows.take m.toNat).length = m.toNat := by simp; omega
  have hrun : (execOp a.eval o).run P w = .ok (.value (g.val (rows.take m.toNat).length)) w := by
    rw [hl2]
    simp only [execOp, ho, Sem.run_bind, Sem.run_pure, Option.map_some, Option.map_none, hxr.2, hyr, OwnRef.val]
    cases hb : g.blk with
    | none => simp [Instr.sliceAt, Instr.slice, run_underlying hu, Instr.sliceBounds, Instr.sliceBound, asIntOf, (hT.get hei).rsize w, hm.1, hmc]
    | some b =>
      have e0 : (⟨b, 0, none⟩ : Addr).add 0 = ⟨b, 0, none⟩ := by rw [add_off]
      simp [Instr.sliceAt, Instr.slice, run_underlying hu, Instr.sliceBounds, Instr.sliceBound, asIntOf, (hT.get hei).rsize w, hm.1, hmc, e0]
  unfold Oper.wp
  rw [hrun]
  exact hn _ (.own tag g (rows.take m.toNat).length) ⟨bx, upd ob tag (some ⟨g, e, rows.take m.toNat, true⟩)⟩ M w ⟨_, by simp [hdst, putD, hlt], h⟩ (Mem.le_refl M) (hi.cutO hob m.toNat) (by simp [Rep])
end

/-- Cells are alike: a field may be a struct. -/
def eqCells2 (T : TT) : List (Nat × Nat) → List PV → List PV → Option Bool
  | [], _, _ => some true
  | (t, off) :: r, xs, ys => match T.get t with
    | some ti => match (bif ti.eqf.isEmpty then (match xs[off]?, ys[off]? with | some p, some q => scalarEq ti.desc p q | _, _ => none) else eqCells T ti.eqf ((xs.drop off).take ti.size) ((ys.drop off).take ti.size)), eqCells2 T r xs ys with
      | some b, some c => some (b && c)
      | _, _ => none
    | none => none

section
variable {P : Program} {T : TT}
theorem eqCells2_sound (hT : T.Ok P) (w : World) {M : Mem} {d : Nat} {xs ys : List PV} {cs ds : Array Value} (hx : RepAll P M true xs cs.toList) (hy : RepAll P M true ys ds.toList) :
    ∀ (fs : List Field) (eqf : List (Nat × Nat)) (b : Bool), fieldsMeet fs eqf → eqCells2 T eqf xs ys = some b → (Op.eqFields (d + 2) cs ds fs).run P w = .ok b w
  | [], [], b, _, h => by simp only [eqCells2, Option.some.injEq] at h; subst h; simp [Op.eqFields]
  | f :: fs, (t, o) :: r, b, hm, h => by
    simp only [fieldsMeet] at hm
    obtain ⟨hn, rfl, rfl, hm⟩ := hm
    simp only [eqCells2] at h
    split at h
    · rename_i ti hti
      split at h
      · rename_i b1 b2 h1 h2
        simp only [Option.some.injEq] at h
        subst h
        have ih := eqCells2_sound hT w (d := d) hx hy fs r b2 hm h2
        cases he : ti.eqf.isEmpty with
        | true =>
          simp only [he, cond_true] at h1
          split at h1
          · rename_i p q hp hq
            obtain ⟨x, hx1, hx2⟩ := hx.get _ _ hp
            obtain ⟨y, hy1, hy2⟩ := hy.get _ _ hq
            obtain ⟨hag, heq⟩ := scalarEq_sound w (d := d + 1) (hT.get hti) hx2 hy2 h1
            have hpx : ∀ (c : Array Value) (z : Value), c.toList[f.offset]? = some z → (part f.type c f.offset).run P w = .ok z w := by
              intro c z hz
              rw [Array.getElem?_toList] at hz
              simp [part, (hT.get hti).ragg w, hag, hz]
            simp only [Op.eqFields, if_pos (show f.name ≠ "_" from hn), Sem.run_bind, hpx _ _ hx1, hpx _ _ hy1, Result.andThen_ok, heq]
            cases b1 <;> simp [ih]
          · cases h1
        | false =>
          simp only [he, cond_false] at h1
          obtain ⟨k1, k2, k3, k4⟩ := (hT.get hti).eqs (by intro h0; simp [h0] at he)
          have hag : isAggD ti.desc = true := by
            have hu := (hT.get hti).und
            rw [k4] at hu
            rw [← Option.some.inj hu]
            rfl
          have hpx : ∀ (c : Array Value), (part f.type c f.offset).run P w = .ok (.agg (c.extract f.offset (f.offset + ti.size))) w := by
            intro c
            simp [part, (hT.get hti).ragg w, hag, (hT.get hti).rsize w]
          have hsub : ∀ (zs : List PV) (c : Array Value), RepAll P M true zs c.toList → RepAll P M true ((zs.drop f.offset).take ti.size) (c.extract f.offset (f.offset + ti.size)).toList := by
            intro zs c hz
            have e : (c.extract f.offset (f.offset + ti.size)).toList = (c.toList.drop f.offset).take ti.size := by
              rw [Array.toList_extract]
              simp [List.extract_eq_take_drop]
            rw [e]
            exact (hz.drop _).take _
          have heq : (Op.equalIn (d + 2) f.type (.agg (cs.extract f.offset (f.offset + ti.size))) (.agg (ds.extract f.offset (f.offset + ti.size)))).run P w = .ok b1 w := by
            rw [run_equalIn_agg w (d + 1) f.type _ _ k4 k1]
            exact eqCells_sound hT w (d := d) (hsub _ _ hx) (hsub _ _ hy) _ _ b1 k3 h1
          simp only [Op.eqFields, if_pos (show f.name ≠ "_" from hn), Sem.run_bind, hpx, Result.andThen_ok, heq]
          cases b1 <;> simp [ih]
      · cases h
    · cases h
  | [], _ :: _, b, hm, _ => by simp [fieldsMeet] at hm
  | _ :: _, [], b, hm, _ => by simp [fieldsMeet] at hm

theorem detS_eqNest (hT : T.Ok P) {o : Oper} {ev : Operand → PV} {H : Heap} {t t' : TypeId} {x y : Operand} (ho : o.op = .binOp .eql t x y t') {xs ys : List PV} (hx : ev x = .agg xs) (hy : ev y = .agg ys) (h1 : P.stoodInHeld t = false) (h2 : P.eqGuardType P.depth t = false)
    {eqf : List (Nat × Nat)} (h3 : fieldsMeet (P.fieldsOf t).toList eqf) (h4 : P.underlying t = some (.struct (P.fieldsOf t))) {b : Bool} (hb : eqCells2 T eqf xs ys = some b) : DetS P o ev H (.val (.bool b)) := by
  intro C M a w _ he
  have hxr := he x (by rw [ho]; simp [Op.operands])
  have hyr := he y (by rw [ho]; simp [Op.operands])
  rw [hx] at hxr
  rw [hy] at hyr
  simp only [Rep] at hxr hyr
  obtain ⟨cs, ex, hc⟩ := hxr
  obtain ⟨ds, ey, hd⟩ := hyr
  refine ⟨.bool b, ?_, by simp only [Rep]⟩
  have key : (binOp .eql t (.agg cs) (.agg ds)).run P w = .ok (.bool b) w := by
    rw [run_eql_struct w t cs ds, show (10000 : Nat) = 9997 + 2 + 1 from rfl, run_equalIn_agg w (9997 + 2) t cs ds h4 h1, eqCells2_sound hT w (d := 9997) hc hd _ _ b h3 hb]
    rfl
  have hg := run_eqGuard_agg (P := P) w .eql t x y cs ds h2
  simp only [execOp, ho, ex, ey]
  simp only [Sem.run_bind, hg, Result.andThen_ok, key]
  rfl
end

section
variable {P : Program} {ops : Array Oper} {rest : List Oper} {o : Oper} {n : Nat} {s s' : Nat → PV} {bx : Nat → Option Box} {ob : Nat → Option Obj} {K : PState → Prop} {T : TT} {rb : RB} {k : Nat} {L : List Nat}
theorem AOps.eqNest (hT : T.Ok P) (hg : guardA ops s o = some true) {t t' : TypeId} {x y : Operand} (ho : o.op = .binOp .eql t x y t') {xs ys : List PV} (hx : evS s x = .agg xs) (hy : evS s y = .agg ys) (h1 : P.stoodInHeld t = false) (h2 : P.eqGuardType P.depth t = false)
    {eqf : List (Nat × Nat)} (h3 : fieldsMeet (P.fieldsOf t).toList eqf) (h4 : P.underlying t = some (.struct (P.fieldsOf t))) {b : Bool} (hb : eqCells2 T eqf xs ys = some b) (hp : putD n s o.dst (.val (.bool b)) = some s') (h : AOps P ops rest ⟨n, s', bx, ob⟩ K) : AOps P ops (o :: rest) ⟨n, s, bx, ob⟩ K :=
  AOps.detS hg (detS_eqNest hT ho hx hy h1 h2 h3 h4 hb) hp h
theorem DOps.eqNest (hT : T.Ok P) (ho : ops[k]? = some o) (hg : guardA ops s o = some true) {t t' : TypeId} {x y : Operand} (hop : o.op = .binOp .eql t x y t') {xs ys : List PV} (hx : evS s x = .agg xs) (hy : evS s y = .agg ys) (h1 : P.stoodInHeld t = false) (h2 : P.eqGuardType P.depth t = false)
    {eqf : List (Nat × Nat)} (h3 : fieldsMeet (P.fieldsOf t).toList eqf) (h4 : P.underlying t = some (.struct (P.fieldsOf t))) {b : Bool} (hb : eqCells2 T eqf xs ys = some b) (hp : putD n s o.dst (.val (.bool b)) = some s') (h : DOps P T rb ops L ⟨n, s', bx, ob⟩ K) : DOps P T rb ops (k :: L) ⟨n, s, bx, ob⟩ K :=
  DOps.detS ho hg (by rw [hop]; rfl) (fun _ => detS_eqNest hT hop hx hy h1 h2 h3 h4 hb) hp h
end
end Go.Ab
/- The abstract layer, part Y: a string's bytes, slices that are made, functions of the run-time. -/
namespace Go.Ab

section
variable {P : Program} {C : Ctx} {M : Mem} {H : Heap} {w : World}

/-- A new block, of which the first cells are frozen. -/
theorem InvH.alloc_part (h : InvH P C M H w) (pre cs : Array Value) (e : TypeId) (fz : Nat × Nat) (hp : ∀ (o : Nat) (v : Value), pre[o]? = some v → cs[o]? = some v) : InvH P C (M.add w.heap.size pre) H (w.alloc (.cells cs e fz)) := by
  have hle := h.add_le pre
  refine ⟨?_, Mem.le_trans h.ext hle, ?_, h.os, h.tape, h.output, ?_, ?_, ?_, ?_, h.dbox, h.dobj, h.dmix⟩
  · intro b o v hm
    by_cases hb : b = w.heap.size
    · subst hb
      rw [cell_of_row (w.alloc (.cells cs e fz)) w.heap.size o cs e fz (heap_alloc_new w _)]
      exact hp o v (by simpa [Mem.add] using hm)
    · simp only [Mem.add, hb, if_false] at hm
      rw [cell_alloc_old w _ (h.mem_lt hm)]
      exact h.mem b o v hm
  · intro b o v hm
    by_cases hb : b = w.heap.size
    · exact .inr (.inl (hb ▸ h.size))
    · simp only [Mem.add, hb, if_false] at hm
      exact h.new b o v hm
  · rw [size_alloc]; exact Nat.le_succ_of_le h.size
  · intro b hb hn
    rw [heap_alloc_old w _ (Nat.lt_of_lt_of_le hb h.size)]
    exact h.frame b hb hn
  · intro t x hx
    have hlt := h.box_lt hx
    exact (h.boxes t x hx).keep hle (fun o ho => by simp [Mem.add, Nat.ne_of_lt hlt, ho]) (heap_alloc_old w _ hlt)
  · intro t x hx
    exact (h.objs t x hx).keep hle (fun b o hb ho => by simp [Mem.add, Nat.ne_of_lt (h.obj_lt hx hb), ho]) (fun b hb => heap_alloc_old w _ (h.obj_lt hx hb))

theorem freeze_new (w : World) (cs : Array Value) (e : TypeId) (n : Nat) : (w.alloc (.cells cs e)).freeze ⟨w.heap.size, n, none⟩ 1 = w.alloc (.cells cs e (n, n + 1)) := by
  unfold World.freeze World.alloc
  simp only [Nat.one_ne_zero, if_false]
  congr 1
  apply Array.ext
  · simp
  · intro i h1 h2
    rw [Array.getElem_modify]
    split
    · rename_i hi
      subst hi
      simp
    · rename_i hi
      have : i < w.heap.size := by simp at h2; omega
      simp [Array.getElem_push, this]
end

section
variable {P : Program} {ops : Array Oper} {rest : List Oper} {o : Oper} {n : Nat} {s s' : Nat → PV} {bx : Nat → Option Box} {ob : Nat → Option Obj} {K : PState → Prop} {T : TT} {rb : RB} {k : Nat} {L : List Nat}

theorem byteRows_rep (M : Mem) (xs : List UInt8) : RepAll P M false (byteRows xs).flatten (xs.map fun c => Value.int .u8 c.toNat) := by
  induction xs with
  | nil => simp [byteRows, RepAll]
  | cons c xs ih => simp only [byteRows, List.map_cons, List.flatten_cons, List.cons_append, List.nil_append, RepAll, Rep]; exact ⟨_, _, rfl, rfl, ih⟩

/-- The bytes of a string. -/
theorem AOps.s2b (hT : T.Ok P) (hg : guardA ops s o = some true) {src dst e : TypeId} {x : Operand} (ho : o.op = .convert src dst x) {si di ei : TInfo} (hsi : T.get src = some si) (hsd : si.desc = .string) (hdi : T.get dst = some di) (hdd : di.desc = .slice e) (hei : T.get e = some ei) (hed : ei.desc = .int .u8) (hes : ei.size = 1) (heb : ei.bytes = 1)
    {xs : List UInt8} (hx : evS s x = .str xs) (hl : xs.length ≤ 2 ^ 47) (hp : putD n s o.dst (.list e (byteRows xs)) = some s') (h : AOps P ops rest ⟨n, s', bx, ob⟩ K) : AOps P ops (o :: rest) ⟨n, s, bx, ob⟩ K := by
  refine AOps.eff hg (fun C M a w next Q hi he hn => ?_)
  have hxr := he x (by rw [ho]; simp [Op.operands])
  rw [show (⟨n, s, bx, ob⟩ : PState).s = s from rfl, hx] at hxr
  simp only [Rep] at hxr
  have hs := (hT.get hsi).und
  have hd := (hT.get hdi).und
  have hee := (hT.get hei).und
  rw [hsd] at hs
  rw [hdd] at hd
  rw [hed] at hee
  obtain ⟨i, hinf, hsz, hby, _⟩ := (hT.get hei).info
  have hge := grownCap_ge w xs.length 0 e
  have hml : xs.length ≤ maxLen := by unfold maxLen; omega
  have hgm : grownCap w xs.length 0 e ≤ maxLen := grownCap_le_maxLen w xs.length 0 e hml
  obtain ⟨pre, hpre⟩ : ∃ pre : Array Value, pre = xs.toArray.map fun b => Value.int .u8 b.toNat := ⟨_, rfl⟩
  obtain ⟨cs, hcs⟩ : ∃ cs : Array Value, cs = pre ++ Array.replicate (grownCap w xs.length 0 e - xs.length) (.int .u8 0) := ⟨_, rfl⟩
  have hrun : (execOp a.eval o).run P w = .ok (.value (.slice (some ⟨w.heap.size, 0, none⟩) xs.length (grownCap w xs.length 0 e))) (w.drew.alloc (.cells cs e (cs.size, cs.size + 1))) := by
    have hz : (ByteArray.mk xs.toArray).size = xs.length := by simp [ByteArray.size]
    have key : (Conv.stringToBytes e ⟨xs.toArray⟩).run P w = .ok (.slice (some ⟨w.heap.size, 0, none⟩) xs.length (grownCap w xs.length 0 e)) (w.drew.alloc (.cells cs e (cs.size, cs.size + 1))) := by
      have hmk : ∀ w0 : World, (markStringish ⟨w0.heap.size, 0, none⟩).run P (w0.alloc (.cells cs e)) = .ok () (w0.alloc (.cells cs e (cs.size, cs.size + 1))) := by
        intro w0
        have hsh : (w0.alloc (.cells cs e)).shape? w0.heap.size = some (e, cs.size) := by unfold World.shape?; rw [heap_alloc_new]
        unfold markStringish
        simp only [Sem.run_bind, run_shape, Result.andThen_ok, hsh]
        rw [run_freeze, freeze_new]
      have hm0 := hmk w.drew
      subst hcs
      subst hpre
      unfold Conv.stringToBytes
      simp only [Sem.run_bind, hz, run_choose, Question.forced]
      simp [newRow]
      simp [grownCap] at hm0 ⊢
      rw [hm0]
      simp
    simp only [execOp, ho, hxr.1, convert, Sem.run_bind, run_underlying hs, run_underlying hd, run_underlying hee, Result.andThen_ok, key]
    rfl
  unfold Oper.wp
  rw [hrun]
  have hle := (show InvH P C M ⟨bx, ob⟩ w.drew from hi.drew).add_le pre
  have hi' := (show InvH P C M ⟨bx, ob⟩ w.drew from hi.drew).alloc_part pre cs e (cs.size, cs.size + 1) (fun o v hv => by rw [hcs, Array.getElem?_append_left (Array.getElem?_eq_some_iff.1 hv).1]; exact hv)
  refine hn _ (.list e (byteRows xs)) ⟨bx, ob⟩ (M.add w.drew.heap.size pre) _ ⟨s', hp, h⟩ hle hi' ?_
  simp only [Rep]
  have hbl : (byteRows xs).length = xs.length := by simp [byteRows]
  refine ⟨_, grownCap w xs.length 0 e, i, by rw [hbl], by rw [hbl]; exact hge, hgm, hinf, by rw [hbl, hby, heb]; omega, fun _ => ⟨_, _, rfl, ?_⟩⟩
  refine RepRows.of_flat (fun r hr => ?_) (repAt_add (show InvH P C M ⟨bx, ob⟩ w.drew from hi.drew) (byteRows xs).flatten pre ?_ ?_)
  · obtain ⟨c, _, rfl⟩ := List.mem_map.1 hr
    rw [hsz, hes]; rfl
  · rw [hpre]
    intro v hv
    simp at hv
    obtain ⟨c, _, rfl⟩ := hv
    rfl
  · rw [hpre]
    simpa using byteRows_rep M xs

/-- So many zero elements. -/
theorem AOps.makeS (hT : T.Ok P) (hg : guardA ops s o = some true) {x : Operand} {t : TypeId} (ho : o.op = .makeSlice t x x) {d : Nat} (hdst : o.dst = some d) (hlt : Nat.blt d n = true) {ti ei : TInfo} {e : TypeId} (hti : T.get t = some ti) (hd : ti.desc = .slice e) (hei : T.get e = some ei)
    (hz : Nat.beq ei.zero.cells.size ei.size = true) (h1 : (zeroPV ei).all PV.one = true) {kk : IntKind} {m : Int} (hx : evS s x = .val (.int kk m)) (hm : 0 ≤ m) (hby : m.toNat * ei.bytes ≤ 2 ^ 47) (hmx : m.toNat ≤ maxLen) {rows : List (List PV)} (hr : List.replicate m.toNat (zeroPV ei) = rows)
    (h : ∀ g, AOps P ops rest ⟨n, upd s d (.own d g rows.length), bx, upd ob d (some ⟨g, e, rows, true⟩)⟩ K) : AOps P ops (o :: rest) ⟨n, s, bx, ob⟩ K := by
  subst hr
  refine AOps.eff hg (fun C M a w next Q hi he hn => ?_)
  have hxr := he x (by rw [ho]; simp [Op.operands])
  rw [show (⟨n, s, bx, ob⟩ : PState).s = s from rfl, hx] at hxr
  simp only [Rep] at hxr
  have hu := (hT.get hti).und
  rw [hd] at hu
  obtain ⟨i, hinf, hs, hbs, hzero⟩ := (hT.get hei).info
  have hz1 := Nat.eq_of_beq_eq_true hz
  obtain ⟨k, hk⟩ : ∃ k : Nat, k = m.toNat := ⟨_, rfl⟩
  rw [← hk] at hby hmx h
  have hkm : m = (k : Int) := by omega
  subst hkm
  have hby2 : k * i.bytes ≤ 2 ^ 47 := by rw [hbs]; exact hby
  have hbi : (i.bytes : Int) * (k : Int) ≤ 281474976710656 := by
    have : ((k * i.bytes : Nat) : Int) ≤ ((2 ^ 47 : Nat) : Int) := Int.ofNat_le.2 hby2
    rw [Int.natCast_mul] at this
    rw [Int.mul_comm]
    omega
  have hrun : (execOp a.eval o).run P w = .ok (.value (.slice (some ⟨w.heap.size, 0, none⟩) k k)) (w.alloc (.cells (madeCells ei.zero.cells (k * i.size)) e)) := by
    have := run_make w t e i ei.zero hu hinf hzero kk kk (k : Int) (k : Int) (by omega) (by omega) hbi (by unfold maxLen at hmx; omega)
    simp only [Int.toNat_natCast] at this
    simp only [execOp, ho, hxr, Sem.run_bind, this]
    rfl
  unfold Oper.wp
  rw [hrun]
  have hzl : (zeroPV ei).length = i.size := by simp [zeroPV, hz1, hs]
  have hmc : (madeCells ei.zero.cells (k * i.size)).toList = (List.replicate k ei.zero.cells.toList).flatten := by
    rw [hs, ← hz1]
    exact zeros_eq ei.zero.cells k
  have hrep : RepAll P M false (List.replicate k (zeroPV ei)).flatten (List.replicate k ei.zero.cells.toList).flatten := repAll_flat (zeroPV_rep _) k
  have htake : (madeCells ei.zero.cells (k * i.size)).toList.take ((List.replicate k (zeroPV ei)).length * i.size) = (List.replicate k ei.zero.cells.toList).flatten := by
    rw [List.length_replicate, List.take_of_length_le (by simp [size_madeCells]), hmc]
  refine hn _ (.own d ⟨some w.heap.size, k⟩ (List.replicate k (zeroPV ei)).length) _ M _ ⟨_, by simp [hdst, putD, hlt], h ⟨some w.heap.size, k⟩⟩ (Mem.le_refl M)
    ((show InvH P C M ⟨bx, ob⟩ w from hi).alloc_obj d e (List.replicate k (zeroPV ei)) true _ _ i hinf ?_ ?_ ?_ ?_ hmx ?_ ?_) ?_
  · rw [List.length_replicate]; exact hby2
  · intro r hr
    rw [List.eq_of_mem_replicate hr]
    exact hzl
  · rw [size_madeCells]
  · rw [List.length_replicate]; exact Nat.le_refl _
  · rw [htake]; exact hrep
  · rw [htake]
    refine RepAll.oneCell ?_ hrep
    rw [List.all_flatten]
    rw [List.all_eq_true]
    intro r hr
    rw [List.eq_of_mem_replicate hr]
    exact h1
  · simp [Rep, OwnRef.val]

/-- A function of the run-time that leaves the world asQ it was. -/
theorem AOps.ext (hg : guardA ops s o = some true) {fx : Operand} {asQ : Array Operand} {ts : Array TypeId} (ho : o.op = .call { callee := .value fx, args := asQ, argTypes := ts }) {g : FuncId} (hf : evS s fx = .fn g []) {r : PV}
    (hcall : ∀ (M : Mem) (vs : Array Value) (w : World), RepAll P M true (asQ.toList.map (evS s)) vs.toList → ∃ v, (callFunc g vs).run P w = .ok (.value v) w ∧ Rep P M true r v)
    (hp : putD n s o.dst r = some s') (h : AOps P ops rest ⟨n, s', bx, ob⟩ K) : AOps P ops (o :: rest) ⟨n, s, bx, ob⟩ K := by
  refine AOps.eff hg (fun C M a w next Q hi he hn => ?_)
  have hfr := he fx (by rw [ho]; simp [Op.operands, Call.operands])
  rw [show (⟨n, s, bx, ob⟩ : PState).s = s from rfl, hf] at hfr
  simp only [Rep] at hfr
  obtain ⟨cs, hv, hcaps⟩ := hfr
  have hargs : RepAll P M true (asQ.toList.map (evS s)) (asQ.map a.eval).toList := by
    simpa using repAll_map asQ.toList fun x hx => he x (by rw [ho]; simp_all [Op.operands, Call.operands])
  have hc0 : cs = #[] := by
    simp only [RepAll] at hcaps
    exact Array.toList_eq_nil_iff.1 hcaps
  subst hc0
  obtain ⟨v, hrun, hr⟩ := hcall M (asQ.map a.eval) w hargs
  have hrun' : (execOp a.eval o).run P w = .ok (.value v) w := by
    simp [execOp, ho, resolve, hv, Deferred.ofValue, invoke, hrun]
  unfold Oper.wp
  rw [hrun']
  exact hn v r ⟨bx, ob⟩ M w ⟨s', hp, h⟩ (Mem.le_refl M) hi hr

/-- Strings are compared. -/
theorem AOps.cmpS (hg : guardA ops s o = some true) {fx x y : Operand} {ts : Array TypeId} (ho : o.op = .call { callee := .value fx, args := #[x, y], argTypes := ts }) {g : FuncId} (hf : evS s fx = .fn g []) {fn : Func} (h1 : P.funcs[g]? = some fn) (h2 : (fn.name == "runtime.NumGoroutine") = false) (h3 : fn.body.isNone = true) (h4 : Extern.findNext fn = none) (h5 : Extern.find fn = some Extern.BytealgCompare.compare)
    {a b : List UInt8} (hx : evS s x = .str a) (hy : evS s y = .str b) (hp : putD n s o.dst (.val (.int .i64 (Lib.compareBytes a b))) = some s') (h : AOps P ops rest ⟨n, s', bx, ob⟩ K) : AOps P ops (o :: rest) ⟨n, s, bx, ob⟩ K := by
  refine AOps.ext hg ho hf (fun M vs w hr => ?_) hp h
  simp only [List.map_cons, List.map_nil, hx, hy, RepAll, Rep] at hr
  obtain ⟨v1, l1, e1, ⟨r1, _⟩, v2, l2, e2, ⟨r2, _⟩, e3⟩ := hr
  subst e3 e2 r1 r2
  have hvs : vs = #[.string ⟨a.toArray⟩, .string ⟨b.toArray⟩] := by
    apply Array.toList_inj.1
    rw [e1]
  subst hvs
  refine ⟨.int .i64 (Lib.compareBytes a b), ?_, by simp only [Rep]⟩
  rw [run_callFunc_extern h1 h2 h3 h4 h5, Lib.run_compareString]
  rfl
end
end Go.Ab
/- The abstract layer, part Z: arrays of the call's own, asQ lists; families of slices. -/
namespace Go.Ab

/-- An element of an array. -/
def arrI {α : Type} (n : Nat) (xs : List α) (i : Int) : Option α := if 0 ≤ i ∧ i < n then xs[i.toNat]? else none
theorem arrI_some {α : Type} {n : Nat} {xs : List α} {i : Int} {x : α} (h : arrI n xs i = some x) : (0 ≤ i ∧ i < n) ∧ xs[i.toNat]? = some x := by
  unfold arrI at h
  split at h
  · rename_i h0; exact ⟨h0, h⟩
  · cases h
theorem arrI_eq {α : Type} {n : Nat} {xs : List α} {i : Int} {x : α} (h0 : 0 ≤ i ∧ i < n) (h : xs[i.toNat]? = some x) : arrI n xs i = some x := by
  unfold arrI
  rw [if_pos h0, h]

theorem splice_map {α : Type} (f : α → PV) (xs : List α) (k : Nat) (v : α) {ys : List α} (hk : k < xs.length) (hy : xs.set k v = ys) : splice (xs.map f) k [f v] = ys.map f := by
  subst hy
  unfold splice
  rw [List.map_set, List.length_singleton]
  have hk' : k < (xs.map f).length := by simpa using hk
  rw [List.set_eq_take_append_cons_drop, if_pos hk', List.append_assoc]
  rfl

section
variable {P : Program} {ops : Array Oper} {rest : List Oper} {o : Oper} {n : Nat} {s s' : Nat → PV} {bx : Nat → Option Box} {ob : Nat → Option Obj} {K : PState → Prop} {T : TT} {rb : RB} {k : Nat} {L : List Nat}

theorem AOps.idxA (hT : T.Ok P) (hg : guardA ops s o = some true) {t : TypeId} {x i : Operand} (ho : o.op = .indexAddr t x i) {ti ei : TInfo} {e : TypeId} {len : Nat} (hti : T.get t = some ti) (hd : ti.desc = .array len e) (hei : T.get e = some ei) (hes : ei.size = 1)
    {tag b : Nat} (hx : evS s x = .box tag b 0) {kk : IntKind} {j : Int} (hi : evS s i = .val (.int kk j)) (hj : 0 ≤ j ∧ j < len) (hp : putD n s o.dst (.box tag b j.toNat) = some s') (h : AOps P ops rest ⟨n, s', bx, ob⟩ K) : AOps P ops (o :: rest) ⟨n, s, bx, ob⟩ K := by
  refine AOps.det hT hg (r := .box tag b j.toNat) ?_ hp h
  rw [ho]
  simp [det0, hti, hx, hi, hd, hei, hj, hes]
theorem DOps.idxA (ho : ops[k]? = some o) (hg : guardA ops s o = some true) {t : TypeId} {x i : Operand} (hop : o.op = .indexAddr t x i) {ti ei : TInfo} {e : TypeId} {len : Nat} (hti : T.get t = some ti) (hd : ti.desc = .array len e) (hei : T.get e = some ei) (hes : ei.size = 1)
    {tag b : Nat} (hx : evS s x = .box tag b 0) {kk : IntKind} {j : Int} (hi : evS s i = .val (.int kk j)) (hj : 0 ≤ j ∧ j < len) (hp : putD n s o.dst (.box tag b j.toNat) = some s') (h : DOps P T rb ops L ⟨n, s', bx, ob⟩ K) : DOps P T rb ops (k :: L) ⟨n, s, bx, ob⟩ K := by
  refine DOps.by ho hg (by rw [hop]; rfl) (r := .box tag b j.toNat) ?_ hp h
  rw [hop]
  simp [det1, det0, hti, hx, hi, hd, hei, hj, hes]

theorem AOps.loadA (hT : T.Ok P) (hg : guardA ops s o = some true) {t : TypeId} {x : Operand} (ho : o.op = .load t x) {ti : TInfo} (hti : T.get t = some ti) (hta : isAggD ti.desc = false) {tag b off : Nat} {cells : List PV}
    (hx : evS s x = .box tag b off) (hb : bx tag = some ⟨b, cells⟩) {r : PV} (hr : cells[off]? = some r) (hp : putD n s o.dst r = some s') (h : AOps P ops rest ⟨n, s', bx, ob⟩ K) : AOps P ops (o :: rest) ⟨n, s, bx, ob⟩ K :=
  AOps.loadBox hT hg ho hti hx hb (by simp [readCells, hta, hr, force_eq]) hp h
theorem DOps.loadA (ho : ops[k]? = some o) (hrb : rb.b o = true) (hg : guardA ops s o = some true) {t : TypeId} {x : Operand} (hop : o.op = .load t x) {ti : TInfo} (hti : T.get t = some ti) (hta : isAggD ti.desc = false) {tag b off : Nat} {cells : List PV}
    (hx : evS s x = .box tag b off) (hb : bx tag = some ⟨b, cells⟩) {r : PV} (hr : cells[off]? = some r) (hp : putD n s o.dst r = some s') (h : DOps P T rb ops L ⟨n, s', bx, ob⟩ K) : DOps P T rb ops (k :: L) ⟨n, s, bx, ob⟩ K :=
  DOps.loadBox ho hrb hg hop hti hx hb (by simp [readCells, hta, hr, force_eq]) hp h

theorem AOps.storeA (hT : T.Ok P) (hg : guardA ops s o = some true) {t : TypeId} {x y : Operand} (ho : o.op = .store t x y) (hd : o.dst = none) {ti : TInfo} (hti : T.get t = some ti) (hts : ti.size = 1) {tag b off : Nat} {cells cells' : List PV} (hx : evS s x = .box tag b off) (hb : bx tag = some ⟨b, cells⟩)
    {p : PV} (hc : cellsPV (evS s y) = some [p]) (h1 : PV.one p = true) (hk : off < cells.length) (hs : splice cells off [p] = cells') (h : AOps P ops rest ⟨n, s, upd bx tag (some ⟨b, cells'⟩), ob⟩ K) : AOps P ops (o :: rest) ⟨n, s, bx, ob⟩ K :=
  AOps.storeBox hT hg ho hd hti hx hb (cs := [p]) (by simp [hc, forceL_eq]) (by simp [h1]) (by rw [hts]; rfl) (by rw [hts]; exact Nat.ble_eq.mpr hk) (by rw [forceL_eq, hs]) h
theorem DOps.storeA (ho : ops[k]? = some o) (hg : guardA ops s o = some true) {t : TypeId} {x y : Operand} (hop : o.op = .store t x y) (hd : o.dst = none) {ti : TInfo} (hti : T.get t = some ti) (hts : ti.size = 1) {tag b off : Nat} {cells cells' : List PV} (hx : evS s x = .box tag b off) (hb : bx tag = some ⟨b, cells⟩)
    {p : PV} (hc : cellsPV (evS s y) = some [p]) (h1 : PV.one p = true) (hk : off < cells.length) (hs : splice cells off [p] = cells') (h : DOps P T rb ops L ⟨n, s, upd bx tag (some ⟨b, cells'⟩), ob⟩ K) : DOps P T rb ops (k :: L) ⟨n, s, bx, ob⟩ K :=
  DOps.storeBox ho hg hop hd hti hx hb (cs := [p]) (by simp [hc, forceL_eq]) (by simp [h1]) (by rw [hts]; rfl) (by rw [hts]; exact Nat.ble_eq.mpr hk) (by rw [forceL_eq, hs]) h
end
end Go.Ab
