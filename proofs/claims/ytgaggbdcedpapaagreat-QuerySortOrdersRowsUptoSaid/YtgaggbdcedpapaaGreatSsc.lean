/- querySortOrdersRowsUpto_holds, part 3: the layer, the plain functions and what they compute; conditions as in the statement. -/
import Derived.Test.YtgaggbdcedpapaaGreatSsb
set_option maxHeartbeats 4000000
namespace Go.Ab
open Go.IntKind (i64)
noncomputable section
def cutI {α : Type} (xs : List α) (m : Int) : Option (List α) := if 0 ≤ m ∧ m.toNat ≤ xs.length then some (xs.take m.toNat) else none
theorem cutI_some {α : Type} {xs ys : List α} {m : Int} (h : cutI xs m = some ys) : 0 ≤ m ∧ m.toNat ≤ xs.length ∧ ys = xs.take m.toNat := by
 unfold cutI at h
 split at h
 ·rename_i h0; exact ⟨h0.1,h0.2,(Option.some.inj h).symm⟩
 ·cases h
theorem gw {α : Type} {f : α → List PV} {xs ys : List α} {j : Nat} {x : α} {g : OwnRef} (ho : xs.map f ≠ [] → ∃ b,g.blk = some b) (hl : (xs.map f).length = (ys.map f).length) (h : ys[j]? = some x) : ∃ b,g.blk = some b := by
 refine ho fun e=>?_
 have := (zg.1 h).1
 have h0 : ys.length = 0 := by
  rw [e] at hl
  simpa using hl.symm
 omega
def delI {α : Type} (xs : List α) (i j : Int) : Option (List α) := if 0 ≤ i ∧ i ≤ j ∧ j.toNat ≤ xs.length then some (xs.take i.toNat ++ xs.drop j.toNat) else none
theorem delI_some {α : Type} {xs ys : List α} {i j : Int} (h : delI xs i j = some ys) : 0 ≤ i ∧ i ≤ j ∧ j.toNat ≤ xs.length ∧ ys = xs.take i.toNat ++ xs.drop j.toNat := by
 unfold delI at h
 split at h
 ·rename_i h0; exact ⟨h0.1,h0.2.1,h0.2.2,(Option.some.inj h).symm⟩
 ·cases h
def OwnRef.sub (g : OwnRef) (k lo hi mx : Nat) : Value := .slice (if mx = lo then g.blk.map (fun b=>⟨b,0,none⟩) else (g.blk.map fun b=>(⟨b,0,none⟩ : Addr)).map (·.add (lo * k))) (hi - lo) (mx - lo)
section
variable {P : Program} {T : TT}
def mM (ev : Operand → PV) (o : Option Operand) (dflt n : Nat) : Prop := match o with
 | none=>n = dflt
 | some x=>∃ kk z,ev x = .val (.int kk z) ∧ z = (n : Int)
theorem detS_subV (hT : T.Ok P) {o : Oper} {ev : Operand → PV} {H : Heap} {t : TypeId} {x : Operand} {lo hi mx : Option Operand} (ho : o.op = .slice t x lo hi mx) {ti ei : TInfo} {e : TypeId} (hti : T.get t = some ti) (hd : ti.desc = .slice e) (hei : T.get e = some ei)
  {tag : Nat} {g : OwnRef} {len : Nat} (hx : ev x = .own tag g len) {l h m : Nat} (hl : mM ev lo 0 l) (hh : mM ev hi len h) (hm : mM ev mx g.cap m) (hs : mx.isSome = true → hi.isSome = true) (h1 : l ≤ h) (h2 : h ≤ m) (h3 : m ≤ g.cap) :
  DetS P o ev H (.val (g.sub ei.size l h m)) := by
 intro C M a w _ he
 have hxr := he x (by rw [ho]; cases lo <;> cases hi <;> cases mx <;> simp [Op.operands])
 rw [hx] at hxr
 simp only [Rep] at hxr
 have hu := (hT.get hti).und
 rw [hd] at hu
 refine ⟨g.sub ei.size l h m,?_,by simp only [Rep]⟩
 have hbnd : ∀ (z y : Nat) (kk : IntKind) (c : BoundsCode),z ≤ y → (Instr.sliceBound (.int kk (z : Int)) y c).run P w = .ok z w := by
  intro z y kk c hzy
  have : (0 : Int) ≤ (z : Int) ∧ (z : Int) ≤ (y : Int) := ⟨by omega,by omega⟩
  simp [Instr.sliceBound,asIntOf,hzy]
 have get : ∀ y,y ∈ lo ∨ y ∈ hi ∨ y ∈ mx → Rep P M true (ev y) (a.eval y) := by
  intro y hy
  refine he y ?_
  rw [ho]
  clear he hl hh hm hs ho
  cases lo <;> cases hi <;> cases mx <;> simp [Op.operands] at hy ⊢ <;> (first | exact .inr (hy.imp Eq.symm Eq.symm) | exact .inr (hy.imp Eq.symm (Or.imp Eq.symm Eq.symm)) | exact .inr hy.symm | (rcases hy with h | h | h <;> simp [h]) | (rcases hy with h | h <;> simp [h]))
 have hsz := (hT.get hei).rsize w
 have key : ∀ (lv hv mv : Option Value),(match lv with | none=>l = 0 | some v=>∃ kk,v = .int kk (l : Int)) → (match hv with | none=>h = len | some v=>∃ kk,v = .int kk (h : Int)) →
   (match mv with | none=>m = g.cap | some v=>∃ kk,v = .int kk (m : Int)) → (mv.isSome = true → hv.isSome = true) → (Instr.slice t (g.val len) lv hv mv).run P w = .ok (g.sub ei.size l h m) w := by
  intro lv hv mv p1 p2 p3 p4
  have b : (Instr.sliceBounds true len g.cap lv hv mv).run P w = .ok (l,h,m) w := by
   cases mv with
   | none =>
    simp only at p3
    subst p3
    cases hv with
    | none =>
     simp only at p2
     subst p2
     cases lv with
     | none=>simp only at p1; subst p1; simp [Instr.sliceBounds]
     | some v=>obtain ⟨kk,rfl⟩ := p1; simp [Instr.sliceBounds,hbnd _ _ _ _ h1]
    | some v' =>
     obtain ⟨kk',rfl⟩ := p2
     cases lv with
     | none=>simp only at p1; subst p1; simp [Instr.sliceBounds,hbnd _ _ _ _ h2]
     | some v=>obtain ⟨kk,rfl⟩ := p1; simp [Instr.sliceBounds,hbnd _ _ _ _ h1,hbnd _ _ _ _ h2]
   | some v2 =>
    obtain ⟨k2,rfl⟩ := p3
    cases hv with
    | none=>exact absurd (p4 rfl) (by simp)
    | some v' =>
     obtain ⟨kk',rfl⟩ := p2
     cases lv with
     | none=>simp only at p1; subst p1; simp [Instr.sliceBounds,hbnd _ _ _ _ h2,hbnd _ _ _ _ h3]
     | some v=>obtain ⟨kk,rfl⟩ := p1; simp [Instr.sliceBounds,hbnd _ _ _ _ h1,hbnd _ _ _ _ h2,hbnd _ _ _ _ h3]
  simp only [Instr.slice,OwnRef.val,run_underlying hu,Sem.run_bind,Result.andThen_ok,b,hsz]
  rfl
 have gl : ∀ (oo : Option Operand) (df n : Nat),(∀ y,y ∈ oo → Rep P M true (ev y) (a.eval y)) → mM ev oo df n → (match oo.map a.eval with | none=>n = df | some v=>∃ kk,v = .int kk (n : Int)) := by
  intro oo df n hr ha
  cases oo with
  | none=>exact ha
  | some y =>
   obtain ⟨kk,z,e1,rfl⟩ := ha
   have := hr y rfl
   rw [e1] at this
   simp only [Rep] at this
   exact ⟨kk,this⟩
 have := key (lo.map a.eval) (hi.map a.eval) (mx.map a.eval) (gl lo 0 l (fun y hy=>get y (.inl hy)) hl) (gl hi len h (fun y hy=>get y (.inr (.inl hy))) hh) (gl mx g.cap m (fun y hy=>get y (.inr (.inr hy))) hm) (by simpa using hs)
 simp only [execOp,ho,Instr.sliceAt,hxr.2]
 rw [Sem.run_bind,Sem.run_bind,run_underlying hu]
 simp only [Result.andThen_ok]
 rw [this]
 rfl
theorem eff_appendIn (hT : T.Ok P) {o : Oper} {ev : Operand → PV} {H : Heap} {x y : Operand} {t : TypeId} (ho : o.op = .call { callee := .builtin .append,args := #[x,y],argTypes := #[t,t] }) {ti ei : TInfo} {e : TypeId} (hti : T.get t = some ti) (hd : ti.desc = .slice e) (hei : T.get e = some ei)
  {tag : Nat} {g : OwnRef} {rows : List (List PV)} (hob : H.ob tag = some ⟨g,e,rows,true⟩) {p q : Nat} (hpq : p ≤ q) (hq : q ≤ rows.length) (hx : ev x = .val (g.sub ei.size 0 p g.cap)) (hy : ev y = .val (g.sub ei.size q rows.length g.cap))
  {K : PV → Heap → Prop} (hk : K (.own tag g (rows.take p ++ rows.drop q).length) ⟨H.bx,upd H.ob tag (some ⟨g,e,rows.take p ++ rows.drop q,true⟩)⟩) : Eff P o ev H K := by
 intro C M a w next Q hi he hn
 have hxr := he x (by rw [ho]; simp [Op.operands,Call.operands])
 have hyr := he y (by rw [ho]; simp [Op.operands,Call.operands])
 rw [hx] at hxr
 rw [hy] at hyr
 simp only [Rep] at hxr hyr
 obtain ⟨i,g1,g2,g3,g4⟩ := hi.objs tag _ hob
 obtain ⟨i',g5,g6,_,_⟩ := (hT.get hei).info
 simp only at g1 g2 g3 g4
 rw [g1] at g5
 cases g5
 have hu := (hT.get hti).und
 rw [hd] at hu
 have hbase : (if g.cap = 0 then g.blk.map (fun b=>(⟨b,0,none⟩ : Addr)) else (g.blk.map fun b=>(⟨b,0,none⟩ : Addr)).map (·.add (0 * ei.size))) = g.blk.map fun b=>⟨b,0,none⟩ := by
  split
  ·rfl
  ·rw [Nat.zero_mul]
   cases g.blk <;> simp [Addr.add]
 have hlen : (rows.take p ++ rows.drop q).length = p + (rows.length - q) := by simp; omega
 have fin : ∀ w',(Builtin.append_ #[t,t] o.type #[g.sub ei.size 0 p g.cap,g.sub ei.size q rows.length g.cap]).run P w = .ok (g.val (p + (rows.length - q))) w' →
   InvH P C M ⟨H.bx,upd H.ob tag (some ⟨g,e,rows.take p ++ rows.drop q,true⟩)⟩ w' → Oper.wp P o a w next Q := by
  intro w' hr hi'
  have hrun' : (execOp a.eval o).run P w = .ok (.value (g.val (rows.take p ++ rows.drop q).length)) w' := by
   rw [hlen]
   simp only [execOp,ho,resolve,Sem.run_bind,Sem.run_pure,Result.andThen_ok,invoke,builtin,List.map_toArray,List.map_cons,List.map_nil,hxr,hyr]
   rw [hr]
   rfl
  unfold Oper.wp
  rw [hrun']
  exact hn _ _ _ M w' hk (Mem.le_refl M) hi' (by simp [Rep])
 have hcap : rows.length ≤ g.cap := by
  rcases g4 with ⟨_,b,_⟩ | ⟨_,_,_,_,_,_,h9,_⟩
  ·rw [b]; simp
  ·exact h9
 by_cases h0 : rows.length - q = 0
 ·refine fin w ?_ ?_
  ·have e1 : g.sub ei.size 0 p g.cap = .slice (g.blk.map fun b=>⟨b,0,none⟩) p g.cap := by unfold OwnRef.sub; rw [hbase]; simp
   have e2 : g.sub ei.size q rows.length g.cap = .slice (if g.cap = q then g.blk.map (fun b=>⟨b,0,none⟩) else (g.blk.map fun b=>(⟨b,0,none⟩ : Addr)).map (·.add (q * ei.size))) 0 (g.cap - q) := by unfold OwnRef.sub; rw [h0]
   rw [e1,e2,oH (w := w) t o.type e i hu g1 _ _ p g.cap _ (by omega),h0]
   rfl
  ·have e1 : rows.take p ++ rows.drop q = rows.take p := by rw [List.drop_of_length_le (by omega)]; simp
   rw [e1]
   exact hi.cutO hob p
 ·rcases g4 with ⟨_,hn',_⟩ | ⟨b,cur,hb,hm,hcur,hcs,hlc,hcm,hcr,h1c,hw1,hw2⟩
  ·rw [hn'] at h0; simp at h0
  ·have hqc : ¬ g.cap = q := by omega
   have hcs2 : cur.toList.length = g.cap * i.size := by rw [Array.length_toList]; exact hcs
   have e1 : g.sub ei.size 0 p g.cap = .slice (some ⟨b,0,none⟩) p g.cap := by unfold OwnRef.sub; rw [hbase,hb]; simp
   have e2 : g.sub ei.size q rows.length g.cap = .slice (some ⟨b,q * i.size,none⟩) (rows.length - q) (g.cap - q) := by unfold OwnRef.sub; rw [zy hqc,hb,g6]; simp [gL]
   have hflat : ∀ l : List (List PV),(∀ r ∈ l,r.length = i.size) → l.flatten.length = l.length * i.size := by
    intro l
    induction l with
    | nil=>simp
    | cons r l ih=>intro hl; simp [ih fun r hr=>hl r (by simp [hr]),hl r (by simp),Nat.add_mul]; omega
   have hold : (cur.toList.take (rows.length * i.size)).length = rows.length * i.size := by rw [hcr.length,hflat rows g3]
   have hcl : rows.length * i.size ≤ cur.size := by rw [hcs]; exact Nat.mul_le_mul_right _ hlc
   have hmulq : q * i.size ≤ rows.length * i.size := Nat.mul_le_mul_right _ hq
   have hmulp : p * i.size ≤ q * i.size := Nat.mul_le_mul_right _ hpq
   obtain ⟨news,hnews⟩ : ∃ news,news = (cur.toList.take (rows.length * i.size)).drop (q * i.size) := ⟨_,rfl⟩
   have hnl : news.length = (rows.length - q) * i.size := by rw [hnews,List.length_drop,hold,Nat.sub_mul]
   have hac : ∀ j u,news[j]? = some u → w.cell? ((⟨b,q * i.size,none⟩ : Addr).add j) = some u := by
    intro j u hj
    rw [gL,cell_of_row w b (q * i.size + j) cur e (0,0) hcur]
    rw [hnews,List.getElem?_drop,List.getElem?_take] at hj
    split at hj
    ·simpa using hj
    ·cases hj
   have hone : ∀ u ∈ news,u.oneCell' = true := fun u hu'=>h1c u (by rw [hnews] at hu'; exact List.mem_of_mem_drop hu')
   have hsum : (p + (rows.length - q)) * i.size = p * i.size + (rows.length - q) * i.size := Nat.add_mul _ _ _
   have hsub : (rows.length - q) * i.size = rows.length * i.size - q * i.size := Nat.sub_mul _ _ _
   have hfit : p * i.size + news.length ≤ cur.size := by rw [hnl]; omega
   have hr := run_append_room (P := P) w t o.type e i hu g1 b p g.cap cur hcur ⟨b,q * i.size,none⟩ (rows.length - q) (g.cap - q) news hnl hac hone (by omega) hfit
   have htk : (rows.take p).flatten = rows.flatten.take (p * i.size) := by
    have e3 : rows.flatten = (rows.take p).flatten ++ (rows.drop p).flatten := by rw [← List.flatten_append,List.take_append_drop]
    have e4 : (rows.take p).flatten.length = p * i.size := by rw [hflat _ fun r hr=>g3 r (List.mem_of_mem_take hr),List.length_take,Nat.min_eq_left (by omega)]
    rw [e3,← e4,List.take_left]
   have hdk : (rows.drop q).flatten = rows.flatten.drop (q * i.size) := by
    have e3 : rows.flatten = (rows.take q).flatten ++ (rows.drop q).flatten := by rw [← List.flatten_append,List.take_append_drop]
    have e4 : (rows.take q).flatten.length = q * i.size := by rw [hflat _ fun r hr=>g3 r (List.mem_of_mem_take hr),List.length_take,Nat.min_eq_left (by omega)]
    rw [e3,← e4,List.drop_left]
   have hcp : cur.toList.take (p * i.size) = (cur.toList.take (rows.length * i.size)).take (p * i.size) := by rw [List.take_take,Nat.min_eq_left (by omega)]
   have hlist : (cur.toList.take (p * i.size) ++ news ++ cur.toList.drop (p * i.size + news.length)).take ((p + (rows.length - q)) * i.size) = cur.toList.take (p * i.size) ++ news := by
    rw [show (p + (rows.length - q)) * i.size = (cur.toList.take (p * i.size) ++ news).length from by
     rw [List.length_append,List.length_take,hnl,hsum,Array.length_toList,Nat.min_eq_left (by omega)]]
    exact List.take_left
   refine fin (w.setRow b (cur.toList.take (p * i.size) ++ news ++ cur.toList.drop (p * i.size + news.length)).toArray) (by rw [e1,e2,hr]; simp [OwnRef.val,hb]) (hi.set_obj tag _ hob b hb (rows.take p ++ rows.drop q) true (cur.toList.take (p * i.size) ++ news ++ cur.toList.drop (p * i.size + news.length)).toArray i g1 ?_ ?_ ?_ ?_ hcm ?_ ?_ ?_ (fun _=>hw1 trivial) (fun o' _=>hw1 trivial o'))
   ·rw [hlen]
    exact Nat.le_trans (Nat.mul_le_mul_right _ (by omega)) g2
   ·intro r hr'
    rcases List.mem_append.1 hr' with h | h
    ·exact g3 r (List.mem_of_mem_take h)
    ·exact g3 r (List.mem_of_mem_drop h)
   ·have e9 : (cur.toList.take (p * i.size) ++ news ++ cur.toList.drop (p * i.size + news.length)).length = g.cap * i.size := by
     rw [List.length_append,List.length_append,List.length_take,List.length_drop,hcs2]
     have : p * i.size + news.length ≤ g.cap * i.size := by rw [← hcs]; exact hfit
     omega
    simpa using e9
   ·rw [hlen]; exact (by omega : p + (rows.length - q) ≤ g.cap)
   ·rw [hlen]
    simp only
    rw [hlist,List.flatten_append,htk,hdk,hcp,hnews]
    exact (hcr.take _).append (hcr.drop _)
   ·rw [hlen]
    simp only
    rw [hlist]
    intro v hv
    rcases List.mem_append.1 hv with h | h
    ·rw [hcp] at h; exact h1c v (List.mem_of_mem_take h)
    ·exact hone v h
   ·intro o' v' hm'
    rw [hw1 trivial o'] at hm'
    cases hm'
theorem eff_clearB (hT : T.Ok P) {o : Oper} {ev : Operand → PV} {H : Heap} {x : Operand} {t : TypeId} (ho : o.op = .call { callee := .builtin .clear,args := #[x],argTypes := #[t] }) {ti ei : TInfo} {e : TypeId} (hti : T.get t = some ti) (hd : ti.desc = .slice e) (hei : T.get e = some ei)
  (hz : Nat.beq ei.zero.cells.size ei.size = true) (h1 : (dB ei).all PV.one = true) {tag : Nat} {g : OwnRef} {rows : List (List PV)} (hob : H.ob tag = some ⟨g,e,rows,true⟩) {p q m : Nat} (hp : rows.length ≤ p) (hpq : p ≤ q) (hq : q ≤ m) (hm : m ≤ g.cap)
  (hx : ev x = .val (g.sub ei.size p q m)) {K : PV → Heap → Prop} (hk : K (.tup []) H) : Eff P o ev H K := by
 intro C M a w next Q hi he hn
 have hxr := he x (by rw [ho]; simp [Op.operands,Call.operands])
 rw [hx] at hxr
 simp only [Rep] at hxr
 obtain ⟨i,g1,g2,g3,g4⟩ := hi.objs tag _ hob
 obtain ⟨i',g5,g6,_,hzero⟩ := (hT.get hei).info
 simp only at g1 g2 g3 g4
 rw [g1] at g5
 cases g5
 have hu := (hT.get hti).und
 rw [hd] at hu
 have hself : upd H.ob tag (some ⟨g,e,rows,true⟩) = H.ob := pQ _ _ _ hob
 have fin : ∀ w',(Builtin.clear_ #[t] o.type #[g.sub ei.size p q m]).run P w = .ok (.tuple #[]) w' → InvH P C M ⟨H.bx,upd H.ob tag (some ⟨g,e,rows,true⟩)⟩ w' → Oper.wp P o a w next Q := by
  intro w' hr hi'
  have hrun' : (execOp a.eval o).run P w = .ok (.value (.tuple #[])) w' := by
   simp only [execOp,ho,resolve,Sem.run_bind,Sem.run_pure,Result.andThen_ok,invoke,builtin,List.map_toArray,List.map_cons,List.map_nil,hxr]
   rw [hr]
   rfl
  unfold Oper.wp
  rw [hrun']
  rw [hself] at hi'
  exact hn _ _ _ M w' hk (Mem.le_refl M) hi' (by simp [Rep,aL])
 by_cases h0 : q - p = 0
 ·refine fin w ?_ (by rw [hself]; exact hi)
  unfold OwnRef.sub
  rw [h0]
  split <;> (cases g.blk <;> simp [Builtin.clear_,run_underlying hu])
 ·rcases g4 with ⟨_,hn',hc0⟩ | ⟨b,cur,hb,hmn,hcur,hcs,hlc,hcm,hcr,h1c,hw1,hw2⟩
  ·omega
  ·have hz1 := Nat.eq_of_beq_eq_true hz
   have hcs' : cur.size = g.cap * i.size := hcs
   have hcs2 : cur.toList.length = g.cap * i.size := by rw [Array.length_toList]; exact hcs
   have e1 : g.sub ei.size p q m = .slice (some ⟨b,p * i.size,none⟩) (q - p) (m - p) := by unfold OwnRef.sub; rw [zy (by omega),hb,g6]; simp [gL]
   have hzl : (dB ei).length = i.size := by simp [dB,hz1,g6]
   have hzc : (Builtin.zeroCells ei.zero.cells (q - p)).toList = (List.replicate (q - p) ei.zero.cells.toList).flatten := by
    unfold Builtin.zeroCells
    exact om ei.zero.cells (q - p)
   have hzs : (Builtin.zeroCells ei.zero.cells (q - p)).toList.length = (q - p) * i.size := by rw [hzc]; simp [hz1,g6]
   have hrep : aL P M false (List.replicate (q - p) (dB ei)).flatten (List.replicate (q - p) ei.zero.cells.toList).flatten := kZ (kM _) (q - p)
   have hone : ∀ v ∈ (Builtin.zeroCells ei.zero.cells (q - p)).toList,v.oneCell' = true := by
    rw [hzc]
    refine aL.oneCell ?_ hrep
    rw [List.all_eq_true]
    intro x hx
    rw [List.mem_flatten] at hx
    obtain ⟨l,hl,hx⟩ := hx
    rw [List.eq_of_mem_replicate hl] at hx
    exact List.all_eq_true.1 h1 x hx
   have hmq : q * i.size ≤ g.cap * i.size := Nat.mul_le_mul_right _ (by omega)
   have hmp : rows.length * i.size ≤ p * i.size := Nat.mul_le_mul_right _ hp
   have hsub : (q - p) * i.size = q * i.size - p * i.size := Nat.sub_mul _ _ _
   have hpq' : p * i.size ≤ q * i.size := Nat.mul_le_mul_right _ hpq
   have hst := run_storeCells_at P b (p * i.size) e (Builtin.zeroCells ei.zero.cells (q - p)).toList 0 cur w hcur (by rw [hzs]; omega) hone
   simp only [Nat.add_zero] at hst
   obtain ⟨k,hk1⟩ : ∃ k,q - p = k + 1 := ⟨q - p - 1,by omega⟩
   have htake : (cur.toList.take (p * i.size) ++ (Builtin.zeroCells ei.zero.cells (q - p)).toList ++ cur.toList.drop (p * i.size + (Builtin.zeroCells ei.zero.cells (q - p)).toList.length)).take (rows.length * i.size) = cur.toList.take (rows.length * i.size) := by
    rw [List.append_assoc,List.take_append_of_le_length (by rw [List.length_take,hcs2]; omega),List.take_take,Nat.min_eq_left hmp]
   refine fin _ ?_ (hi.set_obj tag _ hob b hb rows true (cur.toList.take (p * i.size) ++ (Builtin.zeroCells ei.zero.cells (q - p)).toList ++ cur.toList.drop (p * i.size + (Builtin.zeroCells ei.zero.cells (q - p)).toList.length)).toArray i g1 g2 g3 ?_ hlc hcm ?_ ?_ ?_ (fun _=>hw1 trivial) (fun o' _=>hw1 trivial o'))
   ·rw [e1]
    have hzv : (zeroValue e).run P w = .ok ei.zero w := by simp [zeroValue,typeInfo,g1,hzero]
    rw [hk1] at hst ⊢
    simp [Builtin.clear_,run_underlying hu,hzv]
    rw [hst]
    simp
   ·have e9 : (cur.toList.take (p * i.size) ++ (Builtin.zeroCells ei.zero.cells (q - p)).toList ++ cur.toList.drop (p * i.size + (Builtin.zeroCells ei.zero.cells (q - p)).toList.length)).length = g.cap * i.size := by
     rw [List.length_append,List.length_append,List.length_take,List.length_drop,hcs2,hzs]
     omega
    simpa using e9
   ·simp only
    rw [htake]
    exact hcr
   ·simp only
    rw [htake]
    exact h1c
   ·intro o' v' hm'
    rw [hw1 trivial o'] at hm'
    cases hm'
end
section
variable {P : Program} {ops : Array Oper} {rest : List Oper} {o : Oper} {n : Nat} {s s' : Nat → PV} {bx : Nat → Option Box} {ob : Nat → Option Obj} {K : PState → Prop} {T : TT} {rb : RB} {k : Nat} {L : List Nat}
theorem rY (hT : T.Ok P) (hg : bd ops s o = some true) {t : TypeId} {x : Operand} {lo hi mx : Option Operand} (ho : o.op = .slice t x lo hi mx) {ti ei : TInfo} {e : TypeId} (hti : T.get t = some ti) (hd : ti.desc = .slice e) (hei : T.get e = some ei)
  {tag : Nat} {g : OwnRef} {len : Nat} (hx : evS s x = .own tag g len) {l h m : Nat} (hl : mM (evS s) lo 0 l) (hh : mM (evS s) hi len h) (hm : mM (evS s) mx g.cap m) (hs : mx.isSome = true → hi.isSome = true) (h1 : l ≤ h) (h2 : h ≤ m) (h3 : m ≤ g.cap)
  (hp : putD n s o.dst (.val (g.sub ei.size l h m)) = some s') (hr : Ao P ops rest ⟨n,s',bx,ob⟩ K) : Ao P ops (o :: rest) ⟨n,s,bx,ob⟩ K :=
 nQ hg (detS_subV hT ho hti hd hei hx hl hh hm hs h1 h2 h3) hp hr
theorem sl (hT : T.Ok P) (ho : ops[k]? = some o) (hg : bd ops s o = some true) {t : TypeId} {x : Operand} {lo hi mx : Option Operand} (hop : o.op = .slice t x lo hi mx) {ti ei : TInfo} {e : TypeId} (hti : T.get t = some ti) (hd : ti.desc = .slice e) (hei : T.get e = some ei)
  {tag : Nat} {g : OwnRef} {len : Nat} (hx : evS s x = .own tag g len) {l h m : Nat} (hl : mM (evS s) lo 0 l) (hh : mM (evS s) hi len h) (hm : mM (evS s) mx g.cap m) (hs : mx.isSome = true → hi.isSome = true) (h1 : l ≤ h) (h2 : h ≤ m) (h3 : m ≤ g.cap)
  (hp : putD n s o.dst (.val (g.sub ei.size l h m)) = some s') (hr : Do P T rb ops L ⟨n,s',bx,ob⟩ K) : Do P T rb ops (k :: L) ⟨n,s,bx,ob⟩ K :=
 mB ho hg (by rw [hop]; rfl) (fun _=>detS_subV hT hop hti hd hei hx hl hh hm hs h1 h2 h3) hp hr
theorem se (hT : T.Ok P) (hg : bd ops s o = some true) {x : Operand} {t : TypeId} (ho : o.op = .call { callee := .builtin .clear,args := #[x],argTypes := #[t] }) (hdst : o.dst = none) {ti ei : TInfo} {e : TypeId} (hti : T.get t = some ti) (hd : ti.desc = .slice e) (hei : T.get e = some ei)
  (hz : Nat.beq ei.zero.cells.size ei.size = true) (h1 : (dB ei).all PV.one = true) {tag : Nat} {g : OwnRef} {rows : List (List PV)} (hob : ob tag = some ⟨g,e,rows,true⟩) {p q m : Nat} (hp : rows.length ≤ p) (hpq : p ≤ q) (hq : q ≤ m) (hm : m ≤ g.cap)
  (hx : evS s x = .val (g.sub ei.size p q m)) (h : Ao P ops rest ⟨n,s,bx,ob⟩ K) : Ao P ops (o :: rest) ⟨n,s,bx,ob⟩ K :=
 eV hg (eff_clearB hT ho hti hd hei hz h1 hob hp hpq hq hm hx ⟨s,by simp [hdst,putD],h⟩)
theorem ox (hg : bd ops s o = some true) {t t' : TypeId} {x y : Operand} (ho : o.op = .binOp .shr t x y t') {kk k2 : IntKind} {a b : Int} (hx : evS s x = .val (.int kk a)) (hy : evS s y = .val (.int k2 b)) (hb : 0 ≤ b) {m : Nat} (hm : min b.toNat kk.bits = m)
  (hp : putD n s o.dst (.val (.int kk (a.fdiv (2 ^ m)))) = some s') (h : Ao P ops rest ⟨n,s',bx,ob⟩ K) : Ao P ops (o :: rest) ⟨n,s,bx,ob⟩ K := by
 refine eV hg (fun C M a' w next Q hi he hn=>?_)
 have hxr := he x (by rw [ho]; simp [Op.operands])
 have hyr := he y (by rw [ho]; simp [Op.operands])
 rw [show (⟨n,s,bx,ob⟩ : PState).s = s from rfl,hx] at hxr
 rw [show (⟨n,s,bx,ob⟩ : PState).s = s from rfl,hy] at hyr
 simp only [Rep] at hxr hyr
 subst hm
 have hrun : (execOp a'.eval o).run P w = .ok (.value (.int kk (a.fdiv (2 ^ (min b.toNat kk.bits))))) w := by
  have h2 : (eqGuard .shr t x y (.int kk a) (.int k2 b)).run P w = .ok () w := by simp [eqGuard]
  have hb' : ¬ b < 0 := by omega
  simp only [execOp,ho,hxr,hyr,Sem.run_bind,h2,Result.andThen_ok,binOp,Op.shift,zy hb']
  rfl
 unfold Oper.wp
 rw [hrun]
 exact hn _ _ ⟨bx,ob⟩ M w ⟨s',hp,h⟩ (Mem.le_refl M) hi (by simp only [Rep])
theorem mI {tag : Nat} {g : OwnRef} {e : TypeId} {rows : List (List PV)} {wr : Bool} (hob : ob tag = some ⟨g,e,rows,wr⟩) (h : (rows ≠ [] → ∃ b,g.blk = some b) → Ao P ops rest ⟨n,s,bx,ob⟩ K) : Ao P ops rest ⟨n,s,bx,ob⟩ K := fun C M a w Q hi hq=>by
 refine h (fun hne=>?_) C M a w Q hi hq
 obtain ⟨_,_,_,_,h4⟩ := hi.2.objs tag _ hob
 rcases h4 with ⟨_,h5,_⟩ | ⟨b,_,h5,_⟩
 ·exact absurd h5 hne
 ·exact ⟨b,h5⟩
theorem V.ownC {fn : Func} {R : PV → Heap → Prop} {ks : List KI} {tag : Nat} {g : OwnRef} {e : TypeId} {rows : List (List PV)} {wr : Bool} (hob : ob tag = some ⟨g,e,rows,wr⟩) (h : rows.length ≤ g.cap → V P fn R ks ⟨n,s,bx,ob⟩) : V P fn R ks ⟨n,s,bx,ob⟩ := fun C M a w hi=>by
 refine h ?_ C M a w hi
 obtain ⟨_,_,_,_,h4⟩ := hi.2.objs tag _ hob
 rcases h4 with ⟨_,h5,h6⟩ | ⟨b,_,h5,_,_,_,h6,h7,_⟩
 ·simp only at h5; rw [h5]; simp
 ·exact h6
theorem Ao.ownC {tag : Nat} {g : OwnRef} {e : TypeId} {rows : List (List PV)} {wr : Bool} (hob : ob tag = some ⟨g,e,rows,wr⟩) (h : rows.length ≤ g.cap → Ao P ops rest ⟨n,s,bx,ob⟩ K) : Ao P ops rest ⟨n,s,bx,ob⟩ K := fun C M a w Q hi hq=>by
 refine h ?_ C M a w Q hi hq
 obtain ⟨_,_,_,_,h4⟩ := hi.2.objs tag _ hob
 rcases h4 with ⟨_,h5,h6⟩ | ⟨b,_,h5,_,_,_,h6,h7,_⟩
 ·simp only at h5; rw [h5]; simp
 ·exact h6
theorem Gh.cutO {st : PState} {tag : Nat} {g : OwnRef} {e : TypeId} {rows rows' : List (List PV)} (hob : st.ob tag = some ⟨g,e,rows,true⟩) (m : Nat) (hr : rows.take m = rows') : Gh P st ⟨st.n,st.s,st.bx,upd st.ob tag (some ⟨g,e,rows',true⟩)⟩ := by
 subst hr
 intro C M a w hi
 exact ⟨M,hi.1,hi.2.cutO hob m⟩
theorem sk (hT : T.Ok P) (ho : ops[k]? = some o) (hg : bd ops s o = some true) {x y : Operand} {t : TypeId} (hop : o.op = .call { callee := .builtin .append,args := #[x,y],argTypes := #[t,t] }) {ti ei : TInfo} {e : TypeId} (hti : T.get t = some ti) (hd : ti.desc = .slice e) (hei : T.get e = some ei)
  {tag : Nat} {g : OwnRef} {rows rows' : List (List PV)} (hob : ob tag = some ⟨g,e,rows,true⟩) {p q : Nat} (hpq : p ≤ q) (hq : q ≤ rows.length) (hx : evS s x = .val (g.sub ei.size 0 p g.cap)) (hy : evS s y = .val (g.sub ei.size q rows.length g.cap)) (hr : rows.take p ++ rows.drop q = rows')
  (hp : putD n s o.dst (.own tag g rows'.length) = some s') (h : Do P T rb ops L ⟨n,s',bx,upd ob tag (some ⟨g,e,rows',true⟩)⟩ K) : Do P T rb ops (k :: L) ⟨n,s,bx,ob⟩ K := by
 subst hr
 refine ⟨o,ho,true,hg,?_⟩
 simp only [if_true,hop,eE]
 exact fun bx'=>eff_appendIn hT hop hti hd hei hob hpq hq hx hy ⟨rfl,s',hp,h⟩
theorem Ao.cutP (hT : T.Ok P) (hg : bd ops s o = some true) {t : TypeId} {x y : Operand} (ho : o.op = .slice t x none (some y) none) {ti : TInfo} {e : TypeId} (hti : T.get t = some ti) (hd : ti.desc = .slice e) {ei : TInfo} (hei : T.get e = some ei)
  {tag : Nat} {g : OwnRef} {len : Nat} {rows rows' : List (List PV)} (hx : evS s x = .own tag g len) (hob : ob tag = some ⟨g,e,rows,true⟩) {kk : IntKind} {m : Int} (hy : evS s y = .val (.int kk m)) (hm : 0 ≤ m ∧ m.toNat ≤ rows.length) (hr : rows.take m.toNat = rows') {d : Nat} (hdst : o.dst = some d) (hlt : Nat.blt d n = true)
  (h : Ao P ops rest ⟨n,upd s d (.own tag g rows'.length),bx,upd ob tag (some ⟨g,e,rows',true⟩)⟩ K) : Ao P ops (o :: rest) ⟨n,s,bx,ob⟩ K := by
 subst hr
 refine eV hg (fun C M a w next Q hi he hn=>?_)
 have hxr := he x (by rw [ho]; simp [Op.operands])
 have hyr := he y (by rw [ho]; simp [Op.operands])
 rw [show (⟨n,s,bx,ob⟩ : PState).s = s from rfl,hx] at hxr
 rw [show (⟨n,s,bx,ob⟩ : PState).s = s from rfl,hy] at hyr
 simp only [Rep] at hxr hyr
 have hu := (hT.get hti).und
 rw [hd] at hu
 have hcap : rows.length ≤ g.cap := by
  obtain ⟨i,_,_,_,h4⟩ := hi.objs tag _ hob
  rcases h4 with ⟨_,b,_⟩ | ⟨_,_,_,_,_,_,h9,_⟩
  ·simp only at b; rw [b]; simp
  ·exact h9
 have hmc : m ≤ (g.cap : Int) := by omega
 have hl2 : (rows.take m.toNat).length = m.toNat := by simp; omega
 have hrun : (execOp a.eval o).run P w = .ok (.value (g.val (rows.take m.toNat).length)) w := by
  rw [hl2]
  simp only [execOp,ho,Sem.run_bind,Sem.run_pure,Option.map_some,Option.map_none,hxr.2,hyr,OwnRef.val]
  cases hb : g.blk with
  | none=>simp [Instr.sliceAt,Instr.slice,run_underlying hu,Instr.sliceBounds,Instr.sliceBound,asIntOf,(hT.get hei).rsize w,hm.1,hmc]
  | some b =>
   have e0 : (⟨b,0,none⟩ : Addr).add 0 = ⟨b,0,none⟩ := by rw [gL]
   simp [Instr.sliceAt,Instr.slice,run_underlying hu,Instr.sliceBounds,Instr.sliceBound,asIntOf,(hT.get hei).rsize w,hm.1,hmc,e0]
 unfold Oper.wp
 rw [hrun]
 exact hn _ (.own tag g (rows.take m.toNat).length) ⟨bx,upd ob tag (some ⟨g,e,rows.take m.toNat,true⟩)⟩ M w ⟨_,by simp [hdst,putD,hlt],h⟩ (Mem.le_refl M) (hi.cutO hob m.toNat) (by simp [Rep])
end
def mp (T : TT) : List (Nat × Nat) → List PV → List PV → Option Bool
 | [],_,_=>some true
 | (t,off) :: r,xs,ys=>match T.get t with
  | some ti=>match (bif ti.eqf.isEmpty then (match xs[off]?,ys[off]? with | some p,some q=>qd ti.desc p q | _,_=>none) else kQ T ti.eqf ((xs.drop off).take ti.size) ((ys.drop off).take ti.size)),mp T r xs ys with
   | some b,some c=>some (b && c)
   | _,_=>none
  | none=>none
section
variable {P : Program} {T : TT}
theorem pG (hT : T.Ok P) (w : World) {M : Mem} {d : Nat} {xs ys : List PV} {cs ds : Array Value} (hx : aL P M true xs cs.toList) (hy : aL P M true ys ds.toList) :
  ∀ (fs : List Field) (eqf : List (Nat × Nat)) (b : Bool),ft fs eqf → mp T eqf xs ys = some b → (Op.eqFields (d + 2) cs ds fs).run P w = .ok b w
 | [],[],b,_,h=>by simp only [mp,zo] at h; subst h; simp [Op.eqFields]
 | f :: fs,(t,o) :: r,b,hm,h=>by
  simp only [ft] at hm
  obtain ⟨hn,rfl,rfl,hm⟩ := hm
  simp only [mp] at h
  split at h
  ·rename_i ti hti
   split at h
   ·rename_i b1 b2 h1 h2
    simp only [zo] at h
    subst h
    have ih := pG hT w (d := d) hx hy fs r b2 hm h2
    cases he : ti.eqf.isEmpty with
    | true =>
     simp only [he,zc] at h1
     split at h1
     ·rename_i p q hp hq
      obtain ⟨x,hx1,hx2⟩ := hx.get _ _ hp
      obtain ⟨y,hy1,hy2⟩ := hy.get _ _ hq
      obtain ⟨hag,heq⟩ := pt w (d := d + 1) (hT.get hti) hx2 hy2 h1
      have hpx : ∀ (c : Array Value) (z : Value),c.toList[f.offset]? = some z → (part f.type c f.offset).run P w = .ok z w := by
       intro c z hz
       rw [Array.getElem?_toList] at hz
       simp [part,(hT.get hti).ragg w,hag,hz]
      simp only [Op.eqFields, zp (show f.name ≠ "_" from hn), Sem.run_bind, hpx _ _ hx1, hpx _ _ hy1, Result.andThen_ok, heq]
      cases b1 <;> simp [ih]
     ·cases h1
    | false =>
     simp only [he,zd] at h1
     obtain ⟨k1,k2,k3,k4⟩ := (hT.get hti).eqs (by intro h0; simp [h0] at he)
     have hag : nd ti.desc = true := by
      have hu := (hT.get hti).und
      rw [k4] at hu
      rw [← Option.some.inj hu]
      rfl
     have hpx : ∀ (c : Array Value),(part f.type c f.offset).run P w = .ok (.agg (c.extract f.offset (f.offset + ti.size))) w := by
      intro c
      simp [part,(hT.get hti).ragg w,hag,(hT.get hti).rsize w]
     have hsub : ∀ (zs : List PV) (c : Array Value),aL P M true zs c.toList → aL P M true ((zs.drop f.offset).take ti.size) (c.extract f.offset (f.offset + ti.size)).toList := by
      intro zs c hz
      have e : (c.extract f.offset (f.offset + ti.size)).toList = (c.toList.drop f.offset).take ti.size := by
       rw [Array.toList_extract]
       simp [List.extract_eq_take_drop]
      rw [e]
      exact (hz.drop _).take _
     have heq : (Op.equalIn (d + 2) f.type (.agg (cs.extract f.offset (f.offset + ti.size))) (.agg (ds.extract f.offset (f.offset + ti.size)))).run P w = .ok b1 w := by
      rw [run_equalIn_agg w (d + 1) f.type _ _ k4 k1]
      exact lk hT w (d := d) (hsub _ _ hx) (hsub _ _ hy) _ _ b1 k3 h1
     simp only [Op.eqFields, zp (show f.name ≠ "_" from hn), Sem.run_bind, hpx, Result.andThen_ok, heq]
     cases b1 <;> simp [ih]
   ·cases h
  ·cases h
 | [],_ :: _,b,hm,_=>by simp [ft] at hm
 | _ :: _,[],b,hm,_=>by simp [ft] at hm
theorem detS_eqNest (hT : T.Ok P) {o : Oper} {ev : Operand → PV} {H : Heap} {t t' : TypeId} {x y : Operand} (ho : o.op = .binOp .eql t x y t') {xs ys : List PV} (hx : ev x = .agg xs) (hy : ev y = .agg ys) (h1 : P.stoodInHeld t = false) (h2 : P.eqGuardType P.depth t = false)
  {eqf : List (Nat × Nat)} (h3 : ft (P.fieldsOf t).toList eqf) (h4 : P.underlying t = some (.struct (P.fieldsOf t))) {b : Bool} (hb : mp T eqf xs ys = some b) : DetS P o ev H (.val (.bool b)) := by
 intro C M a w _ he
 have hxr := he x (by rw [ho]; simp [Op.operands])
 have hyr := he y (by rw [ho]; simp [Op.operands])
 rw [hx] at hxr
 rw [hy] at hyr
 simp only [Rep] at hxr hyr
 obtain ⟨cs,ex,hc⟩ := hxr
 obtain ⟨ds,ey,hd⟩ := hyr
 refine ⟨.bool b,?_,by simp only [Rep]⟩
 have key : (binOp .eql t (.agg cs) (.agg ds)).run P w = .ok (.bool b) w := by
  rw [run_eql_struct w t cs ds,show (10000 : Nat) = 9997 + 2 + 1 from rfl,run_equalIn_agg w (9997 + 2) t cs ds h4 h1,pG hT w (d := 9997) hc hd _ _ b h3 hb]
  rfl
 have hg := run_eqGuard_agg (P := P) w .eql t x y cs ds h2
 simp only [execOp,ho,ex,ey]
 simp only [Sem.run_bind,hg,Result.andThen_ok,key]
 rfl
end
section
variable {P : Program} {ops : Array Oper} {rest : List Oper} {o : Oper} {n : Nat} {s s' : Nat → PV} {bx : Nat → Option Box} {ob : Nat → Option Obj} {K : PState → Prop} {T : TT} {rb : RB} {k : Nat} {L : List Nat}
theorem sv (hT : T.Ok P) (ho : ops[k]? = some o) (hg : bd ops s o = some true) {t t' : TypeId} {x y : Operand} (hop : o.op = .binOp .eql t x y t') {xs ys : List PV} (hx : evS s x = .agg xs) (hy : evS s y = .agg ys) (h1 : P.stoodInHeld t = false) (h2 : P.eqGuardType P.depth t = false)
  {eqf : List (Nat × Nat)} (h3 : ft (P.fieldsOf t).toList eqf) (h4 : P.underlying t = some (.struct (P.fieldsOf t))) {b : Bool} (hb : mp T eqf xs ys = some b) (hp : putD n s o.dst (.val (.bool b)) = some s') (h : Do P T rb ops L ⟨n,s',bx,ob⟩ K) : Do P T rb ops (k :: L) ⟨n,s,bx,ob⟩ K :=
 mB ho hg (by rw [hop]; rfl) (fun _=>detS_eqNest hT hop hx hy h1 h2 h3 h4 hb) hp h
end
section
variable {P : Program} {C : Ctx} {M : Mem} {H : Heap} {w : World}
theorem InvH.alloc_part (h : InvH P C M H w) (pre cs : Array Value) (e : TypeId) (fz : Nat × Nat) (hp : ∀ (o : Nat) (v : Value),pre[o]? = some v → cs[o]? = some v) : InvH P C (M.add w.heap.size pre) H (w.alloc (.cells cs e fz)) := by
 have hle := h.add_le pre
 refine ⟨?_,Mem.le_trans h.ext hle,?_,h.os,h.tape,h.output,?_,?_,?_,?_,h.dbox,h.dobj,h.dmix⟩
 ·intro b o v hm
  by_cases hb : b = w.heap.size
  ·subst hb
   rw [cell_of_row (w.alloc (.cells cs e fz)) w.heap.size o cs e fz (heap_alloc_new w _)]
   exact hp o v (by simpa [Mem.add] using hm)
  ·simp only [Mem.add,hb,if_false] at hm
   rw [mq w _ (h.mem_lt hm)]
   exact h.mem b o v hm
 ·intro b o v hm
  by_cases hb : b = w.heap.size
  ·exact .inr (.inl (hb ▸ h.size))
  ·simp only [Mem.add,hb,if_false] at hm
   exact h.new b o v hm
 ·rw [pJ]; exact Nat.le_succ_of_le h.size
 ·intro b hb hn
  rw [heap_alloc_old w _ (Nat.lt_of_lt_of_le hb h.size)]
  exact h.frame b hb hn
 ·intro t x hx
  have hlt := h.box_lt hx
  exact (h.boxes t x hx).keep hle (fun o ho=>by simp [Mem.add,Nat.ne_of_lt hlt,ho]) (heap_alloc_old w _ hlt)
 ·intro t x hx
  exact (h.objs t x hx).keep hle (fun b o hb ho=>by simp [Mem.add,Nat.ne_of_lt (h.obj_lt hx hb),ho]) (fun b hb=>heap_alloc_old w _ (h.obj_lt hx hb))
theorem freeze_new (w : World) (cs : Array Value) (e : TypeId) (n : Nat) : (w.alloc (.cells cs e)).freeze ⟨w.heap.size,n,none⟩ 1 = w.alloc (.cells cs e (n,n + 1)) := by
 unfold World.freeze World.alloc
 simp only [Nat.one_ne_zero,if_false]
 congr 1
 apply Array.ext
 ·simp
 ·intro i h1 h2
  rw [Array.getElem_modify]
  split
  ·rename_i hi
   subst hi
   simp
  ·rename_i hi
   have : i < w.heap.size := by simp at h2; omega
   simp [Array.getElem_push,this]
end
section
variable {P : Program} {ops : Array Oper} {rest : List Oper} {o : Oper} {n : Nat} {s s' : Nat → PV} {bx : Nat → Option Box} {ob : Nat → Option Obj} {K : PState → Prop} {T : TT} {rb : RB} {k : Nat} {L : List Nat}
theorem byteRows_rep (M : Mem) (xs : List UInt8) : aL P M false (kK xs).flatten (xs.map fun c=>Value.int .u8 c.toNat) := by
 induction xs with
 | nil=>simp [kK,aL]
 | cons c xs ih=>simp only [kK,List.map_cons,List.flatten_cons,List.cons_append,List.nil_append,aL,Rep]; exact ⟨_,_,rfl,rfl,ih⟩
theorem Ao.s2b (hT : T.Ok P) (hg : bd ops s o = some true) {src dst e : TypeId} {x : Operand} (ho : o.op = .convert src dst x) {si di ei : TInfo} (hsi : T.get src = some si) (hsd : si.desc = .string) (hdi : T.get dst = some di) (hdd : di.desc = .slice e) (hei : T.get e = some ei) (hed : ei.desc = .int .u8) (hes : ei.size = 1) (heb : ei.bytes = 1)
  {xs : List UInt8} (hx : evS s x = .str xs) (hl : xs.length ≤ 2 ^ 47) (hp : putD n s o.dst (.list e (kK xs)) = some s') (h : Ao P ops rest ⟨n,s',bx,ob⟩ K) : Ao P ops (o :: rest) ⟨n,s,bx,ob⟩ K := by
 refine eV hg (fun C M a w next Q hi he hn=>?_)
 have hxr := he x (by rw [ho]; simp [Op.operands])
 rw [show (⟨n,s,bx,ob⟩ : PState).s = s from rfl,hx] at hxr
 simp only [Rep] at hxr
 have hs := (hT.get hsi).und
 have hd := (hT.get hdi).und
 have hee := (hT.get hei).und
 rw [hsd] at hs
 rw [hdd] at hd
 rw [hed] at hee
 obtain ⟨i,hinf,hsz,hby,_⟩ := (hT.get hei).info
 have hge := grownCap_ge w xs.length 0 e
 have hml : xs.length ≤ maxLen := by unfold maxLen; omega
 have hgm : grownCap w xs.length 0 e ≤ maxLen := grownCap_le_maxLen w xs.length 0 e hml
 obtain ⟨pre,hpre⟩ : ∃ pre : Array Value,pre = xs.toArray.map fun b=>Value.int .u8 b.toNat := ⟨_,rfl⟩
 obtain ⟨cs,hcs⟩ : ∃ cs : Array Value,cs = pre ++ Array.replicate (grownCap w xs.length 0 e - xs.length) (.int .u8 0) := ⟨_,rfl⟩
 have hrun : (execOp a.eval o).run P w = .ok (.value (.slice (some ⟨w.heap.size,0,none⟩) xs.length (grownCap w xs.length 0 e))) (w.drew.alloc (.cells cs e (cs.size,cs.size + 1))) := by
  have hz : (ByteArray.mk xs.toArray).size = xs.length := by simp [ByteArray.size]
  have key : (Conv.stringToBytes e ⟨xs.toArray⟩).run P w = .ok (.slice (some ⟨w.heap.size,0,none⟩) xs.length (grownCap w xs.length 0 e)) (w.drew.alloc (.cells cs e (cs.size,cs.size + 1))) := by
   have hmk : ∀ w0 : World,(markStringish ⟨w0.heap.size,0,none⟩).run P (w0.alloc (.cells cs e)) = .ok () (w0.alloc (.cells cs e (cs.size,cs.size + 1))) := by
    intro w0
    have hsh : (w0.alloc (.cells cs e)).shape? w0.heap.size = some (e,cs.size) := by unfold World.shape?; rw [heap_alloc_new]
    unfold markStringish
    simp only [Sem.run_bind,run_shape,Result.andThen_ok,hsh]
    rw [run_freeze,freeze_new]
   have hm0 := hmk w.drew
   subst hcs
   subst hpre
   unfold Conv.stringToBytes
   simp only [Sem.run_bind,hz,run_choose,Question.forced]
   simp [newRow]
   simp [grownCap] at hm0 ⊢
   rw [hm0]
   simp
  simp only [execOp,ho,hxr.1,convert,Sem.run_bind,run_underlying hs,run_underlying hd,run_underlying hee,Result.andThen_ok,key]
  rfl
 unfold Oper.wp
 rw [hrun]
 have hle := (show InvH P C M ⟨bx,ob⟩ w.drew from hi.drew).add_le pre
 have hi' := (show InvH P C M ⟨bx,ob⟩ w.drew from hi.drew).alloc_part pre cs e (cs.size,cs.size + 1) (fun o v hv=>by rw [hcs,Array.getElem?_append_left (Array.getElem?_eq_some_iff.1 hv).1]; exact hv)
 refine hn _ (.list e (kK xs)) ⟨bx,ob⟩ (M.add w.drew.heap.size pre) _ ⟨s',hp,h⟩ hle hi' ?_
 simp only [Rep]
 have hbl : (kK xs).length = xs.length := by simp [kK]
 refine ⟨_,grownCap w xs.length 0 e,i,by rw [hbl],by rw [hbl]; exact hge,hgm,hinf,by rw [hbl,hby,heb]; omega,fun _=>⟨_,_,rfl,?_⟩⟩
 refine dA.of_flat (fun r hr=>?_) (qI (show InvH P C M ⟨bx,ob⟩ w.drew from hi.drew) (kK xs).flatten pre ?_ ?_)
 ·obtain ⟨c,_,rfl⟩ := List.mem_map.1 hr
  rw [hsz,hes]; rfl
 ·rw [hpre]
  intro v hv
  simp at hv
  obtain ⟨c,_,rfl⟩ := hv
  rfl
 ·rw [hpre]
  simpa using byteRows_rep M xs
theorem sK (hT : T.Ok P) (hg : bd ops s o = some true) {x : Operand} {t : TypeId} (ho : o.op = .makeSlice t x x) {d : Nat} (hdst : o.dst = some d) (hlt : Nat.blt d n = true) {ti ei : TInfo} {e : TypeId} (hti : T.get t = some ti) (hd : ti.desc = .slice e) (hei : T.get e = some ei)
  (hz : Nat.beq ei.zero.cells.size ei.size = true) (h1 : (dB ei).all PV.one = true) {kk : IntKind} {m : Int} (hx : evS s x = .val (.int kk m)) (hm : 0 ≤ m) (hby : m.toNat * ei.bytes ≤ 2 ^ 47) (hmx : m.toNat ≤ maxLen) {rows : List (List PV)} (hr : List.replicate m.toNat (dB ei) = rows)
  (h : ∀ g,Ao P ops rest ⟨n,upd s d (.own d g rows.length),bx,upd ob d (some ⟨g,e,rows,true⟩)⟩ K) : Ao P ops (o :: rest) ⟨n,s,bx,ob⟩ K := by
 subst hr
 refine eV hg (fun C M a w next Q hi he hn=>?_)
 have hxr := he x (by rw [ho]; simp [Op.operands])
 rw [show (⟨n,s,bx,ob⟩ : PState).s = s from rfl,hx] at hxr
 simp only [Rep] at hxr
 have hu := (hT.get hti).und
 rw [hd] at hu
 obtain ⟨i,hinf,hs,hbs,hzero⟩ := (hT.get hei).info
 have hz1 := Nat.eq_of_beq_eq_true hz
 obtain ⟨k,hk⟩ : ∃ k : Nat,k = m.toNat := ⟨_,rfl⟩
 rw [← hk] at hby hmx h
 have hkm : m = (k : Int) := by omega
 subst hkm
 have hby2 : k * i.bytes ≤ 2 ^ 47 := by rw [hbs]; exact hby
 have hbi : (i.bytes : Int) * (k : Int) ≤ 281474976710656 := by
  have : ((k * i.bytes : Nat) : Int) ≤ ((2 ^ 47 : Nat) : Int) := Int.ofNat_le.2 hby2
  rw [Int.natCast_mul] at this
  rw [Int.mul_comm]
  omega
 have hrun : (execOp a.eval o).run P w = .ok (.value (.slice (some ⟨w.heap.size,0,none⟩) k k)) (w.alloc (.cells (madeCells ei.zero.cells (k * i.size)) e)) := by
  have := run_make w t e i ei.zero hu hinf hzero kk kk (k : Int) (k : Int) (by omega) (by omega) hbi (by unfold maxLen at hmx; omega)
  simp only [Int.toNat_natCast] at this
  simp only [execOp,ho,hxr,Sem.run_bind,this]
  rfl
 unfold Oper.wp
 rw [hrun]
 have hzl : (dB ei).length = i.size := by simp [dB,hz1,hs]
 have hmc : (madeCells ei.zero.cells (k * i.size)).toList = (List.replicate k ei.zero.cells.toList).flatten := by
  rw [hs,← hz1]
  exact om ei.zero.cells k
 have hrep : aL P M false (List.replicate k (dB ei)).flatten (List.replicate k ei.zero.cells.toList).flatten := kZ (kM _) k
 have htake : (madeCells ei.zero.cells (k * i.size)).toList.take ((List.replicate k (dB ei)).length * i.size) = (List.replicate k ei.zero.cells.toList).flatten := by
  rw [List.length_replicate,List.take_of_length_le (by simp [size_madeCells]),hmc]
 refine hn _ (.own d ⟨some w.heap.size,k⟩ (List.replicate k (dB ei)).length) _ M _ ⟨_,by simp [hdst,putD,hlt],h ⟨some w.heap.size,k⟩⟩ (Mem.le_refl M)
  ((show InvH P C M ⟨bx,ob⟩ w from hi).alloc_obj d e (List.replicate k (dB ei)) true _ _ i hinf ?_ ?_ ?_ ?_ hmx ?_ ?_) ?_
 ·rw [List.length_replicate]; exact hby2
 ·intro r hr
  rw [List.eq_of_mem_replicate hr]
  exact hzl
 ·rw [size_madeCells]
 ·rw [List.length_replicate]; exact Nat.le_refl _
 ·rw [htake]; exact hrep
 ·rw [htake]
  refine aL.oneCell ?_ hrep
  rw [List.all_flatten]
  rw [List.all_eq_true]
  intro r hr
  rw [List.eq_of_mem_replicate hr]
  exact h1
 ·simp [Rep,OwnRef.val]
theorem Ao.ext (hg : bd ops s o = some true) {fx : Operand} {av0 : Array Operand} {ts : Array TypeId} (ho : o.op = .call { callee := .value fx,args := av0,argTypes := ts }) {g : FuncId} (hf : evS s fx = .fn g []) {r : PV}
  (hcall : ∀ (M : Mem) (vs : Array Value) (w : World),aL P M true (av0.toList.map (evS s)) vs.toList → ∃ v,(callFunc g vs).run P w = .ok (.value v) w ∧ Rep P M true r v)
  (hp : putD n s o.dst r = some s') (h : Ao P ops rest ⟨n,s',bx,ob⟩ K) : Ao P ops (o :: rest) ⟨n,s,bx,ob⟩ K := by
 refine eV hg (fun C M a w next Q hi he hn=>?_)
 have hfr := he fx (by rw [ho]; simp [Op.operands,Call.operands])
 rw [show (⟨n,s,bx,ob⟩ : PState).s = s from rfl,hf] at hfr
 simp only [Rep] at hfr
 obtain ⟨cs,hv,hcaps⟩ := hfr
 have hargs : aL P M true (av0.toList.map (evS s)) (av0.map a.eval).toList := by
  simpa using nG av0.toList fun x hx=>he x (by rw [ho]; simp_all [Op.operands,Call.operands])
 have hc0 : cs = #[] := by
  simp only [aL] at hcaps
  exact Array.toList_eq_nil_iff.1 hcaps
 subst hc0
 obtain ⟨v,hrun,hr⟩ := hcall M (av0.map a.eval) w hargs
 have hrun' : (execOp a.eval o).run P w = .ok (.value v) w := by
  simp [execOp,ho,resolve,hv,Deferred.ofValue,invoke,hrun]
 unfold Oper.wp
 rw [hrun']
 exact hn v r ⟨bx,ob⟩ M w ⟨s',hp,h⟩ (Mem.le_refl M) hi hr
theorem Ao.cmpS (hg : bd ops s o = some true) {fx x y : Operand} {ts : Array TypeId} (ho : o.op = .call { callee := .value fx, args := #[x, y], argTypes := ts }) {g : FuncId} (hf : evS s fx = .fn g []) {fn : Func} (h1 : P.funcs[g]? = some fn) (h2 : (fn.name == "runtime.NumGoroutine") = false) (h3 : fn.body.isNone = true) (h4 : Extern.findNext fn = none) (h5 : Extern.find fn = some Extern.BytealgCompare.compare)
  {a b : List UInt8} (hx : evS s x = .str a) (hy : evS s y = .str b) (hp : putD n s o.dst (.val (.int .i64 (Lib.compareBytes a b))) = some s') (h : Ao P ops rest ⟨n,s',bx,ob⟩ K) : Ao P ops (o :: rest) ⟨n,s,bx,ob⟩ K := by
 refine Ao.ext hg ho hf (fun M vs w hr=>?_) hp h
 simp only [List.map_cons,List.map_nil,hx,hy,aL,Rep] at hr
 obtain ⟨v1,l1,e1,⟨r1,_⟩,v2,l2,e2,⟨r2,_⟩,e3⟩ := hr
 subst e3 e2 r1 r2
 have hvs : vs = #[.string ⟨a.toArray⟩,.string ⟨b.toArray⟩] := by
  apply Array.toList_inj.1
  rw [e1]
 subst hvs
 refine ⟨.int .i64 (Lib.compareBytes a b),?_,by simp only [Rep]⟩
 rw [run_callFunc_extern h1 h2 h3 h4 h5,Lib.run_compareString]
 rfl
end
def arrI {α : Type} (n : Nat) (xs : List α) (i : Int) : Option α := if 0 ≤ i ∧ i < n then xs[i.toNat]? else none
theorem arrI_some {α : Type} {n : Nat} {xs : List α} {i : Int} {x : α} (h : arrI n xs i = some x) : (0 ≤ i ∧ i < n) ∧ xs[i.toNat]? = some x := by
 unfold arrI at h
 split at h
 ·rename_i h0; exact ⟨h0,h⟩
 ·cases h
theorem arrI_eq {α : Type} {n : Nat} {xs : List α} {i : Int} {x : α} (h0 : 0 ≤ i ∧ i < n) (h : xs[i.toNat]? = some x) : arrI n xs i = some x := by
 unfold arrI
 rw [zp h0,h]
theorem splice_map {α : Type} (f : α → PV) (xs : List α) (k : Nat) (v : α) {ys : List α} (hk : k < xs.length) (hy : xs.set k v = ys) : fL (xs.map f) k [f v] = ys.map f := by
 subst hy
 unfold fL
 rw [List.map_set,List.length_singleton]
 have hk' : k < (xs.map f).length := by simpa using hk
 rw [List.set_eq_take_append_cons_drop,zp hk',List.append_assoc]
 rfl
section
variable {P : Program} {ops : Array Oper} {rest : List Oper} {o : Oper} {n : Nat} {s s' : Nat → PV} {bx : Nat → Option Box} {ob : Nat → Option Obj} {K : PState → Prop} {T : TT} {rb : RB} {k : Nat} {L : List Nat}
theorem sn (ho : ops[k]? = some o) (hg : bd ops s o = some true) {t : TypeId} {x i : Operand} (hop : o.op = .indexAddr t x i) {ti ei : TInfo} {e : TypeId} {len : Nat} (hti : T.get t = some ti) (hd : ti.desc = .array len e) (hei : T.get e = some ei) (hes : ei.size = 1)
  {tag b : Nat} (hx : evS s x = .box tag b 0) {kk : IntKind} {j : Int} (hi : evS s i = .val (.int kk j)) (hj : 0 ≤ j ∧ j < len) (hp : putD n s o.dst (.box tag b j.toNat) = some s') (h : Do P T rb ops L ⟨n,s',bx,ob⟩ K) : Do P T rb ops (k :: L) ⟨n,s,bx,ob⟩ K := by
 refine rT ho hg (by rw [hop]; rfl) (r := .box tag b j.toNat) ?_ hp h
 rw [hop]
 simp [ie,iu,hti,hx,hi,hd,hei,hj,hes]
theorem sL (hT : T.Ok P) (hg : bd ops s o = some true) {t : TypeId} {x : Operand} (ho : o.op = .load t x) {ti : TInfo} (hti : T.get t = some ti) (hta : nd ti.desc = false) {tag b off : Nat} {cells : List PV}
  (hx : evS s x = .box tag b off) (hb : bx tag = some ⟨b,cells⟩) {r : PV} (hr : cells[off]? = some r) (hp : putD n s o.dst r = some s') (h : Ao P ops rest ⟨n,s',bx,ob⟩ K) : Ao P ops (o :: rest) ⟨n,s,bx,ob⟩ K :=
 Ao.lB hT hg ho hti hx hb (by simp [cQ,hta,hr,iE]) hp h
theorem sM (ho : ops[k]? = some o) (hrb : rb.b o = true) (hg : bd ops s o = some true) {t : TypeId} {x : Operand} (hop : o.op = .load t x) {ti : TInfo} (hti : T.get t = some ti) (hta : nd ti.desc = false) {tag b off : Nat} {cells : List PV}
  (hx : evS s x = .box tag b off) (hb : bx tag = some ⟨b,cells⟩) {r : PV} (hr : cells[off]? = some r) (hp : putD n s o.dst r = some s') (h : Do P T rb ops L ⟨n,s',bx,ob⟩ K) : Do P T rb ops (k :: L) ⟨n,s,bx,ob⟩ K :=
 Do.lB ho hrb hg hop hti hx hb (by simp [cQ,hta,hr,iE]) hp h
theorem sE (hT : T.Ok P) (hg : bd ops s o = some true) {t : TypeId} {x y : Operand} (ho : o.op = .store t x y) (hd : o.dst = none) {ti : TInfo} (hti : T.get t = some ti) (hts : ti.size = 1) {tag b off : Nat} {cells cells' : List PV} (hx : evS s x = .box tag b off) (hb : bx tag = some ⟨b,cells⟩)
  {p : PV} (hc : ew (evS s y) = some [p]) (h1 : PV.one p = true) (hk : off < cells.length) (hs : fL cells off [p] = cells') (h : Ao P ops rest ⟨n,s,upd bx tag (some ⟨b,cells'⟩),ob⟩ K) : Ao P ops (o :: rest) ⟨n,s,bx,ob⟩ K :=
 Ao.sB hT hg ho hd hti hx hb (cs := [p]) (by simp [hc,eD]) (by simp [h1]) (by rw [hts]; rfl) (by rw [hts]; exact Nat.ble_eq.mpr hk) (by rw [eD,hs]) h
theorem sz (ho : ops[k]? = some o) (hg : bd ops s o = some true) {t : TypeId} {x y : Operand} (hop : o.op = .store t x y) (hd : o.dst = none) {ti : TInfo} (hti : T.get t = some ti) (hts : ti.size = 1) {tag b off : Nat} {cells cells' : List PV} (hx : evS s x = .box tag b off) (hb : bx tag = some ⟨b,cells⟩)
  {p : PV} (hc : ew (evS s y) = some [p]) (h1 : PV.one p = true) (hk : off < cells.length) (hs : fL cells off [p] = cells') (h : Do P T rb ops L ⟨n,s,upd bx tag (some ⟨b,cells'⟩),ob⟩ K) : Do P T rb ops (k :: L) ⟨n,s,bx,ob⟩ K :=
 Do.sB ho hg hop hd hti hx hb (cs := [p]) (by simp [hc,eD]) (by simp [h1]) (by rw [hts]; rfl) (by rw [hts]; exact Nat.ble_eq.mpr hk) (by rw [eD,hs]) h
end
def bP : Nat := 100000
def dc (n c : Nat) : Nat := max n (min c maxLen)
def iP (b n c : Nat) : Value := bif Nat.beq (dc n c) 0 then .slice none 0 0 else .slice (some ⟨b,0,none⟩) n (dc n c)
def fW (gf : Nat → OwnRef) (rss : List (List (List PV))) (c : Nat) : List PV := rss.mapIdx (fun i rs=>PV.own (bP + i) (gf i) rs.length) ++ List.replicate (dc rss.length c - rss.length) (.val (.slice none 0 0))
def iC (b : Nat) (gf : Nat → OwnRef) (rss : List (List (List PV))) (c : Nat) : Option Box := bif Nat.beq (dc rss.length c) 0 then none else some ⟨b,fW gf rss c⟩
def eO (e : TypeId) (gf : Nat → OwnRef) (rss : List (List (List PV))) (ob : Nat → Option Obj) : Nat → Option Obj := fun t =>
 bif Nat.ble bP t then (rss[t - bP]?).map (fun rs=>⟨gf (t - bP),e,rs,true⟩) else ob t
theorem jx (n c : Nat) : n ≤ dc n c := Nat.le_max_left _ _
theorem famCap_le {n : Nat} (c : Nat) (h : n ≤ maxLen) : dc n c ≤ maxLen := Nat.max_le.2 ⟨h,Nat.min_le_right _ _⟩
theorem kd {n c : Nat} (h : n ≤ c) (h' : c ≤ maxLen) : dc n c = c := by unfold dc; rw [Nat.min_eq_left h',Nat.max_eq_right h]
theorem beq_pos {n : Nat} (h : 0 < n) : Nat.beq n 0 = false := by
 cases n with
 | zero=>omega
 | succ n=>rfl
theorem lA {b n c : Nat} (h : 0 < dc n c) : iP b n c = .slice (some ⟨b,0,none⟩) n (dc n c) := by simp [iP,beq_pos h]
theorem famV_zero {b n c : Nat} (h : dc n c = 0) : iP b n c = .slice none 0 0 := by simp [iP,h]
theorem qa {b : Nat} {gf : Nat → OwnRef} {rss : List (List (List PV))} {c : Nat} (h : 0 < dc rss.length c) : iC b gf rss c = some ⟨b,fW gf rss c⟩ := by simp [iC,beq_pos h]
theorem famB_zero {b : Nat} {gf : Nat → OwnRef} {rss : List (List (List PV))} {c : Nat} (h : dc rss.length c = 0) : iC b gf rss c = none := by simp [iC,h]
theorem eH {e : TypeId} {gf : Nat → OwnRef} {rss : List (List (List PV))} {ob : Nat → Option Obj} {i : Nat} {rs : List (List PV)} (h : rss[i]? = some rs) : eO e gf rss ob (bP + i) = some ⟨gf i,e,rs,true⟩ := by
 have : Nat.ble bP (bP + i) = true := by rw [Nat.ble_eq]; exact Nat.le_add_right _ _
 simp [eO,this,h]
theorem qR {b : Nat} {gf : Nat → OwnRef} {rss : List (List (List PV))} {c i : Nat} {rs : List (List PV)} (h : rss[i]? = some rs) : iC b gf rss c = some ⟨b,fW gf rss c⟩ := by
 have hl := (zg.1 h).1
 exact qa (Nat.lt_of_lt_of_le (by omega) (jx _ _))
theorem famCells_get {gf : Nat → OwnRef} {rss : List (List (List PV))} {c i : Nat} {rs : List (List PV)} (h : rss[i]? = some rs) : (fW gf rss c)[i]? = some (.own (bP + i) (gf i) rs.length) := by
 have hl := (zg.1 h).1
 unfold fW
 rw [List.getElem?_append_left (by simpa using hl)]
 simp [h]
theorem ow {gf : Nat → OwnRef} {rss : List (List (List PV))} {c : Nat} : (fW gf rss c).length = dc rss.length c := by
 have := jx rss.length c
 simp [fW]; omega
theorem flat_single {α β : Type} (f : α → β) (l : List α) : (l.map fun r=>[f r]).flatten = l.map f := by
 induction l with
 | nil=>rfl
 | cons a l ih=>simp [ih]
theorem splice_one (cells : List PV) (k : Nat) (v : PV) (hk : k < cells.length) : fL cells k [v] = cells.set k v := by
 unfold fL
 rw [List.length_singleton,List.set_eq_take_append_cons_drop,zp hk,List.append_assoc]
 rfl
theorem famCells_set {gf : Nat → OwnRef} {rss : List (List (List PV))} {c i : Nat} {rs rs' : List (List PV)} (h : rss[i]? = some rs) (g : OwnRef) :
  fL (fW gf rss c) i [.own (bP + i) g rs'.length] = fW (upd gf i g) (rss.set i rs') c := by
 have hl := (zg.1 h).1
 rw [splice_one _ _ _ (by rw [ow]; exact Nat.lt_of_lt_of_le hl (jx _ _))]
 unfold fW
 rw [List.set_append_left _ _ (by simpa using hl),List.length_set]
 congr 1
 apply List.ext_getElem?
 intro j
 simp only [List.getElem?_set,List.length_mapIdx,List.getElem?_mapIdx]
 by_cases hj : i = j
 ·subst hj; simp [hl,fS]
 ·have : j ≠ i := fun h=>hj h.symm
  simp [hj,fJ _ _ this]
theorem lE {α : Type} {f : Nat → α} {t : Nat} {v : α} {i : Nat} (h : t < 100000) : upd f t v (bP + i) = f (bP + i) := fJ _ _ (by unfold bP; omega)
theorem famO_low {e : TypeId} {gf : Nat → OwnRef} {rss : List (List (List PV))} {ob : Nat → Option Obj} {t : Nat} (h : t < bP) : eO e gf rss ob t = ob t := by
 have : Nat.ble bP t = false := by
  cases hb : Nat.ble bP t with
  | false=>rfl
  | true=>have := Nat.le_of_ble_eq_true hb; omega
 simp [eO,this]
theorem famO_set {e : TypeId} {gf : Nat → OwnRef} {rss : List (List (List PV))} {ob : Nat → Option Obj} {i : Nat} {rs' : List (List PV)} {g : OwnRef} (hl : i < rss.length) :
  ∀ j rs,(rss.set i rs')[j]? = some rs → upd (eO e gf rss ob) (bP + i) (some ⟨g,e,rs',true⟩) (bP + j) = some ⟨upd gf i g j,e,rs,true⟩ := by
 intro j rs h
 rw [List.getElem?_set] at h
 by_cases hj : i = j
 ·subst hj
  simp only [if_true,hl] at h
  cases h
  rw [fS,fS]
 ·have h1 : bP + j ≠ bP + i := by omega
  rw [zy hj] at h
  rw [fJ _ _ h1,eH h,fJ _ _ (fun h=>hj h.symm)]
theorem famB_put {b c i : Nat} {gf2 : Nat → OwnRef} {rss rss2 : List (List (List PV))} {rs rs' : List (List PV)} (h : rss[i]? = some rs) (hz : rss2 = rss.set i rs') : (some ⟨b,fW gf2 (rss.set i rs') c⟩ : Option Box) = iC b gf2 rss2 c := by
 subst hz
 exact (qR (i := i) (rs := rs') (by rw [List.getElem?_set]; simp [(zg.1 h).1])).symm
theorem famO_put {e : TypeId} {gf : Nat → OwnRef} {rss rss2 : List (List (List PV))} {ob : Nat → Option Obj} {i : Nat} {rs0 rs' : List (List PV)} {g : OwnRef} (h : rss[i]? = some rs0) (hz : rss2 = rss.set i rs') :
  ∀ j rs,rss2[j]? = some rs → upd (eO e gf rss ob) (bP + i) (some ⟨g,e,rs',true⟩) (bP + j) = some ⟨upd gf i g j,e,rs,true⟩ := by
 subst hz
 exact famO_set (zg.1 h).1
theorem gW (ob ob' : Nat → Option Obj) (t : Nat) : nI ob [] ob' t = ob t := rfl
theorem gM {ob ob' : Nat → Option Obj} {a k i : Nat} {m : List (Nat × Nat)} (h : a < 100000) : nI ob ((a,k) :: m) ob' (bP + i) = nI ob m ob' (bP + i) := by
 unfold nI
 rw [List.find?_cons]
 have : Nat.beq a (bP + i) = false := by
  cases hb : Nat.beq a (bP + i) with
  | false=>rfl
  | true=>have := Nat.eq_of_beq_eq_true hb; unfold bP at this; omega
 simp only [this]
section
variable {P : Program} {bx bx' : Nat → Option Box} {ob ob' : Nat → Option Obj}
theorem ss {e : TypeId} {gf : Nat → OwnRef} (h : OLe ob ob') : OLe ob (eO e gf [] ob') := fun t x hx=>by
 unfold eO at hx
 cases hq : Nat.ble bP t with
 | true=>rw [hq] at hx; simp at hx
 | false=>rw [hq] at hx; exact h t x hx
theorem jU {e : TypeId} {gf : Nat → OwnRef} {rss : List (List (List PV))} (h : ∀ i rs,rss[i]? = some rs → ob (bP + i) = some ⟨gf i,e,rs,true⟩) (h' : OLe ob ob') : OLe ob (eO e gf rss ob') := by
 intro t x hx
 unfold eO at hx
 cases hb : Nat.ble bP t with
 | false=>rw [hb] at hx; exact h' t x hx
 | true =>
  rw [hb] at hx
  have hle := Nat.le_of_ble_eq_true hb
  simp only [zc,Option.map_eq_some_iff] at hx
  obtain ⟨rs,h1,rfl⟩ := hx
  have := h _ _ h1
  rwa [show bP + (t - bP) = t from by omega] at this
theorem famNil_le (e : TypeId) (gf : Nat → OwnRef) (ob : Nat → Option Obj) : ∀ t x,eO e gf [] ob t = some x → ob t = some x := jU (fun i rs h=>by simp at h) (sJ ob)
theorem kp {t b c : Nat} {gf : Nat → OwnRef} {rss : List (List (List PV))} (h : bx t = iC b gf rss c) (h' : BLe P bx bx') : BLe P bx (upd bx' t (iC b gf rss c)) := fun u x hx=>by
 rw [eP] at hx
 split at hx
 ·rename_i e; subst e; rw [← h] at hx; exact ⟨x,hx,rfl,jc.refl P _⟩
 ·exact h' u x hx
theorem sq {t b : Nat} {gf : Nat → OwnRef} (h' : BLe P bx bx') : BLe P bx (upd bx' t (iC b gf [] 0)) := fun u x hx=>by
 rw [eP] at hx
 split at hx
 ·rw [famB_zero (by simp [dc])] at hx; cases hx
 ·exact h' u x hx
end
theorem InvH.famNil {P : Program} {C : Ctx} {M : Mem} {w : World} {bx : Nat → Option Box} {ob : Nat → Option Obj} (e : TypeId) (gf : Nat → OwnRef) (h : InvH P C M ⟨bx,ob⟩ w) : InvH P C M ⟨bx,eO e gf [] ob⟩ w :=
 h.less (fun _ _ hx=>hx) (famNil_le e gf ob)
section
variable {P : Program} {C : Ctx} {M : Mem} {H : Heap} {w : World}
theorem InvH.freezeAll {bx : Nat → Option Box} {ob : Nat → Option Obj} {e : TypeId} {gf : Nat → OwnRef} {rss : List (List (List PV))} (h : InvH P C M ⟨bx,eO e gf rss ob⟩ w) : ∀ n,n ≤ rss.length →
  ∃ M' ob',M.le M' ∧ InvH P C M' ⟨bx,ob'⟩ w ∧ (∀ t,t < bP → ob' t = ob t) ∧ (∀ i,n ≤ i → ob' (bP + i) = eO e gf rss ob (bP + i)) ∧
   ∀ i rs,i < n → rss[i]? = some rs → Rep P M' true (.list e rs) ((gf i).val rs.length)
 | 0,_=>⟨M,_,Mem.le_refl M,h,fun t ht=>famO_low ht,fun i _=>rfl,fun i rs hi=>by omega⟩
 | n + 1,hn=>by
  obtain ⟨M1,ob1,hle1,h1,ha,hb,hc⟩ := InvH.freezeAll h n (by omega)
  obtain ⟨rs,hrs⟩ : ∃ rs,rss[n]? = some rs := ⟨rss[n],ze (by omega)⟩
  have hx := hb n (Nat.le_refl n)
  rw [eH hrs] at hx
  obtain ⟨M2,hle2,h2,hr⟩ := h1.freezeO (tag := bP + n) (x := ⟨gf n,e,rs,true⟩) hx
  refine ⟨M2,_,Mem.le_trans hle1 hle2,h2,fun t ht=>?_,fun i hi=>?_,fun i rs' hi hrs'=>?_⟩
  ·rw [fJ _ _ (by omega)]; exact ha t ht
  ·rw [fJ _ _ (by omega)]; exact hb i (by omega)
  ·by_cases hin : i = n
   ·subst hin
    rw [hrs] at hrs'
    cases hrs'
    exact hr
   ·exact Rep.mono hle2 (hc i rs' (by omega) hrs')
theorem InvH.freezeFam {bx : Nat → Option Box} {ob : Nat → Option Obj} {t e e' b c : Nat} {gf : Nat → OwnRef} {rss : List (List (List PV))} (h : InvH P C M ⟨bx,eO e gf rss ob⟩ w) (hb : bx t = iC b gf rss c)
  {T : TT} (hT : T.Ok P) {ei : TInfo} (hei : T.get e' = some ei) (hsz : ei.size = 1) (hby : rss.length * ei.bytes ≤ 2 ^ 47) (hmx : rss.length ≤ maxLen) :
  ∃ M',M.le M' ∧ InvH P C M' ⟨upd bx t none,eO e gf [] ob⟩ w ∧ Rep P M' true (.list e' (rss.map fun rs=>[.list e rs])) (iP b rss.length c) := by
 obtain ⟨M1,ob1,hle1,h1,ha,_,hc⟩ := h.freezeAll rss.length (Nat.le_refl _)
 obtain ⟨i,hi,hs,hbs,_⟩ := (hT.get hei).info
 have hless : ∀ {M : Mem} {bx : Nat → Option Box},InvH P C M ⟨bx,ob1⟩ w → InvH P C M ⟨bx,eO e gf [] ob⟩ w := fun h=>h.less (fun _ _ hx=>hx) (fun u x hx=>by
  have hx : eO e gf [] ob u = some x := hx
  unfold eO at hx
  cases hq : Nat.ble bP u with
  | true=>rw [hq] at hx; simp at hx
  | false =>
   rw [hq] at hx
   have : u < bP := by
    rcases Nat.lt_or_ge u bP with h | h
    ·exact h
    ·rw [show Nat.ble bP u = true from by rw [Nat.ble_eq]; exact h] at hq; cases hq
   show ob1 u = some x
   rw [ha u this]
   exact hx)
 rcases Nat.eq_zero_or_pos (dc rss.length c) with h0 | h0
 ·have hnil : rss = [] := List.length_eq_zero_iff.1 (by have := jx rss.length c; omega)
  subst hnil
  refine ⟨M1,hle1,(hless h1).less (fun u x hx=>?_) (fun _ _ hx=>hx),?_⟩
  ·simp only [eP] at hx
   split at hx
   ·cases hx
   ·exact hx
  ·rw [famV_zero h0]
   simp only [Rep]
   exact ⟨none,0,i,by simp,by simp,by simp,hi,by simp,by simp⟩
 ·rw [qa h0] at hb
  -- the box,its slices frozen
  obtain ⟨hmine,⟨cs,e0,hcs,hr⟩,hnone⟩ := h1.boxes t _ hb
  let cells' : List PV := rss.map (fun rs=>PV.list e rs) ++ List.replicate (dc rss.length c - rss.length) (.val (.slice none 0 0))
  have hr' : aL P M1 true cells' cs.toList := by
   have key : ∀ (l : List (List (List PV))) (k : Nat) (r : List PV) (xs : List Value),(∀ j rs,l[j]? = some rs → Rep P M1 true (.list e rs) ((gf (k + j)).val rs.length)) →
     aL P M1 true (l.mapIdx (fun j rs=>PV.own (bP + (k + j)) (gf (k + j)) rs.length) ++ r) xs → aL P M1 true (l.map (fun rs=>PV.list e rs) ++ r) xs := by
    intro l
    induction l with
    | nil=>intro k r xs _ h; simpa using h
    | cons a l ih =>
     intro k r xs hl h
     simp only [List.mapIdx_cons,List.cons_append,aL,List.map_cons] at h ⊢
     obtain ⟨x,ys,rfl,hx,hy⟩ := h
     refine ⟨x,ys,rfl,?_,ih (k + 1) r ys (fun j rs hj=>?_) ?_⟩
     ·simp only [Rep,Nat.add_zero] at hx
      rw [hx.2]
      exact hl 0 a rfl
     ·have := hl (j + 1) rs (by simpa using hj)
      rwa [show k + (j + 1) = k + 1 + j from by omega] at this
     ·have e : (fun (j : Nat) (rs : List (List PV))=>PV.own (bP + (k + (j + 1))) (gf (k + (j + 1))) rs.length) = fun j rs=>PV.own (bP + (k + 1 + j)) (gf (k + 1 + j)) rs.length := by
       funext j rs
       rw [show k + (j + 1) = k + 1 + j from by omega]
      rw [← e]
      exact hy
   refine key rss 0 _ _ (fun j rs hj=>?_) ?_
   ·rw [Nat.zero_add]
    exact hc j rs (zg.1 hj).1 hj
   ·simpa [fW] using hr
  have h2 : InvH P C M1 ⟨upd bx t (some ⟨b,cells'⟩),ob1⟩ w := by
   have key : ∀ u x,upd bx t (some ⟨b,cells'⟩) u = some x → (u = t ∧ x = ⟨b,cells'⟩) ∨ (u ≠ t ∧ bx u = some x) := by
    intro u x hx
    rw [eP] at hx
    split at hx
    ·rename_i e; exact .inl ⟨e,(Option.some.inj hx).symm⟩
    ·rename_i e; exact .inr ⟨e,hx⟩
   refine ⟨h1.mem,h1.ext,h1.new,h1.os,h1.tape,h1.output,h1.size,h1.frame,fun u x hx=>?_,h1.objs,fun u u' x x' hx hx' hbb=>?_,h1.dobj,fun u u' x x' hx hx' hbb=>?_⟩
   ·rcases key u x hx with ⟨_,rfl⟩ | ⟨_,hx⟩
    ·exact ⟨hmine,⟨cs,e0,hcs,hr'⟩,hnone⟩
    ·exact h1.boxes u x hx
   ·rcases key u x hx with ⟨q1,q2⟩ | ⟨_,hy⟩ <;> rcases key u' x' hx' with ⟨q3,q4⟩ | ⟨_,hy'⟩
    ·rw [q1,q3]
    ·subst q1; subst q2; exact h1.dbox _ u' _ x' hb hy' hbb
    ·subst q3; subst q4; exact h1.dbox u _ x _ hy hb hbb
    ·exact h1.dbox u u' x x' hy hy' hbb
   ·rcases key u x hx with ⟨q1,q2⟩ | ⟨_,hy⟩
    ·subst q1; subst q2; exact h1.dmix _ u' _ x' hb hx' hbb
    ·exact h1.dmix u u' x x' hy hx' hbb
  have hfl : ∀ l : List PV,(∀ p ∈ l,p.froz = true) → PV.frozL l = true := by
   intro l
   induction l with
   | nil=>intro _; rfl
   | cons a l ih=>intro h; simp [PV.frozL,h a (by simp),ih fun p hp=>h p (by simp [hp])]
  obtain ⟨M2,hle2,h3,hra⟩ := h2.freezeB (tag := t) (x := ⟨b,cells'⟩) (fS _ _ _) (hfl _ (fun p hp=>by
    rcases List.mem_append.1 hp with hp | hp
    ·obtain ⟨rs,_,rfl⟩ := List.mem_map.1 hp; rfl
    ·rw [List.eq_of_mem_replicate hp]; rfl)) (List.all_eq_true.2 fun p hp=>by
    rcases List.mem_append.1 hp with hp | hp
    ·obtain ⟨rs,_,rfl⟩ := List.mem_map.1 hp; rfl
    ·rw [List.eq_of_mem_replicate hp]; rfl)
  refine ⟨M2,Mem.le_trans hle1 hle2,(hless h3).less (fun u x hx=>?_) (fun _ _ hx=>hx),?_⟩
  ·simp only [eP] at hx ⊢
   split at hx
   ·cases hx
   ·rename_i q; simp only [zy q]; exact hx
  ·rw [lA h0]
   simp only [Rep]
   refine ⟨some ⟨b,0,none⟩,dc rss.length c,i,by simp,by simpa using jx _ _,famCap_le _ hmx,hi,by rw [zl,hbs]; exact hby,fun _=>⟨b,0,rfl,?_⟩⟩
   have hs1 : i.size = 1 := by rw [hs]; exact hsz
   rw [hs1]
   refine dA.of_flat (fun r hr=>?_) ?_
   ·obtain ⟨rs,_,rfl⟩ := List.mem_map.1 hr; rfl
   ·rw [flat_single]
    have := dt.take rss.length hra
    have e2 : (cells').take rss.length = rss.map (fun rs=>PV.list e rs) := by
     show (rss.map (fun rs=>PV.list e rs) ++ _).take rss.length = _
     rw [List.take_append_of_le_length (by simp)]
     exact List.take_of_length_le (by simp)
    rw [e2] at this
    exact this
end
section
variable {P : Program} {T : TT} {w : World} {C : Ctx} {M : Mem}
theorem rK (t ty e e0 : TypeId) (i : TypeInfo) (ht : P.underlying t = some (.slice e)) (hi : P.info? e = some i)
  (g sLen sCap : Nat) (cur : Array Value) (hg : w.heap[g]? = some (.cells cur e0 (0,0)))
  (a : Addr) (m c : Nat) (news : List Value) (hl : news.length = m * i.size) (hnews : ∀ j u,news[j]? = some u → w.cell? (a.add j) = some u) (h1 : ∀ u ∈ news,u.oneCell' = true)
  (hroom : sLen + m ≤ sCap) (hfit : sLen * i.size + news.length ≤ cur.size) :
  (Builtin.append_ #[t,t] ty #[.slice (some ⟨g,0,none⟩) sLen sCap,.slice (some a) m c]).run P w =
   .ok (.slice (some ⟨g,0,none⟩) (sLen + m) sCap) (w.setRow g (cur.toList.take (sLen * i.size) ++ news ++ cur.toList.drop (sLen * i.size + news.length)).toArray) := by
 have hf := run_firstCells_some (P := P) w i.size m a m c news hl hnews
 have hst := run_storeCells_at P g (sLen * i.size) e0 news 0 cur w hg (by simpa using hfit) h1
 simp only [Nat.add_zero] at hst
 simp [Builtin.append_,run_underlying ht,sizeOf,typeInfo,hi,Builtin.lenOf,hroom,hf,Addr.add_lit,hst]
theorem repNils {k : Nat} {P : Program} {M : Mem} : aL P M true (List.replicate k (.val (.slice none 0 0))) (List.replicate k (Value.slice none 0 0)) := by
 induction k with
 | zero=>simp [aL]
 | succ k ih=>simp only [List.replicate_succ,aL]; exact ⟨_,_,rfl,by simp [Rep],ih⟩
theorem zeroNils (k : Nat) : (Builtin.zeroCells #[Value.slice none 0 0] k).toList = List.replicate k (Value.slice none 0 0) := by
 unfold Builtin.zeroCells
 rw [om]
 induction k with
 | zero=>rfl
 | succ k ih=>rw [List.replicate_succ,List.flatten_cons,ih]; rfl
def kJ (gf : Nat → OwnRef) (rss : List (List (List PV))) : List PV := rss.mapIdx fun i rs=>PV.own (bP + i) (gf i) rs.length
theorem nM {gf : Nat → OwnRef} {rss : List (List (List PV))} : (kJ gf rss).length = rss.length := by simp [kJ]
theorem pg {gf : Nat → OwnRef} {rss : List (List (List PV))} {c : Nat} : fW gf rss c = kJ gf rss ++ List.replicate (dc rss.length c - rss.length) (.val (.slice none 0 0)) := rfl
theorem lX {gf : Nat → OwnRef} {rss : List (List (List PV))} {c : Nat} {g : OwnRef} : fW (upd gf rss.length g) (rss ++ [[]]) c =
  kJ gf rss ++ (.own (bP + rss.length) g 0 :: List.replicate (dc (rss.length + 1) c - (rss.length + 1)) (.val (.slice none 0 0))) := by
 have h : kJ (upd gf rss.length g) (rss ++ [[]]) = kJ gf rss ++ [.own (bP + rss.length) g 0] := by
  unfold kJ
  rw [List.mapIdx_append]
  congr 1
  ·apply List.ext_getElem?
   intro j
   simp only [List.getElem?_mapIdx]
   by_cases hj : j < rss.length
   ·rw [fJ _ _ (by omega)]
   ·rw [List.getElem?_eq_none (by omega)]; rfl
  ·simp [fS]
 rw [pg,h]
 simp
theorem pW {bx : Nat → Option Box} {ob : Nat → Option Obj} {t0 b e c : Nat} {gf : Nat → OwnRef} {rss : List (List (List PV))} (hT : T.Ok P) {ei2 : TInfo} (hei2 : T.get e = some ei2)
  (h : InvH P C M ⟨upd bx t0 (some ⟨b,fW (upd gf rss.length ⟨none,0⟩) (rss ++ [[]]) c⟩),eO e gf rss ob⟩ w) :
  InvH P C M ⟨upd bx t0 (iC b (upd gf rss.length ⟨none,0⟩) (rss ++ [[]]) c),eO e (upd gf rss.length ⟨none,0⟩) (rss ++ [[]]) ob⟩ w := by
 rw [qa (Nat.lt_of_lt_of_le (by simp) (jx _ _))]
 refine (h.nilobj hT (bP + rss.length) hei2).less (fun _ _ hx=>hx) (fun t x hx=>?_)
 have hx : eO e (upd gf rss.length ⟨none,0⟩) (rss ++ [[]]) ob t = some x := hx
 unfold eO at hx
 cases hq : Nat.ble bP t with
 | false =>
  rw [hq] at hx
  have ht : t < bP := by
   rcases Nat.lt_or_ge t bP with h | h
   ·exact h
   ·rw [show Nat.ble bP t = true from by rw [Nat.ble_eq]; exact h] at hq; cases hq
  show upd (eO e gf rss ob) _ _ t = some x
  rw [fJ _ _ (by omega),famO_low ht]
  exact hx
 | true =>
  rw [hq] at hx
  have hle := Nat.le_of_ble_eq_true hq
  simp only [zc,Option.map_eq_some_iff] at hx
  obtain ⟨rs,h1,rfl⟩ := hx
  show upd (eO e gf rss ob) _ _ t = _
  by_cases hj : t = bP + rss.length
  ·subst hj
   rw [fS]
   rw [show bP + rss.length - bP = rss.length from by omega] at h1 ⊢
   simp at h1
   rw [fS,← h1]
  ·rw [fJ _ _ hj]
   have h2 := (zg.1 h1).1
   simp at h2
   have h3 : t - bP < rss.length := by omega
   rw [List.getElem?_append_left h3] at h1
   have := eH (e := e) (gf := gf) (ob := ob) h1
   rw [show bP + (t - bP) = t from by omega] at this
   rw [this,fJ _ _ (by omega)]
theorem appendFam_core {bx : Nat → Option Box} {ob : Nat → Option Obj} {t0 b e e' c : Nat} {gf : Nat → OwnRef} {rss : List (List (List PV))} (hi : InvH P C M ⟨bx,eO e gf rss ob⟩ w) (hb : bx t0 = iC b gf rss c) (hT : T.Ok P)
  {t ty : TypeId} {ti ei ei2 : TInfo} (hti : T.get t = some ti) (hd : ti.desc = .slice e') (hei : T.get e' = some ei) (hsz : ei.size = 1) (hz : ei.zero.cells = #[.slice none 0 0]) (hei2 : T.get e = some ei2)
  {v : Value} (hv : Rep P M true (.list e' [[.val (.slice none 0 0)]]) v) (hby : (rss.length + 1) * ei.bytes ≤ 2 ^ 47) (hmx : rss.length + 1 ≤ maxLen) :
  ∃ b' c' w',(Builtin.append_ #[t,t] ty #[iP b rss.length c,v]).run P w = .ok (iP b' (rss.length + 1) c') w' ∧
   InvH P C M ⟨upd bx t0 (iC b' (upd gf rss.length ⟨none,0⟩) (rss ++ [[]]) c'),eO e (upd gf rss.length ⟨none,0⟩) (rss ++ [[]]) ob⟩ w' := by
 obtain ⟨i,sa,c0,news,hinf,rfl,_,hnl,_,hcells,hrep,hone⟩ := list_src hi hv
 obtain ⟨i',hinf',hs,hbs,hzero⟩ := (hT.get hei).info
 rw [hinf] at hinf'
 cases hinf'
 have hs1 : i.size = 1 := by rw [hs]; exact hsz
 have hnews : news = [.slice none 0 0] := by
  simp only [List.flatten_cons,List.flatten_nil,List.append_nil,aL,Rep] at hrep
  obtain ⟨x,xs,rfl,rfl,rfl⟩ := hrep
  rfl
 subst hnews
 have hu := (hT.get hti).und
 rw [hd] at hu
 obtain ⟨a,rfl,hac⟩ := hcells (by simp)
 have h63 : ((rss.length + 1 : Nat) : Int) ≤ 9223372036854775807 := by unfold maxLen at hmx; omega
 have hby' : (rss.length + 1) * i.bytes ≤ 140737488355328 := by rw [hbs]; exact hby
 have hcap := jx rss.length c
 rcases Nat.eq_zero_or_pos (dc rss.length c) with h0 | h0
 ·have hnil : rss = [] := List.length_eq_zero_iff.1 (by omega)
  subst hnil
  have hg := run_append_nil (P := P) w t ty e' i ei.zero hu hinf hzero a 1 c0 [.slice none 0 0] hnl hac (by omega) (by simp) (by simp at hby'; omega)
  have hge := grownCap_ge w 1 0 e'
  have hgm : grownCap w 1 0 e' ≤ maxLen := grownCap_le_maxLen w 1 0 e' (by simpa using hmx)
  refine ⟨w.heap.size,grownCap w 1 0 e',_,?_,pW hT hei2 ((show InvH P C M _ w.drew from hi.drew).alloc_box t0 _ (#[.slice none 0 0] ++ Builtin.zeroCells ei.zero.cells (grownCap w 1 0 e' - 1)) e' ?_)⟩
  ·rw [famV_zero h0]
   simp only [List.length_singleton]
   rw [hg,lA (by show 0 < dc 1 _; rw [kd hge hgm]; omega)]
   show _ = Result.ok (Value.slice _ 1 (dc 1 _)) _
   rw [kd hge hgm]
  ·rw [lX]
   simp only [List.length_nil,kJ,List.mapIdx_nil,List.nil_append,aL]
   refine ⟨.slice none 0 0,(Builtin.zeroCells ei.zero.cells (grownCap w 1 0 e' - 1)).toList,by rw [Array.toList_append]; rfl,by simp [Rep,OwnRef.val],?_⟩
   rw [hz,zeroNils]
   show aL P M true (List.replicate (dc 1 _ - 1) _) _
   rw [kd hge hgm]
   exact repNils
 ·rw [qa h0] at hb
  obtain ⟨hmine,⟨cur,e0,hcur,hr⟩,hnone⟩ := hi.boxes t0 _ hb
  have hsize : cur.size = dc rss.length c := by
   have := hr.length
   rw [ow] at this
   simpa using this
  have hl2 : kJ gf rss = (fW gf rss c).take rss.length := by
   rw [pg,List.take_append_of_le_length (by rw [nM]; exact Nat.le_refl _),← nM (gf := gf) (rss := rss),List.take_length]
  have hrt : aL P M true (kJ gf rss) (cur.toList.take rss.length) := by rw [hl2]; exact hr.take _
  by_cases hroom : rss.length + 1 ≤ dc rss.length c
  ·have hr2 := rK (P := P) (w := w) t ty e' e0 i hu hinf b rss.length (dc rss.length c) cur hcur a 1 c0 [.slice none 0 0] hnl hac hone hroom (by rw [hs1]; simp; omega)
   have hce : dc (rss.length + 1) (dc rss.length c) = dc rss.length c := kd hroom (famCap_le _ (by omega))
   refine ⟨b,dc rss.length c,_,?_,pW hT hei2 (hi.set_box t0 _ hb _ (cur.toList.take (rss.length * i.size) ++ [Value.slice none 0 0] ++ cur.toList.drop (rss.length * i.size + [Value.slice none 0 0].length)).toArray ?_)⟩
   ·rw [lA h0]
    simp only [List.length_singleton]
    rw [hr2,lA (by rw [hce]; exact h0),hce]
    rfl
   ·rw [lX,hce]
    simp only [hs1,Nat.mul_one,List.append_assoc]
    refine hrt.append ?_
    simp only [List.singleton_append,aL,List.length_singleton]
    refine ⟨_,_,rfl,by simp [Rep,OwnRef.val],?_⟩
    have := hr.drop (rss.length + 1)
    rw [pg,List.drop_append,nM,List.drop_of_length_le (by rw [nM]; omega),List.nil_append,List.drop_replicate] at this
    rwa [show dc rss.length c - rss.length - (rss.length + 1 - rss.length) = dc rss.length c - (rss.length + 1) from by omega] at this
  ·have holdlen : (cur.toList.take rss.length).length = rss.length * i.size := by rw [hs1]; simp; omega
   have holds : ∀ (j : Nat) (v : Value),(cur.toList.take rss.length)[j]? = some v → w.cell? ((⟨b,0,none⟩ : Addr).add j) = some v := by
    intro j v hj
    rw [gL,cell_of_row w b (0 + j) cur e0 (0,0) hcur]
    rw [List.getElem?_take] at hj
    split at hj
    ·simpa using hj
    ·cases hj
   have hr2 := run_append_grow (P := P) w t ty e' i ei.zero hu hinf hzero ⟨b,0,none⟩ rss.length (dc rss.length c) _ holdlen holds a 1 c0 [.slice none 0 0] hnl hac (by omega) h63 (growslice_fits (by omega) hby')
   have hge := grownCap_ge w (rss.length + 1) (dc rss.length c) e'
   have hgm : grownCap w (rss.length + 1) (dc rss.length c) e' ≤ maxLen := grownCap_le_maxLen w _ _ e' hmx
   refine ⟨w.heap.size,grownCap w (rss.length + 1) (dc rss.length c) e',_,?_,pW hT hei2 ((show InvH P C M _ w.drew from hi.drew).alloc_box t0 _ ((cur.toList.take rss.length).toArray ++ #[.slice none 0 0] ++ Builtin.zeroCells ei.zero.cells (grownCap w (rss.length + 1) (dc rss.length c) e' - (rss.length + 1))) e' ?_)⟩
   ·rw [lA h0]
    simp only [List.length_singleton]
    rw [hr2,lA (by rw [kd hge hgm]; omega),kd hge hgm]
   ·rw [lX]
    simp only [Array.toList_append,List.append_assoc]
    refine hrt.append ?_
    simp only [List.singleton_append,aL]
    refine ⟨_,_,rfl,by simp [Rep,OwnRef.val],?_⟩
    rw [hz,zeroNils,kd hge hgm]
    exact repNils
end
section
variable {P : Program} {T : TT} {ops : Array Oper} {rest : List Oper} {o : Oper} {n : Nat} {s s' : Nat → PV} {bx : Nat → Option Box} {ob : Nat → Option Obj} {K : PState → Prop}
theorem sD (t0 e : Nat) (hT : T.Ok P) (hg : bd ops s o = some true) {x y : Operand} {t : TypeId} (ho : o.op = .call { callee := .builtin .append,args := #[x,y],argTypes := #[t,t] }) {d : Nat} (hdst : o.dst = some d) (hlt : Nat.blt d n = true) {ti ei ei2 : TInfo} {e' : TypeId}
  (hti : T.get t = some ti) (hd : ti.desc = .slice e') (hei : T.get e' = some ei) (hsz : ei.size = 1) (hz : ei.zero.cells = #[.slice none 0 0]) (hei2 : T.get e = some ei2) {b c m : Nat} {gf : Nat → OwnRef} {rss : List (List (List PV))} (hx : evS s x = .val (iP b m c)) (hm : m = rss.length)
  (hy : evS s y = .list e' [[.val (.slice none 0 0)]]) (hb : bx t0 = iC b gf rss c) (hby : (rss.length + 1) * ei.bytes ≤ 2 ^ 47) (hmx : rss.length + 1 ≤ maxLen)
  (h : ∀ b' c',Ao P ops rest ⟨n,upd s d (.val (iP b' (m + 1) c')),upd bx t0 (iC b' (upd gf m ⟨none,0⟩) (rss ++ [[]]) c'),eO e (upd gf m ⟨none,0⟩) (rss ++ [[]]) ob⟩ K) :
  Ao P ops (o :: rest) ⟨n,s,bx,eO e gf rss ob⟩ K := by
 subst hm
 refine eV hg (K := K) ?_
 intro C M a w next Q hi he hn
 have hxr := he x (by rw [ho]; simp [Op.operands,Call.operands])
 have hyr := he y (by rw [ho]; simp [Op.operands,Call.operands])
 rw [hx] at hxr
 rw [hy] at hyr
 simp only [Rep] at hxr
 obtain ⟨b',c',w',hrun,hi'⟩ := appendFam_core (ty := o.type) hi hb hT hti hd hei hsz hz hei2 hyr hby hmx
 have hrun' : (execOp a.eval o).run P w = .ok (.value (iP b' (rss.length + 1) c')) w' := by
  simp only [execOp,ho,resolve,Sem.run_bind,Sem.run_pure,Result.andThen_ok,invoke,builtin,List.map_toArray,List.map_cons,List.map_nil,hxr]
  rw [hrun]
  rfl
 unfold Oper.wp
 rw [hrun']
 exact hn _ (.val (iP b' (rss.length + 1) c')) _ M w' ⟨_,by simp [hdst,putD,hlt],h b' c'⟩ (Mem.le_refl M) hi' (by simp [Rep])
theorem sc (t0 : Nat) (hT : T.Ok P) (hg : bd ops s o = some true) {t : TypeId} {x i : Operand} (ho : o.op = .indexAddr t x i) {ti ei : TInfo} {e' : TypeId} (hti : T.get t = some ti) (hd : ti.desc = .slice e') (hei : T.get e' = some ei) (hes : ei.size = 1)
  {b c m : Nat} (hx : evS s x = .val (iP b m c)) {kk : IntKind} {j : Int} (hi : evS s i = .val (.int kk j)) (hj : 0 ≤ j ∧ j.toNat < m) (hp : putD n s o.dst (.box t0 b j.toNat) = some s') (h : Ao P ops rest ⟨n,s',bx,ob⟩ K) : Ao P ops (o :: rest) ⟨n,s,bx,ob⟩ K := by
 have hpos : 0 < dc m c := Nat.lt_of_lt_of_le (by omega) (jx _ _)
 rw [lA hpos] at hx
 refine nQ hg ?_ hp h
 intro C M a w hiv he
 have hxr := he x (by rw [ho]; simp [Op.operands])
 have hir := he i (by rw [ho]; simp [Op.operands])
 rw [hx] at hxr
 rw [hi] at hir
 simp only [Rep] at hxr hir
 have hu := (hT.get hti).rund w
 rw [hd] at hu
 have hsz := (hT.get hei).rsize w
 refine ⟨.pointer (some ⟨b,j.toNat,none⟩),?_,by simp [Rep]⟩
 have h2 : j < (m : Int) := by omega
 simp [execOp,ho,Instr.indexAt,hir,hxr,asIntOf,hu,hj.1,h2,hsz,hes,gL]
theorem su (t0 e : Nat) (hT : T.Ok P) (hg : bd ops s o = some true) {t e' : TypeId} {ps : Array (Nat × Operand)} (ho : o.op = .buildSlice t 1 ps) {d : Nat} (hdst : o.dst = some d) (hlt : Nat.blt d n = true) {ti ei2 : TInfo} (hti : T.get t = some ti) (hd : ti.desc = .slice e')
  (hr : kl T e' 1 (gI (evS s) ps) = some [[.val (.slice none 0 0)]]) (hei2 : T.get e = some ei2)
  (h : ∀ b' c',Ao P ops rest ⟨n,upd s d (.val (iP b' 1 c')),upd bx t0 (iC b' (fun _=>⟨none,0⟩) [[]] c'),eO e (fun _=>⟨none,0⟩) [[]] ob⟩ K) :
  Ao P ops (o :: rest) ⟨n,s,bx,ob⟩ K := by
 refine eV hg (K := K) ?_
 intro C M a w next Q hi he hn
 obtain ⟨i,cs,hinf,hrun,hrep,hone,hlen,hrl,hcs,hby,hn16⟩ := bs_run hT hti hd hr w (fun x hx=>he x (by rw [ho]; simpa [Op.operands] using hx))
 unfold Oper.wp
 have hrun' : (execOp a.eval o).run P w = .ok (.value (iP w.heap.size 1 1)) (w.alloc (.cells cs e')) := by
  simp only [execOp,ho,Sem.run_bind,hrun]
  rfl
 rw [hrun']
 simp only [List.flatten_cons,List.flatten_nil,List.append_nil,aL,Rep] at hrep
 obtain ⟨x,xs,hcc,rfl,rfl⟩ := hrep
 have h0 : InvH P C M ⟨bx,eO e (fun _=>⟨none,0⟩) [] ob⟩ w := InvH.famNil e _ hi
 have hg0 : upd (fun _=>(⟨none,0⟩ : OwnRef)) 0 ⟨none,0⟩ = fun _=>⟨none,0⟩ := by funext t; rw [eP]; split <;> rfl
 have hrc : aL P M true (fW (upd (fun _=>(⟨none,0⟩ : OwnRef)) ([] : List (List (List PV))).length ⟨none,0⟩) ([] ++ [[]]) 1) cs.toList := by
  rw [lX,hcc]
  simp only [List.length_nil,kJ,List.mapIdx_nil,List.nil_append,aL]
  have e1 : dc (0 + 1) 1 = 1 := kd (Nat.le_refl _) (by unfold maxLen; omega)
  rw [e1]
  exact ⟨_,_,rfl,by simp [Rep,OwnRef.val],by simp [aL]⟩
 have h2 := h0.alloc_box t0 _ cs e' hrc
 have h1 := pW (b := w.heap.size) (c := 1) (t0 := t0) (gf := fun _=>(⟨none,0⟩ : OwnRef)) (rss := []) hT hei2 h2
 simp only [List.length_nil,hg0,List.nil_append] at h1
 exact hn _ (.val (iP w.heap.size 1 1)) _ M _ ⟨_,by simp [hdst,putD,hlt],h w.heap.size 1⟩ (Mem.le_refl M) h1 (by simp [Rep])
theorem sj {fn : Func} {R : PV → Heap → Prop} {ks : List KI} (d t0 : Nat) (hT : T.Ok P) {e e' b c m : Nat} {ei : TInfo} (hei : T.get e' = some ei) (hes : ei.size = 1) {gf : Nat → OwnRef} {rss : List (List (List PV))} {rows : List (List PV)} (hs : s d = .val (iP b m c)) (hm : m = rss.length)
  (hb : bx t0 = iC b gf rss c) (hby : rss.length * ei.bytes ≤ 2 ^ 47) (hmx : rss.length ≤ maxLen) (hrows : rows = rss.map fun rs=>[.list e rs]) (h : V P fn R ks ⟨n,upd s d (.list e' rows),upd bx t0 none,eO e gf [] ob⟩) : V P fn R ks ⟨n,s,bx,eO e gf rss ob⟩ := by
 subst hm
 subst hrows
 refine dN ?_ h
 intro C M a w hi
 obtain ⟨M',hle,hi',hr⟩ := hi.2.freezeFam hb hT hei hes hby hmx
 refine ⟨M',⟨hi.1.1,hi.1.2.1,fun t=>?_⟩,hi'⟩
 have := hi.1.2.2 t
 simp only at this
 simp only [eP]
 split
 ·rename_i e; subst e; rw [hs] at this; simp only [Rep] at this; rw [this]; exact hr
 ·exact Rep.mono hle this
end
def shlI (k : IntKind) (a b : Int) : Option Int := if 0 ≤ b then some (k.wrap (a * 2 ^ (min b.toNat k.bits))) else none
theorem shlI_some {k : IntKind} {a b x : Int} (h : shlI k a b = some x) : 0 ≤ b ∧ x = k.wrap (a * 2 ^ (min b.toNat k.bits)) := by
 unfold shlI at h
 split at h
 ·rename_i h0; exact ⟨h0,(Option.some.inj h).symm⟩
 ·cases h
def andI (k : IntKind) (a b : Int) : Int := k.wrap (BitVec.ofInt k.bits a &&& BitVec.ofInt k.bits b).toNat
def iD (k : IntKind) (a b : Int) : Int := k.wrap (BitVec.ofInt k.bits a ^^^ BitVec.ofInt k.bits b).toNat
section
variable {P : Program} {T : TT} {rb : RB} {ops : Array Oper} {rest : List Oper} {L : List Nat} {k : Nat} {o : Oper} {n : Nat} {s s' : Nat → PV} {bx : Nat → Option Box} {ob : Nat → Option Obj} {K : PState → Prop}
theorem nY {bop : BinOp} {t t' : TypeId} {x y : Operand} (ho : o.op = .binOp bop t x y t') {ev : Operand → PV} {H : Heap} {kk k2 : IntKind} {a b r : Int} (hx : ev x = .val (.int kk a)) (hy : ev y = .val (.int k2 b))
  (hq : (bop matches .eql | .neq) = false) (hr : ∀ w,(binOp bop t (.int kk a) (.int k2 b)).run P w = .ok (.int kk r) w) : DetS P o ev H (.val (.int kk r)) := by
 intro C M a' w hi he
 have hxr := he x (by rw [ho]; simp [Op.operands])
 have hyr := he y (by rw [ho]; simp [Op.operands])
 rw [hx] at hxr
 rw [hy] at hyr
 simp only [Rep] at hxr hyr
 refine ⟨.int kk r,?_,by simp only [Rep]⟩
 have h2 : (eqGuard bop t x y (.int kk a) (.int k2 b)).run P w = .ok () w := by
  cases bop <;> first | (exact absurd hq (by decide)) | simp [eqGuard]
 simp only [execOp,ho,hxr,hyr,Sem.run_bind,h2,Result.andThen_ok,hr w]
 rfl
theorem run_shl {t : TypeId} {kk k2 : IntKind} {a b r : Int} (h : shlI kk a b = some r) (w : World) : (binOp .shl t (.int kk a) (.int k2 b)).run P w = .ok (.int kk r) w := by
 obtain ⟨hb,rfl⟩ := shlI_some h
 have hb' : ¬ b < 0 := by omega
 simp only [binOp,Op.shift,zy hb']
 rfl
theorem run_shr {t : TypeId} {kk k2 : IntKind} {a b : Int} (hb : 0 ≤ b) {m : Nat} (hm : min b.toNat kk.bits = m) (w : World) : (binOp .shr t (.int kk a) (.int k2 b)).run P w = .ok (.int kk (a.fdiv (2 ^ m))) w := by
 subst hm
 have hb' : ¬ b < 0 := by omega
 simp only [binOp,Op.shift,zy hb']
 rfl
theorem run_xor {t : TypeId} {kk : IntKind} {a b : Int} (w : World) : (binOp .xor t (.int kk a) (.int kk b)).run P w = .ok (.int kk (iD kk a b)) w := by
 simp only [binOp,Op.intBits,ne_eq,not_true_eq_false,if_false]
 rfl
theorem run_and {t : TypeId} {kk : IntKind} {a b : Int} (w : World) : (binOp .and t (.int kk a) (.int kk b)).run P w = .ok (.int kk (andI kk a b)) w := by
 simp only [binOp,Op.intBits,ne_eq,not_true_eq_false,if_false]
 rfl
theorem Ao.shl (hg : bd ops s o = some true) {t t' : TypeId} {x y : Operand} (ho : o.op = .binOp .shl t x y t') {kk k2 : IntKind} {a b r : Int} (hx : evS s x = .val (.int kk a)) (hy : evS s y = .val (.int k2 b)) (hr : shlI kk a b = some r)
  (hp : putD n s o.dst (.val (.int kk r)) = some s') (h : Ao P ops rest ⟨n,s',bx,ob⟩ K) : Ao P ops (o :: rest) ⟨n,s,bx,ob⟩ K := nQ hg (nY ho hx hy rfl (run_shl hr)) hp h
theorem Ao.and (hg : bd ops s o = some true) {t t' : TypeId} {x y : Operand} (ho : o.op = .binOp .and t x y t') {kk : IntKind} {a b : Int} (hx : evS s x = .val (.int kk a)) (hy : evS s y = .val (.int kk b))
  (hp : putD n s o.dst (.val (.int kk (andI kk a b))) = some s') (h : Ao P ops rest ⟨n,s',bx,ob⟩ K) : Ao P ops (o :: rest) ⟨n,s,bx,ob⟩ K := nQ hg (nY ho hx hy rfl run_and) hp h
theorem sF (ho : ops[k]? = some o) (hg : bd ops s o = some true) {t t' : TypeId} {x y : Operand} (hop : o.op = .binOp .shl t x y t') {kk k2 : IntKind} {a b r : Int} (hx : evS s x = .val (.int kk a)) (hy : evS s y = .val (.int k2 b)) (hr : shlI kk a b = some r)
  (hp : putD n s o.dst (.val (.int kk r)) = some s') (h : Do P T rb ops L ⟨n,s',bx,ob⟩ K) : Do P T rb ops (k :: L) ⟨n,s,bx,ob⟩ K := mB ho hg (by rw [hop]; rfl) (fun _=>nY hop hx hy rfl (run_shl hr)) hp h
theorem Do.shr (ho : ops[k]? = some o) (hg : bd ops s o = some true) {t t' : TypeId} {x y : Operand} (hop : o.op = .binOp .shr t x y t') {kk k2 : IntKind} {a b : Int} (hx : evS s x = .val (.int kk a)) (hy : evS s y = .val (.int k2 b)) (hb : 0 ≤ b) {m : Nat} (hm : min b.toNat kk.bits = m)
  (hp : putD n s o.dst (.val (.int kk (a.fdiv (2 ^ m)))) = some s') (h : Do P T rb ops L ⟨n,s',bx,ob⟩ K) : Do P T rb ops (k :: L) ⟨n,s,bx,ob⟩ K := mB ho hg (by rw [hop]; rfl) (fun _=>nY hop hx hy rfl (run_shr hb hm)) hp h
theorem sf (ho : ops[k]? = some o) (hg : bd ops s o = some true) {t t' : TypeId} {x y : Operand} (hop : o.op = .binOp .xor t x y t') {kk : IntKind} {a b : Int} (hx : evS s x = .val (.int kk a)) (hy : evS s y = .val (.int kk b))
  (hp : putD n s o.dst (.val (.int kk (iD kk a b))) = some s') (h : Do P T rb ops L ⟨n,s',bx,ob⟩ K) : Do P T rb ops (k :: L) ⟨n,s,bx,ob⟩ K := mB ho hg (by rw [hop]; rfl) (fun _=>nY hop hx hy rfl run_xor) hp h
end
end
end Go.Ab

namespace Go.Proofs.YtgaggbdcedpapaaGreat
open Go.IntKind (i64)
noncomputable section
open Go Go.Ab
attribute [local irreducible] V Ao Do Gh Eff PH IntKind.wrap
set_option maxRecDepth 4000
def jo (rec76 : LQuery → Option ((List LQuery))) (q : LQuery) : Option ((List LQuery)) :=
 aj (ba (σ := List LQuery) (ρ := Empty) (fun (_ : Nat) (x1 : LQuery) (s1 : List LQuery) =>
  aj (rec76 x1) fun x17 =>
  aj (ee 160 s1 x17) fun (x18 : List LQuery) =>
  some (.next x18)) 0 q.inputs [q]) fun fl1=>fl1.thenP fun (s1 : List LQuery) =>
 some s1
theorem WO_query_Nodes {m : Nat} (rec76 : LQuery → Option ((List LQuery))) (hrec76 : ∀ m a0 r,rec76 a0 = some r → jE Tryz.prog 76 [(.agg (bD a0))] (ma m 35 (r.map aX))) (q : LQuery) (r : (List LQuery)) (H : jo rec76 q = some r) :
  jE Tryz.prog 76 [(.agg (bD q))] (ma m 35 (r.map aX)) := by
 unfold jo at H
 refine PH.aC Tryz.func76 Tryz.ntmps76 ?_
 refine ac (af (aT ?_))
 refine aq tk rfl (ag (ac (af (aq tk rfl ?_))))
 refine pr (rows' := List.map aX ([q] : List LQuery)) tk rfl rfl rfl rfl rfl rfl rfl (congrArg (List.map List.length) (qV cK ([q] : List LQuery))).symm rfl (iw.trans (b := (List.map bD ([q] : List LQuery)).flatten) (iw.refl _) (iw.of_eq (congrArg List.flatten (qV cK ([q] : List LQuery))))) fun g7=>?_
 refine aq tk rfl (ag (ac (ac (af (am 2 tk rfl (aN tk (zl _) ?_))))))
 refine aq tk rfl (ag ?_)
 obtain ⟨fl1,H1,Hp1⟩ := ax H
 refine bU tk 9 rfl rfl (fun hz1 _=>?_)
 rw [zl] at hz1
 refine aZ (τ := List LQuery) (γ := OwnRef) (fun s1 g1=>⟨21,upd (fun _=>.any) 3 (.own 7 g1 (s1.map aX).length),fun _=>none,upd (fun _=>none) 7 (some ⟨g1,35,(s1.map aX),true⟩)⟩) (fun t=>fl1 = .next t) ?_ (fun s1 g1 hn1=>?_)
 ·refine az ?_
  refine bF (fun j1 s1 g1=>⟨21,upd (upd (upd (upd (fun _=>.any) 11 (ae (j1 : Int))) 10 (ae (q.inputs.length : Int))) 9 (.list 35 (q.inputs.map aX))) 3 (.own 7 g1 (s1.map aX).length),fun _=>none,upd (fun _=>none) 7 (some ⟨g1,35,(s1.map aX),true⟩)⟩) g7 H1 (Gh.le (aa (aa (aa (aa ak)))) ah (aA ai)) (fun j1 s1 g1 hj1 hr1=>?_)
  refine aw 1 tk rfl (ac ?_)
  refine aY rfl (fun h=>?_) (fun h=>?_)
  ·have hl1 := cp h
   obtain ⟨x1,fb1,hx1,H,hg1⟩ := rMc hl1 hr1
   refine av (ac (az (ac (af (bt tk (zn j1) (bQ cK hx1) ?_)))))
   refine aq tk rfl ?_
   refine bv tk fun b5=>?_
   refine aD tk ?_
   refine ag (af (aq tk rfl (aM tk ?_)))
   obtain ⟨x17,h17,H⟩ := ax H
   have s17 := hrec76 17 x1 _ h17
   refine au Tryz.call76 (jc.r) (PFun.jI s17) ?_
   obtain ⟨x18,h18,H⟩ := ax H
   have k18 := dw h18
   refine dr (rows2' := List.map aX x17) (rows' := List.map aX x18) tk rfl rfl rfl rfl rfl rfl rfl rfl rfl rfl rfl rfl rfl (gk.refl _) (eK k18.1) (eN k18.2.1) (eR k18.2.2) fun g18=>?_
   refine aq tk rfl (ag (aQ (bh 2 tk rfl ?_)))
   obtain rfl := ao H
   refine aK x18 g18 ⟨hl1,hg1⟩ (Gh.le (aa (aa (aa (aI (PLe.q (aU (by omega))) ak)))) ah (aA ai))
  have hn1 := rMd (cq h) hr1
  refine aR rfl ?_
  refine aO s1 g1 hn1 (Gh.le (aa ak) ah (aA ai))
 have H := bq hn1 Hp1
 refine aw 2 tk rfl ?_
 obtain rfl := ao H
 refine kq tk rfl
def jq : Nat → LQuery → Option ((List LQuery))
 | 0,_=>none
 | n + 1,v0=>jo (fun b0=>jq n b0) v0
theorem WF_query_Nodes  (n : Nat) : (∀ m a0 r,jq n a0 = some r → jE Tryz.prog 76 [(.agg (bD a0))] (ma m 35 (r.map aX))) := by
 induction n with
 | zero=>exact (by intros; rename_i h; exact absurd (show (none : Option _) = some _ from h) (by simp))
 | succ n ih =>
  exact (fun m v0 r h=>WO_query_Nodes (m := m) (fun b0=>jq n b0) ih v0  r h)
def jn (q : LQuery) : Option ((List LQuery)) := iQ fun n=>jq n q
theorem qm {m : Nat} (q : LQuery) (r : (List LQuery)) (H : jn q = some r) :
  jE Tryz.prog 76 [(.agg (bD q))] (ma m 35 (r.map aX)) := by
 obtain ⟨n,h⟩ := jy H
 exact (WF_query_Nodes  n) m q r h
def jr (rec88 : LQuery → Option (Int)) (q : LQuery) : Option (Int) :=
 aj (ba (σ := Int) (ρ := Empty) (fun (_ : Nat) (x1 : LQuery) (s1 : Int) =>
  aj (rec88 x1) fun x15 =>
  some (.next (if x15 > s1 then x15 else s1))) 0 q.inputs 0) fun fl1=>fl1.thenP fun (s1 : Int) =>
 some (i64.wrap (s1 + (1 : Int)))
theorem WO_query_depth (rec88 : LQuery → Option (Int)) (hrec88 : ∀ a0 r,rec88 a0 = some r → aV Tryz.prog 88 [(.agg (bD a0))] (ae r)) (q : LQuery) (r : Int) (H : jr rec88 q = some r) :
  aV Tryz.prog 88 [(.agg (bD q))] (ae r) := by
 unfold jr at H
 refine PH.aC Tryz.func88 Tryz.ntmps88 ?_
 refine ac (af (aT ?_))
 refine aq tk rfl (ag (aw 1 tk rfl (ac (ac (af (am 2 tk rfl (aN tk (zl _) ?_)))))))
 refine aq tk rfl (ag ?_)
 obtain ⟨fl1,H1,Hp1⟩ := ax H
 refine bU tk 7 rfl rfl (fun hz1 _=>?_)
 rw [zl] at hz1
 refine aZ (τ := Int) (γ := Unit) (fun s1 g1=>⟨20,upd (fun _=>.any) 3 (ae s1),fun _=>none,fun _=>none⟩) (fun t=>fl1 = .next t) ?_ (fun s1 g1 hn1=>?_)
 ·refine az ?_
  refine bF (fun j1 s1 g1=>⟨20,upd (upd (upd (upd (fun _=>.any) 9 (ae (j1 : Int))) 8 (ae (q.inputs.length : Int))) 7 (.list 35 (q.inputs.map aX))) 3 (ae s1),fun _=>none,fun _=>none⟩) () H1 (Gh.le (aa (aa (aa (aa ak)))) ah ai) (fun j1 s1 g1 hj1 hr1=>?_)
  refine aw 1 tk rfl (ac ?_)
  refine aY rfl (fun h=>?_) (fun h=>?_)
  ·have hl1 := cp h
   obtain ⟨x1,fb1,hx1,H,hg1⟩ := rMc hl1 hr1
   refine av (ac (az (ac (af (bt tk (zn j1) (bQ cK hx1) ?_)))))
   refine aq tk rfl ?_
   refine bv tk fun b5=>?_
   refine aD tk ?_
   refine ag (af (aq tk rfl (aM tk ?_)))
   obtain ⟨x15,h15,H⟩ := ax H
   have s15 := hrec88 x1 _ h15
   refine au Tryz.call88 (jc.r) s15 ?_
   refine am 2 tk rfl (ag (aQ (bh 2 tk rfl ?_)))
   obtain rfl := ao H
   refine aK (if x15 > s1 then x15 else s1) () ⟨hl1,hg1⟩ (Gh.le (aa (aa (aa (aI (PLe.q (aU (by omega))) ak)))) ah ai)
  have hn1 := rMd (cq h) hr1
  refine aR rfl ?_
  refine aO s1 g1 hn1 (Gh.le (aa ak) ah ai)
 have H := bq hn1 Hp1
 refine aw 3 tk rfl ?_
 obtain rfl := ao H
 refine aB tk rfl (ps := [(ae (i64.wrap (s1 + (1 : Int))))]) ⟨_,_,rfl,rfl,rfl⟩ (PLe.q rfl)
def jt : Nat → LQuery → Option (Int)
 | 0,_=>none
 | n + 1,v0=>jr (fun b0=>jt n b0) v0
theorem WF_query_depth  (n : Nat) : (∀ a0 r,jt n a0 = some r → aV Tryz.prog 88 [(.agg (bD a0))] (ae r)) := by
 induction n with
 | zero=>exact (by intros; rename_i h; exact absurd (show (none : Option _) = some _ from h) (by simp))
 | succ n ih =>
  exact (fun v0 r h=>WO_query_depth (fun b0=>jt n b0) ih v0  r h)
def km (q : LQuery) : Option (Int) := iQ fun n=>jt n q
theorem W_query_depth (q : LQuery) (r : Int) (H : km q = some r) :
  aV Tryz.prog 88 [(.agg (bD q))] (ae r) := by
 obtain ⟨n,h⟩ := jy H
 exact (WF_query_depth  n) q r h
def jV (rec109 : LQuery → Option (Int × Int)) (q : LQuery) : Option (Int × Int) :=
 aj (ba (σ := Int × Int) (ρ := Empty) (fun (j1 : Nat) (x1 : LQuery) (s1 : Int × Int) =>
  aj (rec109 x1) fun x20 =>
  cond ((j1 : Int) == (0 : Int))
   (some (.next ((if (20001 : Int) < x20.1 then (20001 : Int) else x20.1),(if x20.2 > s1.2 then x20.2 else s1.2))))
   (cond (q.kind == (6 : Int))
    (some (.next ((if (20001 : Int) < (i64.wrap (s1.1 + x20.1)) then (20001 : Int) else (i64.wrap (s1.1 + x20.1))),(if x20.2 > s1.2 then x20.2 else s1.2))))
    (bo (
     cond (q.kind == (4 : Int))
      (true)
      ((q.kind == (5 : Int)))) fun (t4 : Bool) =>
    cond t4
     (some (.next ((if (20001 : Int) < (i64.wrap (s1.1 * (if x20.1 > (1 : Int) then x20.1 else (1 : Int)))) then (20001 : Int) else (i64.wrap (s1.1 * (if x20.1 > (1 : Int) then x20.1 else (1 : Int))))),(if x20.2 > s1.2 then x20.2 else s1.2))))
     (some (.next ((if (20001 : Int) < s1.1 then (20001 : Int) else s1.1),(if x20.2 > s1.2 then x20.2 else s1.2))))))) 0 q.inputs (0,0)) fun fl1=>fl1.thenP fun (s1 : Int × Int) =>
 cond (q.kind == (1 : Int))
  (some (24,(if (24 : Int) > s1.2 then (24 : Int) else s1.2)))
  (some (s1.1,(if s1.1 > s1.2 then s1.1 else s1.2)))
theorem WO_query_most (rec109 : LQuery → Option (Int × Int)) (hrec109 : ∀ a0 r,rec109 a0 = some r → aV Tryz.prog 109 [(.agg (bD a0))] (.tup [(ae r.1),(ae r.2)])) (q : LQuery) (r : Int × Int) (H : jV rec109 q = some r) :
  aV Tryz.prog 109 [(.agg (bD q))] (.tup [(ae r.1),(ae r.2)]) := by
 unfold jV at H
 refine PH.aC Tryz.func109 Tryz.ntmps109 ?_
 refine ac (af (aT ?_))
 refine am 2 tk rfl (ag (aw 2 tk rfl (ac (ac (af (am 2 tk rfl (aN tk (zl _) ?_)))))))
 refine aq tk rfl (ag ?_)
 obtain ⟨fl1,H1,Hp1⟩ := ax H
 refine bU tk 11 rfl rfl (fun hz1 _=>?_)
 rw [zl] at hz1
 refine aZ (τ := Int × Int) (γ := Unit) (fun s1 g1=>⟨60,upd (upd (upd (fun _=>.any) 5 (ae s1.2)) 4 (ae s1.1)) 1 (.ptr [(ae q.kind),(.str q.table),(.list 9 (q.names.map co)),(.list 56 (q.exprs.map bc)),(.list 66 (q.aggregates.map cl)),(.list 4 (q.descending.map cB)),(ae q.count),(ae q.offset),(.list 35 (q.inputs.map aX))]),fun _=>none,fun _=>none⟩) (fun t=>fl1 = .next t) ?_ (fun s1 g1 hn1=>?_)
 ·refine az ?_
  refine bF (fun j1 s1 g1=>⟨60,upd (upd (upd (upd (upd (upd (fun _=>.any) 13 (ae (j1 : Int))) 12 (ae (q.inputs.length : Int))) 11 (.list 35 (q.inputs.map aX))) 5 (ae s1.2)) 4 (ae s1.1)) 1 (.ptr [(ae q.kind),(.str q.table),(.list 9 (q.names.map co)),(.list 56 (q.exprs.map bc)),(.list 66 (q.aggregates.map cl)),(.list 4 (q.descending.map cB)),(ae q.count),(ae q.offset),(.list 35 (q.inputs.map aX))]),fun _=>none,fun _=>none⟩) () H1 (Gh.le (aa (aa (aa (aa (aa (aa ak)))))) ah ai) (fun j1 s1 g1 hj1 hr1=>?_)
  refine aw 1 tk rfl (ac ?_)
  refine aY rfl (fun h=>?_) (fun h=>?_)
  ·have hl1 := cp h
   obtain ⟨x1,fb1,hx1,H,hg1⟩ := rMc hl1 hr1
   refine av (ac (az (ac (af (aq tk rfl (bt tk (zn j1) (bQ cK hx1) ?_))))))
   refine aq tk rfl ?_
   refine bv tk fun b7=>?_
   refine aq tk rfl (aD tk ?_)
   refine ag (ac (af (aM tk ?_)))
   obtain ⟨x20,h20,H⟩ := ax H
   have s20 := hrec109 x1 _ h20
   refine au Tryz.call109 (jc.r) s20 ?_
   refine am 5 tk rfl (ag (aw 4 tk rfl (ac (az (aw 3 tk rfl ?_)))))
   refine aP rfl H (fun H=>?_) (fun H=>?_)
   ·refine bh 2 tk rfl (aQ (bh 3 tk rfl (aQ (bh 2 tk rfl ?_))))
    obtain rfl := ao H
    refine aK ((if (20001 : Int) < x20.1 then (20001 : Int) else x20.1),(if x20.2 > s1.2 then x20.2 else s1.2)) () ⟨hl1,hg1⟩ (Gh.le (aa (aa (aa (aa (aa (aI (PLe.q (aU (by omega))) ak)))))) ah ai)
   refine aw 4 tk rfl ?_
   refine aP rfl H (fun H=>?_) (fun H=>?_)
   ·refine bh 4 tk rfl (aQ (bh 3 tk rfl (aQ (bh 2 tk rfl ?_))))
    obtain rfl := ao H
    refine aK ((if (20001 : Int) < (i64.wrap (s1.1 + x20.1)) then (20001 : Int) else (i64.wrap (s1.1 + x20.1))),(if x20.2 > s1.2 then x20.2 else s1.2)) () ⟨hl1,hg1⟩ (Gh.le (aa (aa (aa (aa (aa (aI (PLe.q (aU (by omega))) ak)))))) ah ai)
   refine ac ?_
   obtain ⟨fl4,H4,Hp4⟩ := bK H
   refine aZ (τ := Bool) (γ := Unit) (fun t4 g4=>⟨60,upd (upd (upd (upd (upd (upd (upd (upd (fun _=>.any) 37 (aE t4)) 13 (ae (j1 : Int))) 12 (ae (q.inputs.length : Int))) 11 (.list 35 (q.inputs.map aX))) 8 (ae x20.1)) 5 (ae (if x20.2 > s1.2 then x20.2 else s1.2))) 4 (ae s1.1)) 1 (.ptr [(ae q.kind),(.str q.table),(.list 9 (q.names.map co)),(.list 56 (q.exprs.map bc)),(.list 66 (q.aggregates.map cl)),(.list 4 (q.descending.map cB)),(ae q.count),(ae q.offset),(.list 35 (q.inputs.map aX))]),fun _=>none,fun _=>none⟩) (fun t=>t = fl4) ?_ (fun t4 g4 hn4=>?_)
   ·have H := H4
    refine af (am 4 tk rfl ?_)
    refine bG rfl rfl rfl H (fun H=>?_) (fun H=>?_)
    ·refine am 5 tk rfl (ag ?_)
     subst H
     refine aO true () rfl (Gh.le (aa (aa (aa (aa (aa (aa (aa (aa ak)))))))) ah ai)
    refine am 5 tk rfl (ag ?_)
    subst H
    refine aO (q.kind == (5 : Int)) () rfl (Gh.le (aa (aa (aa (aa (aa (aa (aa (aa ak)))))))) ah ai)
   subst hn4
   have H := Hp4
   refine aP rfl H (fun H=>?_) (fun H=>?_)
   ·refine bh 5 tk rfl (aQ (bh 3 tk rfl (aQ (bh 2 tk rfl ?_))))
    obtain rfl := ao H
    refine aK ((if (20001 : Int) < (i64.wrap (s1.1 * (if x20.1 > (1 : Int) then x20.1 else (1 : Int)))) then (20001 : Int) else (i64.wrap (s1.1 * (if x20.1 > (1 : Int) then x20.1 else (1 : Int))))),(if x20.2 > s1.2 then x20.2 else s1.2)) () ⟨hl1,hg1⟩ (Gh.le (aa (aa (aa (aa (aa (aI (PLe.q (aU (by omega))) ak)))))) ah ai)
   refine av (aQ (bh 3 tk rfl (aQ (bh 2 tk rfl ?_))))
   obtain rfl := ao H
   refine aK ((if (20001 : Int) < s1.1 then (20001 : Int) else s1.1),(if x20.2 > s1.2 then x20.2 else s1.2)) () ⟨hl1,hg1⟩ (Gh.le (aa (aa (aa (aa (aa (aI (PLe.q (aU (by omega))) ak)))))) ah ai)
  have hn1 := rMd (cq h) hr1
  refine aR rfl ?_
  refine aO s1 g1 hn1 (Gh.le (aa (aa (aa ak))) ah ai)
 have H := bq hn1 Hp1
 refine ac (aw 3 tk rfl ?_)
 refine aP rfl H (fun H=>?_) (fun H=>?_)
 ·refine bh 1 tk rfl (aw 6 tk rfl ?_)
  obtain rfl := ao H
  refine aB tk rfl (ps := [(ae 24),(ae (if (24 : Int) > s1.2 then (24 : Int) else s1.2))]) ⟨_,_,rfl,rfl,_,_,rfl,rfl,rfl⟩ (PLe.q rfl)
 refine av (aw 6 tk rfl ?_)
 obtain rfl := ao H
 refine aB tk rfl (ps := [(ae s1.1),(ae (if s1.1 > s1.2 then s1.1 else s1.2))]) ⟨_,_,rfl,rfl,_,_,rfl,rfl,rfl⟩ (PLe.q rfl)
def jS : Nat → LQuery → Option (Int × Int)
 | 0,_=>none
 | n + 1,v0=>jV (fun b0=>jS n b0) v0
theorem WF_query_most  (n : Nat) : (∀ a0 r,jS n a0 = some r → aV Tryz.prog 109 [(.agg (bD a0))] (.tup [(ae r.1),(ae r.2)])) := by
 induction n with
 | zero=>exact (by intros; rename_i h; exact absurd (show (none : Option _) = some _ from h) (by simp))
 | succ n ih =>
  exact (fun v0 r h=>WO_query_most (fun b0=>jS n b0) ih v0  r h)
def mc (q : LQuery) : Option (Int × Int) := iQ fun n=>jS n q
theorem W_query_most (q : LQuery) (r : Int × Int) (H : mc q = some r) :
  aV Tryz.prog 109 [(.agg (bD q))] (.tup [(ae r.1),(ae r.2)]) := by
 obtain ⟨n,h⟩ := jy H
 exact (WF_query_most  n) q r h
def gS (rec108 : LExpr → (List Int) → Bool → (List Bool) → Option ((List Int) × Bool × (List Bool))) (e : LExpr) (c0 : List Int) (c1 : Bool) (c2 : List Bool) : Option ((List Int) × Bool × (List Bool)) :=
 bo (
  cond (e.kind == (3 : Int))
   (cond (decide (e.index ≥ (0 : Int)))
    ((decide (e.index < (8 : Int))))
    (false))
   (false)) fun (t1 : Bool) =>
 aj (
  cond t1
   (aj (whileM (σ := List Int) (ρ := Empty) (fun (s7 : List Int) =>
    cond (decide ((s7.length : Int) ≤ e.index))
     (aj (ee 8 s7 ([0] : List Int)) fun (x28 : List Int) =>
     some (.next x28))
     (some (.brk s7))) c0) fun fl7=>fl7.thenP fun (s7 : List Int) =>
   aj (
    cond c1
     (some true)
     (aj (arrI 8 c2 e.index) fun (x33 : Bool) =>
     cond x33
      (aj (aF s7 e.index) fun (x39 : Int) =>
      some (x39 != e.value.kind))
      (some false))) fun (t8 : Bool) =>
   aj (aF s7 e.index) fun (_ : Int) =>
   bo (s7.set e.index.toNat e.value.kind) fun (y9 : List Int) =>
   aj (arrI 8 c2 e.index) fun (_ : Bool) =>
   bo (c2.set e.index.toNat true) fun (y10 : List Bool) =>
   some (y9,t8,y10))
   (some (c0,c1,c2))) fun (t6 : List Int × Bool × List Bool) =>
 aj (ba (σ := List Int × Bool × List Bool) (ρ := Empty) (fun (_ : Nat) (x11 : LExpr) (s11 : List Int × Bool × List Bool) =>
  aj (rec108 x11 s11.1 s11.2.1 s11.2.2) fun x66 =>
  some (.next (x66.1,x66.2.1,x66.2.2))) 0 e.args (t6.1,t6.2.1,t6.2.2)) fun fl11=>fl11.thenP fun (s11 : List Int × Bool × List Bool) =>
 some (s11.1,s11.2.1,s11.2.2)
theorem nE (b_c0 : Nat) (g_c0 : OwnRef) (b_c1 : Nat) (b_c2 : Nat) (b_c3 : Nat) (rec108 : LExpr → (List Int) → Bool → (List Bool) → Option ((List Int) × Bool × (List Bool))) (hrec108 : ∀ bq0 gq0 bq1 bq2 bq3 a0 a1 a2 a3 r,rec108 a0 a1 a2 a3 = some r → PH Tryz.prog 108 [(.agg (mm a0)),(.box 1000 bq0 0),(.box 1001 bq1 0),(.box 1002 bq2 0),(.box 1003 bq3 0)] ⟨upd (upd (upd (upd (fun _=>none) 1003 (some ⟨bq3,[(.fn 108 [(.box 1000 bq0 0),(.box 1001 bq1 0),(.box 1002 bq2 0),(.box 1003 bq3 0)])]⟩)) 1002 (some ⟨bq2,(List.map aE a3)⟩)) 1001 (some ⟨bq1,[(aE a2)]⟩)) 1000 (some ⟨bq0,[(.own 1100 gq0 (a1.map bJ).length)]⟩),upd (fun _=>none) 1100 (some ⟨gq0,3,(a1.map bJ),true⟩)⟩ (fun u H=>∃ gz0,u = (.tup []) ∧ H = ⟨upd (upd (upd (upd (fun _=>none) 1003 (some ⟨bq3,[(.fn 108 [(.box 1000 bq0 0),(.box 1001 bq1 0),(.box 1002 bq2 0),(.box 1003 bq3 0)])]⟩)) 1002 (some ⟨bq2,(List.map aE r.2.2)⟩)) 1001 (some ⟨bq1,[(aE r.2.1)]⟩)) 1000 (some ⟨bq0,[(.own 1100 gz0 (r.1.map bJ).length)]⟩),upd (fun _=>none) 1100 (some ⟨gz0,3,(r.1.map bJ),true⟩)⟩)) (e : LExpr) (c0 : List Int) (c1 : Bool) (c2 : List Bool) (r : (List Int) × Bool × (List Bool)) (H : gS rec108 e c0 c1 c2 = some r) :
  PH Tryz.prog 108 [(.agg (mm e)),(.box 1000 b_c0 0),(.box 1001 b_c1 0),(.box 1002 b_c2 0),(.box 1003 b_c3 0)] ⟨upd (upd (upd (upd (fun _=>none) 1003 (some ⟨b_c3,[(.fn 108 [(.box 1000 b_c0 0),(.box 1001 b_c1 0),(.box 1002 b_c2 0),(.box 1003 b_c3 0)])]⟩)) 1002 (some ⟨b_c2,(List.map aE c2)⟩)) 1001 (some ⟨b_c1,[(aE c1)]⟩)) 1000 (some ⟨b_c0,[(.own 1100 g_c0 (c0.map bJ).length)]⟩),upd (fun _=>none) 1100 (some ⟨g_c0,3,(c0.map bJ),true⟩)⟩ (fun u H=>∃ gz0,u = (.tup []) ∧ H = ⟨upd (upd (upd (upd (fun _=>none) 1003 (some ⟨b_c3,[(.fn 108 [(.box 1000 b_c0 0),(.box 1001 b_c1 0),(.box 1002 b_c2 0),(.box 1003 b_c3 0)])]⟩)) 1002 (some ⟨b_c2,(List.map aE r.2.2)⟩)) 1001 (some ⟨b_c1,[(aE r.2.1)]⟩)) 1000 (some ⟨b_c0,[(.own 1100 gz0 (r.1.map bJ).length)]⟩),upd (fun _=>none) 1100 (some ⟨gz0,3,(r.1.map bJ),true⟩)⟩) := by
 unfold gS at H
 refine PH.aC Tryz.func108 Tryz.ntmps108 ?_
 refine ac (af (aT ?_))
 refine ag (ac (ac ?_))
 obtain ⟨fl1,H1,Hp1⟩ := bK H
 refine aZ (τ := Bool) (γ := Unit) (fun t1 g1=>⟨68,upd (upd (upd (upd (upd (upd (fun _=>.any) 20 (aE t1)) 5 (.ptr [(ae e.kind),(.str e.name),(ae e.index),(ae e.value.kind),(ae e.value.int),(.str e.value.text),(.list 56 (e.args.map bc))])) 4 (.box 1003 b_c3 0)) 3 (.box 1002 b_c2 0)) 2 (.box 1001 b_c1 0)) 1 (.box 1000 b_c0 0),upd (upd (upd (upd (fun _=>none) 1003 (some ⟨b_c3,[(.fn 108 [(.box 1000 b_c0 0),(.box 1001 b_c1 0),(.box 1002 b_c2 0),(.box 1003 b_c3 0)])]⟩)) 1002 (some ⟨b_c2,(List.map aE c2)⟩)) 1001 (some ⟨b_c1,[(aE c1)]⟩)) 1000 (some ⟨b_c0,[(.own 1100 g_c0 (c0.map bJ).length)]⟩),upd (fun _=>none) 1100 (some ⟨g_c0,3,(c0.map bJ),true⟩)⟩) (fun t=>t = fl1) ?_ (fun t1 g1 hn1=>?_)
 ·have H := H1
  refine af (am 4 tk rfl ?_)
  refine bG rfl rfl rfl H (fun H=>?_) (fun H=>?_)
  ·refine am 5 tk rfl ?_
   refine bG rfl rfl rfl H (fun H=>?_) (fun H=>?_)
   ·refine am 4 tk rfl (ag ?_)
    subst H
    refine aO (decide (e.index < (8 : Int))) () rfl (Gh.le (aa (aa (aa (aa (aa (aa ak)))))) (ay rfl (jc.r) (ay rfl (jc.r) (ay rfl (jc.r) (ay rfl (jc.r) ah)))) (aA ai))
   refine am 4 tk rfl (ag ?_)
   subst H
   refine aO false () rfl (Gh.le (aa (aa (aa (aa (aa (aa ak)))))) (ay rfl (jc.r) (ay rfl (jc.r) (ay rfl (jc.r) (ay rfl (jc.r) ah)))) (aA ai))
  refine am 9 tk rfl (ag ?_)
  subst H
  refine aO false () rfl (Gh.le (aa (aa (aa (aa (aa (aa ak)))))) (ay rfl (jc.r) (ay rfl (jc.r) (ay rfl (jc.r) (ay rfl (jc.r) ah)))) (aA ai))
 subst hn1
 have H := Hp1
 obtain ⟨fl6,H6,Hp6⟩ := ax H
 refine aZ (τ := List Int × Bool × List Bool) (γ := OwnRef) (fun t6 g6=>⟨68,upd (upd (upd (upd (upd (fun _=>.any) 5 (.ptr [(ae e.kind),(.str e.name),(ae e.index),(ae e.value.kind),(ae e.value.int),(.str e.value.text),(.list 56 (e.args.map bc))])) 4 (.box 1003 b_c3 0)) 3 (.box 1002 b_c2 0)) 2 (.box 1001 b_c1 0)) 1 (.box 1000 b_c0 0),upd (upd (upd (upd (fun _=>none) 1003 (some ⟨b_c3,[(.fn 108 [(.box 1000 b_c0 0),(.box 1001 b_c1 0),(.box 1002 b_c2 0),(.box 1003 b_c3 0)])]⟩)) 1002 (some ⟨b_c2,(List.map aE t6.2.2)⟩)) 1001 (some ⟨b_c1,[(aE t6.2.1)]⟩)) 1000 (some ⟨b_c0,[(.own 1100 g6 (t6.1.map bJ).length)]⟩),upd (fun _=>none) 1100 (some ⟨g6,3,(t6.1.map bJ),true⟩)⟩) (fun t=>t = fl6) ?_ (fun t6 g6 hn6=>?_)
 ·have H := H6
  refine aP rfl H (fun H=>?_) (fun H=>?_)
  ·refine ac ?_
   obtain ⟨fl7,H7,Hp7⟩ := ax H
   refine aZ (τ := List Int) (γ := OwnRef) (fun s7 g7=>⟨68,upd (upd (upd (upd (upd (fun _=>.any) 5 (.ptr [(ae e.kind),(.str e.name),(ae e.index),(ae e.value.kind),(ae e.value.int),(.str e.value.text),(.list 56 (e.args.map bc))])) 4 (.box 1003 b_c3 0)) 3 (.box 1002 b_c2 0)) 2 (.box 1001 b_c1 0)) 1 (.box 1000 b_c0 0),upd (upd (upd (upd (fun _=>none) 1003 (some ⟨b_c3,[(.fn 108 [(.box 1000 b_c0 0),(.box 1001 b_c1 0),(.box 1002 b_c2 0),(.box 1003 b_c3 0)])]⟩)) 1002 (some ⟨b_c2,(List.map aE c2)⟩)) 1001 (some ⟨b_c1,[(aE c1)]⟩)) 1000 (some ⟨b_c0,[(.own 1100 g7 (s7.map bJ).length)]⟩),upd (fun _=>none) 1100 (some ⟨g7,3,(s7.map bJ),true⟩)⟩) (fun t=>fl7 = .next t) ?_ (fun s7 g7 hn7=>?_)
   ·refine az ?_
    refine cP (fun s7 g7=>⟨68,upd (upd (upd (upd (upd (fun _=>.any) 5 (.ptr [(ae e.kind),(.str e.name),(ae e.index),(ae e.value.kind),(ae e.value.int),(.str e.value.text),(.list 56 (e.args.map bc))])) 4 (.box 1003 b_c3 0)) 3 (.box 1002 b_c2 0)) 2 (.box 1001 b_c1 0)) 1 (.box 1000 b_c0 0),upd (upd (upd (upd (fun _=>none) 1003 (some ⟨b_c3,[(.fn 108 [(.box 1000 b_c0 0),(.box 1001 b_c1 0),(.box 1002 b_c2 0),(.box 1003 b_c3 0)])]⟩)) 1002 (some ⟨b_c2,(List.map aE c2)⟩)) 1001 (some ⟨b_c1,[(aE c1)]⟩)) 1000 (some ⟨b_c0,[(.own 1100 g7 (s7.map bJ).length)]⟩),upd (fun _=>none) 1100 (some ⟨g7,3,(s7.map bJ),true⟩)⟩) g_c0 H7 (Gh.le (aa (aa (aa (aa (aa ak))))) (ay rfl (jc.r) (ay rfl (jc.r) (ay rfl (jc.r) (ay rfl (jc.r) ah)))) (aA ai)) (fun m7 s7 g7 hr7=>?_)
    obtain ⟨fb7,H,hg7⟩ := cn hr7
    refine ac (ac (af (aM tk ?_)))
    refine jG tk (zl _) ?_
    refine am 3 tk rfl (ag ?_)
    refine aP rfl H (fun H=>?_) (fun H=>?_)
    ·refine av (az (af (aM tk ?_)))
     refine cO tk (rows' := List.map bJ ([0] : List Int)) (gk.refl _) ?_
     obtain ⟨x28,h28,H⟩ := ax H
     have k28 := dw h28
     refine dr (rows2' := List.map bJ ([0] : List Int)) (rows' := List.map bJ x28) tk rfl rfl rfl rfl rfl rfl rfl rfl rfl rfl rfl rfl rfl (gk.refl _) (eK k28.1) (eN k28.2.1) (eR k28.2.2) fun g28=>?_
     refine aD tk ?_
     refine ag (aQ ?_)
     obtain rfl := ao H
     refine aK x28 g28 hg7 (Gh.le (aa (aa (aa (aa (aa ak))))) (ay rfl (jc.r) (ay rfl (jc.r) (ay rfl (jc.r) (ay rfl (jc.r) ah)))) (aA ai))
    refine aR rfl ?_
    obtain rfl := ao H
    refine aO s7 g7 hg7 (Gh.le (aa (aa (aa (aa (aa ak))))) (ay rfl (jc.r) (ay rfl (jc.r) (ay rfl (jc.r) (ay rfl (jc.r) ah)))) (aA ai))
   have H := bq hn7 Hp7
   refine ac ?_
   obtain ⟨fl8,H8,Hp8⟩ := ax H
   refine aZ (τ := Bool) (γ := Unit) (fun t8 g8=>⟨68,upd (upd (upd (upd (upd (fun _=>.any) 5 (.ptr [(ae e.kind),(.str e.name),(ae e.index),(ae e.value.kind),(ae e.value.int),(.str e.value.text),(.list 56 (e.args.map bc))])) 4 (.box 1003 b_c3 0)) 3 (.box 1002 b_c2 0)) 2 (.box 1001 b_c1 0)) 1 (.box 1000 b_c0 0),upd (upd (upd (upd (fun _=>none) 1003 (some ⟨b_c3,[(.fn 108 [(.box 1000 b_c0 0),(.box 1001 b_c1 0),(.box 1002 b_c2 0),(.box 1003 b_c3 0)])]⟩)) 1002 (some ⟨b_c2,(List.map aE c2)⟩)) 1001 (some ⟨b_c1,[(aE t8)]⟩)) 1000 (some ⟨b_c0,[(.own 1100 g7 (s7.map bJ).length)]⟩),upd (fun _=>none) 1100 (some ⟨g7,3,(s7.map bJ),true⟩)⟩) (fun t=>t = fl8) ?_ (fun t8 g8 hn8=>?_)
   ·have H := H8
    refine cZ (tag := 1100) rfl (fun ho1100=>?_)
    refine bl tk mok ⟨true,true,[32,38,43]⟩ [0,1,2,3,4,5,6,7,8,9,10,11,12,13,14,15,16,17,18] rfl (by decide +kernel) rfl (cM ?_)
    refine cC rfl ?_
    refine im H (fun H=>?_) (fun H=>?_)
    ·refine aJ 16 rfl (dK ?_)
     refine be ?_
     obtain rfl := ao H
     refine aO true () rfl (Gh.le (aa (aa (aa (aa (aa ak))))) (ay rfl (jc.r) (ay rfl (jc.r) (ay rfl (jc.r) (ay rfl (jc.r) ah)))) (aA ai))
    refine aJ 2 rfl ?_
    obtain ⟨x33,h33,H⟩ := ax H
    have k33 := arrI_some h33
    refine sn rfl rfl rfl rfl rfl rfl rfl rfl rfl k33.1 rfl ?_
    refine sM rfl rfl rfl rfl rfl rfl rfl rfl (by rw [List.getElem?_map,k33.2]; rfl) rfl ?_
    refine cC rfl ?_
    refine im H (fun H=>?_) (fun H=>?_)
    ·refine cM ?_
     refine aJ 2 rfl ?_
     obtain ⟨x39,k39,H⟩ := aW H
     refine aS tk ⟨k39.1,(bm k39.2)⟩ (bn ho1100 k39.2) ?_
     refine bf tk (aH (fun _=>rfl) k39.2) ?_
     refine aJ 6 rfl (dK ?_)
     refine be ?_
     obtain rfl := ao H
     refine aO (x39 != e.value.kind) () rfl (Gh.le (aa (aa (aa (aa (aa ak))))) (ay rfl (jc.r) (ay rfl (jc.r) (ay rfl (jc.r) (ay rfl (jc.r) ah)))) (aA ai))
    refine aJ 11 rfl (dK ?_)
    refine be ?_
    obtain rfl := ao H
    refine aO false () rfl (Gh.le (aa (aa (aa (aa (aa ak))))) (ay rfl (jc.r) (ay rfl (jc.r) (ay rfl (jc.r) (ay rfl (jc.r) ah)))) (aA ai))
   subst hn8
   have H := Hp8
   refine cZ (tag := 1100) rfl (fun ho1100=>?_)
   refine bl tk mok ⟨true,false,[49,51,54]⟩ [0,1,2,3,4,5,6,7,8,9,10,11] rfl (by decide +kernel) rfl (cM ?_)
   refine aJ 7 rfl ?_
   obtain ⟨x55,k55,H⟩ := aW H
   refine aS tk ⟨k55.1,(bm k55.2)⟩ (bn ho1100 k55.2) ?_
   obtain ⟨y9,hy9,H⟩ := bK H
   refine cj tk rfl rfl rfl rfl rfl rfl rfl rfl rfl (by rw [zl]; exact (zg.1 k55.2).1) (PLe.refl _ _) rfl rfl rfl rfl (by decide) (bM (fun _=>rfl) k55.2 rfl hy9) ?_
   obtain ⟨x56,h56,H⟩ := ax H
   have k56 := arrI_some h56
   refine sn rfl rfl rfl rfl rfl rfl rfl rfl rfl k56.1 rfl ?_
   obtain ⟨y10,hy10,H⟩ := bK H
   refine sz rfl rfl rfl rfl rfl rfl rfl rfl rfl rfl (by rw [zl]; exact (zg.1 k56.2).1) (splice_map aE _ _ _ (zg.1 k56.2).1 hy10) ?_
   refine be ?_
   obtain rfl := ao H
   refine aO (y9,t8,y10) g7 rfl (Gh.le (aa (aa (aa (aa (aa ak))))) (ay rfl (jc.of2 (iw.cons (np.of_eq (congrArg (PV.own 1100 g7) (br (f := bJ) hy9))) iw.nil)) (ay rfl (jc.r) (ay rfl (jc.r) (ay rfl (jc.r) ah)))) (aA ai))
  refine av ?_
  obtain rfl := ao H
  refine aO (c0,c1,c2) g_c0 rfl (Gh.le (aa (aa (aa (aa (aa ak))))) (ay rfl (jc.r) (ay rfl (jc.r) (ay rfl (jc.r) (ay rfl (jc.r) ah)))) (aA ai))
 subst hn6
 have H := Hp6
 refine ac (af (am 2 tk rfl (aN tk (zl _) ?_)))
 refine aq tk rfl (ag ?_)
 obtain ⟨fl11,H11,Hp11⟩ := ax H
 refine bU tk 58 rfl rfl (fun hz11 _=>?_)
 rw [zl] at hz11
 refine aZ (τ := List Int × Bool × List Bool) (γ := OwnRef) (fun s11 g11=>⟨68,upd (upd (upd (upd (fun _=>.any) 4 (.box 1003 b_c3 0)) 3 (.box 1002 b_c2 0)) 2 (.box 1001 b_c1 0)) 1 (.box 1000 b_c0 0),upd (upd (upd (upd (fun _=>none) 1003 (some ⟨b_c3,[(.fn 108 [(.box 1000 b_c0 0),(.box 1001 b_c1 0),(.box 1002 b_c2 0),(.box 1003 b_c3 0)])]⟩)) 1002 (some ⟨b_c2,(List.map aE s11.2.2)⟩)) 1001 (some ⟨b_c1,[(aE s11.2.1)]⟩)) 1000 (some ⟨b_c0,[(.own 1100 g11 (s11.1.map bJ).length)]⟩),upd (fun _=>none) 1100 (some ⟨g11,3,(s11.1.map bJ),true⟩)⟩) (fun t=>fl11 = .next t) ?_ (fun s11 g11 hn11=>?_)
 ·refine az ?_
  refine bF (fun j11 s11 g11=>⟨68,upd (upd (upd (upd (upd (upd (upd (fun _=>.any) 60 (ae (j11 : Int))) 59 (ae (e.args.length : Int))) 58 (.list 56 (e.args.map bc))) 4 (.box 1003 b_c3 0)) 3 (.box 1002 b_c2 0)) 2 (.box 1001 b_c1 0)) 1 (.box 1000 b_c0 0),upd (upd (upd (upd (fun _=>none) 1003 (some ⟨b_c3,[(.fn 108 [(.box 1000 b_c0 0),(.box 1001 b_c1 0),(.box 1002 b_c2 0),(.box 1003 b_c3 0)])]⟩)) 1002 (some ⟨b_c2,(List.map aE s11.2.2)⟩)) 1001 (some ⟨b_c1,[(aE s11.2.1)]⟩)) 1000 (some ⟨b_c0,[(.own 1100 g11 (s11.1.map bJ).length)]⟩),upd (fun _=>none) 1100 (some ⟨g11,3,(s11.1.map bJ),true⟩)⟩) g6 H11 (Gh.le (aa (aa (aa (aa (aa (aa (aa ak))))))) (ay rfl (jc.r) (ay rfl (jc.r) (ay rfl (jc.r) (ay rfl (jc.r) ah)))) (aA ai)) (fun j11 s11 g11 hj11 hr11=>?_)
  refine aw 1 tk rfl (ac ?_)
  refine aY rfl (fun h=>?_) (fun h=>?_)
  ·have hl11 := cp h
   obtain ⟨x11,fb11,hx11,H,hg11⟩ := rMc hl11 hr11
   refine av (ac (az (ac (af (bt tk (zn j11) (bQ eF hx11) ?_)))))
   refine aq tk rfl ?_
   refine bv tk fun b7=>?_
   refine aD tk ?_
   refine ag (af (aM tk ?_))
   refine aM tk ?_
   obtain ⟨x66,h66,H⟩ := ax H
   have s66 := hrec108 b_c0 g11 b_c1 b_c2 b_c3 x11 s11.1 s11.2.1 s11.2.2 _ h66
   refine cA (st' := ⟨_,_,upd (upd (upd (upd (upd (fun _=>none) 1003 (some ⟨b_c3,[(.fn 108 [(.box 1000 b_c0 0),(.box 1001 b_c1 0),(.box 1002 b_c2 0),(.box 1003 b_c3 0)])]⟩)) 1002 (some ⟨b_c2,(List.map aE s11.2.2)⟩)) 1001 (some ⟨b_c1,[(aE s11.2.1)]⟩)) 1000 (some ⟨b_c0,[(.own 1100 g11 (s11.1.map bJ).length)]⟩)) 7 (some ⟨b7,[(ae x11.kind),(.str x11.name),(ae x11.index),(ae x11.value.kind),(ae x11.value.int),(.str x11.value.text),(.list 56 (x11.args.map bc))]⟩),upd (fun _=>none) 1100 (some ⟨g11,3,(s11.1.map bJ),true⟩)⟩) (Gh.le (bO _ _) (ay rfl (jc.r) (ay rfl (jc.of2 (iw.cons (np.own rfl) iw.nil)) (ay rfl (jc.r) (ay rfl (jc.r) (ay rfl (jc.of2 (iw.cons (np.fn (iw.cons np.boxT (iw.cons np.boxT (iw.cons np.boxT (iw.cons np.boxT iw.nil))))) iw.nil)) ah))))) (aA ai)) ?_
   refine cf (g := 108) rfl rfl rfl Tryz.call108 [(1000,1000),(1001,1001),(1002,1002),(1003,1003)] [(1100,1100)] rfl rfl rfl rfl (jc.of2 (iw.cons (np.of_eq rfl) (iw.cons np.boxT (iw.cons np.boxT (iw.cons np.boxT (iw.cons np.boxT iw.nil)))))) (by rw [dE,dE,dE,dE,bR,bL,bS]; rfl) s66 ?_
   rintro u66 H66h ⟨gz66_0,rfl,rfl⟩
   refine ⟨_,rfl,?_⟩
   refine cA (st' := ⟨_,_,upd (upd (upd (upd (upd (fun _=>none) 1003 (some ⟨b_c3,[(.fn 108 [(.box 1000 b_c0 0),(.box 1001 b_c1 0),(.box 1002 b_c2 0),(.box 1003 b_c3 0)])]⟩)) 1002 (some ⟨b_c2,(List.map aE x66.2.2)⟩)) 1001 (some ⟨b_c1,[(aE x66.2.1)]⟩)) 1000 (some ⟨b_c0,[(.own 1100 gz66_0 (x66.1.map bJ).length)]⟩)) 7 (some ⟨b7,[(ae x11.kind),(.str x11.name),(ae x11.index),(ae x11.value.kind),(ae x11.value.int),(.str x11.value.text),(.list 56 (x11.args.map bc))]⟩),upd (fun _=>none) 1100 (some ⟨gz66_0,3,(x66.1.map bJ),true⟩)⟩) (Gh.le (bO _ _) (ay rfl (jc.r) (ay rfl (jc.of2 (iw.cons (np.own rfl) iw.nil)) (ay rfl (jc.r) (ay rfl (jc.r) (ay rfl (jc.of2 (iw.cons (np.fn (iw.cons np.boxT (iw.cons np.boxT (iw.cons np.boxT (iw.cons np.boxT iw.nil))))) iw.nil)) ah))))) (aA ai)) ?_
   refine ag (aQ (bh 2 tk rfl ?_))
   obtain rfl := ao H
   refine aK (x66.1,x66.2.1,x66.2.2) gz66_0 ⟨hl11,hg11⟩ (Gh.le (aa (aa (aa (aa (aa (aa (aI (PLe.q (aU (by omega))) ak))))))) (ay rfl (jc.r) (ay rfl (jc.r) (ay rfl (jc.r) (ay rfl (jc.r) ah)))) (aA ai))
  have hn11 := rMd (cq h) hr11
  refine aR rfl ?_
  refine aO s11 g11 hn11 (Gh.le (aa (aa (aa (aa ak)))) (ay rfl (jc.r) (ay rfl (jc.r) (ay rfl (jc.r) (ay rfl (jc.r) ah)))) (aA ai))
 have H := bq hn11 Hp11
 obtain rfl := ao H
 refine dN (st' := ⟨68,fun _=>.any,upd (upd (upd (upd (fun _=>none) 1003 (some ⟨b_c3,[(.fn 108 [(.box 1000 b_c0 0),(.box 1001 b_c1 0),(.box 1002 b_c2 0),(.box 1003 b_c3 0)])]⟩)) 1002 (some ⟨b_c2,(List.map aE s11.2.2)⟩)) 1001 (some ⟨b_c1,[(aE s11.2.1)]⟩)) 1000 (some ⟨b_c0,[(.own 1100 g11 (s11.1.map bJ).length)]⟩),upd (fun _=>none) 1100 (some ⟨g11,3,(s11.1.map bJ),true⟩)⟩) (Gh.le ak (ay rfl (jc.of2 (iw.cons (np.own rfl) iw.nil)) (ay rfl (jc.r) (ay rfl (jc.r) (ay rfl (jc.r) ah)))) (aA ai)) ?_
 refine iI rfl (PLe.q rfl) ⟨_,rfl,rfl⟩
def dI : Nat → LExpr → (List Int) → Bool → (List Bool) → Option ((List Int) × Bool × (List Bool))
 | 0,_,_,_,_=>none
 | n + 1,v0,v1,v2,v3=>gS (fun b0 b1 b2 b3=>dI n b0 b1 b2 b3) v0 v1 v2 v3
theorem nA  (n : Nat) : (∀ bq0 gq0 bq1 bq2 bq3 a0 a1 a2 a3 r,dI n a0 a1 a2 a3 = some r → PH Tryz.prog 108 [(.agg (mm a0)),(.box 1000 bq0 0),(.box 1001 bq1 0),(.box 1002 bq2 0),(.box 1003 bq3 0)] ⟨upd (upd (upd (upd (fun _=>none) 1003 (some ⟨bq3,[(.fn 108 [(.box 1000 bq0 0),(.box 1001 bq1 0),(.box 1002 bq2 0),(.box 1003 bq3 0)])]⟩)) 1002 (some ⟨bq2,(List.map aE a3)⟩)) 1001 (some ⟨bq1,[(aE a2)]⟩)) 1000 (some ⟨bq0,[(.own 1100 gq0 (a1.map bJ).length)]⟩),upd (fun _=>none) 1100 (some ⟨gq0,3,(a1.map bJ),true⟩)⟩ (fun u H=>∃ gz0,u = (.tup []) ∧ H = ⟨upd (upd (upd (upd (fun _=>none) 1003 (some ⟨bq3,[(.fn 108 [(.box 1000 bq0 0),(.box 1001 bq1 0),(.box 1002 bq2 0),(.box 1003 bq3 0)])]⟩)) 1002 (some ⟨bq2,(List.map aE r.2.2)⟩)) 1001 (some ⟨bq1,[(aE r.2.1)]⟩)) 1000 (some ⟨bq0,[(.own 1100 gz0 (r.1.map bJ).length)]⟩),upd (fun _=>none) 1100 (some ⟨gz0,3,(r.1.map bJ),true⟩)⟩)) := by
 induction n with
 | zero=>exact (by intros; rename_i h; exact absurd (show (none : Option _) = some _ from h) (by simp))
 | succ n ih =>
  exact (fun bq0 gq0 bq1 bq2 bq3 v0 v1 v2 v3 r h=>nE bq0 gq0 bq1 bq2 bq3 (fun b0 b1 b2 b3=>dI n b0 b1 b2 b3) ih v0 v1 v2 v3  r h)
def fV (e : LExpr) (c0 : List Int) (c1 : Bool) (c2 : List Bool) : Option ((List Int) × Bool × (List Bool)) := iQ fun n=>dI n e c0 c1 c2
theorem kH (b_c0 : Nat) (g_c0 : OwnRef) (b_c1 : Nat) (b_c2 : Nat) (b_c3 : Nat) (e : LExpr) (c0 : List Int) (c1 : Bool) (c2 : List Bool) (r : (List Int) × Bool × (List Bool)) (H : fV e c0 c1 c2 = some r) :
  PH Tryz.prog 108 [(.agg (mm e)),(.box 1000 b_c0 0),(.box 1001 b_c1 0),(.box 1002 b_c2 0),(.box 1003 b_c3 0)] ⟨upd (upd (upd (upd (fun _=>none) 1003 (some ⟨b_c3,[(.fn 108 [(.box 1000 b_c0 0),(.box 1001 b_c1 0),(.box 1002 b_c2 0),(.box 1003 b_c3 0)])]⟩)) 1002 (some ⟨b_c2,(List.map aE c2)⟩)) 1001 (some ⟨b_c1,[(aE c1)]⟩)) 1000 (some ⟨b_c0,[(.own 1100 g_c0 (c0.map bJ).length)]⟩),upd (fun _=>none) 1100 (some ⟨g_c0,3,(c0.map bJ),true⟩)⟩ (fun u H=>∃ gz0,u = (.tup []) ∧ H = ⟨upd (upd (upd (upd (fun _=>none) 1003 (some ⟨b_c3,[(.fn 108 [(.box 1000 b_c0 0),(.box 1001 b_c1 0),(.box 1002 b_c2 0),(.box 1003 b_c3 0)])]⟩)) 1002 (some ⟨b_c2,(List.map aE r.2.2)⟩)) 1001 (some ⟨b_c1,[(aE r.2.1)]⟩)) 1000 (some ⟨b_c0,[(.own 1100 gz0 (r.1.map bJ).length)]⟩),upd (fun _=>none) 1100 (some ⟨gz0,3,(r.1.map bJ),true⟩)⟩) := by
 obtain ⟨n,h⟩ := jy H
 exact (nA  n) b_c0 g_c0 b_c1 b_c2 b_c3 e c0 c1 c2 r h
def gX (sA : List Int) (v : Int) : Option (Int) :=
 aj (ba (σ := Unit) (ρ := (Int)) (fun (j1 : Nat) (x1 : Int) (_ : Unit) =>
  cond (v == x1)
   (some (.ret (j1 : Int)))
   (some (.next ()))) 0 sA ()) fun fl1=>fl1.thenR fun (_ : Unit) =>
 some (-1)
theorem oE (sA : List Int) (v : Int) (r : Int) (H : gX sA v = some r) :
  aV Tryz.prog 179 [(.list 3 (sA.map bJ)),(ae v)] (ae r) := by
 unfold gX at H
 refine PH.aC Tryz.func179 Tryz.ntmps179 ?_
 refine aw 1 tk rfl (ac (ac (af (aq tk rfl (aN tk (zl _) ?_)))))
 refine aq tk rfl (ag ?_)
 obtain ⟨fl1,H1,Hp1⟩ := ax H
 refine bU tk 0 rfl rfl (fun hz1 _=>?_)
 rw [zl] at hz1
 refine aZ (τ := Unit) (γ := Unit) (fun s1 g1=>⟨19,fun _=>.any,fun _=>none,fun _=>none⟩) (fun t=>fl1 = .next t) ?_ (fun s1 g1 hn1=>?_)
 ·refine az ?_
  refine bF (fun j1 s1 g1=>⟨19,upd (upd (upd (upd (fun _=>.any) 8 (ae (j1 : Int))) 7 (ae (sA.length : Int))) 1 (ae v)) 0 (.list 3 (sA.map bJ)),fun _=>none,fun _=>none⟩) () H1 (Gh.le (aa (aa (aa (aa ak)))) ah ai) (fun j1 s1 g1 hj1 hr1=>?_)
  refine aw 1 tk rfl (ac ?_)
  refine aY rfl (fun h=>?_) (fun h=>?_)
  ·have hl1 := cp h
   obtain ⟨x1,fb1,hx1,H,hg1⟩ := rMc hl1 hr1
   refine av (ac (az (aw 2 tk rfl (ac (af (am 3 tk rfl ?_))))))
   refine bt tk (zn j1) (bQ (fun _=>rfl) hx1) ?_
   refine am 2 tk rfl (ag ?_)
   refine aP rfl H (fun H=>?_) (fun H=>?_)
   ·refine aw 2 tk rfl ?_
    obtain rfl := ao H
    have e1 : fl1 = .ret _ := hg1
    subst e1
    obtain rfl := bj Hp1
    refine aB tk rfl (ps := [(ae (j1 : Int))]) ⟨_,_,rfl,rfl,rfl⟩ (PLe.q rfl)
   refine av (aQ (bh 2 tk rfl ?_))
   obtain rfl := ao H
   refine aK () () ⟨hl1,hg1⟩ (Gh.le (aa (aa (aa (aI (PLe.q (aU (by omega))) ak)))) ah ai)
  have hn1 := rMd (cq h) hr1
  refine aR rfl ?_
  refine aO s1 g1 hn1 (Gh.le ak ah ai)
 have H := ck hn1 Hp1
 refine aw 1 tk rfl ?_
 obtain rfl := ao H
 refine aB tk rfl (ps := [(ae (-1))]) ⟨_,_,rfl,rfl,rfl⟩ (PLe.q rfl)
def eQ (t : LTable) (c0 : LQuery) : Bool :=
 (t.name == c0.table)
theorem pm (t : LTable) (c0 : LQuery) :
  aV Tryz.prog 154 [(.agg (bA t)),(.ptr (bD c0))] (aE (eQ t c0)) := by
 obtain ⟨r,H⟩ : ∃ r,eQ t c0 = r := ⟨_,rfl⟩
 rw [H]
 unfold eQ at H
 refine PH.aC Tryz.func154 Tryz.ntmps154 ?_
 refine ac (af (aT ?_))
 refine aq tk rfl (ag (aw 6 tk rfl ?_))
 subst H
 refine aB tk rfl (ps := [(aE (t.name == c0.table))]) ⟨_,_,rfl,rfl,rfl⟩ (PLe.q rfl)
def dm (sA : List LTable) (f : LTable → Option (Bool)) : Option (Int) :=
 aj (ba (σ := Unit) (ρ := (Int)) (fun (j1 : Nat) (x1 : LTable) (_ : Unit) =>
  aj (f x1) fun x16 =>
  cond x16
   (some (.ret (j1 : Int)))
   (some (.next ()))) 0 sA ()) fun fl1=>fl1.thenR fun (_ : Unit) =>
 some (-1)
theorem gV {g_f : FuncId} {caps_f : List PV} (sA : List LTable) (f : LTable → Option (Bool)) (hg_f : ∀ (vs : Array Value) (w : World),(callFunc g_f vs).run Tryz.prog w = .ok (.enter g_f vs) w) (hp_f : ∀ a0 r,f a0 = some r → aV Tryz.prog g_f ((.agg (bA a0)) :: caps_f) (aE r)) (r : Int) (H : dm sA f = some r) :
  aV Tryz.prog 153 [(.list 91 (sA.map bA)),(.fn g_f caps_f)] (ae r) := by
 unfold dm at H
 refine PH.aC Tryz.func153 Tryz.ntmps153 ?_
 refine aw 1 tk rfl (ac (ac (af (aq tk rfl (aN tk (zl _) ?_)))))
 refine aq tk rfl (ag ?_)
 obtain ⟨fl1,H1,Hp1⟩ := ax H
 refine bU tk 0 rfl rfl (fun hz1 _=>?_)
 rw [zl] at hz1
 refine aZ (τ := Unit) (γ := Unit) (fun s1 g1=>⟨19,fun _=>.any,fun _=>none,fun _=>none⟩) (fun t=>fl1 = .next t) ?_ (fun s1 g1 hn1=>?_)
 ·refine az ?_
  refine bF (fun j1 s1 g1=>⟨19,upd (upd (upd (upd (fun _=>.any) 8 (ae (j1 : Int))) 7 (ae (sA.length : Int))) 1 (.fn g_f caps_f)) 0 (.list 91 (sA.map bA)),fun _=>none,fun _=>none⟩) () H1 (Gh.le (aa (aa (aa (aa ak)))) ah ai) (fun j1 s1 g1 hj1 hr1=>?_)
  refine aw 1 tk rfl (ac ?_)
  refine aY rfl (fun h=>?_) (fun h=>?_)
  ·have hl1 := cp h
   obtain ⟨x1,fb1,hx1,H,hg1⟩ := rMc hl1 hr1
   refine av (ac (az (aw 2 tk rfl (ac (af (am 3 tk rfl ?_))))))
   refine bt tk (zn j1) (bQ (fun _=>rfl) hx1) ?_
   refine aq tk rfl ?_
   obtain ⟨x16,h16,H⟩ := ax H
   refine au hg_f (jc.r) (hp_f _ _ h16) ?_
   refine ag ?_
   refine aP rfl H (fun H=>?_) (fun H=>?_)
   ·refine aw 2 tk rfl ?_
    obtain rfl := ao H
    have e1 : fl1 = .ret _ := hg1
    subst e1
    obtain rfl := bj Hp1
    refine aB tk rfl (ps := [(ae (j1 : Int))]) ⟨_,_,rfl,rfl,rfl⟩ (PLe.q rfl)
   refine av (aQ (bh 2 tk rfl ?_))
   obtain rfl := ao H
   refine aK () () ⟨hl1,hg1⟩ (Gh.le (aa (aa (aa (aI (PLe.q (aU (by omega))) ak)))) ah ai)
  have hn1 := rMd (cq h) hr1
  refine aR rfl ?_
  refine aO s1 g1 hn1 (Gh.le ak ah ai)
 have H := ck hn1 Hp1
 refine aw 1 tk rfl ?_
 obtain rfl := ao H
 refine aB tk rfl (ps := [(ae (-1))]) ⟨_,_,rfl,rfl,rfl⟩ (PLe.q rfl)
theorem oG {m : Nat} (xs : List LCol) : jE Tryz.prog 155 [.list 50 (xs.map aG)] (ma m 50 (xs.map aG)) := by
 refine PH.aC Tryz.func155 Tryz.ntmps155 ?_
 refine bU tk 0 rfl rfl (fun hz hb=>?_)
 refine aw 1 tk rfl (ac (ac (af (aq tk rfl ?_))))
 refine rN tk rfl rfl rfl rfl rfl rfl rfl (fun b hn=>?_)
 refine ag ?_
 refine aY rfl (fun h=>?_) (fun h=>?_)
 ·refine aw 1 tk rfl (jb tk 2 902 (e := 50) rfl rfl ?_)
  refine kq tk (hn h).symm
 ·refine av (ac (af ?_))
  refine pr (rows' := []) tk rfl rfl rfl rfl rfl rfl rfl rfl rfl (iw.refl _) fun g=>?_
  refine aq tk rfl ?_
  refine dr (rows2' := xs.map aG) (rows' := xs.map aG) tk rfl rfl rfl rfl rfl rfl rfl rfl rfl rfl rfl rfl rfl (gk.refl _) (by simpa using hb) (by simpa using hz) rfl fun g'=>?_
  refine aq tk rfl (ag ?_)
  refine kq tk rfl
def ce (sA : List LCol) (f : LCol → Option (Bool)) : Option (Int) :=
 aj (ba (σ := Unit) (ρ := (Int)) (fun (j1 : Nat) (x1 : LCol) (_ : Unit) =>
  aj (f x1) fun x16 =>
  cond x16
   (some (.ret (j1 : Int)))
   (some (.next ()))) 0 sA ()) fun fl1=>fl1.thenR fun (_ : Unit) =>
 some (-1)
theorem eT {g_f : FuncId} {caps_f : List PV} (sA : List LCol) (f : LCol → Option (Bool)) (hg_f : ∀ (vs : Array Value) (w : World),(callFunc g_f vs).run Tryz.prog w = .ok (.enter g_f vs) w) (hp_f : ∀ a0 r,f a0 = some r → aV Tryz.prog g_f ((.agg (aG a0)) :: caps_f) (aE r)) (r : Int) (H : ce sA f = some r) :
  aV Tryz.prog 43 [(.list 50 (sA.map aG)),(.fn g_f caps_f)] (ae r) := by
 unfold ce at H
 refine PH.aC Tryz.func43 Tryz.ntmps43 ?_
 refine aw 1 tk rfl (ac (ac (af (aq tk rfl (aN tk (zl _) ?_)))))
 refine aq tk rfl (ag ?_)
 obtain ⟨fl1,H1,Hp1⟩ := ax H
 refine bU tk 0 rfl rfl (fun hz1 _=>?_)
 rw [zl] at hz1
 refine aZ (τ := Unit) (γ := Unit) (fun s1 g1=>⟨19,fun _=>.any,fun _=>none,fun _=>none⟩) (fun t=>fl1 = .next t) ?_ (fun s1 g1 hn1=>?_)
 ·refine az ?_
  refine bF (fun j1 s1 g1=>⟨19,upd (upd (upd (upd (fun _=>.any) 8 (ae (j1 : Int))) 7 (ae (sA.length : Int))) 1 (.fn g_f caps_f)) 0 (.list 50 (sA.map aG)),fun _=>none,fun _=>none⟩) () H1 (Gh.le (aa (aa (aa (aa ak)))) ah ai) (fun j1 s1 g1 hj1 hr1=>?_)
  refine aw 1 tk rfl (ac ?_)
  refine aY rfl (fun h=>?_) (fun h=>?_)
  ·have hl1 := cp h
   obtain ⟨x1,fb1,hx1,H,hg1⟩ := rMc hl1 hr1
   refine av (ac (az (aw 2 tk rfl (ac (af (am 3 tk rfl ?_))))))
   refine bt tk (zn j1) (bQ (fun _=>rfl) hx1) ?_
   refine aq tk rfl ?_
   obtain ⟨x16,h16,H⟩ := ax H
   refine au hg_f (jc.r) (hp_f _ _ h16) ?_
   refine ag ?_
   refine aP rfl H (fun H=>?_) (fun H=>?_)
   ·refine aw 2 tk rfl ?_
    obtain rfl := ao H
    have e1 : fl1 = .ret _ := hg1
    subst e1
    obtain rfl := bj Hp1
    refine aB tk rfl (ps := [(ae (j1 : Int))]) ⟨_,_,rfl,rfl,rfl⟩ (PLe.q rfl)
   refine av (aQ (bh 2 tk rfl ?_))
   obtain rfl := ao H
   refine aK () () ⟨hl1,hg1⟩ (Gh.le (aa (aa (aa (aI (PLe.q (aU (by omega))) ak)))) ah ai)
  have hn1 := rMd (cq h) hr1
  refine aR rfl ?_
  refine aO s1 g1 hn1 (Gh.le ak ah ai)
 have H := ck hn1 Hp1
 refine aw 1 tk rfl ?_
 obtain rfl := ao H
 refine aB tk rfl (ps := [(ae (-1))]) ⟨_,_,rfl,rfl,rfl⟩ (PLe.q rfl)
theorem jL (xs : List LCol) (q : LCol → Bool) : ce xs (fun a=>some (q a)) = some (bp q xs) := by
 unfold ce
 rw [mJ q (fun j _=>(j : Int)) xs 0 (fun k x hk=>by simp only [bPs]; cases q x <;> simp)]
 simp only [bp,Nat.zero_add]
 cases h : xs.findIdx? q with
 | none=>rfl
 | some i =>
  obtain ⟨hi,_⟩ := List.findIdx?_eq_some_iff_getElem.1 h
  simp [hi]
def fQ (sA : List (List UInt8)) (v : List UInt8) : Option (Int) :=
 aj (ba (σ := Unit) (ρ := (Int)) (fun (j1 : Nat) (x1 : List UInt8) (_ : Unit) =>
  cond (v == x1)
   (some (.ret (j1 : Int)))
   (some (.next ()))) 0 sA ()) fun fl1=>fl1.thenR fun (_ : Unit) =>
 some (-1)
theorem mg (sA : List (List UInt8)) (v : List UInt8) (r : Int) (H : fQ sA v = some r) :
  aV Tryz.prog 79 [(.list 9 (sA.map co)),(.str v)] (ae r) := by
 unfold fQ at H
 refine PH.aC Tryz.func79 Tryz.ntmps79 ?_
 refine aw 1 tk rfl (ac (ac (af (aq tk rfl (aN tk (zl _) ?_)))))
 refine aq tk rfl (ag ?_)
 obtain ⟨fl1,H1,Hp1⟩ := ax H
 refine bU tk 0 rfl rfl (fun hz1 _=>?_)
 rw [zl] at hz1
 refine aZ (τ := Unit) (γ := Unit) (fun s1 g1=>⟨19,fun _=>.any,fun _=>none,fun _=>none⟩) (fun t=>fl1 = .next t) ?_ (fun s1 g1 hn1=>?_)
 ·refine az ?_
  refine bF (fun j1 s1 g1=>⟨19,upd (upd (upd (upd (fun _=>.any) 8 (ae (j1 : Int))) 7 (ae (sA.length : Int))) 1 (.str v)) 0 (.list 9 (sA.map co)),fun _=>none,fun _=>none⟩) () H1 (Gh.le (aa (aa (aa (aa ak)))) ah ai) (fun j1 s1 g1 hj1 hr1=>?_)
  refine aw 1 tk rfl (ac ?_)
  refine aY rfl (fun h=>?_) (fun h=>?_)
  ·have hl1 := cp h
   obtain ⟨x1,fb1,hx1,H,hg1⟩ := rMc hl1 hr1
   refine av (ac (az (aw 2 tk rfl (ac (af (am 3 tk rfl ?_))))))
   refine bt tk (zn j1) (bQ (fun _=>rfl) hx1) ?_
   refine am 2 tk rfl (ag ?_)
   refine aP rfl H (fun H=>?_) (fun H=>?_)
   ·refine aw 2 tk rfl ?_
    obtain rfl := ao H
    have e1 : fl1 = .ret _ := hg1
    subst e1
    obtain rfl := bj Hp1
    refine aB tk rfl (ps := [(ae (j1 : Int))]) ⟨_,_,rfl,rfl,rfl⟩ (PLe.q rfl)
   refine av (aQ (bh 2 tk rfl ?_))
   obtain rfl := ao H
   refine aK () () ⟨hl1,hg1⟩ (Gh.le (aa (aa (aa (aI (PLe.q (aU (by omega))) ak)))) ah ai)
  have hn1 := rMd (cq h) hr1
  refine aR rfl ?_
  refine aO s1 g1 hn1 (Gh.le ak ah ai)
 have H := ck hn1 Hp1
 refine aw 1 tk rfl ?_
 obtain rfl := ao H
 refine aB tk rfl (ps := [(ae (-1))]) ⟨_,_,rfl,rfl,rfl⟩ (PLe.q rfl)
def cL (y : LCol) (c0 : LCol) : Bool :=
 (y.name == c0.name)
theorem nH (y : LCol) (c0 : LCol) :
  aV Tryz.prog 113 [(.agg (aG y)),(.ptr (aG c0))] (aE (cL y c0)) := by
 obtain ⟨r,H⟩ : ∃ r,cL y c0 = r := ⟨_,rfl⟩
 rw [H]
 unfold cL at H
 refine PH.aC Tryz.func113 Tryz.ntmps113 ?_
 refine ac (af (aT ?_))
 refine aq tk rfl (ag (aw 6 tk rfl ?_))
 subst H
 refine aB tk rfl (ps := [(aE (y.name == c0.name))]) ⟨_,_,rfl,rfl,rfl⟩ (PLe.q rfl)
def dS (v : LVal) : Int :=
 cond (v.kind == (0 : Int))
  (cond (v.int != (0 : Int))
   (3)
   (cond (!(v.text == ([] : List UInt8)))
    (3)
    (0)))
  (bo (
   cond (v.kind == (1 : Int))
    ((v.kind == (1 : Int)))
    ((v.kind == (2 : Int)))) fun (t1 : Bool) =>
  cond t1
   (cond (!(v.text == ([] : List UInt8)))
    (3)
    (cond (v.kind == (2 : Int))
     (cond (v.int != (0 : Int))
      (cond (v.int != (1 : Int))
       (1)
       (cond (decide (v.int < (-1000000000000)))
        (1)
        (cond (decide (v.int > (1000000000000 : Int)))
         (1)
         (0))))
      (cond (decide (v.int < (-1000000000000)))
       (1)
       (cond (decide (v.int > (1000000000000 : Int)))
        (1)
        (0))))
     (cond (decide (v.int < (-1000000000000)))
      (1)
      (cond (decide (v.int > (1000000000000 : Int)))
       (1)
       (0)))))
   (cond (v.kind == (3 : Int))
    (cond (v.int != (0 : Int))
     (3)
     (cond (decide ((v.text.length : Int) > (24 : Int)))
      (2)
      (0)))
    (7)))
theorem nX (v : LVal) :
  aV Tryz.prog 105 [(.agg (ab v))] (ae (dS v)) := by
 obtain ⟨r,H⟩ : ∃ r,dS v = r := ⟨_,rfl⟩
 rw [H]
 unfold dS at H
 refine PH.aC Tryz.func105 Tryz.ntmps105 ?_
 refine ac (af (aT ?_))
 refine aq tk rfl (ag (ac (aw 2 tk rfl (az (aw 2 tk rfl ?_)))))
 refine aP rfl H (fun H=>?_) (fun H=>?_)
 ·refine ac (af (am 4 tk rfl ?_))
  refine bG rfl rfl rfl H (fun H=>?_) (fun H=>?_)
  ·refine am 4 tk rfl (ag (cv rfl (aw 1 tk rfl ?_)))
   subst H
   refine aB tk rfl (ps := [(ae 3)]) ⟨_,_,rfl,rfl,rfl⟩ (PLe.q rfl)
  refine am 4 tk rfl (ag ?_)
  refine aP rfl H (fun H=>?_) (fun H=>?_)
  ·refine aw 1 tk rfl ?_
   subst H
   refine aB tk rfl (ps := [(ae 3)]) ⟨_,_,rfl,rfl,rfl⟩ (PLe.q rfl)
  refine av (aQ (aw 1 tk rfl ?_))
  subst H
  refine aB tk rfl (ps := [(ae 0)]) ⟨_,_,rfl,rfl,rfl⟩ (PLe.q rfl)
 refine ac (aw 2 tk rfl ?_)
 obtain ⟨fl1,H1,Hp1⟩ := bK H
 refine aZ (τ := Bool) (γ := Unit) (fun t1 g1=>⟨53,upd (upd (upd (fun _=>.any) 15 (aE t1)) 4 (ae v.kind)) 1 (.ptr [(ae v.kind),(ae v.int),(.str v.text)]),fun _=>none,fun _=>none⟩) (fun t=>t = fl1) ?_ (fun t1 g1 hn1=>?_)
 ·have H := H1
  refine aP rfl H (fun H=>?_) (fun H=>?_)
  ·refine av ?_
   subst H
   refine aO (v.kind == (1 : Int)) () rfl (Gh.le (aa (aa (aa ak))) ah ai)
  refine bh 2 tk rfl ?_
  subst H
  refine aO (v.kind == (2 : Int)) () rfl (Gh.le (aa (aa (aa ak))) ah ai)
 subst hn1
 have H := Hp1
 refine aP rfl H (fun H=>?_) (fun H=>?_)
 ·refine ac (aw 3 tk rfl ?_)
  refine aP rfl H (fun H=>?_) (fun H=>?_)
  ·refine aw 1 tk rfl ?_
   subst H
   refine aB tk rfl (ps := [(ae 3)]) ⟨_,_,rfl,rfl,rfl⟩ (PLe.q rfl)
  refine av (ac (af (am 4 tk rfl ?_)))
  refine bG rfl rfl rfl H (fun H=>?_) (fun H=>?_)
  ·refine am 5 tk rfl ?_
   refine bG rfl rfl rfl H (fun H=>?_) (fun H=>?_)
   ·refine am 5 tk rfl ?_
    refine bG rfl rfl rfl H (fun H=>?_) (fun H=>?_)
    ·refine am 9 tk rfl (ag (cv rfl (aw 1 tk rfl ?_)))
     subst H
     refine aB tk rfl (ps := [(ae 1)]) ⟨_,_,rfl,rfl,rfl⟩ (PLe.q rfl)
    refine am 5 tk rfl ?_
    refine bG rfl rfl rfl H (fun H=>?_) (fun H=>?_)
    ·refine am 4 tk rfl (ag (cv rfl (aw 1 tk rfl ?_)))
     subst H
     refine aB tk rfl (ps := [(ae 1)]) ⟨_,_,rfl,rfl,rfl⟩ (PLe.q rfl)
    refine am 4 tk rfl (ag ?_)
    refine aP rfl H (fun H=>?_) (fun H=>?_)
    ·refine aw 1 tk rfl ?_
     subst H
     refine aB tk rfl (ps := [(ae 1)]) ⟨_,_,rfl,rfl,rfl⟩ (PLe.q rfl)
    refine av (aQ (aw 1 tk rfl ?_))
    subst H
    refine aB tk rfl (ps := [(ae 0)]) ⟨_,_,rfl,rfl,rfl⟩ (PLe.q rfl)
   refine am 10 tk rfl ?_
   refine bG rfl rfl rfl H (fun H=>?_) (fun H=>?_)
   ·refine am 4 tk rfl (ag (cv rfl (aw 1 tk rfl ?_)))
    subst H
    refine aB tk rfl (ps := [(ae 1)]) ⟨_,_,rfl,rfl,rfl⟩ (PLe.q rfl)
   refine am 4 tk rfl (ag ?_)
   refine aP rfl H (fun H=>?_) (fun H=>?_)
   ·refine aw 1 tk rfl ?_
    subst H
    refine aB tk rfl (ps := [(ae 1)]) ⟨_,_,rfl,rfl,rfl⟩ (PLe.q rfl)
   refine av (aQ (aw 1 tk rfl ?_))
   subst H
   refine aB tk rfl (ps := [(ae 0)]) ⟨_,_,rfl,rfl,rfl⟩ (PLe.q rfl)
  refine am 15 tk rfl ?_
  refine bG rfl rfl rfl H (fun H=>?_) (fun H=>?_)
  ·refine am 4 tk rfl (ag (cv rfl (aw 1 tk rfl ?_)))
   subst H
   refine aB tk rfl (ps := [(ae 1)]) ⟨_,_,rfl,rfl,rfl⟩ (PLe.q rfl)
  refine am 4 tk rfl (ag ?_)
  refine aP rfl H (fun H=>?_) (fun H=>?_)
  ·refine aw 1 tk rfl ?_
   subst H
   refine aB tk rfl (ps := [(ae 1)]) ⟨_,_,rfl,rfl,rfl⟩ (PLe.q rfl)
  refine av (aQ (aw 1 tk rfl ?_))
  subst H
  refine aB tk rfl (ps := [(ae 0)]) ⟨_,_,rfl,rfl,rfl⟩ (PLe.q rfl)
 refine aw 2 tk rfl ?_
 refine aP rfl H (fun H=>?_) (fun H=>?_)
 ·refine ac (aw 3 tk rfl ?_)
  refine aP rfl H (fun H=>?_) (fun H=>?_)
  ·refine aw 1 tk rfl ?_
   subst H
   refine aB tk rfl (ps := [(ae 3)]) ⟨_,_,rfl,rfl,rfl⟩ (PLe.q rfl)
  refine av (aw 4 tk rfl ?_)
  refine aP rfl H (fun H=>?_) (fun H=>?_)
  ·refine aw 1 tk rfl ?_
   subst H
   refine aB tk rfl (ps := [(ae 2)]) ⟨_,_,rfl,rfl,rfl⟩ (PLe.q rfl)
  refine av (aQ (aw 1 tk rfl ?_))
  subst H
  refine aB tk rfl (ps := [(ae 0)]) ⟨_,_,rfl,rfl,rfl⟩ (PLe.q rfl)
 refine aw 1 tk rfl ?_
 subst H
 refine aB tk rfl (ps := [(ae 7)]) ⟨_,_,rfl,rfl,rfl⟩ (PLe.q rfl)
def fC (t : LTable) (row : Rq) : Option (Rq) :=
 aj (ba (σ := Rq) (ρ := Empty) (fun (_ : Nat) (x1 : Int) (s1 : Rq) =>
  bo (
   cond (decide (x1 ≥ (0 : Int)))
    ((decide (x1 < (row.length : Int))))
    (false)) fun (t6 : Bool) =>
  aj (
   cond t6
    (aj (aF row x1) fun (x27 : LVal) =>
    some x27)
    (some (LVal.mk 0 0 []))) fun (t7 : LVal) =>
  aj (ee 32 s1 ([t7] : Rq)) fun (x32 : Rq) =>
  some (.next x32)) 0 t.primaryKey []) fun fl1=>fl1.thenP fun (s1 : Rq) =>
 some s1
theorem pw (t : LTable) (row : Rq) (r : Rq) (H : fC t row = some r) :
  aV Tryz.prog 86 [(.agg (bA t)),(.list 53 (row.map ab))] (.list 53 (r.map ab)) := by
 unfold fC at H
 refine PH.aC Tryz.func86 Tryz.ntmps86 ?_
 refine ac (af (aT ?_))
 refine aq tk rfl (ag (aw 1 tk rfl (ac (ac (af (am 2 tk rfl (aN tk (zl _) ?_)))))))
 refine aq tk rfl (ag ?_)
 obtain ⟨fl1,H1,Hp1⟩ := ax H
 refine bU tk 10 rfl rfl (fun hz1 _=>?_)
 rw [zl] at hz1
 refine aZ (τ := Rq) (γ := OwnRef) (fun s1 g1=>⟨35,upd (fun _=>.any) 5 (.own 32 g1 (s1.map ab).length),fun _=>none,upd (fun _=>none) 32 (some ⟨g1,53,(s1.map ab),true⟩)⟩) (fun t=>fl1 = .next t) ?_ (fun s1 g1 hn1=>?_)
 ·refine az (jb tk 5 32 (e := 53) rfl rfl ?_)
  refine bF (fun j1 s1 g1=>⟨35,upd (upd (upd (upd (upd (fun _=>.any) 12 (ae (j1 : Int))) 11 (ae (t.primaryKey.length : Int))) 10 (.list 3 (t.primaryKey.map bJ))) 5 (.own 32 g1 (s1.map ab).length)) 1 (.list 53 (row.map ab)),fun _=>none,upd (fun _=>none) 32 (some ⟨g1,53,(s1.map ab),true⟩)⟩) (⟨none,0⟩) H1 (Gh.le (aa (aa (aa (aa (aa ak))))) ah (aA ai)) (fun j1 s1 g1 hj1 hr1=>?_)
  refine aw 1 tk rfl (ac ?_)
  refine aY rfl (fun h=>?_) (fun h=>?_)
  ·have hl1 := cp h
   obtain ⟨x1,fb1,hx1,H,hg1⟩ := rMc hl1 hr1
   refine av (ac (az (ac (af ?_))))
   refine bt tk (zn j1) (bQ (fun _=>rfl) hx1) ?_
   refine am 2 tk rfl (ag (ac (af (aq tk rfl ?_))))
   refine bv tk fun b8=>?_
   refine aD tk ?_
   refine ag (ac (ac ?_))
   obtain ⟨fl6,H6,Hp6⟩ := bK H
   refine aZ (τ := Bool) (γ := Unit) (fun t6 g6=>⟨35,upd (upd (upd (upd (upd (upd (upd (upd (fun _=>.any) 24 (aE t6)) 12 (ae (j1 : Int))) 11 (ae (t.primaryKey.length : Int))) 10 (.list 3 (t.primaryKey.map bJ))) 8 (.box 8 b8 0)) 7 (ae x1)) 5 (.own 32 g1 (s1.map ab).length)) 1 (.list 53 (row.map ab)),upd (fun _=>none) 8 (some ⟨b8,[(ae 0),(ae 0),(.str [])]⟩),upd (fun _=>none) 32 (some ⟨g1,53,(s1.map ab),true⟩)⟩) (fun t=>t = fl6) ?_ (fun t6 g6 hn6=>?_)
   ·have H := H6
    refine af (am 3 tk rfl ?_)
    refine bG rfl rfl rfl H (fun H=>?_) (fun H=>?_)
    ·refine am 2 tk rfl (aN tk (zl _) ?_)
     refine am 2 tk rfl (ag ?_)
     subst H
     refine aO (decide (x1 < (row.length : Int))) () rfl (Gh.le (aa (aa (aa (aa (aa (aa (aa (aa ak)))))))) (ay rfl (jc.r) ah) (aA ai))
    refine am 5 tk rfl (ag ?_)
    subst H
    refine aO false () rfl (Gh.le (aa (aa (aa (aa (aa (aa (aa (aa ak)))))))) (ay rfl (jc.r) ah) (aA ai))
   subst hn6
   have H := Hp6
   obtain ⟨fl7,H7,Hp7⟩ := ax H
   refine aZ (τ := LVal) (γ := Unit) (fun t7 g7=>⟨35,upd (upd (upd (upd (upd (upd (fun _=>.any) 12 (ae (j1 : Int))) 11 (ae (t.primaryKey.length : Int))) 10 (.list 3 (t.primaryKey.map bJ))) 8 (.box 8 b8 0)) 5 (.own 32 g1 (s1.map ab).length)) 1 (.list 53 (row.map ab)),upd (fun _=>none) 8 (some ⟨b8,[(ae t7.kind),(ae t7.int),(.str t7.text)]⟩),upd (fun _=>none) 32 (some ⟨g1,53,(s1.map ab),true⟩)⟩) (fun t=>t = fl7) ?_ (fun t7 g7 hn7=>?_)
   ·have H := H7
    refine aP rfl H (fun H=>?_) (fun H=>?_)
    ·refine af (am 2 tk rfl ?_)
     obtain ⟨x27,k27,H⟩ := aW H
     refine bt tk k27.1 (aH (fun _=>rfl) k27.2) ?_
     refine aq tk rfl (aD tk ?_)
     refine ag ?_
     obtain rfl := ao H
     refine aO x27 () rfl (Gh.le (aa (aa (aa (aa (aa (aa ak)))))) (ay rfl (jc.r) ah) (aA ai))
    refine av ?_
    obtain rfl := ao H
    refine aO (LVal.mk 0 0 []) () rfl (Gh.le (aa (aa (aa (aa (aa (aa ak)))))) (ay rfl (jc.r) ah) (aA ai))
   subst hn7
   have H := Hp7
   refine af (aq tk rfl (aM tk ?_))
   refine cO tk (rows' := List.map ab ([t7] : Rq)) (gk.refl _) ?_
   obtain ⟨x32,h32,H⟩ := ax H
   have k32 := dw h32
   refine dr (rows2' := List.map ab ([t7] : Rq)) (rows' := List.map ab x32) tk rfl rfl rfl rfl rfl rfl rfl rfl rfl rfl rfl rfl rfl (gk.refl _) (eK k32.1) (eN k32.2.1) (eR k32.2.2) fun g32=>?_
   refine aq tk rfl (ag (aQ (bh 2 tk rfl ?_)))
   obtain rfl := ao H
   refine aK x32 g32 ⟨hl1,hg1⟩ (Gh.le (aa (aa (aa (aa (aI (PLe.q (aU (by omega))) ak))))) ah (aA ai))
  have hn1 := rMd (cq h) hr1
  refine aR rfl ?_
  refine aO s1 g1 hn1 (Gh.le (aa ak) ah (aA ai))
 have H := bq hn1 Hp1
 refine aw 2 tk rfl ?_
 obtain rfl := ao H
 refine el 4 rfl rfl rfl ?_
 refine aB tk rfl (ps := [(.list 53 (s1.map ab))]) ⟨_,_,rfl,rfl,rfl⟩ (PLe.q rfl)
def gA (a : Int) (b : Int) : Int :=
 cond (decide (a < b))
  ((-1))
  (cond (decide (a > b))
   (1)
   (0))
theorem ku (a : Int) (b : Int) :
  aV Tryz.prog 107 [(ae a),(ae b)] (ae (gA a b)) := by
 obtain ⟨r,H⟩ : ∃ r,gA a b = r := ⟨_,rfl⟩
 rw [H]
 unfold gA at H
 refine PH.aC Tryz.func107 Tryz.ntmps107 ?_
 refine aw 1 tk rfl (ac (az (aw 4 tk rfl ?_)))
 refine aP rfl H (fun H=>?_) (fun H=>?_)
 ·refine aw 1 tk rfl ?_
  subst H
  refine aB tk rfl (ps := [(ae (-1))]) ⟨_,_,rfl,rfl,rfl⟩ (PLe.q rfl)
 refine aw 4 tk rfl ?_
 refine aP rfl H (fun H=>?_) (fun H=>?_)
 ·refine aw 1 tk rfl ?_
  subst H
  refine aB tk rfl (ps := [(ae 1)]) ⟨_,_,rfl,rfl,rfl⟩ (PLe.q rfl)
 refine av (aQ (aw 1 tk rfl ?_))
 subst H
 refine aB tk rfl (ps := [(ae 0)]) ⟨_,_,rfl,rfl,rfl⟩ (PLe.q rfl)
def fp (a : List UInt8) (b : List UInt8) : Int :=
 (Lib.compareBytes a b)
theorem lr (a : List UInt8) (b : List UInt8) :
  aV Tryz.prog 178 [(.str a),(.str b)] (ae (fp a b)) := by
 obtain ⟨r,H⟩ : ∃ r,fp a b = r := ⟨_,rfl⟩
 rw [H]
 unfold fp at H
 refine PH.aC Tryz.func178 Tryz.ntmps178 ?_
 refine aw 1 tk rfl (ac (af (am 2 tk rfl ?_)))
 refine Ao.cmpS (g := 195) rfl rfl rfl Tryz.func195 (by kernel_rfl) (by kernel_rfl) (by kernel_rfl) (by kernel_rfl) rfl rfl rfl ?_
 refine aq tk rfl (ag ?_)
 subst H
 refine aB tk rfl (ps := [(ae (Lib.compareBytes a b))]) ⟨_,_,rfl,rfl,rfl⟩ (PLe.q rfl)
theorem grow_186 {m : Nat} {u : Unit} (n : Int) (h : oJ 32 n = some u) : jE Tryz.prog 186 [.val (.slice none 0 0),ae n] (ma m 53 []) := by
 have hn := growI_some h
 have hw : i64.wrap (n - i64.wrap ((0 : Int) - 0)) = n := by
  have e0 : i64.wrap ((0 : Int) - 0) = 0 := bC (by omega) (by omega)
  rw [e0,Int.sub_zero,bC (by omega) (by unfold maxLen at hn; omega)]
 refine PH.aC Tryz.func186 Tryz.ntmps186 ?_
 refine aw 1 tk rfl (ac (aw 2 tk rfl ?_))
 refine aY rfl (fun h=>?_) (fun h=>?_)
 ·exfalso; have := of_decide_eq_true h; omega
 refine av (ac (ac (af (am 2 tk rfl (so tk rfl rfl rfl rfl rfl rfl (am 4 tk rfl (lF 14 (q := ae n) rfl (PLe.q (congrArg ae hw)) (aq tk rfl (ag (aw 2 tk rfl ?_))))))))))
 refine aY rfl (fun h=>?_) (fun h=>?_)
 ·refine af (am 2 tk rfl (so tk rfl rfl rfl rfl rfl rfl (Ao.subN tk rfl rfl rfl rfl rfl rfl rfl rfl (aq tk rfl ?_))))
  refine rZ tk rfl rfl rfl rfl rfl rfl rfl rfl rfl rfl rfl rfl rfl rfl rfl (of_decide_eq_true h) hn.2.1 hn.2.2 fun g=>?_
  refine am 2 tk rfl (Ao.cutO tk rfl rfl rfl rfl rfl rfl rfl rfl rfl ⟨Int.le_refl 0,Nat.zero_le _⟩ rfl rfl rfl (aq tk rfl (ag (aw 2 tk rfl ?_))))
  refine kq tk rfl
 ·refine av (aw 2 tk rfl (jb tk 4 904 (e := 53) rfl rfl ?_))
  refine kq tk rfl
def bE (rA : LRun) (cols : List LCol) (row : Rq) : LEnv :=
 (LEnv.mk cols row rA.args rA.names rA.vals)
theorem kw (rA : LRun) (cols : List LCol) (row : Rq) :
  aV Tryz.prog 139 [(.agg (it rA)),(.list 50 (cols.map aG)),(.list 53 (row.map ab))] (.agg (encEnv (bE rA cols row))) := by
 obtain ⟨r,H⟩ : ∃ r,bE rA cols row = r := ⟨_,rfl⟩
 rw [H]
 unfold bE at H
 refine PH.aC Tryz.func139 Tryz.ntmps139 ?_
 refine ac (af (aT ?_))
 refine bv tk fun b6=>?_
 refine ag (ac (af (am 9 tk rfl (aD tk ?_))))
 refine ag ?_
 subst H
 refine aB tk rfl (ps := [(.agg [(.list 50 (cols.map aG)),(.list 53 (row.map ab)),(.list 53 (rA.args.map ab)),(.list 9 (rA.names.map co)),(.list 53 (rA.vals.map ab))])]) ⟨_,_,rfl,⟨_,_,_,_,_,rfl,rfl,rfl,rfl⟩,rfl⟩ (PLe.q rfl)
def fZ (n : Int) : LVal :=
 cond (decide (n < (-1000000000000)))
  ((LVal.mk 0 0 []))
  (cond (decide (n > (1000000000000 : Int)))
   ((LVal.mk 0 0 []))
   ((LVal.mk 1 n [])))
theorem pP (n : Int) :
  aV Tryz.prog 192 [(ae n)] (.agg (ab (fZ n))) := by
 obtain ⟨r,H⟩ : ∃ r,fZ n = r := ⟨_,rfl⟩
 rw [H]
 unfold fZ at H
 refine PH.aC Tryz.func192 Tryz.ntmps192 ?_
 refine ac (af ?_)
 refine bv tk fun b2=>?_
 refine ag (ac (ac (af (am 3 tk rfl ?_))))
 refine bG rfl rfl rfl H (fun H=>?_) (fun H=>?_)
 ·refine am 3 tk rfl (ag (cv rfl (ac (af (aq tk rfl (aD tk ?_))))))
  refine ag ?_
  subst H
  refine aB tk rfl (ps := [(.agg [(ae 0),(ae 0),(.str [])])]) ⟨_,_,rfl,⟨_,_,_,_,_,rfl,rfl,rfl,rfl⟩,rfl⟩ (PLe.q rfl)
 refine am 3 tk rfl (ag ?_)
 refine aP rfl H (fun H=>?_) (fun H=>?_)
 ·refine ac (af (aq tk rfl (aD tk ?_)))
  refine ag ?_
  subst H
  refine aB tk rfl (ps := [(.agg [(ae 0),(ae 0),(.str [])])]) ⟨_,_,rfl,⟨_,_,_,_,_,rfl,rfl,rfl,rfl⟩,rfl⟩ (PLe.q rfl)
 refine av (ac (af (am 2 tk rfl (aD tk ?_))))
 refine ag ?_
 subst H
 refine aB tk rfl (ps := [(.agg [(ae 1),(ae n),(.str [])])]) ⟨_,_,rfl,⟨_,_,_,_,_,rfl,rfl,rfl,rfl⟩,rfl⟩ (PLe.q rfl)
theorem mE {m : Nat} (xs : Rz) : jE Tryz.prog 21 [.list 51 (xs.map (al 53 ab))] (ma m 51 (xs.map (al 53 ab))) := by
 refine PH.aC Tryz.func21 Tryz.ntmps21 ?_
 refine bU tk 0 rfl rfl (fun hz hb=>?_)
 refine aw 1 tk rfl (ac (ac (af (aq tk rfl ?_))))
 refine rN tk rfl rfl rfl rfl rfl rfl rfl (fun b hn=>?_)
 refine ag ?_
 refine aY rfl (fun h=>?_) (fun h=>?_)
 ·refine aw 1 tk rfl (jb tk 2 902 (e := 51) rfl rfl ?_)
  refine kq tk (hn h).symm
 ·refine av (ac (af ?_))
  refine pr (rows' := []) tk rfl rfl rfl rfl rfl rfl rfl rfl rfl (iw.refl _) fun g=>?_
  refine aq tk rfl ?_
  refine dr (rows2' := xs.map (al 53 ab)) (rows' := xs.map (al 53 ab)) tk rfl rfl rfl rfl rfl rfl rfl rfl rfl rfl rfl rfl rfl (gk.refl _) (by simpa using hb) (by simpa using hz) rfl fun g'=>?_
  refine aq tk rfl (ag ?_)
  refine kq tk rfl
def cY (s1A : Rq) (s2A : Rq) : Option (Bool) :=
 cond ((s1A.length : Int) != (s2A.length : Int))
  (some false)
  (aj (ba (σ := Unit) (ρ := (Bool)) (fun (j1 : Nat) (x1 : LVal) (_ : Unit) =>
   aj (aF s2A (j1 : Int)) fun (x22 : LVal) =>
   cond (!(x1.kind == x22.kind && (x1.int == x22.int && (x1.text == x22.text && true))))
    (some (.ret false))
    (some (.next ()))) 0 s1A ()) fun fl1=>fl1.thenR fun (_ : Unit) =>
  some true)
theorem gG (s1A : Rq) (s2A : Rq) (r : Bool) (H : cY s1A s2A = some r) :
  aV Tryz.prog 24 [(.list 53 (s1A.map ab)),(.list 53 (s2A.map ab))] (aE r) := by
 unfold cY at H
 refine PH.aC Tryz.func24 Tryz.ntmps24 ?_
 refine aw 1 tk rfl (ac (ac (af (aq tk rfl (aN tk (zl _) ?_)))))
 refine aq tk rfl (aN tk (zl _) ?_)
 refine aq tk rfl (ag ?_)
 refine aP rfl H (fun H=>?_) (fun H=>?_)
 ·refine aw 1 tk rfl ?_
  obtain rfl := ao H
  refine aB tk rfl (ps := [(aE false)]) ⟨_,_,rfl,rfl,rfl⟩ (PLe.q rfl)
 refine av (ac (ac (af (aq tk rfl (aN tk (zl _) ?_)))))
 refine aq tk rfl (ag ?_)
 obtain ⟨fl1,H1,Hp1⟩ := ax H
 refine bU tk 0 rfl rfl (fun hz1 _=>?_)
 rw [zl] at hz1
 refine aZ (τ := Unit) (γ := Unit) (fun s1 g1=>⟨26,fun _=>.any,fun _=>none,fun _=>none⟩) (fun t=>fl1 = .next t) ?_ (fun s1 g1 hn1=>?_)
 ·refine az ?_
  refine bF (fun j1 s1 g1=>⟨26,upd (upd (upd (upd (fun _=>.any) 13 (ae (j1 : Int))) 12 (ae (s1A.length : Int))) 1 (.list 53 (s2A.map ab))) 0 (.list 53 (s1A.map ab)),fun _=>none,fun _=>none⟩) () H1 (Gh.le (aa (aa (aa (aa ak)))) ah ai) (fun j1 s1 g1 hj1 hr1=>?_)
  refine aw 1 tk rfl (ac ?_)
  refine aY rfl (fun h=>?_) (fun h=>?_)
  ·have hl1 := cp h
   obtain ⟨x1,fb1,hx1,H,hg1⟩ := rMc hl1 hr1
   refine av (ac (az (aw 2 tk rfl (ac (bl tk mok ⟨false,false,[]⟩ [0,1,2,3,4,5,6,7,8] rfl (by decide +kernel) rfl (aJ 2 rfl ?_))))))
   refine bX (zn j1) (bQ (fun _=>rfl) hx1) ?_
   refine aJ 3 rfl ?_
   obtain ⟨x22,k22,H⟩ := aW H
   refine bX k22.1 (aH (fun _=>rfl) k22.2) ?_
   refine aJ 2 rfl (be ?_)
   refine aP rfl H (fun H=>?_) (fun H=>?_)
   ·refine aw 1 tk rfl ?_
    obtain rfl := ao H
    have e1 : fl1 = .ret _ := hg1
    subst e1
    obtain rfl := bj Hp1
    refine aB tk rfl (ps := [(aE false)]) ⟨_,_,rfl,rfl,rfl⟩ (PLe.q rfl)
   refine av (aQ (bh 2 tk rfl ?_))
   obtain rfl := ao H
   refine aK () () ⟨hl1,hg1⟩ (Gh.le (aa (aa (aa (aI (PLe.q (aU (by omega))) ak)))) ah ai)
  have hn1 := rMd (cq h) hr1
  refine aR rfl ?_
  refine aO s1 g1 hn1 (Gh.le ak ah ai)
 have H := ck hn1 Hp1
 refine aw 1 tk rfl ?_
 obtain rfl := ao H
 refine aB tk rfl (ps := [(aE true)]) ⟨_,_,rfl,rfl,rfl⟩ (PLe.q rfl)
def cd (sA : Rz) (f : Rq → Option (Bool)) : Option (Int × Rz) :=
 aj (oy (sA.length : Int)) fun (n1 : Nat) =>
 aj (ba (σ := Rz) (ρ := (Int × Rz)) (fun (j1 : Nat) (_ : Nat) (s1 : Rz) =>
  aj (aF s1 (j1 : Int)) fun (x14 : Rq) =>
  aj (f x14) fun x16 =>
  cond x16
   (some (.ret ((j1 : Int),s1)))
   (some (.next s1))) 0 (List.range n1) sA) fun fl1=>fl1.thenR fun (s1 : Rz) =>
 some ((-1),s1)
theorem fM (g_sA : OwnRef) {g_f : FuncId} {caps_f : List PV} (sA : Rz) (f : Rq → Option (Bool)) (hg_f : ∀ (vs : Array Value) (w : World),(callFunc g_f vs).run Tryz.prog w = .ok (.enter g_f vs) w) (hp_f : ∀ a0 r,f a0 = some r → aV Tryz.prog g_f ((.list 53 (a0.map ab)) :: caps_f) (aE r)) (r : Int × Rz) (H : cd sA f = some r) :
  PH Tryz.prog 22 [(.own 0 g_sA (sA.map (al 53 ab)).length),(.fn g_f caps_f)] ⟨fun _=>none,upd (fun _=>none) 0 (some ⟨g_sA,51,(sA.map (al 53 ab)),true⟩)⟩ (fun u H=>u = (ae r.1) ∧ H = ⟨fun _=>none,upd (fun _=>none) 0 (some ⟨g_sA,51,(r.2.map (al 53 ab)),true⟩)⟩) := by
 unfold cd at H
 refine PH.aC Tryz.func22 Tryz.ntmps22 ?_
 refine aw 1 tk rfl (ac (ac (af (aq tk rfl (jG tk (zl _) ?_)))))
 refine aq tk rfl (ag ?_)
 obtain ⟨n1,hs1,H⟩ := ax H
 have hz1 := pl hs1
 obtain ⟨fl1,H1,Hp1⟩ := ax H
 refine aZ (τ := Rz) (γ := Unit) (fun s1 g1=>⟨19,upd (fun _=>.any) 0 (.own 0 g_sA (s1.map (al 53 ab)).length),fun _=>none,upd (fun _=>none) 0 (some ⟨g_sA,51,(s1.map (al 53 ab)),true⟩)⟩) (fun t=>fl1 = .next t) ?_ (fun s1 g1 hn1=>?_)
 ·refine az ?_
  refine bF (fun j1 s1 g1=>⟨19,upd (upd (upd (upd (fun _=>.any) 8 (ae (j1 : Int))) 7 (ae (sA.length : Int))) 1 (.fn g_f caps_f)) 0 (.own 0 g_sA (s1.map (al 53 ab)).length),fun _=>none,upd (fun _=>none) 0 (some ⟨g_sA,51,(s1.map (al 53 ab)),true⟩)⟩) () H1 (Gh.le (aa (aa (aa (aa ak)))) ah (aA ai)) (fun j1 s1 g1 hj1 hr1=>?_)
  refine aw 1 tk rfl (ac ?_)
  refine aY rfl (fun h=>?_) (fun h=>?_)
  ·have hl1 := natLt hz1 h
   obtain ⟨x1,fb1,hx1,H,hg1⟩ := rMc hl1 hr1
   obtain rfl := natX hx1
   refine av (ac (az (aw 2 tk rfl (ac (af (am 3 tk rfl ?_))))))
   obtain ⟨x14,k14,H⟩ := aW H
   refine mI (tag := 0) rfl (fun ho0=>?_)
   refine mr tk rfl rfl rfl rfl rfl rfl rfl ⟨k14.1,(bm k14.2)⟩ (bn ho0 k14.2) rfl ?_
   refine rH tk rfl rfl rfl rfl rfl rfl rfl (aH (fun _=>rfl) k14.2) rfl rfl ?_
   obtain ⟨x16,h16,H⟩ := ax H
   refine au hg_f (jc.r) (hp_f _ _ h16) ?_
   refine ag ?_
   refine aP rfl H (fun H=>?_) (fun H=>?_)
   ·refine aw 2 tk rfl ?_
    obtain rfl := ao H
    have e1 : fl1 = .ret _ := hg1
    subst e1
    obtain rfl := bj Hp1
    refine dN (st' := ⟨19,upd (fun _=>.any) 4 (ae (j1 : Int)),fun _=>none,upd (fun _=>none) 0 (some ⟨g_sA,51,(s1.map (al 53 ab)),true⟩)⟩) (Gh.le (aa ak) ah (aA ai)) ?_
    refine eZ tk rfl (ps := [(ae (j1 : Int))]) ⟨_,_,rfl,rfl,rfl⟩ (PLe.q rfl) ⟨rfl,rfl⟩
   refine av (aQ (bh 2 tk rfl ?_))
   obtain rfl := ao H
   refine aK s1 () ⟨hl1,hg1⟩ (Gh.le (aa (aa (aa (aI (PLe.q (pS hz1 hl1)) ak)))) ah (aA ai))
  have hn1 := rMd (natGe hz1 h) hr1
  refine aR rfl ?_
  refine aO s1 g1 hn1 (Gh.le (aa ak) ah (aA ai))
 have H := ck hn1 Hp1
 refine aw 1 tk rfl ?_
 obtain rfl := ao H
 refine dN (st' := ⟨19,upd (fun _=>.any) 4 (ae (-1)),fun _=>none,upd (fun _=>none) 0 (some ⟨g_sA,51,(s1.map (al 53 ab)),true⟩)⟩) (Gh.le (aa ak) ah (aA ai)) ?_
 refine eZ tk rfl (ps := [(ae (-1))]) ⟨_,_,rfl,rfl,rfl⟩ (PLe.q rfl) ⟨rfl,rfl⟩
theorem W_delete_25 (g_s : OwnRef) (xs : Rz) (i j : Int) (r : Rz) (h : delI xs i j = some r) : PH Tryz.prog 25 [(.own 0 g_s (xs.map (al 53 ab)).length),(ae i),(ae j)] ⟨fun _=>none,upd (fun _=>none) 0 (some ⟨g_s,51,(xs.map (al 53 ab)),true⟩)⟩ (fun u H=>u = .own 0 g_s (r.map (al 53 ab)).length ∧ H = ⟨fun _=>none,upd (fun _=>none) 0 (some ⟨g_s,51,(r.map (al 53 ab)),true⟩)⟩) := by
 obtain ⟨hi,hij,hj,hr⟩ := delI_some h
 have hjl : j.toNat ≤ (xs.map (al 53 ab)).length := by rw [zl]; exact hj
 have hij' : i.toNat ≤ j.toNat := by omega
 have ei : i = (i.toNat : Int) := by omega
 have ej : j = (j.toNat : Int) := by omega
 refine PH.aC Tryz.func25 Tryz.ntmps25 ?_
 refine V.ownC (tag := 0) rfl (fun hc=>?_)
 refine aw 1 tk rfl (ac (af (am 4 tk rfl (jG tk (m := (xs.map (al 53 ab)).length) rfl ?_))))
 refine rY (l := i.toNat) (h := j.toNat) (m := (xs.map (al 53 ab)).length) tk rfl rfl rfl rfl rfl rfl ⟨_,_,rfl,ei⟩ ⟨_,_,rfl,ej⟩ ⟨_,_,rfl,rfl⟩ (by decide) hij' hjl hc rfl (ag (ac (aw 3 tk rfl ?_)))
 refine aY rfl (fun h=>?_) (fun h=>?_)
 ·have he : i = j := by simpa using h
  have hx : r = xs := by rw [hr,he,List.take_append_drop]
  subst hx
  refine aw 2 tk rfl ?_
  refine dN (st' := ⟨33,upd (fun _=>.any) 6 (.own 0 g_s (r.map (al 53 ab)).length),fun _=>none,upd (fun _=>none) 0 (some ⟨g_s,51,r.map (al 53 ab),true⟩)⟩) (Gh.le (aa ak) ah (aA ai)) ?_
  refine eZ tk rfl (ps := [.own 0 g_s (r.map (al 53 ab)).length]) ⟨_,_,rfl,rfl,rfl⟩ (PLe.q rfl) ⟨rfl,rfl⟩
 ·refine av (ac (af (aq tk rfl (jG tk (m := (xs.map (al 53 ab)).length) rfl ?_))))
  refine aq tk rfl (ag (ac (bl tk mok ⟨false,false,[]⟩ [0,1,2,3,4,5,6,7] rfl (by decide +kernel) rfl (aJ 2 rfl (sl (l := 0) (h := i.toNat) (m := g_s.cap) tk rfl rfl rfl rfl rfl rfl rfl rfl ⟨_,_,rfl,ei⟩ rfl (by decide) (Nat.zero_le _) (by omega) (Nat.le_refl _) rfl (aJ 2 rfl (sl (l := j.toNat) (h := (xs.map (al 53 ab)).length) (m := g_s.cap) tk rfl rfl rfl rfl rfl rfl rfl ⟨_,_,rfl,ej⟩ rfl rfl (by decide) hjl hc (Nat.le_refl _) rfl (sk (rows' := r.map (al 53 ab)) (tag := 0) (p := i.toNat) (q := j.toNat) tk rfl rfl rfl rfl rfl rfl rfl hij' hjl rfl rfl (by rw [hr,List.map_append,List.map_take,List.map_drop]) rfl (cC rfl (be ?_))))))))))
  have hrl : (r.map (al 53 ab)).length ≤ (xs.map (al 53 ab)).length := by rw [hr]; simp; omega
  refine ac (af (am 2 tk rfl (jG tk (m := (r.map (al 53 ab)).length) rfl ?_)))
  refine aq tk rfl (rY (l := (r.map (al 53 ab)).length) (h := (xs.map (al 53 ab)).length) (m := g_s.cap) tk rfl rfl rfl rfl rfl rfl ⟨_,_,rfl,rfl⟩ ⟨_,_,rfl,rfl⟩ rfl (by decide) hrl hc (Nat.le_refl _) rfl (se (tag := 0) (rows := List.map (al 53 ab) r) tk rfl rfl rfl rfl rfl rfl rfl rfl rfl (p := (r.map (al 53 ab)).length) (q := (xs.map (al 53 ab)).length) (m := g_s.cap) (Nat.le_refl _) hrl hc (Nat.le_refl _) rfl (ag (aw 2 tk rfl ?_))))
  refine dN (st' := ⟨33,upd (fun _=>.any) 6 (.own 0 g_s (r.map (al 53 ab)).length),fun _=>none,upd (fun _=>none) 0 (some ⟨g_s,51,r.map (al 53 ab),true⟩)⟩) (Gh.le (aa ak) ah (aA ai)) ?_
  refine eZ tk rfl (ps := [.own 0 g_s (r.map (al 53 ab)).length]) ⟨_,_,rfl,rfl,rfl⟩ (PLe.q rfl) ⟨rfl,rfl⟩
theorem clone_94 {m : Nat} (xs : Rq) : jE Tryz.prog 94 [.list 53 (xs.map ab)] (ma m 53 (xs.map ab)) := by
 refine PH.aC Tryz.func94 Tryz.ntmps94 ?_
 refine bU tk 0 rfl rfl (fun hz hb=>?_)
 refine aw 1 tk rfl (ac (ac (af (aq tk rfl ?_))))
 refine rN tk rfl rfl rfl rfl rfl rfl rfl (fun b hn=>?_)
 refine ag ?_
 refine aY rfl (fun h=>?_) (fun h=>?_)
 ·refine aw 1 tk rfl (jb tk 2 902 (e := 53) rfl rfl ?_)
  refine kq tk (hn h).symm
 ·refine av (ac (af ?_))
  refine pr (rows' := []) tk rfl rfl rfl rfl rfl rfl rfl rfl rfl (iw.refl _) fun g=>?_
  refine aq tk rfl ?_
  refine dr (rows2' := xs.map ab) (rows' := xs.map ab) tk rfl rfl rfl rfl rfl rfl rfl rfl rfl rfl rfl rfl rfl (gk.refl _) (by simpa using hb) (by simpa using hz) rfl fun g'=>?_
  refine aq tk rfl (ag ?_)
  refine kq tk rfl
def dv (a : Rq) (b : Rq) (downs : List Bool) : Option (Int) :=
 aj (ba (σ := Unit) (ρ := (Int)) (fun (j1 : Nat) (x1 : LVal) (_ : Unit) =>
  aj (
   cond (decide ((j1 : Int) ≥ (b.length : Int)))
    (some true)
    (aj (aF b (j1 : Int)) fun (x25 : LVal) =>
    some (x1.kind == x25.kind && (x1.int == x25.int && (x1.text == x25.text && true))))) fun (t3 : Bool) =>
  cond t3
   (some (.next ()))
   (aj (aF b (j1 : Int)) fun (x35 : LVal) =>
   bo (er x1 x35) fun x37 =>
   cond (decide ((j1 : Int) < (downs.length : Int)))
    (aj (aF downs (j1 : Int)) fun (x45 : Bool) =>
    cond x45
     (cond (!x37)
      (some (.ret (-1)))
      (some (.ret 1)))
     (cond x37
      (some (.ret (-1)))
      (some (.ret 1))))
    (cond x37
     (some (.ret (-1)))
     (some (.ret 1))))) 0 a ()) fun fl1=>fl1.thenR fun (_ : Unit) =>
 some 0
theorem mh (a : Rq) (b : Rq) (downs : List Bool) (r : Int) (H : dv a b downs = some r) :
  aV Tryz.prog 72 [(.list 53 (a.map ab)),(.list 53 (b.map ab)),(.list 4 (downs.map cB))] (ae r) := by
 unfold dv at H
 refine PH.aC Tryz.func72 Tryz.ntmps72 ?_
 refine aw 1 tk rfl (ac (ac (af (aq tk rfl (aN tk (zl _) ?_)))))
 refine aq tk rfl (ag ?_)
 obtain ⟨fl1,H1,Hp1⟩ := ax H
 refine bU tk 0 rfl rfl (fun hz1 _=>?_)
 rw [zl] at hz1
 refine aZ (τ := Unit) (γ := Unit) (fun s1 g1=>⟨52,fun _=>.any,fun _=>none,fun _=>none⟩) (fun t=>fl1 = .next t) ?_ (fun s1 g1 hn1=>?_)
 ·refine az ?_
  refine bF (fun j1 s1 g1=>⟨52,upd (upd (upd (upd (upd (fun _=>.any) 11 (ae (j1 : Int))) 10 (ae (a.length : Int))) 2 (.list 4 (downs.map cB))) 1 (.list 53 (b.map ab))) 0 (.list 53 (a.map ab)),fun _=>none,fun _=>none⟩) () H1 (Gh.le (aa (aa (aa (aa (aa ak))))) ah ai) (fun j1 s1 g1 hj1 hr1=>?_)
  refine aw 1 tk rfl (ac ?_)
  refine aY rfl (fun h=>?_) (fun h=>?_)
  ·have hl1 := cp h
   obtain ⟨x1,fb1,hx1,H,hg1⟩ := rMc hl1 hr1
   refine av (ac (az (aw 2 tk rfl (ac (ac ?_)))))
   obtain ⟨fl3,H3,Hp3⟩ := ax H
   refine aZ (τ := Bool) (γ := Unit) (fun t3 g3=>⟨52,upd (upd (upd (upd (upd (upd (upd (fun _=>.any) 28 (aE t3)) 11 (ae (j1 : Int))) 10 (ae (a.length : Int))) 7 (ae (j1 : Int))) 2 (.list 4 (downs.map cB))) 1 (.list 53 (b.map ab))) 0 (.list 53 (a.map ab)),fun _=>none,fun _=>none⟩) (fun t=>t = fl3) ?_ (fun t3 g3 hn3=>?_)
   ·have H := H3
    refine bl tk mok ⟨false,false,[]⟩ [0,1,2,3,4,5,6,7,8,9,10,11,12,13,14] rfl (by decide +kernel) rfl (aJ 2 rfl (sm rfl rfl rfl rfl rfl rfl (zl _) rfl (aJ 2 rfl ?_)))
    refine im H (fun H=>?_) (fun H=>?_)
    ·refine aJ 10 rfl (be ?_)
     obtain rfl := ao H
     refine aO true () rfl (Gh.le (aa (aa (aa (aa (aa (aa (aa ak))))))) ah ai)
    refine aJ 2 rfl ?_
    refine bX (zn j1) (bQ (fun _=>rfl) hx1) ?_
    refine aJ 3 rfl ?_
    obtain ⟨x25,k25,H⟩ := aW H
    refine bX k25.1 (aH (fun _=>rfl) k25.2) ?_
    refine aJ 3 rfl (be ?_)
    obtain rfl := ao H
    refine aO (x1.kind == x25.kind && (x1.int == x25.int && (x1.text == x25.text && true))) () rfl (Gh.le (aa (aa (aa (aa (aa (aa (aa ak))))))) ah ai)
   subst hn3
   have H := Hp3
   refine aP rfl H (fun H=>?_) (fun H=>?_)
   ·refine aR rfl (bh 2 tk rfl ?_)
    obtain rfl := ao H
    refine aK () () ⟨hl1,hg1⟩ (Gh.le (aa (aa (aa (aa (aI (PLe.q (aU (by omega))) ak))))) ah ai)
   refine av (ac (bl tk mok ⟨false,false,[]⟩ [0,1,2,3,4,5,6,7,8,9] rfl (by decide +kernel) rfl (aJ 2 rfl ?_)))
   refine bX (zn j1) (bQ (fun _=>rfl) hx1) ?_
   refine aJ 3 rfl ?_
   obtain ⟨x35,k35,H⟩ := aW H
   refine bX k35.1 (aH (fun _=>rfl) k35.2) ?_
   refine cC rfl ?_
   obtain ⟨x37,h37,H⟩ := bK H
   have s37 := jF x1 x35
   rw [h37] at s37
   refine bg Tryz.call45 (jc.r) s37 ?_
   refine cC rfl (be (ac (ac (af (am 2 tk rfl (aN tk (zl _) ?_))))))
   refine am 2 tk rfl ?_
   refine bG rfl rfl rfl H (fun H=>?_) (fun H=>?_)
   ·refine am 2 tk rfl ?_
    obtain ⟨x45,k45,H⟩ := aW H
    refine bt tk k45.1 (aH (fun _=>rfl) k45.2) ?_
    refine am 2 tk rfl (ag ?_)
    refine aP rfl H (fun H=>?_) (fun H=>?_)
    ·refine bh 3 tk rfl (ac (aw 1 tk rfl ?_))
     refine aP rfl H (fun H=>?_) (fun H=>?_)
     ·refine aw 1 tk rfl ?_
      obtain rfl := ao H
      have e1 : fl1 = .ret _ := hg1
      subst e1
      obtain rfl := bj Hp1
      refine aB tk rfl (ps := [(ae (-1))]) ⟨_,_,rfl,rfl,rfl⟩ (PLe.q rfl)
     refine av (aw 1 tk rfl ?_)
     obtain rfl := ao H
     have e1 : fl1 = .ret _ := hg1
     subst e1
     obtain rfl := bj Hp1
     refine aB tk rfl (ps := [(ae 1)]) ⟨_,_,rfl,rfl,rfl⟩ (PLe.q rfl)
    refine av (ac (aw 1 tk rfl ?_))
    refine aP rfl H (fun H=>?_) (fun H=>?_)
    ·refine aw 1 tk rfl ?_
     obtain rfl := ao H
     have e1 : fl1 = .ret _ := hg1
     subst e1
     obtain rfl := bj Hp1
     refine aB tk rfl (ps := [(ae (-1))]) ⟨_,_,rfl,rfl,rfl⟩ (PLe.q rfl)
    refine av (aw 1 tk rfl ?_)
    obtain rfl := ao H
    have e1 : fl1 = .ret _ := hg1
    subst e1
    obtain rfl := bj Hp1
    refine aB tk rfl (ps := [(ae 1)]) ⟨_,_,rfl,rfl,rfl⟩ (PLe.q rfl)
   refine am 5 tk rfl (ag (bH rfl (av (ac (aw 1 tk rfl ?_)))))
   refine aP rfl H (fun H=>?_) (fun H=>?_)
   ·refine aw 1 tk rfl ?_
    obtain rfl := ao H
    have e1 : fl1 = .ret _ := hg1
    subst e1
    obtain rfl := bj Hp1
    refine aB tk rfl (ps := [(ae (-1))]) ⟨_,_,rfl,rfl,rfl⟩ (PLe.q rfl)
   refine av (aw 1 tk rfl ?_)
   obtain rfl := ao H
   have e1 : fl1 = .ret _ := hg1
   subst e1
   obtain rfl := bj Hp1
   refine aB tk rfl (ps := [(ae 1)]) ⟨_,_,rfl,rfl,rfl⟩ (PLe.q rfl)
  have hn1 := rMd (cq h) hr1
  refine aR rfl ?_
  refine aO s1 g1 hn1 (Gh.le ak ah ai)
 have H := ck hn1 Hp1
 refine aw 1 tk rfl ?_
 obtain rfl := ao H
 refine aB tk rfl (ps := [(ae 0)]) ⟨_,_,rfl,rfl,rfl⟩ (PLe.q rfl)
def bZ (data : Rz) (a : Int) (b : Int) (cmp : Rq → Rq → Option (Int)) : Option (Rz) :=
 aj (whileM (σ := Rz × Int) (ρ := Empty) (fun (s1 : Rz × Int) =>
  cond (decide (s1.2 < b))
   (aj (whileM (σ := Rz × Int) (ρ := Empty) (fun (s22 : Rz × Int) =>
    aj (
     cond (decide (s22.2 > a))
      (aj (aF s22.1 s22.2) fun (x25 : Rq) =>
      aj (aF s22.1 (i64.wrap (s22.2 - (1 : Int)))) fun (x30 : Rq) =>
      aj (cmp x25 x30) fun x32 =>
      some (s22.1,(decide (x32 < (0 : Int)))))
      (some (s22.1,false))) fun (t29 : Rz × Bool) =>
    cond t29.2
     (aj (aF t29.1 (i64.wrap (s22.2 - (1 : Int)))) fun (x45 : Rq) =>
     aj (aF t29.1 s22.2) fun (x49 : Rq) =>
     aj (aF t29.1 s22.2) fun (_ : Rq) =>
     bo (t29.1.set s22.2.toNat x45) fun (y30 : Rz) =>
     aj (aF y30 (i64.wrap (s22.2 - (1 : Int)))) fun (_ : Rq) =>
     bo (y30.set ((i64.wrap (s22.2 - (1 : Int))).toNat) x49) fun (y31 : Rz) =>
     some (.next (y31,(i64.wrap (s22.2 - (1 : Int))))))
     (some (.brk (t29.1,s22.2)))) (s1.1,s1.2)) fun fl22=>fl22.thenP fun (s22 : Rz × Int) =>
   some (.next (s22.1,(i64.wrap (s1.2 + (1 : Int))))))
   (some (.brk (s1.1,s1.2)))) (data,(i64.wrap (a + (1 : Int))))) fun fl1=>fl1.thenP fun (s1 : Rz × Int) =>
 some s1.1
theorem fN (g_data : OwnRef) {g_cmp : FuncId} {caps_cmp : List PV} (data : Rz) (a : Int) (b : Int) (cmp : Rq → Rq → Option (Int)) (hg_cmp : ∀ (vs : Array Value) (w : World),(callFunc g_cmp vs).run Tryz.prog w = .ok (.enter g_cmp vs) w) (hp_cmp : ∀ a0 a1 r,cmp a0 a1 = some r → aV Tryz.prog g_cmp ((.list 53 (a0.map ab)) :: (.list 53 (a1.map ab)) :: caps_cmp) (ae r)) (r : Rz) (H : bZ data a b cmp = some r) :
  PH Tryz.prog 114 [(.own 0 g_data (data.map (al 53 ab)).length),(ae a),(ae b),(.fn g_cmp caps_cmp)] ⟨fun _=>none,upd (fun _=>none) 0 (some ⟨g_data,51,(data.map (al 53 ab)),true⟩)⟩ (fun u H=>u = (.tup []) ∧ H = ⟨fun _=>none,upd (fun _=>none) 0 (some ⟨g_data,51,(r.map (al 53 ab)),true⟩)⟩) := by
 unfold bZ at H
 refine PH.aC Tryz.func114 Tryz.ntmps114 ?_
 refine aw 3 tk rfl ?_
 obtain ⟨fl1,H1,Hp1⟩ := ax H
 refine aZ (τ := Rz × Int) (γ := Unit) (fun s1 g1=>⟨53,upd (fun _=>.any) 0 (.own 0 g_data (s1.1.map (al 53 ab)).length),fun _=>none,upd (fun _=>none) 0 (some ⟨g_data,51,(s1.1.map (al 53 ab)),true⟩)⟩) (fun t=>fl1 = .next t) ?_ (fun s1 g1 hn1=>?_)
 ·refine az ?_
  refine cP (fun s1 g1=>⟨53,upd (upd (upd (upd (upd (fun _=>.any) 8 (ae s1.2)) 3 (.fn g_cmp caps_cmp)) 2 (ae b)) 1 (ae a)) 0 (.own 0 g_data (s1.1.map (al 53 ab)).length),fun _=>none,upd (fun _=>none) 0 (some ⟨g_data,51,(s1.1.map (al 53 ab)),true⟩)⟩) () H1 (Gh.le (aa (aa (aa (aa (aa ak))))) ah (aA ai)) (fun m1 s1 g1 hr1=>?_)
  obtain ⟨fb1,H,hg1⟩ := cn hr1
  refine ac (aw 3 tk rfl ?_)
  refine aP rfl H (fun H=>?_) (fun H=>?_)
  ·refine av (ac (az (aw 2 tk rfl ?_)))
   obtain ⟨fl22,H22,Hp22⟩ := ax H
   refine aZ (τ := Rz × Int) (γ := Unit) (fun s22 g22=>⟨53,upd (upd (upd (upd (upd (fun _=>.any) 8 (ae s1.2)) 3 (.fn g_cmp caps_cmp)) 2 (ae b)) 1 (ae a)) 0 (.own 0 g_data (s22.1.map (al 53 ab)).length),fun _=>none,upd (fun _=>none) 0 (some ⟨g_data,51,(s22.1.map (al 53 ab)),true⟩)⟩) (fun t=>fl22 = .next t) ?_ (fun s22 g22 hn22=>?_)
   ·refine az ?_
    refine cP (fun s22 g22=>⟨53,upd (upd (upd (upd (upd (upd (fun _=>.any) 9 (ae s22.2)) 8 (ae s1.2)) 3 (.fn g_cmp caps_cmp)) 2 (ae b)) 1 (ae a)) 0 (.own 0 g_data (s22.1.map (al 53 ab)).length),fun _=>none,upd (fun _=>none) 0 (some ⟨g_data,51,(s22.1.map (al 53 ab)),true⟩)⟩) () H22 (Gh.le (aa (aa (aa (aa (aa (aa ak)))))) ah (aA ai)) (fun m22 s22 g22 hr22=>?_)
    obtain ⟨fb22,H,hg22⟩ := cn hr22
    refine ac (ac ?_)
    obtain ⟨fl29,H29,Hp29⟩ := ax H
    refine aZ (τ := Rz × Bool) (γ := Unit) (fun t29 g29=>⟨53,upd (upd (upd (upd (upd (upd (upd (fun _=>.any) 34 (aE t29.2)) 9 (ae s22.2)) 8 (ae s1.2)) 3 (.fn g_cmp caps_cmp)) 2 (ae b)) 1 (ae a)) 0 (.own 0 g_data (t29.1.map (al 53 ab)).length),fun _=>none,upd (fun _=>none) 0 (some ⟨g_data,51,(t29.1.map (al 53 ab)),true⟩)⟩) (fun t=>t = fl29) ?_ (fun t29 g29 hn29=>?_)
    ·have H := H29
     refine cZ (tag := 0) rfl (fun ho0=>?_)
     refine bl tk mok ⟨false,true,[]⟩ [0,1,2,3,4,5,6,7,8,9,10,11,12,13,14,15,16] rfl (by decide +kernel) rfl (aJ 4 rfl ?_)
     refine im H (fun H=>?_) (fun H=>?_)
     ·refine aJ 3 rfl ?_
      obtain ⟨x25,k25,H⟩ := aW H
      refine aS tk ⟨k25.1,(bm k25.2)⟩ (bn ho0 k25.2) ?_
      refine bf tk (aH (fun _=>rfl) k25.2) ?_
      refine aJ 3 rfl ?_
      obtain ⟨x30,k30,H⟩ := aW H
      refine aS tk ⟨k30.1,(bm k30.2)⟩ (bn ho0 k30.2) ?_
      refine bf tk (aH (fun _=>rfl) k30.2) ?_
      obtain ⟨x32,h32,H⟩ := ax H
      refine bg hg_cmp (jc.r) (hp_cmp _ _ _ h32) ?_
      refine aJ 2 rfl (be ?_)
      obtain rfl := ao H
      refine aO (s22.1,(decide (x32 < (0 : Int)))) () rfl (Gh.le (aa (aa (aa (aa (aa (aa (aa ak))))))) ah (aA ai))
     refine aJ 13 rfl (be ?_)
     obtain rfl := ao H
     refine aO (s22.1,false) () rfl (Gh.le (aa (aa (aa (aa (aa (aa (aa ak))))))) ah (aA ai))
    subst hn29
    have H := Hp29
    refine aP rfl H (fun H=>?_) (fun H=>?_)
    ·refine av (ac (az ?_))
     refine cZ (tag := 0) rfl (fun ho0=>?_)
     refine bl tk mok ⟨false,true,[]⟩ [0,1,2,3,4,5,6,7,8,9,10,11,12,13,14,15,16,17] rfl (by decide +kernel) rfl (aJ 8 rfl ?_)
     obtain ⟨x45,k45,H⟩ := aW H
     refine aS tk ⟨k45.1,(bm k45.2)⟩ (bn ho0 k45.2) ?_
     refine bf tk (aH (fun _=>rfl) k45.2) ?_
     refine aJ 2 rfl ?_
     obtain ⟨x49,k49,H⟩ := aW H
     refine aS tk ⟨k49.1,(bm k49.2)⟩ (bn ho0 k49.2) ?_
     refine bf tk (aH (fun _=>rfl) k49.2) ?_
     obtain ⟨x51,k51,H⟩ := aW H
     refine aS tk ⟨k51.1,(bm k51.2)⟩ (bn ho0 k51.2) ?_
     obtain ⟨y30,hy30,H⟩ := bK H
     refine cj tk rfl rfl rfl rfl rfl rfl rfl rfl rfl (by rw [zl]; exact (zg.1 k51.2).1) (PLe.refl _ _) rfl rfl rfl rfl (by decide) (bM (fun _=>rfl) k51.2 rfl hy30) ?_
     obtain ⟨x52,k52,H⟩ := aW H
     refine aS tk ⟨k52.1,(gq (br (f := (al 53 ab)) hy30) k52.2)⟩ (gw ho0 (br (f := (al 53 ab)) hy30) k52.2) ?_
     obtain ⟨y31,hy31,H⟩ := bK H
     refine cj tk rfl rfl rfl rfl rfl rfl rfl rfl rfl (by rw [zl]; exact (zg.1 k52.2).1) (PLe.refl _ _) rfl rfl rfl rfl (by decide) (bM (fun _=>rfl) k52.2 rfl hy31) ?_
     refine be (aQ (bh 3 tk rfl ?_))
     obtain rfl := ao H
     refine aK (y31,(i64.wrap (s22.2 - (1 : Int)))) () hg22 (Gh.le (aI (PLe.of2 (np.of_eq (congrArg (PV.own 0 g_data) ((br (f := (al 53 ab)) hy30).trans (br (f := (al 53 ab)) hy31))))) (aa (aa (aa (aa (aa ak)))))) ah (aA ai))
    refine aR rfl ?_
    obtain rfl := ao H
    refine aO (t29.1,s22.2) () hg22 (Gh.le (aa (aa (aa (aa (aa ak))))) ah (aA ai))
   have H := bq hn22 Hp22
   refine aQ (bh 3 tk rfl ?_)
   obtain rfl := ao H
   refine aK (s22.1,(i64.wrap (s1.2 + (1 : Int)))) () hg1 (Gh.le (aa (aa (aa (aa (aa ak))))) ah (aA ai))
  refine aR rfl ?_
  obtain rfl := ao H
  refine aO (s1.1,s1.2) () hg1 (Gh.le (aa ak) ah (aA ai))
 have H := bq hn1 Hp1
 obtain rfl := ao H
 refine dN (st' := ⟨53,fun _=>.any,fun _=>none,upd (fun _=>none) 0 (some ⟨g_data,51,(s1.1.map (al 53 ab)),true⟩)⟩) (Gh.le ak ah (aA ai)) ?_
 refine iI rfl (PLe.q rfl) ⟨rfl,rfl⟩
def cr (data : Rz) (a : Int) (b : Int) (n : Int) (_cmp : Rq → Rq → Option (Int)) : Option (Rz) :=
 aj (whileM (σ := Rz × Int) (ρ := Empty) (fun (s1 : Rz × Int) =>
  cond (decide (s1.2 < n))
   (aj (aF s1.1 (i64.wrap (b + s1.2))) fun (x28 : Rq) =>
   aj (aF s1.1 (i64.wrap (a + s1.2))) fun (x34 : Rq) =>
   aj (aF s1.1 (i64.wrap (a + s1.2))) fun (_ : Rq) =>
   bo (s1.1.set ((i64.wrap (a + s1.2)).toNat) x28) fun (y6 : Rz) =>
   aj (aF y6 (i64.wrap (b + s1.2))) fun (_ : Rq) =>
   bo (y6.set ((i64.wrap (b + s1.2)).toNat) x34) fun (y7 : Rz) =>
   some (.next (y7,(i64.wrap (s1.2 + (1 : Int))))))
   (some (.brk (s1.1,s1.2)))) (data,0)) fun fl1=>fl1.thenP fun (s1 : Rz × Int) =>
 some s1.1
theorem gB (g_data : OwnRef) {g_cmp : FuncId} {caps_cmp : List PV} (data : Rz) (a : Int) (b : Int) (n : Int) (cmp : Rq → Rq → Option (Int)) (_hg_cmp : ∀ (vs : Array Value) (w : World),(callFunc g_cmp vs).run Tryz.prog w = .ok (.enter g_cmp vs) w) (_hp_cmp : ∀ a0 a1 r,cmp a0 a1 = some r → aV Tryz.prog g_cmp ((.list 53 (a0.map ab)) :: (.list 53 (a1.map ab)) :: caps_cmp) (ae r)) (r : Rz) (H : cr data a b n cmp = some r) :
  PH Tryz.prog 213 [(.own 0 g_data (data.map (al 53 ab)).length),(ae a),(ae b),(ae n),(.fn g_cmp caps_cmp)] ⟨fun _=>none,upd (fun _=>none) 0 (some ⟨g_data,51,(data.map (al 53 ab)),true⟩)⟩ (fun u H=>u = (.tup []) ∧ H = ⟨fun _=>none,upd (fun _=>none) 0 (some ⟨g_data,51,(r.map (al 53 ab)),true⟩)⟩) := by
 unfold cr at H
 refine PH.aC Tryz.func213 Tryz.ntmps213 ?_
 refine aw 1 tk rfl ?_
 obtain ⟨fl1,H1,Hp1⟩ := ax H
 refine aZ (τ := Rz × Int) (γ := Unit) (fun s1 g1=>⟨38,upd (fun _=>.any) 0 (.own 0 g_data (s1.1.map (al 53 ab)).length),fun _=>none,upd (fun _=>none) 0 (some ⟨g_data,51,(s1.1.map (al 53 ab)),true⟩)⟩) (fun t=>fl1 = .next t) ?_ (fun s1 g1 hn1=>?_)
 ·refine az ?_
  refine cP (fun s1 g1=>⟨38,upd (upd (upd (upd (upd (fun _=>.any) 10 (ae s1.2)) 3 (ae n)) 2 (ae b)) 1 (ae a)) 0 (.own 0 g_data (s1.1.map (al 53 ab)).length),fun _=>none,upd (fun _=>none) 0 (some ⟨g_data,51,(s1.1.map (al 53 ab)),true⟩)⟩) () H1 (Gh.le (aa (aa (aa (aa (aa ak))))) ah (aA ai)) (fun m1 s1 g1 hr1=>?_)
  obtain ⟨fb1,H,hg1⟩ := cn hr1
  refine ac (aw 3 tk rfl ?_)
  refine aP rfl H (fun H=>?_) (fun H=>?_)
  ·refine av (ac (az ?_))
   refine cZ (tag := 0) rfl (fun ho0=>?_)
   refine bl tk mok ⟨false,true,[]⟩ [0,1,2,3,4,5,6,7,8,9,10,11,12,13,14,15,16,17,18,19,20,21,22,23] rfl (by decide +kernel) rfl (aJ 12 rfl ?_)
   obtain ⟨x28,k28,H⟩ := aW H
   refine aS tk ⟨k28.1,(bm k28.2)⟩ (bn ho0 k28.2) ?_
   refine bf tk (aH (fun _=>rfl) k28.2) ?_
   refine aJ 4 rfl ?_
   obtain ⟨x34,k34,H⟩ := aW H
   refine aS tk ⟨k34.1,(bm k34.2)⟩ (bn ho0 k34.2) ?_
   refine bf tk (aH (fun _=>rfl) k34.2) ?_
   obtain ⟨x36,k36,H⟩ := aW H
   refine aS tk ⟨k36.1,(bm k36.2)⟩ (bn ho0 k36.2) ?_
   obtain ⟨y6,hy6,H⟩ := bK H
   refine cj tk rfl rfl rfl rfl rfl rfl rfl rfl rfl (by rw [zl]; exact (zg.1 k36.2).1) (PLe.refl _ _) rfl rfl rfl rfl (by decide) (bM (fun _=>rfl) k36.2 rfl hy6) ?_
   obtain ⟨x37,k37,H⟩ := aW H
   refine aS tk ⟨k37.1,(gq (br (f := (al 53 ab)) hy6) k37.2)⟩ (gw ho0 (br (f := (al 53 ab)) hy6) k37.2) ?_
   obtain ⟨y7,hy7,H⟩ := bK H
   refine cj tk rfl rfl rfl rfl rfl rfl rfl rfl rfl (by rw [zl]; exact (zg.1 k37.2).1) (PLe.refl _ _) rfl rfl rfl rfl (by decide) (bM (fun _=>rfl) k37.2 rfl hy7) ?_
   refine be (aQ (bh 3 tk rfl ?_))
   obtain rfl := ao H
   refine aK (y7,(i64.wrap (s1.2 + (1 : Int)))) () hg1 (Gh.le (aI (PLe.of2 (np.of_eq (congrArg (PV.own 0 g_data) ((br (f := (al 53 ab)) hy6).trans (br (f := (al 53 ab)) hy7))))) (aa (aa (aa (aa ak))))) ah (aA ai))
  refine aR rfl ?_
  obtain rfl := ao H
  refine aO (s1.1,s1.2) () hg1 (Gh.le (aa ak) ah (aA ai))
 have H := bq hn1 Hp1
 obtain rfl := ao H
 refine dN (st' := ⟨38,fun _=>.any,fun _=>none,upd (fun _=>none) 0 (some ⟨g_data,51,(s1.1.map (al 53 ab)),true⟩)⟩) (Gh.le ak ah (aA ai)) ?_
 refine iI rfl (PLe.q rfl) ⟨rfl,rfl⟩
def ki (rec82 : LQuery → Int → Option (Int)) (q : LQuery) (most : Int) : Option (Int) :=
 aj (ba (σ := Int) (ρ := Empty) (fun (_ : Nat) (x1 : LExpr) (s1 : Int) =>
  bo (iY x1 (i64.wrap (s1 - (1 : Int)))) fun x23 =>
  some (.next x23)) 0 q.exprs most) fun fl1=>fl1.thenP fun (s1 : Int) =>
 aj (ba (σ := Int) (ρ := Empty) (fun (_ : Nat) (x2 : LAggregateCall) (s2 : Int) =>
  aj (ba (σ := Int) (ρ := Empty) (fun (_ : Nat) (x5 : LExpr) (s5 : Int) =>
   bo (iY x5 (i64.wrap (s5 - (1 : Int)))) fun x42 =>
   some (.next x42)) 0 x2.args s2) fun fl5=>fl5.thenP fun (s5 : Int) =>
  some (.next s5)) 0 q.aggregates s1) fun fl2=>fl2.thenP fun (s2 : Int) =>
 aj (ba (σ := Int) (ρ := (Int)) (fun (_ : Nat) (x6 : LQuery) (s6 : Int) =>
  cond (decide (s6 < (0 : Int)))
   (some (.ret (-1)))
   (aj (rec82 x6 (i64.wrap (s6 - (1 : Int)))) fun x57 =>
   some (.next x57))) 0 q.inputs s2) fun fl6=>fl6.thenR fun (s6 : Int) =>
 some s6
theorem rk (rec82 : LQuery → Int → Option (Int)) (hrec82 : ∀ a0 a1 r,rec82 a0 a1 = some r → aV Tryz.prog 82 [(.agg (bD a0)),(ae a1)] (ae r)) (q : LQuery) (most : Int) (r : Int) (H : ki rec82 q most = some r) :
  aV Tryz.prog 82 [(.agg (bD q)),(ae most)] (ae r) := by
 unfold ki at H
 refine PH.aC Tryz.func82 Tryz.ntmps82 ?_
 refine ac (af (aT ?_))
 refine aq tk rfl (ag (ac (ac (af (am 2 tk rfl (aN tk (zl _) ?_))))))
 refine aq tk rfl (ag ?_)
 obtain ⟨fl1,H1,Hp1⟩ := ax H
 refine bU tk 14 rfl rfl (fun hz1 _=>?_)
 rw [zl] at hz1
 refine aZ (τ := Int) (γ := Unit) (fun s1 g1=>⟨60,upd (upd (fun _=>.any) 2 (.ptr [(ae q.kind),(.str q.table),(.list 9 (q.names.map co)),(.list 56 (q.exprs.map bc)),(.list 66 (q.aggregates.map cl)),(.list 4 (q.descending.map cB)),(ae q.count),(ae q.offset),(.list 35 (q.inputs.map aX))])) 1 (ae s1),fun _=>none,fun _=>none⟩) (fun t=>fl1 = .next t) ?_ (fun s1 g1 hn1=>?_)
 ·refine az ?_
  refine bF (fun j1 s1 g1=>⟨60,upd (upd (upd (upd (upd (fun _=>.any) 16 (ae (j1 : Int))) 15 (ae (q.exprs.length : Int))) 14 (.list 56 (q.exprs.map bc))) 2 (.ptr [(ae q.kind),(.str q.table),(.list 9 (q.names.map co)),(.list 56 (q.exprs.map bc)),(.list 66 (q.aggregates.map cl)),(.list 4 (q.descending.map cB)),(ae q.count),(ae q.offset),(.list 35 (q.inputs.map aX))])) 1 (ae s1),fun _=>none,fun _=>none⟩) () H1 (Gh.le (aa (aa (aa (aa (aa ak))))) ah ai) (fun j1 s1 g1 hj1 hr1=>?_)
  refine aw 1 tk rfl (ac ?_)
  refine aY rfl (fun h=>?_) (fun h=>?_)
  ·have hl1 := cp h
   obtain ⟨x1,fb1,hx1,H,hg1⟩ := rMc hl1 hr1
   refine av (ac (az (ac (af (bt tk (zn j1) (bQ eF hx1) ?_)))))
   refine aq tk rfl ?_
   refine bv tk fun b6=>?_
   refine aD tk ?_
   refine ag (af (aM tk ?_))
   refine am 2 tk rfl ?_
   obtain ⟨x23,h23,H⟩ := bK H
   have s23 := qe x1 (i64.wrap (s1 - (1 : Int)))
   rw [h23] at s23
   refine au Tryz.call38 (jc.r) s23 ?_
   refine aq tk rfl (ag (aQ (bh 2 tk rfl ?_)))
   obtain rfl := ao H
   refine aK x23 () ⟨hl1,hg1⟩ (Gh.le (aa (aa (aa (aa (aI (PLe.q (aU (by omega))) ak))))) ah ai)
  have hn1 := rMd (cq h) hr1
  refine aR rfl ?_
  refine aO s1 g1 hn1 (Gh.le (aa (aa ak)) ah ai)
 have H := bq hn1 Hp1
 refine ac (ac (af (am 2 tk rfl (aN tk (zl _) ?_))))
 refine aq tk rfl (ag ?_)
 obtain ⟨fl2,H2,Hp2⟩ := ax H
 refine bU tk 26 rfl rfl (fun hz2 _=>?_)
 rw [zl] at hz2
 refine aZ (τ := Int) (γ := Unit) (fun s2 g2=>⟨60,upd (upd (fun _=>.any) 2 (.ptr [(ae q.kind),(.str q.table),(.list 9 (q.names.map co)),(.list 56 (q.exprs.map bc)),(.list 66 (q.aggregates.map cl)),(.list 4 (q.descending.map cB)),(ae q.count),(ae q.offset),(.list 35 (q.inputs.map aX))])) 1 (ae s2),fun _=>none,fun _=>none⟩) (fun t=>fl2 = .next t) ?_ (fun s2 g2 hn2=>?_)
 ·refine az ?_
  refine bF (fun j2 s2 g2=>⟨60,upd (upd (upd (upd (upd (fun _=>.any) 28 (ae (j2 : Int))) 27 (ae (q.aggregates.length : Int))) 26 (.list 66 (q.aggregates.map cl))) 2 (.ptr [(ae q.kind),(.str q.table),(.list 9 (q.names.map co)),(.list 56 (q.exprs.map bc)),(.list 66 (q.aggregates.map cl)),(.list 4 (q.descending.map cB)),(ae q.count),(ae q.offset),(.list 35 (q.inputs.map aX))])) 1 (ae s2),fun _=>none,fun _=>none⟩) () H2 (Gh.le (aa (aa (aa (aa (aa ak))))) ah ai) (fun j2 s2 g2 hj2 hr2=>?_)
  refine aw 1 tk rfl (ac ?_)
  refine aY rfl (fun h=>?_) (fun h=>?_)
  ·have hl2 := cp h
   obtain ⟨x2,fb2,hx2,H,hg2⟩ := rMc hl2 hr2
   refine av (ac (az (ac (af ?_))))
   refine bt tk (zn j2) (bQ (fun _=>rfl) hx2) ?_
   refine aq tk rfl ?_
   refine bv tk fun b8=>?_
   refine aD tk ?_
   refine ag (ac (af (aq tk rfl (aM tk ?_))))
   refine aN tk (zl _) ?_
   refine aq tk rfl (ag ?_)
   obtain ⟨fl5,H5,Hp5⟩ := ax H
   refine bU tk 33 rfl rfl (fun hz5 _=>?_)
   rw [zl] at hz5
   refine aZ (τ := Int) (γ := Unit) (fun s5 g5=>⟨60,upd (upd (upd (upd (upd (fun _=>.any) 28 (ae (j2 : Int))) 27 (ae (q.aggregates.length : Int))) 26 (.list 66 (q.aggregates.map cl))) 2 (.ptr [(ae q.kind),(.str q.table),(.list 9 (q.names.map co)),(.list 56 (q.exprs.map bc)),(.list 66 (q.aggregates.map cl)),(.list 4 (q.descending.map cB)),(ae q.count),(ae q.offset),(.list 35 (q.inputs.map aX))])) 1 (ae s5),fun _=>none,fun _=>none⟩) (fun t=>fl5 = .next t) ?_ (fun s5 g5 hn5=>?_)
   ·refine az ?_
    refine bF (fun j5 s5 g5=>⟨60,upd (upd (upd (upd (upd (upd (upd (upd (fun _=>.any) 35 (ae (j5 : Int))) 34 (ae (x2.args.length : Int))) 33 (.list 56 (x2.args.map bc))) 28 (ae (j2 : Int))) 27 (ae (q.aggregates.length : Int))) 26 (.list 66 (q.aggregates.map cl))) 2 (.ptr [(ae q.kind),(.str q.table),(.list 9 (q.names.map co)),(.list 56 (q.exprs.map bc)),(.list 66 (q.aggregates.map cl)),(.list 4 (q.descending.map cB)),(ae q.count),(ae q.offset),(.list 35 (q.inputs.map aX))])) 1 (ae s5),fun _=>none,fun _=>none⟩) () H5 (Gh.le (aa (aa (aa (aa (aa (aa (aa (aa ak)))))))) ah ai) (fun j5 s5 g5 hj5 hr5=>?_)
    refine aw 1 tk rfl (ac ?_)
    refine aY rfl (fun h=>?_) (fun h=>?_)
    ·have hl5 := cp h
     obtain ⟨x5,fb5,hx5,H,hg5⟩ := rMc hl5 hr5
     refine av (ac (az (ac (af (bt tk (zn j5) (bQ eF hx5) ?_)))))
     refine aq tk rfl ?_
     refine bv tk fun b10=>?_
     refine aD tk ?_
     refine ag (af (aM tk ?_))
     refine am 2 tk rfl ?_
     obtain ⟨x42,h42,H⟩ := bK H
     have s42 := qe x5 (i64.wrap (s5 - (1 : Int)))
     rw [h42] at s42
     refine au Tryz.call38 (jc.r) s42 ?_
     refine aq tk rfl (ag (aQ (bh 2 tk rfl ?_)))
     obtain rfl := ao H
     refine aK x42 () ⟨hl5,hg5⟩ (Gh.le (aa (aa (aa (aa (aa (aa (aa (aI (PLe.q (aU (by omega))) ak)))))))) ah ai)
    have hn5 := rMd (cq h) hr5
    refine aR rfl ?_
    refine aO s5 g5 hn5 (Gh.le (aa (aa (aa (aa (aa ak))))) ah ai)
   have H := bq hn5 Hp5
   refine aQ (bh 2 tk rfl ?_)
   obtain rfl := ao H
   refine aK s5 () ⟨hl2,hg2⟩ (Gh.le (aa (aa (aa (aa (aI (PLe.q (aU (by omega))) ak))))) ah ai)
  have hn2 := rMd (cq h) hr2
  refine aR rfl ?_
  refine aO s2 g2 hn2 (Gh.le (aa (aa ak)) ah ai)
 have H := bq hn2 Hp2
 refine ac (ac (af (am 2 tk rfl (aN tk (zl _) ?_))))
 refine aq tk rfl (ag ?_)
 obtain ⟨fl6,H6,Hp6⟩ := ax H
 refine bU tk 46 rfl rfl (fun hz6 _=>?_)
 rw [zl] at hz6
 refine aZ (τ := Int) (γ := Unit) (fun s6 g6=>⟨60,upd (fun _=>.any) 1 (ae s6),fun _=>none,fun _=>none⟩) (fun t=>fl6 = .next t) ?_ (fun s6 g6 hn6=>?_)
 ·refine az ?_
  refine bF (fun j6 s6 g6=>⟨60,upd (upd (upd (upd (fun _=>.any) 48 (ae (j6 : Int))) 47 (ae (q.inputs.length : Int))) 46 (.list 35 (q.inputs.map aX))) 1 (ae s6),fun _=>none,fun _=>none⟩) () H6 (Gh.le (aa (aa (aa (aa ak)))) ah ai) (fun j6 s6 g6 hj6 hr6=>?_)
  refine aw 1 tk rfl (ac ?_)
  refine aY rfl (fun h=>?_) (fun h=>?_)
  ·have hl6 := cp h
   obtain ⟨x6,fb6,hx6,H,hg6⟩ := rMc hl6 hr6
   refine av (ac (az (ac (af (bt tk (zn j6) (bQ cK hx6) ?_)))))
   refine aq tk rfl ?_
   refine bv tk fun b12=>?_
   refine aD tk ?_
   refine ag (ac (aw 2 tk rfl ?_))
   refine aP rfl H (fun H=>?_) (fun H=>?_)
   ·refine aw 1 tk rfl ?_
    obtain rfl := ao H
    have e6 : fl6 = .ret _ := hg6
    subst e6
    obtain rfl := bj Hp6
    refine aB tk rfl (ps := [(ae (-1))]) ⟨_,_,rfl,rfl,rfl⟩ (PLe.q rfl)
   refine av (af (aM tk ?_))
   refine am 2 tk rfl ?_
   obtain ⟨x57,h57,H⟩ := ax H
   have s57 := hrec82 x6 (i64.wrap (s6 - (1 : Int))) _ h57
   refine au Tryz.call82 (jc.r) s57 ?_
   refine aq tk rfl (ag (aQ (bh 2 tk rfl ?_)))
   obtain rfl := ao H
   refine aK x57 () ⟨hl6,hg6⟩ (Gh.le (aa (aa (aa (aI (PLe.q (aU (by omega))) ak)))) ah ai)
  have hn6 := rMd (cq h) hr6
  refine aR rfl ?_
  refine aO s6 g6 hn6 (Gh.le (aa ak) ah ai)
 have H := ck hn6 Hp6
 refine aw 2 tk rfl ?_
 obtain rfl := ao H
 refine aB tk rfl (ps := [(ae s6)]) ⟨_,_,rfl,rfl,rfl⟩ (PLe.q rfl)
def gF : Nat → LQuery → Int → Option (Int)
 | 0,_,_=>none
 | n + 1,v0,v1=>ki (fun b0 b1=>gF n b0 b1) v0 v1
theorem ri  (n : Nat) : (∀ a0 a1 r,gF n a0 a1 = some r → aV Tryz.prog 82 [(.agg (bD a0)),(ae a1)] (ae r)) := by
 induction n with
 | zero=>exact (by intros; rename_i h; exact absurd (show (none : Option _) = some _ from h) (by simp))
 | succ n ih =>
  exact (fun v0 v1 r h=>rk (fun b0 b1=>gF n b0 b1) ih v0 v1  r h)
def ls (q : LQuery) (most : Int) : Option (Int) := iQ fun n=>gF n q most
theorem rJ (q : LQuery) (most : Int) (r : Int) (H : ls q most = some r) :
  aV Tryz.prog 82 [(.agg (bD q)),(ae most)] (ae r) := by
 obtain ⟨n,h⟩ := jy H
 exact (ri  n) q most r h
def fU (sA : List UInt8) : Option (Bool) :=
 aj (
  cond (decide ((sA.length : Int) < (1 : Int)))
   (some true)
   (cond (decide ((sA.length : Int) > (12 : Int)))
    (some true)
    (aj (aF sA 0) fun (x15 : UInt8) =>
    cond (decide ((x15.toNat : Int) ≥ (48 : Int)))
     (aj (aF sA 0) fun (x19 : UInt8) =>
     some (decide ((x19.toNat : Int) ≤ (57 : Int))))
     (some false)))) fun (t1 : Bool) =>
 cond t1
  (some false)
  (aj (cF (sA.length ≤ 2 ^ 47) ()) fun (_ : Unit) =>
  aj (ba (σ := Unit) (ρ := (Bool)) (fun (_ : Nat) (x2 : UInt8) (_ : Unit) =>
   cond (decide ((x2.toNat : Int) < (97 : Int)))
    (cond (decide ((x2.toNat : Int) < (48 : Int)))
     (some (.ret false))
     (cond (decide ((x2.toNat : Int) > (57 : Int)))
      (some (.ret false))
      (some (.next ()))))
    (cond (decide ((x2.toNat : Int) > (122 : Int)))
     (cond (decide ((x2.toNat : Int) < (48 : Int)))
      (some (.ret false))
      (cond (decide ((x2.toNat : Int) > (57 : Int)))
       (some (.ret false))
       (some (.next ()))))
     (some (.next ())))) 0 sA ()) fun fl2=>fl2.thenR fun (_ : Unit) =>
  some true)
theorem mX (sA : List UInt8) (r : Bool) (H : fU sA = some r) :
  aV Tryz.prog 143 [(.str sA)] (aE r) := by
 unfold fU at H
 refine PH.aC Tryz.func143 Tryz.ntmps143 ?_
 refine aw 1 tk rfl (ac (ac ?_))
 obtain ⟨fl1,H1,Hp1⟩ := ax H
 refine aZ (τ := Bool) (γ := Unit) (fun t1 g1=>⟨45,upd (upd (fun _=>.any) 22 (aE t1)) 0 (.str sA),fun _=>none,fun _=>none⟩) (fun t=>t = fl1) ?_ (fun t1 g1 hn1=>?_)
 ·have H := H1
  refine af (am 4 tk rfl ?_)
  refine bG rfl rfl rfl H (fun H=>?_) (fun H=>?_)
  ·refine am 14 tk rfl (ag ?_)
   obtain rfl := ao H
   refine aO true () rfl (Gh.le (aa (aa ak)) ah ai)
  refine am 5 tk rfl ?_
  refine bG rfl rfl rfl H (fun H=>?_) (fun H=>?_)
  ·refine am 9 tk rfl (ag ?_)
   obtain rfl := ao H
   refine aO true () rfl (Gh.le (aa (aa ak)) ah ai)
  refine aq tk rfl ?_
  obtain ⟨x15,k15,H⟩ := aW H
  refine qT tk rfl rfl rfl rfl rfl rfl k15.1 k15.2 rfl (am 2 tk rfl ?_)
  refine bG rfl rfl rfl H (fun H=>?_) (fun H=>?_)
  ·refine aq tk rfl ?_
   obtain ⟨x19,k19,H⟩ := aW H
   refine qT tk rfl rfl rfl rfl rfl rfl k19.1 k19.2 rfl (am 3 tk rfl (ag ?_))
   obtain rfl := ao H
   refine aO (decide ((x19.toNat : Int) ≤ (57 : Int))) () rfl (Gh.le (aa (aa ak)) ah ai)
  refine am 5 tk rfl (ag ?_)
  obtain rfl := ao H
  refine aO false () rfl (Gh.le (aa (aa ak)) ah ai)
 subst hn1
 have H := Hp1
 refine aP rfl H (fun H=>?_) (fun H=>?_)
 ·refine aw 1 tk rfl ?_
  obtain rfl := ao H
  refine aB tk rfl (ps := [(aE false)]) ⟨_,_,rfl,rfl,rfl⟩ (PLe.q rfl)
 refine av (ac (ac (af (aq tk rfl ?_))))
 obtain ⟨_,h24,H⟩ := ax H
 refine Ao.s2b (xs := sA) tk rfl rfl rfl rfl rfl rfl rfl rfl rfl rfl rfl (bI h24).1 rfl (aN tk (zl _) ?_)
 refine aq tk rfl (ag ?_)
 obtain ⟨fl2,H2,Hp2⟩ := ax H
 refine bU tk 24 rfl rfl (fun hz2 _=>?_)
 rw [zl] at hz2
 refine aZ (τ := Unit) (γ := Unit) (fun s2 g2=>⟨45,fun _=>.any,fun _=>none,fun _=>none⟩) (fun t=>fl2 = .next t) ?_ (fun s2 g2 hn2=>?_)
 ·refine az ?_
  refine bF (fun j2 s2 g2=>⟨45,upd (upd (upd (fun _=>.any) 26 (ae (j2 : Int))) 25 (ae (sA.length : Int))) 24 (.list 5 (sA.map rU8)),fun _=>none,fun _=>none⟩) () H2 (Gh.le (aa (aa (aa ak))) ah ai) (fun j2 s2 g2 hj2 hr2=>?_)
  refine aw 1 tk rfl (ac ?_)
  refine aY rfl (fun h=>?_) (fun h=>?_)
  ·have hl2 := cp h
   obtain ⟨x2,fb2,hx2,H,hg2⟩ := rMc hl2 hr2
   refine av (ac (az (ac (af ?_))))
   refine bt tk (zn j2) (bQ (fun _=>rfl) hx2) ?_
   refine am 2 tk rfl (ag (ac (af (am 3 tk rfl ?_))))
   refine bG rfl rfl rfl H (fun H=>?_) (fun H=>?_)
   ·refine am 7 tk rfl ?_
    refine bG rfl rfl rfl H (fun H=>?_) (fun H=>?_)
    ·refine am 4 tk rfl (ag (cv rfl (aw 1 tk rfl ?_)))
     obtain rfl := ao H
     have e2 : fl2 = .ret _ := hg2
     subst e2
     obtain rfl := bj Hp2
     refine aB tk rfl (ps := [(aE false)]) ⟨_,_,rfl,rfl,rfl⟩ (PLe.q rfl)
    refine am 4 tk rfl (ag ?_)
    refine aP rfl H (fun H=>?_) (fun H=>?_)
    ·refine aw 1 tk rfl ?_
     obtain rfl := ao H
     have e2 : fl2 = .ret _ := hg2
     subst e2
     obtain rfl := bj Hp2
     refine aB tk rfl (ps := [(aE false)]) ⟨_,_,rfl,rfl,rfl⟩ (PLe.q rfl)
    refine av (aQ (bh 2 tk rfl ?_))
    obtain rfl := ao H
    refine aK () () ⟨hl2,hg2⟩ (Gh.le (aa (aa (aI (PLe.q (aU (by omega))) ak))) ah ai)
   refine am 4 tk rfl ?_
   refine bG rfl rfl rfl H (fun H=>?_) (fun H=>?_)
   ·refine am 3 tk rfl ?_
    refine bG rfl rfl rfl H (fun H=>?_) (fun H=>?_)
    ·refine am 4 tk rfl (ag (cv rfl (aw 1 tk rfl ?_)))
     obtain rfl := ao H
     have e2 : fl2 = .ret _ := hg2
     subst e2
     obtain rfl := bj Hp2
     refine aB tk rfl (ps := [(aE false)]) ⟨_,_,rfl,rfl,rfl⟩ (PLe.q rfl)
    refine am 4 tk rfl (ag ?_)
    refine aP rfl H (fun H=>?_) (fun H=>?_)
    ·refine aw 1 tk rfl ?_
     obtain rfl := ao H
     have e2 : fl2 = .ret _ := hg2
     subst e2
     obtain rfl := bj Hp2
     refine aB tk rfl (ps := [(aE false)]) ⟨_,_,rfl,rfl,rfl⟩ (PLe.q rfl)
    refine av (aQ (bh 2 tk rfl ?_))
    obtain rfl := ao H
    refine aK () () ⟨hl2,hg2⟩ (Gh.le (aa (aa (aI (PLe.q (aU (by omega))) ak))) ah ai)
   refine am 7 tk rfl (ag (bH rfl (av (aQ (bh 2 tk rfl ?_)))))
   obtain rfl := ao H
   refine aK () () ⟨hl2,hg2⟩ (Gh.le (aa (aa (aI (PLe.q (aU (by omega))) ak))) ah ai)
  have hn2 := rMd (cq h) hr2
  refine aR rfl ?_
  refine aO s2 g2 hn2 (Gh.le ak ah ai)
 have H := ck hn2 Hp2
 refine aw 1 tk rfl ?_
 obtain rfl := ao H
 refine aB tk rfl (ps := [(aE true)]) ⟨_,_,rfl,rfl,rfl⟩ (PLe.q rfl)
def ep (c : LCol) (c0 : List UInt8) : Bool :=
 (c.name == c0)
theorem pu (c : LCol) (c0 : List UInt8) :
  aV Tryz.prog 176 [(.agg (aG c)),(.ptr [(.str c0)])] (aE (ep c c0)) := by
 obtain ⟨r,H⟩ : ∃ r,ep c c0 = r := ⟨_,rfl⟩
 rw [H]
 unfold ep at H
 refine PH.aC Tryz.func176 Tryz.ntmps176 ?_
 refine ac (af (aT ?_))
 refine aq tk rfl (ag (aw 5 tk rfl ?_))
 subst H
 refine aB tk rfl (ps := [(aE (c.name == c0))]) ⟨_,_,rfl,rfl,rfl⟩ (PLe.q rfl)
def dD (t : LTable) (c0 : List UInt8) : Bool :=
 (t.name == c0)
theorem qb (t : LTable) (c0 : List UInt8) :
  aV Tryz.prog 177 [(.agg (bA t)),(.ptr [(.str c0)])] (aE (dD t c0)) := by
 obtain ⟨r,H⟩ : ∃ r,dD t c0 = r := ⟨_,rfl⟩
 rw [H]
 unfold dD at H
 refine PH.aC Tryz.func177 Tryz.ntmps177 ?_
 refine ac (af (aT ?_))
 refine aq tk rfl (ag (aw 5 tk rfl ?_))
 subst H
 refine aB tk rfl (ps := [(aE (t.name == c0))]) ⟨_,_,rfl,rfl,rfl⟩ (PLe.q rfl)
def gg (s1A : List Int) (s2A : List Int) : Option (Bool) :=
 cond ((s1A.length : Int) != (s2A.length : Int))
  (some false)
  (aj (ba (σ := Unit) (ρ := (Bool)) (fun (j1 : Nat) (x1 : Int) (_ : Unit) =>
   aj (aF s2A (j1 : Int)) fun (x22 : Int) =>
   cond (x1 != x22)
    (some (.ret false))
    (some (.next ()))) 0 s1A ()) fun fl1=>fl1.thenR fun (_ : Unit) =>
  some true)
theorem oD (s1A : List Int) (s2A : List Int) (r : Bool) (H : gg s1A s2A = some r) :
  aV Tryz.prog 147 [(.list 3 (s1A.map bJ)),(.list 3 (s2A.map bJ))] (aE r) := by
 unfold gg at H
 refine PH.aC Tryz.func147 Tryz.ntmps147 ?_
 refine aw 1 tk rfl (ac (ac (af (aq tk rfl (aN tk (zl _) ?_)))))
 refine aq tk rfl (aN tk (zl _) ?_)
 refine aq tk rfl (ag ?_)
 refine aP rfl H (fun H=>?_) (fun H=>?_)
 ·refine aw 1 tk rfl ?_
  obtain rfl := ao H
  refine aB tk rfl (ps := [(aE false)]) ⟨_,_,rfl,rfl,rfl⟩ (PLe.q rfl)
 refine av (ac (ac (af (aq tk rfl (aN tk (zl _) ?_)))))
 refine aq tk rfl (ag ?_)
 obtain ⟨fl1,H1,Hp1⟩ := ax H
 refine bU tk 0 rfl rfl (fun hz1 _=>?_)
 rw [zl] at hz1
 refine aZ (τ := Unit) (γ := Unit) (fun s1 g1=>⟨26,fun _=>.any,fun _=>none,fun _=>none⟩) (fun t=>fl1 = .next t) ?_ (fun s1 g1 hn1=>?_)
 ·refine az ?_
  refine bF (fun j1 s1 g1=>⟨26,upd (upd (upd (upd (fun _=>.any) 13 (ae (j1 : Int))) 12 (ae (s1A.length : Int))) 1 (.list 3 (s2A.map bJ))) 0 (.list 3 (s1A.map bJ)),fun _=>none,fun _=>none⟩) () H1 (Gh.le (aa (aa (aa (aa ak)))) ah ai) (fun j1 s1 g1 hj1 hr1=>?_)
  refine aw 1 tk rfl (ac ?_)
  refine aY rfl (fun h=>?_) (fun h=>?_)
  ·have hl1 := cp h
   obtain ⟨x1,fb1,hx1,H,hg1⟩ := rMc hl1 hr1
   refine av (ac (az (aw 2 tk rfl (ac (bl tk mok ⟨false,false,[]⟩ [0,1,2,3,4,5,6,7,8] rfl (by decide +kernel) rfl (aJ 2 rfl ?_))))))
   refine bX (zn j1) (bQ (fun _=>rfl) hx1) ?_
   refine aJ 3 rfl ?_
   obtain ⟨x22,k22,H⟩ := aW H
   refine bX k22.1 (aH (fun _=>rfl) k22.2) ?_
   refine aJ 2 rfl (be ?_)
   refine aP rfl H (fun H=>?_) (fun H=>?_)
   ·refine aw 1 tk rfl ?_
    obtain rfl := ao H
    have e1 : fl1 = .ret _ := hg1
    subst e1
    obtain rfl := bj Hp1
    refine aB tk rfl (ps := [(aE false)]) ⟨_,_,rfl,rfl,rfl⟩ (PLe.q rfl)
   refine av (aQ (bh 2 tk rfl ?_))
   obtain rfl := ao H
   refine aK () () ⟨hl1,hg1⟩ (Gh.le (aa (aa (aa (aI (PLe.q (aU (by omega))) ak)))) ah ai)
  have hn1 := rMd (cq h) hr1
  refine aR rfl ?_
  refine aO s1 g1 hn1 (Gh.le ak ah ai)
 have H := ck hn1 Hp1
 refine aw 1 tk rfl ?_
 obtain rfl := ao H
 refine aB tk rfl (ps := [(aE true)]) ⟨_,_,rfl,rfl,rfl⟩ (PLe.q rfl)
def dd (sA : List LForeignKey) (f : LForeignKey → Option (Bool)) : Option (Int) :=
 aj (ba (σ := Unit) (ρ := (Int)) (fun (j1 : Nat) (x1 : LForeignKey) (_ : Unit) =>
  aj (f x1) fun x16 =>
  cond x16
   (some (.ret (j1 : Int)))
   (some (.next ()))) 0 sA ()) fun fl1=>fl1.thenR fun (_ : Unit) =>
 some (-1)
theorem iX {g_f : FuncId} {caps_f : List PV} (sA : List LForeignKey) (f : LForeignKey → Option (Bool)) (hg_f : ∀ (vs : Array Value) (w : World),(callFunc g_f vs).run Tryz.prog w = .ok (.enter g_f vs) w) (hp_f : ∀ a0 r,f a0 = some r → aV Tryz.prog g_f ((.agg (cD a0)) :: caps_f) (aE r)) (r : Int) (H : dd sA f = some r) :
  aV Tryz.prog 146 [(.list 142 (sA.map cD)),(.fn g_f caps_f)] (ae r) := by
 unfold dd at H
 refine PH.aC Tryz.func146 Tryz.ntmps146 ?_
 refine aw 1 tk rfl (ac (ac (af (aq tk rfl (aN tk (zl _) ?_)))))
 refine aq tk rfl (ag ?_)
 obtain ⟨fl1,H1,Hp1⟩ := ax H
 refine bU tk 0 rfl rfl (fun hz1 _=>?_)
 rw [zl] at hz1
 refine aZ (τ := Unit) (γ := Unit) (fun s1 g1=>⟨19,fun _=>.any,fun _=>none,fun _=>none⟩) (fun t=>fl1 = .next t) ?_ (fun s1 g1 hn1=>?_)
 ·refine az ?_
  refine bF (fun j1 s1 g1=>⟨19,upd (upd (upd (upd (fun _=>.any) 8 (ae (j1 : Int))) 7 (ae (sA.length : Int))) 1 (.fn g_f caps_f)) 0 (.list 142 (sA.map cD)),fun _=>none,fun _=>none⟩) () H1 (Gh.le (aa (aa (aa (aa ak)))) ah ai) (fun j1 s1 g1 hj1 hr1=>?_)
  refine aw 1 tk rfl (ac ?_)
  refine aY rfl (fun h=>?_) (fun h=>?_)
  ·have hl1 := cp h
   obtain ⟨x1,fb1,hx1,H,hg1⟩ := rMc hl1 hr1
   refine av (ac (az (aw 2 tk rfl (ac (af (am 3 tk rfl ?_))))))
   refine bt tk (zn j1) (bQ (fun _=>rfl) hx1) ?_
   refine aq tk rfl ?_
   obtain ⟨x16,h16,H⟩ := ax H
   refine au hg_f (jc.r) (hp_f _ _ h16) ?_
   refine ag ?_
   refine aP rfl H (fun H=>?_) (fun H=>?_)
   ·refine aw 2 tk rfl ?_
    obtain rfl := ao H
    have e1 : fl1 = .ret _ := hg1
    subst e1
    obtain rfl := bj Hp1
    refine aB tk rfl (ps := [(ae (j1 : Int))]) ⟨_,_,rfl,rfl,rfl⟩ (PLe.q rfl)
   refine av (aQ (bh 2 tk rfl ?_))
   obtain rfl := ao H
   refine aK () () ⟨hl1,hg1⟩ (Gh.le (aa (aa (aa (aI (PLe.q (aU (by omega))) ak)))) ah ai)
  have hn1 := rMd (cq h) hr1
  refine aR rfl ?_
  refine aO s1 g1 hn1 (Gh.le ak ah ai)
 have H := ck hn1 Hp1
 refine aw 1 tk rfl ?_
 obtain rfl := ao H
 refine aB tk rfl (ps := [(ae (-1))]) ⟨_,_,rfl,rfl,rfl⟩ (PLe.q rfl)
def dy (sA : List LConstraint) (v : LConstraint) : Option (Int) :=
 aj (ba (σ := Unit) (ρ := (Int)) (fun (j1 : Nat) (x1 : LConstraint) (_ : Unit) =>
  cond (v.table == x1.table && (v.left == x1.left && (v.op == x1.op && (v.right == x1.right && ((v.value.kind == x1.value.kind && (v.value.int == x1.value.int && (v.value.text == x1.value.text && true))) && true)))))
   (some (.ret (j1 : Int)))
   (some (.next ()))) 0 sA ()) fun fl1=>fl1.thenR fun (_ : Unit) =>
 some (-1)
theorem jz (sA : List LConstraint) (v : LConstraint) (r : Int) (H : dy sA v = some r) :
  aV Tryz.prog 149 [(.list 148 (sA.map cN)),(.agg (cN v))] (ae r) := by
 unfold dy at H
 refine PH.aC Tryz.func149 Tryz.ntmps149 ?_
 refine ac (af (aT ?_))
 refine aq tk rfl (ag (ac (ac (af (aq tk rfl (aN tk (zl _) ?_))))))
 refine aq tk rfl (ag ?_)
 obtain ⟨fl1,H1,Hp1⟩ := ax H
 refine bU tk 0 rfl rfl (fun hz1 _=>?_)
 rw [zl] at hz1
 refine aZ (τ := Unit) (γ := Unit) (fun s1 g1=>⟨19,fun _=>.any,fun _=>none,fun _=>none⟩) (fun t=>fl1 = .next t) ?_ (fun s1 g1 hn1=>?_)
 ·refine az ?_
  refine bF (fun j1 s1 g1=>⟨19,upd (upd (upd (upd (fun _=>.any) 8 (ae (j1 : Int))) 7 (ae (sA.length : Int))) 3 (.ptr [(.str v.table),(ae v.left),(.str v.op),(ae v.right),(ae v.value.kind),(ae v.value.int),(.str v.value.text)])) 0 (.list 148 (sA.map cN)),fun _=>none,fun _=>none⟩) () H1 (Gh.le (aa (aa (aa (aa ak)))) ah ai) (fun j1 s1 g1 hj1 hr1=>?_)
  refine aw 1 tk rfl (ac ?_)
  refine aY rfl (fun h=>?_) (fun h=>?_)
  ·have hl1 := cp h
   obtain ⟨x1,fb1,hx1,H,hg1⟩ := rMc hl1 hr1
   refine av (ac (az (aw 2 tk rfl (ac (bl tk mok ⟨false,false,[]⟩ [0,1,2,3,4,5] rfl (by decide +kernel) rfl (aJ 3 rfl ?_))))))
   refine bX (zn j1) (bQ (fun _=>rfl) hx1) ?_
   refine cC rfl (sv (b := (v.table == x1.table && (v.left == x1.left && (v.op == x1.op && (v.right == x1.right && ((v.value.kind == x1.value.kind && (v.value.int == x1.value.int && (v.value.text == x1.value.text && true))) && true)))))) tk rfl rfl rfl rfl rfl Tryz.stoodInHeld148 Tryz.eqGuardType148 (eqf := [(9,0),(3,1),(9,2),(3,3),(53,4)]) (by simp [ft,Program.fieldsOf,Tryz.underlying148]) (by kernel_rfl) rfl rfl (be ?_))
   refine aP rfl H (fun H=>?_) (fun H=>?_)
   ·refine aw 2 tk rfl ?_
    obtain rfl := ao H
    have e1 : fl1 = .ret _ := hg1
    subst e1
    obtain rfl := bj Hp1
    refine aB tk rfl (ps := [(ae (j1 : Int))]) ⟨_,_,rfl,rfl,rfl⟩ (PLe.q rfl)
   refine av (aQ (bh 2 tk rfl ?_))
   obtain rfl := ao H
   refine aK () () ⟨hl1,hg1⟩ (Gh.le (aa (aa (aa (aI (PLe.q (aU (by omega))) ak)))) ah ai)
  have hn1 := rMd (cq h) hr1
  refine aR rfl ?_
  refine aO s1 g1 hn1 (Gh.le ak ah ai)
 have H := ck hn1 Hp1
 refine aw 1 tk rfl ?_
 obtain rfl := ao H
 refine aB tk rfl (ps := [(ae (-1))]) ⟨_,_,rfl,rfl,rfl⟩ (PLe.q rfl)
def cW (s1A : Rz) (s2A : Rz) (eq : Rq → Rq → Option (Bool)) : Option (Bool) :=
 cond ((s1A.length : Int) != (s2A.length : Int))
  (some false)
  (aj (ba (σ := Unit) (ρ := (Bool)) (fun (j1 : Nat) (x1 : Rq) (_ : Unit) =>
   aj (aF s2A (j1 : Int)) fun (x24 : Rq) =>
   aj (eq x1 x24) fun x29 =>
   cond (!x29)
    (some (.ret false))
    (some (.next ()))) 0 s1A ()) fun fl1=>fl1.thenR fun (_ : Unit) =>
  some true)
theorem iG {g_eq : FuncId} {caps_eq : List PV} (s1A : Rz) (s2A : Rz) (eq : Rq → Rq → Option (Bool)) (hg_eq : ∀ (vs : Array Value) (w : World),(callFunc g_eq vs).run Tryz.prog w = .ok (.enter g_eq vs) w) (hp_eq : ∀ a0 a1 r,eq a0 a1 = some r → aV Tryz.prog g_eq ((.list 53 (a0.map ab)) :: (.list 53 (a1.map ab)) :: caps_eq) (aE r)) (r : Bool) (H : cW s1A s2A eq = some r) :
  aV Tryz.prog 56 [(.list 51 (s1A.map (al 53 ab))),(.list 51 (s2A.map (al 53 ab))),(.fn g_eq caps_eq)] (aE r) := by
 unfold cW at H
 refine PH.aC Tryz.func56 Tryz.ntmps56 ?_
 refine aw 1 tk rfl (ac (ac (af (aq tk rfl (aN tk (zl _) ?_)))))
 refine aq tk rfl (aN tk (zl _) ?_)
 refine aq tk rfl (ag ?_)
 refine aP rfl H (fun H=>?_) (fun H=>?_)
 ·refine aw 1 tk rfl ?_
  obtain rfl := ao H
  refine aB tk rfl (ps := [(aE false)]) ⟨_,_,rfl,rfl,rfl⟩ (PLe.q rfl)
 refine av (ac (ac (af (aq tk rfl (aN tk (zl _) ?_)))))
 refine aq tk rfl (ag ?_)
 obtain ⟨fl1,H1,Hp1⟩ := ax H
 refine bU tk 15 rfl rfl (fun hz1 _=>?_)
 rw [zl] at hz1
 refine aZ (τ := Unit) (γ := Unit) (fun s1 g1=>⟨32,fun _=>.any,fun _=>none,fun _=>none⟩) (fun t=>fl1 = .next t) ?_ (fun s1 g1 hn1=>?_)
 ·refine az ?_
  refine bF (fun j1 s1 g1=>⟨32,upd (upd (upd (upd (upd (fun _=>.any) 17 (ae (j1 : Int))) 16 (ae (s1A.length : Int))) 15 (.list 51 (s1A.map (al 53 ab)))) 2 (.fn g_eq caps_eq)) 1 (.list 51 (s2A.map (al 53 ab))),fun _=>none,fun _=>none⟩) () H1 (Gh.le (aa (aa (aa (aa (aa ak))))) ah ai) (fun j1 s1 g1 hj1 hr1=>?_)
  refine aw 1 tk rfl (ac ?_)
  refine aY rfl (fun h=>?_) (fun h=>?_)
  ·have hl1 := cp h
   obtain ⟨x1,fb1,hx1,H,hg1⟩ := rMc hl1 hr1
   refine av (ac (az (ac (af (aq tk rfl ?_)))))
   refine bt tk (zn j1) (bQ (fun _=>rfl) hx1) ?_
   refine am 3 tk rfl (ag (ac (af (am 2 tk rfl ?_))))
   obtain ⟨x24,k24,H⟩ := aW H
   refine bt tk k24.1 (aH (fun _=>rfl) k24.2) ?_
   refine am 2 tk rfl (ag (ac (af (am 3 tk rfl ?_))))
   obtain ⟨x29,h29,H⟩ := ax H
   refine au hg_eq (jc.r) (hp_eq _ _ _ h29) ?_
   refine aq tk rfl (ag ?_)
   refine aP rfl H (fun H=>?_) (fun H=>?_)
   ·refine aw 1 tk rfl ?_
    obtain rfl := ao H
    have e1 : fl1 = .ret _ := hg1
    subst e1
    obtain rfl := bj Hp1
    refine aB tk rfl (ps := [(aE false)]) ⟨_,_,rfl,rfl,rfl⟩ (PLe.q rfl)
   refine av (aQ (bh 2 tk rfl ?_))
   obtain rfl := ao H
   refine aK () () ⟨hl1,hg1⟩ (Gh.le (aa (aa (aa (aa (aI (PLe.q (aU (by omega))) ak))))) ah ai)
  have hn1 := rMd (cq h) hr1
  refine aR rfl ?_
  refine aO s1 g1 hn1 (Gh.le ak ah ai)
 have H := ck hn1 Hp1
 refine aw 1 tk rfl ?_
 obtain rfl := ao H
 refine aB tk rfl (ps := [(aE true)]) ⟨_,_,rfl,rfl,rfl⟩ (PLe.q rfl)
def jP (x : Int) : Option (Int) :=
 bo (
  cond (decide (x ≥ (4294967296 : Int)))
   (((Int.fdiv x (2 ^ 32)),32))
   ((x,0))) fun (t1 : Int × Int) =>
 bo (
  cond (decide (t1.1 ≥ (65536 : Int)))
   (((Int.fdiv t1.1 (2 ^ 16)),(i64.wrap (t1.2 + (16 : Int)))))
   ((t1.1,t1.2))) fun (t2 : Int × Int) =>
 bo (
  cond (decide (t2.1 ≥ (256 : Int)))
   (((Int.fdiv t2.1 (2 ^ 8)),(i64.wrap (t2.2 + (8 : Int)))))
   ((t2.1,t2.2))) fun (t3 : Int × Int) =>
 aj (aF ([0,1,2,2,3,3,3,3,4,4,4,4,4,4,4,4,5,5,5,5,5,5,5,5,5,5,5,5,5,5,5,5,6,6,6,6,6,6,6,6,6,6,6,6,6,6,6,6,6,6,6,6,6,6,6,6,6,6,6,6,6,6,6,6,7,7,7,7,7,7,7,7,7,7,7,7,7,7,7,7,7,7,7,7,7,7,7,7,7,7,7,7,7,7,7,7,7,7,7,7,7,7,7,7,7,7,7,7,7,7,7,7,7,7,7,7,7,7,7,7,7,7,7,7,7,7,7,7,8,8,8,8,8,8,8,8,8,8,8,8,8,8,8,8,8,8,8,8,8,8,8,8,8,8,8,8,8,8,8,8,8,8,8,8,8,8,8,8,8,8,8,8,8,8,8,8,8,8,8,8,8,8,8,8,8,8,8,8,8,8,8,8,8,8,8,8,8,8,8,8,8,8,8,8,8,8,8,8,8,8,8,8,8,8,8,8,8,8,8,8,8,8,8,8,8,8,8,8,8,8,8,8,8,8,8,8,8,8,8,8,8,8,8,8,8,8,8,8,8,8,8,8,8,8,8,8] : List UInt8) ((u8of t3.1).toNat : Int)) fun (x22 : UInt8) =>
 some (i64.wrap (t3.2 + (i64.wrap (x22.toNat : Int))))
theorem ra (x : Int) (r : Int) (H : jP x = some r) :
  aV Tryz.prog 123 [(.val (.int .u64 x))] (ae r) := by
 unfold jP at H
 refine PH.aC Tryz.func123 Tryz.ntmps123 ?_
 refine aw 1 tk rfl (ac (aw 2 tk rfl ?_))
 obtain ⟨fl1,H1,Hp1⟩ := bK H
 refine aZ (τ := Int × Int) (γ := Unit) (fun t1 g1=>⟨25,upd (upd (fun _=>.any) 2 (ae t1.2)) 0 (.val (.int .u64 t1.1)),fun _=>none,fun _=>none⟩) (fun t=>t = fl1) ?_ (fun t1 g1 hn1=>?_)
 ·have H := H1
  refine aP rfl H (fun H=>?_) (fun H=>?_)
  ·refine ac (af (aq tk rfl (ox (m := 32) rfl rfl rfl rfl (by decide) rfl rfl (aq tk rfl (ag (bh 1 tk rfl ?_))))))
   subst H
   refine aO ((Int.fdiv x (2 ^ 32)),32) () rfl (Gh.le (aa (aa ak)) ah ai)
  refine av ?_
  subst H
  refine aO (x,0) () rfl (Gh.le (aa (aa ak)) ah ai)
 subst hn1
 have H := Hp1
 refine ac (aw 2 tk rfl ?_)
 obtain ⟨fl2,H2,Hp2⟩ := bK H
 refine aZ (τ := Int × Int) (γ := Unit) (fun t2 g2=>⟨25,upd (upd (fun _=>.any) 2 (ae t2.2)) 0 (.val (.int .u64 t2.1)),fun _=>none,fun _=>none⟩) (fun t=>t = fl2) ?_ (fun t2 g2 hn2=>?_)
 ·have H := H2
  refine aP rfl H (fun H=>?_) (fun H=>?_)
  ·refine ac (af (aq tk rfl (ox (m := 16) rfl rfl rfl rfl (by decide) rfl rfl (aq tk rfl (ag (bh 3 tk rfl ?_))))))
   subst H
   refine aO ((Int.fdiv t1.1 (2 ^ 16)),(i64.wrap (t1.2 + (16 : Int)))) () rfl (Gh.le (aa (aa ak)) ah ai)
  refine av ?_
  subst H
  refine aO (t1.1,t1.2) () rfl (Gh.le (aa (aa ak)) ah ai)
 subst hn2
 have H := Hp2
 refine ac (aw 2 tk rfl ?_)
 obtain ⟨fl3,H3,Hp3⟩ := bK H
 refine aZ (τ := Int × Int) (γ := Unit) (fun t3 g3=>⟨25,upd (upd (fun _=>.any) 2 (ae t3.2)) 0 (.val (.int .u64 t3.1)),fun _=>none,fun _=>none⟩) (fun t=>t = fl3) ?_ (fun t3 g3 hn3=>?_)
 ·have H := H3
  refine aP rfl H (fun H=>?_) (fun H=>?_)
  ·refine ac (af (aq tk rfl (ox (m := 8) rfl rfl rfl rfl (by decide) rfl rfl (aq tk rfl (ag (bh 3 tk rfl ?_))))))
   subst H
   refine aO ((Int.fdiv t2.1 (2 ^ 8)),(i64.wrap (t2.2 + (8 : Int)))) () rfl (Gh.le (aa (aa ak)) ah ai)
  refine av ?_
  subst H
  refine aO (t2.1,t2.2) () rfl (Gh.le (aa (aa ak)) ah ai)
 subst hn3
 have H := Hp3
 refine ac (af (am 2 tk rfl (Ao.toU8 tk rfl rfl rfl rfl rfl rfl rfl ?_)))
 obtain ⟨x22,k22,H⟩ := aW H
 refine qT tk rfl rfl rfl rfl rfl rfl k22.1 k22.2 rfl (am 3 tk rfl (ag ?_))
 obtain rfl := ao H
 refine aB tk rfl (ps := [(ae (i64.wrap (t3.2 + (i64.wrap (x22.toNat : Int)))))]) ⟨_,_,rfl,rfl,rfl⟩ (PLe.q rfl)
def dz (data : Rz) (lo : Int) (hi : Int) (first : Int) (cmp : Rq → Rq → Option (Int)) : Option (Rz) :=
 aj (whileM (σ := Rz × Int) (ρ := (Rz)) (fun (s1 : Rz × Int) =>
  cond (decide ((i64.wrap ((i64.wrap ((2 : Int) * s1.2)) + (1 : Int))) ≥ hi))
   (some (.brk (s1.1,s1.2)))
   (aj (
    cond (decide ((i64.wrap ((i64.wrap ((i64.wrap ((2 : Int) * s1.2)) + (1 : Int))) + (1 : Int))) < hi))
     (aj (aF s1.1 (i64.wrap (first + (i64.wrap ((i64.wrap ((2 : Int) * s1.2)) + (1 : Int)))))) fun (x29 : Rq) =>
     aj (aF s1.1 (i64.wrap ((i64.wrap (first + (i64.wrap ((i64.wrap ((2 : Int) * s1.2)) + (1 : Int))))) + (1 : Int)))) fun (x36 : Rq) =>
     aj (cmp x29 x36) fun x38 =>
     some (s1.1,(decide (x38 < (0 : Int)))))
     (some (s1.1,false))) fun (t10 : Rz × Bool) =>
   bo (
    cond t10.2
     ((t10.1,(i64.wrap ((i64.wrap ((i64.wrap ((2 : Int) * s1.2)) + (1 : Int))) + (1 : Int)))))
     ((t10.1,(i64.wrap ((i64.wrap ((2 : Int) * s1.2)) + (1 : Int)))))) fun (t11 : Rz × Int) =>
   aj (aF t11.1 (i64.wrap (first + s1.2))) fun (x48 : Rq) =>
   aj (aF t11.1 (i64.wrap (first + t11.2))) fun (x54 : Rq) =>
   aj (cmp x48 x54) fun x56 =>
   cond (!(decide (x56 < (0 : Int))))
    (some (.ret t11.1))
    (aj (aF t11.1 (i64.wrap (first + t11.2))) fun (x71 : Rq) =>
    aj (aF t11.1 (i64.wrap (first + s1.2))) fun (x77 : Rq) =>
    aj (aF t11.1 (i64.wrap (first + s1.2))) fun (_ : Rq) =>
    bo (t11.1.set ((i64.wrap (first + s1.2)).toNat) x71) fun (y12 : Rz) =>
    aj (aF y12 (i64.wrap (first + t11.2))) fun (_ : Rq) =>
    bo (y12.set ((i64.wrap (first + t11.2)).toNat) x77) fun (y13 : Rz) =>
    some (.next (y13,t11.2))))) (data,lo)) fun fl1=>fl1.thenR fun (s1 : Rz × Int) =>
 some s1.1
theorem ja (g_data : OwnRef) {g_cmp : FuncId} {caps_cmp : List PV} (data : Rz) (lo : Int) (hi : Int) (first : Int) (cmp : Rq → Rq → Option (Int)) (hg_cmp : ∀ (vs : Array Value) (w : World),(callFunc g_cmp vs).run Tryz.prog w = .ok (.enter g_cmp vs) w) (hp_cmp : ∀ a0 a1 r,cmp a0 a1 = some r → aV Tryz.prog g_cmp ((.list 53 (a0.map ab)) :: (.list 53 (a1.map ab)) :: caps_cmp) (ae r)) (r : Rz) (H : dz data lo hi first cmp = some r) :
  PH Tryz.prog 160 [(.own 0 g_data (data.map (al 53 ab)).length),(ae lo),(ae hi),(ae first),(.fn g_cmp caps_cmp)] ⟨fun _=>none,upd (fun _=>none) 0 (some ⟨g_data,51,(data.map (al 53 ab)),true⟩)⟩ (fun u H=>u = (.tup []) ∧ H = ⟨fun _=>none,upd (fun _=>none) 0 (some ⟨g_data,51,(r.map (al 53 ab)),true⟩)⟩) := by
 unfold dz at H
 refine PH.aC Tryz.func160 Tryz.ntmps160 ?_
 refine aw 2 tk rfl ?_
 obtain ⟨fl1,H1,Hp1⟩ := ax H
 refine aZ (τ := Rz × Int) (γ := Unit) (fun s1 g1=>⟨82,upd (fun _=>.any) 0 (.own 0 g_data (s1.1.map (al 53 ab)).length),fun _=>none,upd (fun _=>none) 0 (some ⟨g_data,51,(s1.1.map (al 53 ab)),true⟩)⟩) (fun t=>fl1 = .next t) ?_ (fun s1 g1 hn1=>?_)
 ·refine az ?_
  refine cP (fun s1 g1=>⟨82,upd (upd (upd (upd (upd (fun _=>.any) 10 (ae s1.2)) 4 (.fn g_cmp caps_cmp)) 3 (ae first)) 2 (ae hi)) 0 (.own 0 g_data (s1.1.map (al 53 ab)).length),fun _=>none,upd (fun _=>none) 0 (some ⟨g_data,51,(s1.1.map (al 53 ab)),true⟩)⟩) () H1 (Gh.le (aa (aa (aa (aa (aa ak))))) ah (aA ai)) (fun m1 s1 g1 hr1=>?_)
  obtain ⟨fb1,H,hg1⟩ := cn hr1
  refine az (aw 4 tk rfl (ac (aw 3 tk rfl ?_)))
  refine aP rfl H (fun H=>?_) (fun H=>?_)
  ·refine aR rfl ?_
   obtain rfl := ao H
   refine aO (s1.1,s1.2) () hg1 (Gh.le (aa ak) ah (aA ai))
  refine av (ac (ac ?_))
  obtain ⟨fl10,H10,Hp10⟩ := ax H
  refine aZ (τ := Rz × Bool) (γ := Unit) (fun t10 g10=>⟨82,upd (upd (upd (upd (upd (upd (upd (fun _=>.any) 40 (aE t10.2)) 11 (ae (i64.wrap ((i64.wrap ((2 : Int) * s1.2)) + (1 : Int))))) 10 (ae s1.2)) 4 (.fn g_cmp caps_cmp)) 3 (ae first)) 2 (ae hi)) 0 (.own 0 g_data (t10.1.map (al 53 ab)).length),fun _=>none,upd (fun _=>none) 0 (some ⟨g_data,51,(t10.1.map (al 53 ab)),true⟩)⟩) (fun t=>t = fl10) ?_ (fun t10 g10 hn10=>?_)
  ·have H := H10
   refine cZ (tag := 0) rfl (fun ho0=>?_)
   refine bl tk mok ⟨false,true,[]⟩ [0,1,2,3,4,5,6,7,8,9,10,11,12,13,14,15,16,17,18,19,20,21] rfl (by decide +kernel) rfl (aJ 5 rfl ?_)
   refine im H (fun H=>?_) (fun H=>?_)
   ·refine aJ 5 rfl ?_
    obtain ⟨x29,k29,H⟩ := aW H
    refine aS tk ⟨k29.1,(bm k29.2)⟩ (bn ho0 k29.2) ?_
    refine bf tk (aH (fun _=>rfl) k29.2) ?_
    refine aJ 5 rfl ?_
    obtain ⟨x36,k36,H⟩ := aW H
    refine aS tk ⟨k36.1,(bm k36.2)⟩ (bn ho0 k36.2) ?_
    refine bf tk (aH (fun _=>rfl) k36.2) ?_
    obtain ⟨x38,h38,H⟩ := ax H
    refine bg hg_cmp (jc.r) (hp_cmp _ _ _ h38) ?_
    refine aJ 2 rfl (be ?_)
    obtain rfl := ao H
    refine aO (s1.1,(decide (x38 < (0 : Int)))) () rfl (Gh.le (aa (aa (aa (aa (aa (aa (aa ak))))))) ah (aA ai))
   refine aJ 17 rfl (be ?_)
   obtain rfl := ao H
   refine aO (s1.1,false) () rfl (Gh.le (aa (aa (aa (aa (aa (aa (aa ak))))))) ah (aA ai))
  subst hn10
  have H := Hp10
  obtain ⟨fl11,H11,Hp11⟩ := bK H
  refine aZ (τ := Rz × Int) (γ := Unit) (fun t11 g11=>⟨82,upd (upd (upd (upd (upd (upd (fun _=>.any) 11 (ae t11.2)) 10 (ae s1.2)) 4 (.fn g_cmp caps_cmp)) 3 (ae first)) 2 (ae hi)) 0 (.own 0 g_data (t11.1.map (al 53 ab)).length),fun _=>none,upd (fun _=>none) 0 (some ⟨g_data,51,(t11.1.map (al 53 ab)),true⟩)⟩) (fun t=>t = fl11) ?_ (fun t11 g11 hn11=>?_)
  ·have H := H11
   refine aP rfl H (fun H=>?_) (fun H=>?_)
   ·refine bh 3 tk rfl ?_
    subst H
    refine aO (t10.1,(i64.wrap ((i64.wrap ((i64.wrap ((2 : Int) * s1.2)) + (1 : Int))) + (1 : Int)))) () rfl (Gh.le (aa (aa (aa (aa (aa (aa ak)))))) ah (aA ai))
   refine av ?_
   subst H
   refine aO (t10.1,(i64.wrap ((i64.wrap ((2 : Int) * s1.2)) + (1 : Int)))) () rfl (Gh.le (aa (aa (aa (aa (aa (aa ak)))))) ah (aA ai))
  subst hn11
  have H := Hp11
  refine ac (ac ?_)
  refine cZ (tag := 0) rfl (fun ho0=>?_)
  refine bl tk mok ⟨false,true,[]⟩ [0,1,2,3,4,5,6,7,8,9,10,11,12,13,14,15] rfl (by decide +kernel) rfl (aJ 5 rfl ?_)
  obtain ⟨x48,k48,H⟩ := aW H
  refine aS tk ⟨k48.1,(bm k48.2)⟩ (bn ho0 k48.2) ?_
  refine bf tk (aH (fun _=>rfl) k48.2) ?_
  refine aJ 4 rfl ?_
  obtain ⟨x54,k54,H⟩ := aW H
  refine aS tk ⟨k54.1,(bm k54.2)⟩ (bn ho0 k54.2) ?_
  refine bf tk (aH (fun _=>rfl) k54.2) ?_
  obtain ⟨x56,h56,H⟩ := ax H
  refine bg hg_cmp (jc.r) (hp_cmp _ _ _ h56) ?_
  refine aJ 2 rfl (be ?_)
  refine aP rfl H (fun H=>?_) (fun H=>?_)
  ·obtain rfl := ao H
   have e1 : fl1 = .ret _ := hg1
   subst e1
   obtain rfl := bj Hp1
   refine dN (st' := ⟨82,fun _=>.any,fun _=>none,upd (fun _=>none) 0 (some ⟨g_data,51,(t11.1.map (al 53 ab)),true⟩)⟩) (Gh.le ak ah (aA ai)) ?_
   refine eZ tk rfl (ps := []) rfl (PLe.q rfl) ⟨rfl,rfl⟩
  refine av (ac ?_)
  refine cZ (tag := 0) rfl (fun ho0=>?_)
  refine bl tk mok ⟨false,true,[]⟩ [0,1,2,3,4,5,6,7,8,9,10,11,12,13,14,15,16,17,18,19,20,21,22,23] rfl (by decide +kernel) rfl (aJ 12 rfl ?_)
  obtain ⟨x71,k71,H⟩ := aW H
  refine aS tk ⟨k71.1,(bm k71.2)⟩ (bn ho0 k71.2) ?_
  refine bf tk (aH (fun _=>rfl) k71.2) ?_
  refine aJ 4 rfl ?_
  obtain ⟨x77,k77,H⟩ := aW H
  refine aS tk ⟨k77.1,(bm k77.2)⟩ (bn ho0 k77.2) ?_
  refine bf tk (aH (fun _=>rfl) k77.2) ?_
  obtain ⟨x79,k79,H⟩ := aW H
  refine aS tk ⟨k79.1,(bm k79.2)⟩ (bn ho0 k79.2) ?_
  obtain ⟨y12,hy12,H⟩ := bK H
  refine cj tk rfl rfl rfl rfl rfl rfl rfl rfl rfl (by rw [zl]; exact (zg.1 k79.2).1) (PLe.refl _ _) rfl rfl rfl rfl (by decide) (bM (fun _=>rfl) k79.2 rfl hy12) ?_
  obtain ⟨x80,k80,H⟩ := aW H
  refine aS tk ⟨k80.1,(gq (br (f := (al 53 ab)) hy12) k80.2)⟩ (gw ho0 (br (f := (al 53 ab)) hy12) k80.2) ?_
  obtain ⟨y13,hy13,H⟩ := bK H
  refine cj tk rfl rfl rfl rfl rfl rfl rfl rfl rfl (by rw [zl]; exact (zg.1 k80.2).1) (PLe.refl _ _) rfl rfl rfl rfl (by decide) (bM (fun _=>rfl) k80.2 rfl hy13) ?_
  refine be (bh 2 tk rfl (aQ ?_))
  obtain rfl := ao H
  refine aK (y13,t11.2) () hg1 (Gh.le (aI (PLe.of2 (np.of_eq (congrArg (PV.own 0 g_data) ((br (f := (al 53 ab)) hy12).trans (br (f := (al 53 ab)) hy13))))) (aa (aa (aa (aa ak))))) ah (aA ai))
 have H := ck hn1 Hp1
 obtain rfl := ao H
 refine dN (st' := ⟨82,fun _=>.any,fun _=>none,upd (fun _=>none) 0 (some ⟨g_data,51,(s1.1.map (al 53 ab)),true⟩)⟩) (Gh.le ak ah (aA ai)) ?_
 refine iI rfl (PLe.q rfl) ⟨rfl,rfl⟩
def ij (rA : Int) : Option (Int × Int) :=
 aj (shlI .u64 rA (13 : Int)) fun (x9 : Int) =>
 aj (shlI .u64 (iD .u64 (iD .u64 rA x9) (Int.fdiv (iD .u64 rA x9) (2 ^ 7))) (17 : Int)) fun (x27 : Int) =>
 some ((iD .u64 (iD .u64 (iD .u64 rA x9) (Int.fdiv (iD .u64 rA x9) (2 ^ 7))) x27),(iD .u64 (iD .u64 (iD .u64 rA x9) (Int.fdiv (iD .u64 rA x9) (2 ^ 7))) x27))
theorem oZ (b_rA : Nat) (rA : Int) (r : Int × Int) (H : ij rA = some r) :
  PH Tryz.prog 162 [(.box 1500 b_rA 0)] ⟨upd (fun _=>none) 1500 (some ⟨b_rA,[(.val (.int .u64 rA))]⟩),fun _=>none⟩ (fun u H=>u = (.val (.int .u64 r.1)) ∧ H = ⟨upd (fun _=>none) 1500 (some ⟨b_rA,[(.val (.int .u64 r.2))]⟩),fun _=>none⟩) := by
 unfold ij at H
 refine PH.aC Tryz.func162 Tryz.ntmps162 ?_
 refine aw 1 tk rfl (ac (bl tk mok ⟨true,false,[]⟩ [0,1,2,3,4,5,6,7,8,9] rfl (by decide +kernel) rfl (aJ 2 rfl (cM ?_))))
 refine aJ 2 rfl (cM ?_)
 obtain ⟨x9,h9,H⟩ := ax H
 refine sF rfl rfl rfl rfl rfl h9 rfl (sf rfl rfl rfl rfl rfl rfl (cC rfl (dK ?_)))
 refine be (ac (bl tk mok ⟨true,false,[]⟩ [0,1,2,3,4,5,6,7,8,9] rfl (by decide +kernel) rfl (aJ 2 rfl (cM ?_))))
 refine aJ 2 rfl (cM ?_)
 refine Do.shr (m := 7) rfl rfl rfl rfl rfl (by decide) rfl rfl (sf rfl rfl rfl rfl rfl rfl (cC rfl (dK ?_)))
 refine be (ac (bl tk mok ⟨true,false,[]⟩ [0,1,2,3,4,5,6,7,8,9] rfl (by decide +kernel) rfl (aJ 2 rfl (cM ?_))))
 refine aJ 2 rfl (cM ?_)
 obtain ⟨x27,h27,H⟩ := ax H
 refine sF rfl rfl rfl rfl rfl h27 rfl (sf rfl rfl rfl rfl rfl rfl (cC rfl (dK ?_)))
 refine be (ac (af (am 2 tk rfl (aM tk ?_))))
 refine aq tk rfl (ag ?_)
 obtain rfl := ao H
 refine dN (st' := ⟨33,upd (fun _=>.any) 2 (.val (.int .u64 (iD .u64 (iD .u64 (iD .u64 rA x9) (Int.fdiv (iD .u64 rA x9) (2 ^ 7))) x27))),upd (fun _=>none) 1500 (some ⟨b_rA,[(.val (.int .u64 (iD .u64 (iD .u64 (iD .u64 rA x9) (Int.fdiv (iD .u64 rA x9) (2 ^ 7))) x27)))]⟩),fun _=>none⟩) (Gh.le (aa ak) (ay rfl (jc.r) ah) ai) ?_
 refine eZ tk rfl (ps := [(.val (.int .u64 (iD .u64 (iD .u64 (iD .u64 rA x9) (Int.fdiv (iD .u64 rA x9) (2 ^ 7))) x27)))]) ⟨_,_,rfl,rfl,rfl⟩ (PLe.q rfl) ⟨rfl,rfl⟩
def dh (data : Rz) (a : Int) (b : Int) (swaps : Int) (cmp : Rq → Rq → Option (Int)) : Option (Int × Int × Rz × Int) :=
 aj (aF data b) fun (x15 : Rq) =>
 aj (aF data a) fun (x19 : Rq) =>
 aj (cmp x15 x19) fun x21 =>
 cond (decide (x21 < (0 : Int)))
  (some (b,a,data,(i64.wrap (swaps + (1 : Int)))))
  (some (a,b,data,swaps))
theorem gP (g_data : OwnRef) (b_swaps : Nat) {g_cmp : FuncId} {caps_cmp : List PV} (data : Rz) (a : Int) (b : Int) (swaps : Int) (cmp : Rq → Rq → Option (Int)) (hg_cmp : ∀ (vs : Array Value) (w : World),(callFunc g_cmp vs).run Tryz.prog w = .ok (.enter g_cmp vs) w) (hp_cmp : ∀ a0 a1 r,cmp a0 a1 = some r → aV Tryz.prog g_cmp ((.list 53 (a0.map ab)) :: (.list 53 (a1.map ab)) :: caps_cmp) (ae r)) (r : Int × Int × Rz × Int) (H : dh data a b swaps cmp = some r) :
  PH Tryz.prog 184 [(.own 0 g_data (data.map (al 53 ab)).length),(ae a),(ae b),(.box 1503 b_swaps 0),(.fn g_cmp caps_cmp)] ⟨upd (fun _=>none) 1503 (some ⟨b_swaps,[(ae swaps)]⟩),upd (fun _=>none) 0 (some ⟨g_data,51,(data.map (al 53 ab)),true⟩)⟩ (fun u H=>u = (.tup [(ae r.1),(ae r.2.1)]) ∧ H = ⟨upd (fun _=>none) 1503 (some ⟨b_swaps,[(ae r.2.2.2)]⟩),upd (fun _=>none) 0 (some ⟨g_data,51,(r.2.2.1.map (al 53 ab)),true⟩)⟩) := by
 unfold dh at H
 refine PH.aC Tryz.func184 Tryz.ntmps184 ?_
 refine aw 2 tk rfl (ac (ac ?_))
 refine cZ (tag := 0) rfl (fun ho0=>?_)
 refine bl tk mok ⟨false,true,[]⟩ [0,1,2,3,4,5,6,7,8,9,10] rfl (by decide +kernel) rfl (aJ 3 rfl ?_)
 obtain ⟨x15,k15,H⟩ := aW H
 refine aS tk ⟨k15.1,(bm k15.2)⟩ (bn ho0 k15.2) ?_
 refine bf tk (aH (fun _=>rfl) k15.2) ?_
 refine aJ 2 rfl ?_
 obtain ⟨x19,k19,H⟩ := aW H
 refine aS tk ⟨k19.1,(bm k19.2)⟩ (bn ho0 k19.2) ?_
 refine bf tk (aH (fun _=>rfl) k19.2) ?_
 obtain ⟨x21,h21,H⟩ := ax H
 refine bg hg_cmp (jc.r) (hp_cmp _ _ _ h21) ?_
 refine cC rfl (be ?_)
 refine aP rfl H (fun H=>?_) (fun H=>?_)
 ·refine ac (af (am 2 tk rfl (aM tk ?_)))
  refine am 2 tk rfl (aD tk ?_)
  refine ag (aw 4 tk rfl ?_)
  obtain rfl := ao H
  refine dN (st' := ⟨32,upd (upd (fun _=>.any) 11 (ae a)) 10 (ae b),upd (fun _=>none) 1503 (some ⟨b_swaps,[(ae (i64.wrap (swaps + (1 : Int))))]⟩),upd (fun _=>none) 0 (some ⟨g_data,51,(data.map (al 53 ab)),true⟩)⟩) (Gh.le (aa (aa ak)) (ay rfl (jc.r) ah) (aA ai)) ?_
  refine eZ tk rfl (ps := [(ae b),(ae a)]) ⟨_,_,rfl,rfl,_,_,rfl,rfl,rfl⟩ (PLe.q rfl) ⟨rfl,rfl⟩
 refine av (aw 4 tk rfl ?_)
 obtain rfl := ao H
 refine dN (st' := ⟨32,upd (upd (fun _=>.any) 11 (ae b)) 10 (ae a),upd (fun _=>none) 1503 (some ⟨b_swaps,[(ae swaps)]⟩),upd (fun _=>none) 0 (some ⟨g_data,51,(data.map (al 53 ab)),true⟩)⟩) (Gh.le (aa (aa ak)) (ay rfl (jc.r) ah) (aA ai)) ?_
 refine eZ tk rfl (ps := [(ae a),(ae b)]) ⟨_,_,rfl,rfl,_,_,rfl,rfl,rfl⟩ (PLe.q rfl) ⟨rfl,rfl⟩
def dH (data : Rz) (a : Int) (b : Int) (_cmp : Rq → Rq → Option (Int)) : Option (Rz) :=
 aj (whileM (σ := Rz × Int × Int) (ρ := Empty) (fun (s1 : Rz × Int × Int) =>
  cond (decide (s1.2.1 < s1.2.2))
   (aj (aF s1.1 s1.2.2) fun (x22 : Rq) =>
   aj (aF s1.1 s1.2.1) fun (x26 : Rq) =>
   aj (aF s1.1 s1.2.1) fun (_ : Rq) =>
   bo (s1.1.set s1.2.1.toNat x22) fun (y6 : Rz) =>
   aj (aF y6 s1.2.2) fun (_ : Rq) =>
   bo (y6.set s1.2.2.toNat x26) fun (y7 : Rz) =>
   some (.next (y7,(i64.wrap (s1.2.1 + (1 : Int))),(i64.wrap (s1.2.2 - (1 : Int))))))
   (some (.brk (s1.1,s1.2.1,s1.2.2)))) (data,a,(i64.wrap (b - (1 : Int))))) fun fl1=>fl1.thenP fun (s1 : Rz × Int × Int) =>
 some s1.1
theorem kE (g_data : OwnRef) {g_cmp : FuncId} {caps_cmp : List PV} (data : Rz) (a : Int) (b : Int) (cmp : Rq → Rq → Option (Int)) (_hg_cmp : ∀ (vs : Array Value) (w : World),(callFunc g_cmp vs).run Tryz.prog w = .ok (.enter g_cmp vs) w) (_hp_cmp : ∀ a0 a1 r,cmp a0 a1 = some r → aV Tryz.prog g_cmp ((.list 53 (a0.map ab)) :: (.list 53 (a1.map ab)) :: caps_cmp) (ae r)) (r : Rz) (H : dH data a b cmp = some r) :
  PH Tryz.prog 118 [(.own 0 g_data (data.map (al 53 ab)).length),(ae a),(ae b),(.fn g_cmp caps_cmp)] ⟨fun _=>none,upd (fun _=>none) 0 (some ⟨g_data,51,(data.map (al 53 ab)),true⟩)⟩ (fun u H=>u = (.tup []) ∧ H = ⟨fun _=>none,upd (fun _=>none) 0 (some ⟨g_data,51,(r.map (al 53 ab)),true⟩)⟩) := by
 unfold dH at H
 refine PH.aC Tryz.func118 Tryz.ntmps118 ?_
 refine aw 2 tk rfl (aw 3 tk rfl ?_)
 obtain ⟨fl1,H1,Hp1⟩ := ax H
 refine aZ (τ := Rz × Int × Int) (γ := Unit) (fun s1 g1=>⟨34,upd (fun _=>.any) 0 (.own 0 g_data (s1.1.map (al 53 ab)).length),fun _=>none,upd (fun _=>none) 0 (some ⟨g_data,51,(s1.1.map (al 53 ab)),true⟩)⟩) (fun t=>fl1 = .next t) ?_ (fun s1 g1 hn1=>?_)
 ·refine az ?_
  refine cP (fun s1 g1=>⟨34,upd (upd (upd (fun _=>.any) 9 (ae s1.2.2)) 8 (ae s1.2.1)) 0 (.own 0 g_data (s1.1.map (al 53 ab)).length),fun _=>none,upd (fun _=>none) 0 (some ⟨g_data,51,(s1.1.map (al 53 ab)),true⟩)⟩) () H1 (Gh.le (aa (aa (aa ak))) ah (aA ai)) (fun m1 s1 g1 hr1=>?_)
  obtain ⟨fb1,H,hg1⟩ := cn hr1
  refine ac (aw 3 tk rfl ?_)
  refine aP rfl H (fun H=>?_) (fun H=>?_)
  ·refine av (az (ac ?_))
   refine cZ (tag := 0) rfl (fun ho0=>?_)
   refine bl tk mok ⟨false,true,[]⟩ [0,1,2,3,4,5,6,7,8,9,10,11,12,13,14,15] rfl (by decide +kernel) rfl (aJ 6 rfl ?_)
   obtain ⟨x22,k22,H⟩ := aW H
   refine aS tk ⟨k22.1,(bm k22.2)⟩ (bn ho0 k22.2) ?_
   refine bf tk (aH (fun _=>rfl) k22.2) ?_
   refine aJ 2 rfl ?_
   obtain ⟨x26,k26,H⟩ := aW H
   refine aS tk ⟨k26.1,(bm k26.2)⟩ (bn ho0 k26.2) ?_
   refine bf tk (aH (fun _=>rfl) k26.2) ?_
   obtain ⟨x28,k28,H⟩ := aW H
   refine aS tk ⟨k28.1,(bm k28.2)⟩ (bn ho0 k28.2) ?_
   obtain ⟨y6,hy6,H⟩ := bK H
   refine cj tk rfl rfl rfl rfl rfl rfl rfl rfl rfl (by rw [zl]; exact (zg.1 k28.2).1) (PLe.refl _ _) rfl rfl rfl rfl (by decide) (bM (fun _=>rfl) k28.2 rfl hy6) ?_
   obtain ⟨x29,k29,H⟩ := aW H
   refine aS tk ⟨k29.1,(gq (br (f := (al 53 ab)) hy6) k29.2)⟩ (gw ho0 (br (f := (al 53 ab)) hy6) k29.2) ?_
   obtain ⟨y7,hy7,H⟩ := bK H
   refine cj tk rfl rfl rfl rfl rfl rfl rfl rfl rfl (by rw [zl]; exact (zg.1 k29.2).1) (PLe.refl _ _) rfl rfl rfl rfl (by decide) (bM (fun _=>rfl) k29.2 rfl hy7) ?_
   refine be (aw 3 tk rfl (bh 3 tk rfl (aQ ?_)))
   obtain rfl := ao H
   refine aK (y7,(i64.wrap (s1.2.1 + (1 : Int))),(i64.wrap (s1.2.2 - (1 : Int)))) () hg1 (Gh.le (aI (PLe.of2 (np.of_eq (congrArg (PV.own 0 g_data) ((br (f := (al 53 ab)) hy6).trans (br (f := (al 53 ab)) hy7))))) (aa (aa ak))) ah (aA ai))
  refine aR rfl ?_
  obtain rfl := ao H
  refine aO (s1.1,s1.2.1,s1.2.2) () hg1 (Gh.le (aa ak) ah (aA ai))
 have H := bq hn1 Hp1
 obtain rfl := ao H
 refine dN (st' := ⟨34,fun _=>.any,fun _=>none,upd (fun _=>none) 0 (some ⟨g_data,51,(s1.1.map (al 53 ab)),true⟩)⟩) (Gh.le ak ah (aA ai)) ?_
 refine iI rfl (PLe.q rfl) ⟨rfl,rfl⟩
def cV (data : Rz) (a : Int) (b : Int) (cmp : Rq → Rq → Option (Int)) : Option (Bool × Rz) :=
 aj (whileM (σ := Rz × Int × Int) (ρ := (Bool × Rz)) (fun (s1 : Rz × Int × Int) =>
  cond (decide (s1.2.2 < (5 : Int)))
   (aj (whileM (σ := Rz × Int) (ρ := Empty) (fun (s52 : Rz × Int) =>
    cond (decide (s52.2 < b))
     (aj (aF s52.1 s52.2) fun (x26 : Rq) =>
     aj (aF s52.1 (i64.wrap (s52.2 - (1 : Int)))) fun (x31 : Rq) =>
     aj (cmp x26 x31) fun x33 =>
     cond (!(decide (x33 < (0 : Int))))
      (some (.next (s52.1,(i64.wrap (s52.2 + (1 : Int))))))
      (some (.brk (s52.1,s52.2))))
     (some (.brk (s52.1,s52.2)))) (s1.1,s1.2.1)) fun fl52=>fl52.thenP fun (s52 : Rz × Int) =>
   cond (s52.2 == b)
    (some (.ret (true,s52.1)))
    (cond (decide ((i64.wrap (b - a)) < (50 : Int)))
     (some (.ret (false,s52.1)))
     (aj (aF s52.1 (i64.wrap (s52.2 - (1 : Int)))) fun (x54 : Rq) =>
     aj (aF s52.1 s52.2) fun (x58 : Rq) =>
     aj (aF s52.1 s52.2) fun (_ : Rq) =>
     bo (s52.1.set s52.2.toNat x54) fun (y53 : Rz) =>
     aj (aF y53 (i64.wrap (s52.2 - (1 : Int)))) fun (_ : Rq) =>
     bo (y53.set ((i64.wrap (s52.2 - (1 : Int))).toNat) x58) fun (y54 : Rz) =>
     aj (
      cond (decide ((i64.wrap (s52.2 - a)) ≥ (2 : Int)))
       (aj (whileM (σ := Rz × Int) (ρ := Empty) (fun (s63 : Rz × Int) =>
        cond (decide (s63.2 ≥ (1 : Int)))
         (aj (aF s63.1 s63.2) fun (x75 : Rq) =>
         aj (aF s63.1 (i64.wrap (s63.2 - (1 : Int)))) fun (x80 : Rq) =>
         aj (cmp x75 x80) fun x82 =>
         cond (!(decide (x82 < (0 : Int))))
          (some (.brk (s63.1,s63.2)))
          (aj (aF s63.1 (i64.wrap (s63.2 - (1 : Int)))) fun (x93 : Rq) =>
          aj (aF s63.1 s63.2) fun (x97 : Rq) =>
          aj (aF s63.1 s63.2) fun (_ : Rq) =>
          bo (s63.1.set s63.2.toNat x93) fun (y68 : Rz) =>
          aj (aF y68 (i64.wrap (s63.2 - (1 : Int)))) fun (_ : Rq) =>
          bo (y68.set ((i64.wrap (s63.2 - (1 : Int))).toNat) x97) fun (y69 : Rz) =>
          some (.next (y69,(i64.wrap (s63.2 - (1 : Int)))))))
         (some (.brk (s63.1,s63.2)))) (y54,(i64.wrap (s52.2 - (1 : Int))))) fun fl63=>fl63.thenP fun (s63 : Rz × Int) =>
       some s63.1)
       (some y54)) fun (t62 : Rz) =>
     cond (decide ((i64.wrap (b - s52.2)) ≥ (2 : Int)))
      (aj (whileM (σ := Rz × Int) (ρ := Empty) (fun (s70 : Rz × Int) =>
       cond (decide (s70.2 < b))
        (aj (aF s70.1 s70.2) fun (x115 : Rq) =>
        aj (aF s70.1 (i64.wrap (s70.2 - (1 : Int)))) fun (x120 : Rq) =>
        aj (cmp x115 x120) fun x122 =>
        cond (!(decide (x122 < (0 : Int))))
         (some (.brk (s70.1,s70.2)))
         (aj (aF s70.1 (i64.wrap (s70.2 - (1 : Int)))) fun (x133 : Rq) =>
         aj (aF s70.1 s70.2) fun (x137 : Rq) =>
         aj (aF s70.1 s70.2) fun (_ : Rq) =>
         bo (s70.1.set s70.2.toNat x133) fun (y75 : Rz) =>
         aj (aF y75 (i64.wrap (s70.2 - (1 : Int)))) fun (_ : Rq) =>
         bo (y75.set ((i64.wrap (s70.2 - (1 : Int))).toNat) x137) fun (y76 : Rz) =>
         some (.next (y76,(i64.wrap (s70.2 + (1 : Int)))))))
        (some (.brk (s70.1,s70.2)))) (t62,(i64.wrap (s52.2 + (1 : Int))))) fun fl70=>fl70.thenP fun (s70 : Rz × Int) =>
      some (.next (s70.1,s52.2,(i64.wrap (s1.2.2 + (1 : Int))))))
      (some (.next (t62,s52.2,(i64.wrap (s1.2.2 + (1 : Int)))))))))
   (some (.brk (s1.1,s1.2.1,s1.2.2)))) (data,(i64.wrap (a + (1 : Int))),0)) fun fl1=>fl1.thenR fun (s1 : Rz × Int × Int) =>
 some (false,s1.1)
theorem jJ (g_data : OwnRef) {g_cmp : FuncId} {caps_cmp : List PV} (data : Rz) (a : Int) (b : Int) (cmp : Rq → Rq → Option (Int)) (hg_cmp : ∀ (vs : Array Value) (w : World),(callFunc g_cmp vs).run Tryz.prog w = .ok (.enter g_cmp vs) w) (hp_cmp : ∀ a0 a1 r,cmp a0 a1 = some r → aV Tryz.prog g_cmp ((.list 53 (a0.map ab)) :: (.list 53 (a1.map ab)) :: caps_cmp) (ae r)) (r : Bool × Rz) (H : cV data a b cmp = some r) :
  PH Tryz.prog 119 [(.own 0 g_data (data.map (al 53 ab)).length),(ae a),(ae b),(.fn g_cmp caps_cmp)] ⟨fun _=>none,upd (fun _=>none) 0 (some ⟨g_data,51,(data.map (al 53 ab)),true⟩)⟩ (fun u H=>u = (aE r.1) ∧ H = ⟨fun _=>none,upd (fun _=>none) 0 (some ⟨g_data,51,(r.2.map (al 53 ab)),true⟩)⟩) := by
 unfold cV at H
 refine PH.aC Tryz.func119 Tryz.ntmps119 ?_
 refine aw 1 tk rfl (aw 3 tk rfl (ac (aw 1 tk rfl ?_)))
 obtain ⟨fl1,H1,Hp1⟩ := ax H
 refine aZ (τ := Rz × Int × Int) (γ := Unit) (fun s1 g1=>⟨141,upd (fun _=>.any) 0 (.own 0 g_data (s1.1.map (al 53 ab)).length),fun _=>none,upd (fun _=>none) 0 (some ⟨g_data,51,(s1.1.map (al 53 ab)),true⟩)⟩) (fun t=>fl1 = .next t) ?_ (fun s1 g1 hn1=>?_)
 ·refine az ?_
  refine cP (fun s1 g1=>⟨141,upd (upd (upd (upd (upd (upd (fun _=>.any) 10 (ae s1.2.2)) 9 (ae s1.2.1)) 3 (.fn g_cmp caps_cmp)) 2 (ae b)) 1 (ae a)) 0 (.own 0 g_data (s1.1.map (al 53 ab)).length),fun _=>none,upd (fun _=>none) 0 (some ⟨g_data,51,(s1.1.map (al 53 ab)),true⟩)⟩) () H1 (Gh.le (aa (aa (aa (aa (aa (aa ak)))))) ah (aA ai)) (fun m1 s1 g1 hr1=>?_)
  obtain ⟨fb1,H,hg1⟩ := cn hr1
  refine ac (aw 2 tk rfl ?_)
  refine aP rfl H (fun H=>?_) (fun H=>?_)
  ·refine av (ac (az (ac ?_)))
   obtain ⟨fl52,H52,Hp52⟩ := ax H
   refine aZ (τ := Rz × Int) (γ := Unit) (fun s52 g52=>⟨141,upd (upd (upd (upd (upd (upd (fun _=>.any) 10 (ae s1.2.2)) 9 (ae s52.2)) 3 (.fn g_cmp caps_cmp)) 2 (ae b)) 1 (ae a)) 0 (.own 0 g_data (s52.1.map (al 53 ab)).length),fun _=>none,upd (fun _=>none) 0 (some ⟨g_data,51,(s52.1.map (al 53 ab)),true⟩)⟩) (fun t=>fl52 = .next t) ?_ (fun s52 g52 hn52=>?_)
   ·refine az ?_
    refine cP (fun s52 g52=>⟨141,upd (upd (upd (upd (upd (upd (fun _=>.any) 10 (ae s1.2.2)) 9 (ae s52.2)) 3 (.fn g_cmp caps_cmp)) 2 (ae b)) 1 (ae a)) 0 (.own 0 g_data (s52.1.map (al 53 ab)).length),fun _=>none,upd (fun _=>none) 0 (some ⟨g_data,51,(s52.1.map (al 53 ab)),true⟩)⟩) () H52 (Gh.le (aa (aa (aa (aa (aa (aa ak)))))) ah (aA ai)) (fun m52 s52 g52 hr52=>?_)
    obtain ⟨fb52,H,hg52⟩ := cn hr52
    refine ac (ac ?_)
    refine cZ (tag := 0) rfl (fun ho0=>?_)
    refine bl tk mok ⟨false,true,[]⟩ [0,1,2,3,4,5,6,7,8,9,10,11,12,13,14,15,16,17] rfl (by decide +kernel) rfl (aJ 4 rfl ?_)
    refine im H (fun H=>?_) (fun H=>?_)
    ·refine aJ 3 rfl ?_
     obtain ⟨x26,k26,H⟩ := aW H
     refine aS tk ⟨k26.1,(bm k26.2)⟩ (bn ho0 k26.2) ?_
     refine bf tk (aH (fun _=>rfl) k26.2) ?_
     refine aJ 3 rfl ?_
     obtain ⟨x31,k31,H⟩ := aW H
     refine aS tk ⟨k31.1,(bm k31.2)⟩ (bn ho0 k31.2) ?_
     refine bf tk (aH (fun _=>rfl) k31.2) ?_
     obtain ⟨x33,h33,H⟩ := ax H
     refine bg hg_cmp (jc.r) (hp_cmp _ _ _ h33) ?_
     refine aJ 3 rfl (be ?_)
     refine aP rfl H (fun H=>?_) (fun H=>?_)
     ·refine av (az (bh 3 tk rfl (aQ ?_)))
      obtain rfl := ao H
      refine aK (s52.1,(i64.wrap (s52.2 + (1 : Int)))) () hg52 (Gh.le (aa (aa (aa (aa (aa (aa ak)))))) ah (aA ai))
     refine aR rfl ?_
     obtain rfl := ao H
     refine aO (s52.1,s52.2) () hg52 (Gh.le (aa (aa (aa (aa (aa (aa ak)))))) ah (aA ai))
    refine aJ 14 rfl (be (bH rfl (aR rfl ?_)))
    obtain rfl := ao H
    refine aO (s52.1,s52.2) () hg52 (Gh.le (aa (aa (aa (aa (aa (aa ak)))))) ah (aA ai))
   have H := bq hn52 Hp52
   refine ac (aw 3 tk rfl ?_)
   refine aP rfl H (fun H=>?_) (fun H=>?_)
   ·refine aw 1 tk rfl ?_
    obtain rfl := ao H
    have e1 : fl1 = .ret _ := hg1
    subst e1
    obtain rfl := bj Hp1
    refine dN (st' := ⟨141,upd (fun _=>.any) 8 (aE true),fun _=>none,upd (fun _=>none) 0 (some ⟨g_data,51,(s52.1.map (al 53 ab)),true⟩)⟩) (Gh.le (aa ak) ah (aA ai)) ?_
    refine eZ tk rfl (ps := [(aE true)]) ⟨_,_,rfl,rfl,rfl⟩ (PLe.q rfl) ⟨rfl,rfl⟩
   refine av (ac (aw 4 tk rfl ?_))
   refine aP rfl H (fun H=>?_) (fun H=>?_)
   ·refine aw 1 tk rfl ?_
    obtain rfl := ao H
    have e1 : fl1 = .ret _ := hg1
    subst e1
    obtain rfl := bj Hp1
    refine dN (st' := ⟨141,upd (fun _=>.any) 8 (aE false),fun _=>none,upd (fun _=>none) 0 (some ⟨g_data,51,(s52.1.map (al 53 ab)),true⟩)⟩) (Gh.le (aa ak) ah (aA ai)) ?_
    refine eZ tk rfl (ps := [(aE false)]) ⟨_,_,rfl,rfl,rfl⟩ (PLe.q rfl) ⟨rfl,rfl⟩
   refine av (ac ?_)
   refine cZ (tag := 0) rfl (fun ho0=>?_)
   refine bl tk mok ⟨false,true,[]⟩ [0,1,2,3,4,5,6,7,8,9,10,11,12,13,14,15,16,17] rfl (by decide +kernel) rfl (aJ 8 rfl ?_)
   obtain ⟨x54,k54,H⟩ := aW H
   refine aS tk ⟨k54.1,(bm k54.2)⟩ (bn ho0 k54.2) ?_
   refine bf tk (aH (fun _=>rfl) k54.2) ?_
   refine aJ 2 rfl ?_
   obtain ⟨x58,k58,H⟩ := aW H
   refine aS tk ⟨k58.1,(bm k58.2)⟩ (bn ho0 k58.2) ?_
   refine bf tk (aH (fun _=>rfl) k58.2) ?_
   obtain ⟨x60,k60,H⟩ := aW H
   refine aS tk ⟨k60.1,(bm k60.2)⟩ (bn ho0 k60.2) ?_
   obtain ⟨y53,hy53,H⟩ := bK H
   refine cj tk rfl rfl rfl rfl rfl rfl rfl rfl rfl (by rw [zl]; exact (zg.1 k60.2).1) (PLe.refl _ _) rfl rfl rfl rfl (by decide) (bM (fun _=>rfl) k60.2 rfl hy53) ?_
   obtain ⟨x61,k61,H⟩ := aW H
   refine aS tk ⟨k61.1,(gq (br (f := (al 53 ab)) hy53) k61.2)⟩ (gw ho0 (br (f := (al 53 ab)) hy53) k61.2) ?_
   obtain ⟨y54,hy54,H⟩ := bK H
   refine cj tk rfl rfl rfl rfl rfl rfl rfl rfl rfl (by rw [zl]; exact (zg.1 k61.2).1) (PLe.refl _ _) rfl rfl rfl rfl (by decide) (bM (fun _=>rfl) k61.2 rfl hy54) ?_
   refine be (ac (aw 4 tk rfl ?_))
   obtain ⟨fl62,H62,Hp62⟩ := ax H
   refine aZ (τ := Rz) (γ := Unit) (fun t62 g62=>⟨141,upd (upd (upd (upd (upd (upd (fun _=>.any) 10 (ae s1.2.2)) 9 (ae s52.2)) 3 (.fn g_cmp caps_cmp)) 2 (ae b)) 1 (ae a)) 0 (.own 0 g_data (t62.map (al 53 ab)).length),fun _=>none,upd (fun _=>none) 0 (some ⟨g_data,51,(t62.map (al 53 ab)),true⟩)⟩) (fun t=>t = fl62) ?_ (fun t62 g62 hn62=>?_)
   ·have H := H62
    refine aP rfl H (fun H=>?_) (fun H=>?_)
    ·refine aw 3 tk rfl ?_
     obtain ⟨fl63,H63,Hp63⟩ := ax H
     refine aZ (τ := Rz × Int) (γ := Unit) (fun s63 g63=>⟨141,upd (upd (upd (upd (upd (upd (fun _=>.any) 10 (ae s1.2.2)) 9 (ae s52.2)) 3 (.fn g_cmp caps_cmp)) 2 (ae b)) 1 (ae a)) 0 (.own 0 g_data (s63.1.map (al 53 ab)).length),fun _=>none,upd (fun _=>none) 0 (some ⟨g_data,51,(s63.1.map (al 53 ab)),true⟩)⟩) (fun t=>fl63 = .next t) ?_ (fun s63 g63 hn63=>?_)
     ·refine az ?_
      refine cP (fun s63 g63=>⟨141,upd (upd (upd (upd (upd (upd (upd (fun _=>.any) 11 (ae s63.2)) 10 (ae s1.2.2)) 9 (ae s52.2)) 3 (.fn g_cmp caps_cmp)) 2 (ae b)) 1 (ae a)) 0 (.own 0 g_data (s63.1.map (al 53 ab)).length),fun _=>none,upd (fun _=>none) 0 (some ⟨g_data,51,(s63.1.map (al 53 ab)),true⟩)⟩) () H63 (Gh.le (aI (PLe.of2 (np.of_eq (congrArg (PV.own 0 g_data) ((br (f := (al 53 ab)) hy53).trans (br (f := (al 53 ab)) hy54))))) (aa (aa (aa (aa (aa (aa ak))))))) ah (aA ai)) (fun m63 s63 g63 hr63=>?_)
      obtain ⟨fb63,H,hg63⟩ := cn hr63
      refine ac (aw 2 tk rfl ?_)
      refine aP rfl H (fun H=>?_) (fun H=>?_)
      ·refine av (ac (az (ac (ac ?_))))
       refine cZ (tag := 0) rfl (fun ho0=>?_)
       refine bl tk mok ⟨false,true,[]⟩ [0,1,2,3,4,5,6,7,8,9,10,11,12] rfl (by decide +kernel) rfl (aJ 3 rfl ?_)
       obtain ⟨x75,k75,H⟩ := aW H
       refine aS tk ⟨k75.1,(bm k75.2)⟩ (bn ho0 k75.2) ?_
       refine bf tk (aH (fun _=>rfl) k75.2) ?_
       refine aJ 3 rfl ?_
       obtain ⟨x80,k80,H⟩ := aW H
       refine aS tk ⟨k80.1,(bm k80.2)⟩ (bn ho0 k80.2) ?_
       refine bf tk (aH (fun _=>rfl) k80.2) ?_
       obtain ⟨x82,h82,H⟩ := ax H
       refine bg hg_cmp (jc.r) (hp_cmp _ _ _ h82) ?_
       refine aJ 2 rfl (be ?_)
       refine aP rfl H (fun H=>?_) (fun H=>?_)
       ·refine aR rfl ?_
        obtain rfl := ao H
        refine aO (s63.1,s63.2) () hg63 (Gh.le (aa (aa (aa (aa (aa (aa ak)))))) ah (aA ai))
       refine av ?_
       refine cZ (tag := 0) rfl (fun ho0=>?_)
       refine bl tk mok ⟨false,true,[]⟩ [0,1,2,3,4,5,6,7,8,9,10,11,12,13,14,15,16,17] rfl (by decide +kernel) rfl (aJ 8 rfl ?_)
       obtain ⟨x93,k93,H⟩ := aW H
       refine aS tk ⟨k93.1,(bm k93.2)⟩ (bn ho0 k93.2) ?_
       refine bf tk (aH (fun _=>rfl) k93.2) ?_
       refine aJ 2 rfl ?_
       obtain ⟨x97,k97,H⟩ := aW H
       refine aS tk ⟨k97.1,(bm k97.2)⟩ (bn ho0 k97.2) ?_
       refine bf tk (aH (fun _=>rfl) k97.2) ?_
       obtain ⟨x99,k99,H⟩ := aW H
       refine aS tk ⟨k99.1,(bm k99.2)⟩ (bn ho0 k99.2) ?_
       obtain ⟨y68,hy68,H⟩ := bK H
       refine cj tk rfl rfl rfl rfl rfl rfl rfl rfl rfl (by rw [zl]; exact (zg.1 k99.2).1) (PLe.refl _ _) rfl rfl rfl rfl (by decide) (bM (fun _=>rfl) k99.2 rfl hy68) ?_
       obtain ⟨x100,k100,H⟩ := aW H
       refine aS tk ⟨k100.1,(gq (br (f := (al 53 ab)) hy68) k100.2)⟩ (gw ho0 (br (f := (al 53 ab)) hy68) k100.2) ?_
       obtain ⟨y69,hy69,H⟩ := bK H
       refine cj tk rfl rfl rfl rfl rfl rfl rfl rfl rfl (by rw [zl]; exact (zg.1 k100.2).1) (PLe.refl _ _) rfl rfl rfl rfl (by decide) (bM (fun _=>rfl) k100.2 rfl hy69) ?_
       refine be (aQ (bh 3 tk rfl ?_))
       obtain rfl := ao H
       refine aK (y69,(i64.wrap (s63.2 - (1 : Int)))) () hg63 (Gh.le (aI (PLe.of2 (np.of_eq (congrArg (PV.own 0 g_data) ((br (f := (al 53 ab)) hy68).trans (br (f := (al 53 ab)) hy69))))) (aa (aa (aa (aa (aa (aa ak))))))) ah (aA ai))
      refine aR rfl ?_
      obtain rfl := ao H
      refine aO (s63.1,s63.2) () hg63 (Gh.le (aa (aa (aa (aa (aa (aa ak)))))) ah (aA ai))
     have H := bq hn63 Hp63
     obtain rfl := ao H
     refine aO s63.1 () rfl (Gh.le (aa (aa (aa (aa (aa (aa ak)))))) ah (aA ai))
    refine av ?_
    obtain rfl := ao H
    refine aO y54 () rfl (Gh.le (aI (PLe.of2 (np.of_eq (congrArg (PV.own 0 g_data) ((br (f := (al 53 ab)) hy53).trans (br (f := (al 53 ab)) hy54))))) (aa (aa (aa (aa (aa ak)))))) ah (aA ai))
   subst hn62
   have H := Hp62
   refine aw 4 tk rfl ?_
   refine aP rfl H (fun H=>?_) (fun H=>?_)
   ·refine aw 3 tk rfl ?_
    obtain ⟨fl70,H70,Hp70⟩ := ax H
    refine aZ (τ := Rz × Int) (γ := Unit) (fun s70 g70=>⟨141,upd (upd (upd (upd (upd (upd (fun _=>.any) 10 (ae s1.2.2)) 9 (ae s52.2)) 3 (.fn g_cmp caps_cmp)) 2 (ae b)) 1 (ae a)) 0 (.own 0 g_data (s70.1.map (al 53 ab)).length),fun _=>none,upd (fun _=>none) 0 (some ⟨g_data,51,(s70.1.map (al 53 ab)),true⟩)⟩) (fun t=>fl70 = .next t) ?_ (fun s70 g70 hn70=>?_)
    ·refine az ?_
     refine cP (fun s70 g70=>⟨141,upd (upd (upd (upd (upd (upd (upd (fun _=>.any) 12 (ae s70.2)) 10 (ae s1.2.2)) 9 (ae s52.2)) 3 (.fn g_cmp caps_cmp)) 2 (ae b)) 1 (ae a)) 0 (.own 0 g_data (s70.1.map (al 53 ab)).length),fun _=>none,upd (fun _=>none) 0 (some ⟨g_data,51,(s70.1.map (al 53 ab)),true⟩)⟩) () H70 (Gh.le (aa (aa (aa (aa (aa (aa (aa ak))))))) ah (aA ai)) (fun m70 s70 g70 hr70=>?_)
     obtain ⟨fb70,H,hg70⟩ := cn hr70
     refine ac (aw 3 tk rfl ?_)
     refine aP rfl H (fun H=>?_) (fun H=>?_)
     ·refine av (ac (az (ac (ac ?_))))
      refine cZ (tag := 0) rfl (fun ho0=>?_)
      refine bl tk mok ⟨false,true,[]⟩ [0,1,2,3,4,5,6,7,8,9,10,11,12] rfl (by decide +kernel) rfl (aJ 3 rfl ?_)
      obtain ⟨x115,k115,H⟩ := aW H
      refine aS tk ⟨k115.1,(bm k115.2)⟩ (bn ho0 k115.2) ?_
      refine bf tk (aH (fun _=>rfl) k115.2) ?_
      refine aJ 3 rfl ?_
      obtain ⟨x120,k120,H⟩ := aW H
      refine aS tk ⟨k120.1,(bm k120.2)⟩ (bn ho0 k120.2) ?_
      refine bf tk (aH (fun _=>rfl) k120.2) ?_
      obtain ⟨x122,h122,H⟩ := ax H
      refine bg hg_cmp (jc.r) (hp_cmp _ _ _ h122) ?_
      refine aJ 2 rfl (be ?_)
      refine aP rfl H (fun H=>?_) (fun H=>?_)
      ·refine aR rfl ?_
       obtain rfl := ao H
       refine aO (s70.1,s70.2) () hg70 (Gh.le (aa (aa (aa (aa (aa (aa ak)))))) ah (aA ai))
      refine av ?_
      refine cZ (tag := 0) rfl (fun ho0=>?_)
      refine bl tk mok ⟨false,true,[]⟩ [0,1,2,3,4,5,6,7,8,9,10,11,12,13,14,15,16,17] rfl (by decide +kernel) rfl (aJ 8 rfl ?_)
      obtain ⟨x133,k133,H⟩ := aW H
      refine aS tk ⟨k133.1,(bm k133.2)⟩ (bn ho0 k133.2) ?_
      refine bf tk (aH (fun _=>rfl) k133.2) ?_
      refine aJ 2 rfl ?_
      obtain ⟨x137,k137,H⟩ := aW H
      refine aS tk ⟨k137.1,(bm k137.2)⟩ (bn ho0 k137.2) ?_
      refine bf tk (aH (fun _=>rfl) k137.2) ?_
      obtain ⟨x139,k139,H⟩ := aW H
      refine aS tk ⟨k139.1,(bm k139.2)⟩ (bn ho0 k139.2) ?_
      obtain ⟨y75,hy75,H⟩ := bK H
      refine cj tk rfl rfl rfl rfl rfl rfl rfl rfl rfl (by rw [zl]; exact (zg.1 k139.2).1) (PLe.refl _ _) rfl rfl rfl rfl (by decide) (bM (fun _=>rfl) k139.2 rfl hy75) ?_
      obtain ⟨x140,k140,H⟩ := aW H
      refine aS tk ⟨k140.1,(gq (br (f := (al 53 ab)) hy75) k140.2)⟩ (gw ho0 (br (f := (al 53 ab)) hy75) k140.2) ?_
      obtain ⟨y76,hy76,H⟩ := bK H
      refine cj tk rfl rfl rfl rfl rfl rfl rfl rfl rfl (by rw [zl]; exact (zg.1 k140.2).1) (PLe.refl _ _) rfl rfl rfl rfl (by decide) (bM (fun _=>rfl) k140.2 rfl hy76) ?_
      refine be (aQ (bh 3 tk rfl ?_))
      obtain rfl := ao H
      refine aK (y76,(i64.wrap (s70.2 + (1 : Int)))) () hg70 (Gh.le (aI (PLe.of2 (np.of_eq (congrArg (PV.own 0 g_data) ((br (f := (al 53 ab)) hy75).trans (br (f := (al 53 ab)) hy76))))) (aa (aa (aa (aa (aa (aa ak))))))) ah (aA ai))
     refine aR rfl ?_
     obtain rfl := ao H
     refine aO (s70.1,s70.2) () hg70 (Gh.le (aa (aa (aa (aa (aa (aa ak)))))) ah (aA ai))
    have H := bq hn70 Hp70
    refine aQ (bh 3 tk rfl ?_)
    obtain rfl := ao H
    refine aK (s70.1,s52.2,(i64.wrap (s1.2.2 + (1 : Int)))) () hg1 (Gh.le (aa (aa (aa (aa (aa (aa ak)))))) ah (aA ai))
   refine av (aQ (bh 3 tk rfl ?_))
   obtain rfl := ao H
   refine aK (t62,s52.2,(i64.wrap (s1.2.2 + (1 : Int)))) () hg1 (Gh.le (aa (aa (aa (aa (aa (aa ak)))))) ah (aA ai))
  refine aR rfl ?_
  obtain rfl := ao H
  refine aO (s1.1,s1.2.1,s1.2.2) () hg1 (Gh.le (aa ak) ah (aA ai))
 have H := ck hn1 Hp1
 refine aw 1 tk rfl ?_
 obtain rfl := ao H
 refine dN (st' := ⟨141,upd (fun _=>.any) 8 (aE false),fun _=>none,upd (fun _=>none) 0 (some ⟨g_data,51,(s1.1.map (al 53 ab)),true⟩)⟩) (Gh.le (aa ak) ah (aA ai)) ?_
 refine eZ tk rfl (ps := [(aE false)]) ⟨_,_,rfl,rfl,rfl⟩ (PLe.q rfl) ⟨rfl,rfl⟩
end
end Go.Proofs.YtgaggbdcedpapaaGreat
