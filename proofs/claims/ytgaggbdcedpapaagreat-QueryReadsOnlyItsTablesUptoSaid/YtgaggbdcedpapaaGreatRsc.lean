/- queryReadsOnlyItsTablesUpto_holds, part 3: the layer, the plain functions and what they compute; conditions as in the statement. -/
import Derived.Test.YtgaggbdcedpapaaGreatRsb
set_option maxHeartbeats 4000000
namespace Go.Ab
noncomputable section
def nw {α : Type} (xs : List α) (m : Int) : Option (List α) := if 0 ≤ m ∧ m.toNat ≤ xs.length then some (xs.take m.toNat) else none
theorem np {α : Type} {xs ys : List α} {m : Int} (h : nw xs m = some ys) : 0 ≤ m ∧ m.toNat ≤ xs.length ∧ ys = xs.take m.toNat := by
 unfold nw at h
 split at h
 ·rename_i h0; exact ⟨h0.1,h0.2,(Option.some.inj h).symm⟩
 ·cases h
theorem gc {α : Type} {f : α → List PV} {xs ys : List α} {j : Nat} {x : α} {g : OwnRef} (ho : xs.map f ≠ [] → ∃ b,g.blk = some b) (hl : (xs.map f).length = (ys.map f).length) (h : ys[j]? = some x) : ∃ b,g.blk = some b := by
 refine ho fun e=>?_
 have := (zg.1 h).1
 have h0 : ys.length = 0 := by
  rw [e] at hl
  simpa using hl.symm
 omega
def delI {α : Type} (xs : List α) (i j : Int) : Option (List α) := if 0 ≤ i ∧ i ≤ j ∧ j.toNat ≤ xs.length then some (xs.take i.toNat ++ xs.drop j.toNat) else none
theorem delI_some {α : Type} {xs ys : List α} {i j : Int} (h : delI xs i j = some ys) : 0 ≤ i ∧ i ≤ j ∧ j.toNat ≤ xs.length ∧ ys = xs.take i.toNat ++ xs.drop j.toNat := by
 unfold delI at h
 split at h
 ·rename_i h0; exact ⟨h0.1,h0.2.1,h0.2.2,(Option.some.inj h).symm⟩
 ·cases h
def OwnRef.sub (g : OwnRef) (k lo hi mx : Nat) : Value := .slice (if mx = lo then g.blk.map (fun b=>⟨b,0,none⟩) else (g.blk.map fun b=>(⟨b,0,none⟩ : Addr)).map (·.add (lo * k))) (hi - lo) (mx - lo)
section
variable {P : Program} {T : TT}
def mS (ev : Operand → PV) (o : Option Operand) (dflt n : Nat) : Prop := match o with
 | none=>n = dflt
 | some x=>∃ kk z,ev x = .val (.int kk z) ∧ z = (n : Int)
theorem detS_subV (hT : T.Ok P) {o : Oper} {ev : Operand → PV} {H : Heap} {t : TypeId} {x : Operand} {lo hi mx : Option Operand} (ho : o.op = .slice t x lo hi mx) {ti ei : TInfo} {e : TypeId} (hti : T.get t = some ti) (hd : ti.desc = .slice e) (hei : T.get e = some ei)
  {tag : Nat} {g : OwnRef} {len : Nat} (hx : ev x = .own tag g len) {l h m : Nat} (hl : mS ev lo 0 l) (hh : mS ev hi len h) (hm : mS ev mx g.cap m) (hs : mx.isSome = true → hi.isSome = true) (h1 : l ≤ h) (h2 : h ≤ m) (h3 : m ≤ g.cap) :
  DetS P o ev H (.val (g.sub ei.size l h m)) := by
 intro C M a w _ he
 have hxr := he x (by rw [ho]; cases lo <;> cases hi <;> cases mx <;> simp [Op.operands])
 rw [hx] at hxr
 simp only [Rep] at hxr
 have hu := (hT.get hti).und
 rw [hd] at hu
 refine ⟨g.sub ei.size l h m,?_,by simp only [Rep]⟩
 have hbnd : ∀ (z y : Nat) (kk : IntKind) (c : BoundsCode),z ≤ y → (Instr.sliceBound (.int kk (z : Int)) y c).run P w = .ok z w := by
  intro z y kk c hzy
  have : (0 : Int) ≤ (z : Int) ∧ (z : Int) ≤ (y : Int) := ⟨by omega,by omega⟩
  simp [Instr.sliceBound,asIntOf,hzy]
 have get : ∀ y,y ∈ lo ∨ y ∈ hi ∨ y ∈ mx → Rep P M true (ev y) (a.eval y) := by
  intro y hy
  refine he y ?_
  rw [ho]
  clear he hl hh hm hs ho
  cases lo <;> cases hi <;> cases mx <;> simp [Op.operands] at hy ⊢ <;> (first | exact .inr (hy.imp Eq.symm Eq.symm) | exact .inr (hy.imp Eq.symm (Or.imp Eq.symm Eq.symm)) | exact .inr hy.symm | (rcases hy with h | h | h <;> simp [h]) | (rcases hy with h | h <;> simp [h]))
 have hsz := (hT.get hei).rsize w
 have key : ∀ (lv hv mv : Option Value),(match lv with | none=>l = 0 | some v=>∃ kk,v = .int kk (l : Int)) → (match hv with | none=>h = len | some v=>∃ kk,v = .int kk (h : Int)) →
   (match mv with | none=>m = g.cap | some v=>∃ kk,v = .int kk (m : Int)) → (mv.isSome = true → hv.isSome = true) → (Instr.slice t (g.val len) lv hv mv).run P w = .ok (g.sub ei.size l h m) w := by
  intro lv hv mv p1 p2 p3 p4
  have b : (Instr.sliceBounds true len g.cap lv hv mv).run P w = .ok (l,h,m) w := by
   cases mv with
   | none =>
    simp only at p3
    subst p3
    cases hv with
    | none =>
     simp only at p2
     subst p2
     cases lv with
     | none=>simp only at p1; subst p1; simp [Instr.sliceBounds]
     | some v=>obtain ⟨kk,rfl⟩ := p1; simp [Instr.sliceBounds,hbnd _ _ _ _ h1]
    | some v' =>
     obtain ⟨kk',rfl⟩ := p2
     cases lv with
     | none=>simp only at p1; subst p1; simp [Instr.sliceBounds,hbnd _ _ _ _ h2]
     | some v=>obtain ⟨kk,rfl⟩ := p1; simp [Instr.sliceBounds,hbnd _ _ _ _ h1,hbnd _ _ _ _ h2]
   | some v2 =>
    obtain ⟨k2,rfl⟩ := p3
    cases hv with
    | none=>exact absurd (p4 rfl) (by simp)
    | some v' =>
     obtain ⟨kk',rfl⟩ := p2
     cases lv with
     | none=>simp only at p1; subst p1; simp [Instr.sliceBounds,hbnd _ _ _ _ h2,hbnd _ _ _ _ h3]
     | some v=>obtain ⟨kk,rfl⟩ := p1; simp [Instr.sliceBounds,hbnd _ _ _ _ h1,hbnd _ _ _ _ h2,hbnd _ _ _ _ h3]
  simp only [Instr.slice,OwnRef.val,run_underlying hu,Sem.run_bind,Result.andThen_ok,b,hsz]
  rfl
 have gl : ∀ (oo : Option Operand) (df n : Nat),(∀ y,y ∈ oo → Rep P M true (ev y) (a.eval y)) → mS ev oo df n → (match oo.map a.eval with | none=>n = df | some v=>∃ kk,v = .int kk (n : Int)) := by
  intro oo df n hr ha
  cases oo with
  | none=>exact ha
  | some y =>
   obtain ⟨kk,z,e1,rfl⟩ := ha
   have := hr y rfl
   rw [e1] at this
   simp only [Rep] at this
   exact ⟨kk,this⟩
 have := key (lo.map a.eval) (hi.map a.eval) (mx.map a.eval) (gl lo 0 l (fun y hy=>get y (.inl hy)) hl) (gl hi len h (fun y hy=>get y (.inr (.inl hy))) hh) (gl mx g.cap m (fun y hy=>get y (.inr (.inr hy))) hm) (by simpa using hs)
 simp only [execOp,ho,Instr.sliceAt,hxr.2]
 rw [Sem.run_bind,Sem.run_bind,run_underlying hu]
 simp only [Result.andThen_ok]
 rw [this]
 rfl
theorem eff_appendIn (hT : T.Ok P) {o : Oper} {ev : Operand → PV} {H : Heap} {x y : Operand} {t : TypeId} (ho : o.op = .call { callee := .builtin .append,args := #[x,y],argTypes := #[t,t] }) {ti ei : TInfo} {e : TypeId} (hti : T.get t = some ti) (hd : ti.desc = .slice e) (hei : T.get e = some ei)
  {tag : Nat} {g : OwnRef} {rows : List (List PV)} (hob : H.ob tag = some ⟨g,e,rows,true⟩) {p q : Nat} (hpq : p ≤ q) (hq : q ≤ rows.length) (hx : ev x = .val (g.sub ei.size 0 p g.cap)) (hy : ev y = .val (g.sub ei.size q rows.length g.cap))
  {K : PV → Heap → Prop} (hk : K (.own tag g (rows.take p ++ rows.drop q).length) ⟨H.bx,upd H.ob tag (some ⟨g,e,rows.take p ++ rows.drop q,true⟩)⟩) : Eff P o ev H K := by
 intro C M a w next Q hi he hn
 have hxr := he x (by rw [ho]; simp [Op.operands,Call.operands])
 have hyr := he y (by rw [ho]; simp [Op.operands,Call.operands])
 rw [hx] at hxr
 rw [hy] at hyr
 simp only [Rep] at hxr hyr
 obtain ⟨i,g1,g2,g3,g4⟩ := hi.objs tag _ hob
 obtain ⟨i',g5,g6,_,_⟩ := (hT.get hei).info
 simp only at g1 g2 g3 g4
 rw [g1] at g5
 cases g5
 have hu := (hT.get hti).und
 rw [hd] at hu
 have hbase : (if g.cap = 0 then g.blk.map (fun b=>(⟨b,0,none⟩ : Addr)) else (g.blk.map fun b=>(⟨b,0,none⟩ : Addr)).map (·.add (0 * ei.size))) = g.blk.map fun b=>⟨b,0,none⟩ := by
  split
  ·rfl
  ·rw [Nat.zero_mul]
   cases g.blk <;> simp [Addr.add]
 have hlen : (rows.take p ++ rows.drop q).length = p + (rows.length - q) := by simp; omega
 have fin : ∀ w',(Builtin.append_ #[t,t] o.type #[g.sub ei.size 0 p g.cap,g.sub ei.size q rows.length g.cap]).run P w = .ok (g.val (p + (rows.length - q))) w' →
   InvH P C M ⟨H.bx,upd H.ob tag (some ⟨g,e,rows.take p ++ rows.drop q,true⟩)⟩ w' → Oper.wp P o a w next Q := by
  intro w' hr hi'
  have hrun' : (execOp a.eval o).run P w = .ok (.value (g.val (rows.take p ++ rows.drop q).length)) w' := by
   rw [hlen]
   simp only [execOp,ho,resolve,Sem.run_bind,Sem.run_pure,Result.andThen_ok,invoke,builtin,List.map_toArray,List.map_cons,List.map_nil,hxr,hyr]
   rw [hr]
   rfl
  unfold Oper.wp
  rw [hrun']
  exact hn _ _ _ M w' hk (Mem.le_refl M) hi' (by simp [Rep])
 have hcap : rows.length ≤ g.cap := by
  rcases g4 with ⟨_,b,_⟩ | ⟨_,_,_,_,_,_,h9,_⟩
  ·rw [b]; simp
  ·exact h9
 by_cases h0 : rows.length - q = 0
 ·refine fin w ?_ ?_
  ·have e1 : g.sub ei.size 0 p g.cap = .slice (g.blk.map fun b=>⟨b,0,none⟩) p g.cap := by unfold OwnRef.sub; rw [hbase]; simp
   have e2 : g.sub ei.size q rows.length g.cap = .slice (if g.cap = q then g.blk.map (fun b=>⟨b,0,none⟩) else (g.blk.map fun b=>(⟨b,0,none⟩ : Addr)).map (·.add (q * ei.size))) 0 (g.cap - q) := by unfold OwnRef.sub; rw [h0]
   rw [e1,e2,oZ (w := w) t o.type e i hu g1 _ _ p g.cap _ (by omega),h0]
   rfl
  ·have e1 : rows.take p ++ rows.drop q = rows.take p := by rw [List.drop_of_length_le (by omega)]; simp
   rw [e1]
   exact hi.cutO hob p
 ·rcases g4 with ⟨_,hn',_⟩ | ⟨b,cur,hb,hm,hcur,hcs,hlc,hcm,hcr,h1c,hw1,hw2⟩
  ·rw [hn'] at h0; simp at h0
  ·have hqc : ¬ g.cap = q := by omega
   have hcs2 : cur.toList.length = g.cap * i.size := by rw [Array.length_toList]; exact hcs
   have e1 : g.sub ei.size 0 p g.cap = .slice (some ⟨b,0,none⟩) p g.cap := by unfold OwnRef.sub; rw [hbase,hb]; simp
   have e2 : g.sub ei.size q rows.length g.cap = .slice (some ⟨b,q * i.size,none⟩) (rows.length - q) (g.cap - q) := by unfold OwnRef.sub; rw [zy hqc,hb,g6]; simp [go]
   have hflat : ∀ l : List (List PV),(∀ r ∈ l,r.length = i.size) → l.flatten.length = l.length * i.size := by
    intro l
    induction l with
    | nil=>simp
    | cons r l ih=>intro hl; simp [ih fun r hr=>hl r (by simp [hr]),hl r (by simp),Nat.add_mul]; omega
   have hold : (cur.toList.take (rows.length * i.size)).length = rows.length * i.size := by rw [hcr.length,hflat rows g3]
   have hcl : rows.length * i.size ≤ cur.size := by rw [hcs]; exact Nat.mul_le_mul_right _ hlc
   have hmulq : q * i.size ≤ rows.length * i.size := Nat.mul_le_mul_right _ hq
   have hmulp : p * i.size ≤ q * i.size := Nat.mul_le_mul_right _ hpq
   obtain ⟨news,hnews⟩ : ∃ news,news = (cur.toList.take (rows.length * i.size)).drop (q * i.size) := ⟨_,rfl⟩
   have hnl : news.length = (rows.length - q) * i.size := by rw [hnews,List.length_drop,hold,Nat.sub_mul]
   have hac : ∀ j u,news[j]? = some u → w.cell? ((⟨b,q * i.size,none⟩ : Addr).add j) = some u := by
    intro j u hj
    rw [go,cell_of_row w b (q * i.size + j) cur e (0,0) hcur]
    rw [hnews,List.getElem?_drop,List.getElem?_take] at hj
    split at hj
    ·simpa using hj
    ·cases hj
   have hone : ∀ u ∈ news,u.oneCell' = true := fun u hu'=>h1c u (by rw [hnews] at hu'; exact List.mem_of_mem_drop hu')
   have hsum : (p + (rows.length - q)) * i.size = p * i.size + (rows.length - q) * i.size := Nat.add_mul _ _ _
   have hsub : (rows.length - q) * i.size = rows.length * i.size - q * i.size := Nat.sub_mul _ _ _
   have hfit : p * i.size + news.length ≤ cur.size := by rw [hnl]; omega
   have hr := run_append_room (P := P) w t o.type e i hu g1 b p g.cap cur hcur ⟨b,q * i.size,none⟩ (rows.length - q) (g.cap - q) news hnl hac hone (by omega) hfit
   have htk : (rows.take p).flatten = rows.flatten.take (p * i.size) := by
    have e3 : rows.flatten = (rows.take p).flatten ++ (rows.drop p).flatten := by rw [← List.flatten_append,List.take_append_drop]
    have e4 : (rows.take p).flatten.length = p * i.size := by rw [hflat _ fun r hr=>g3 r (List.mem_of_mem_take hr),List.length_take,Nat.min_eq_left (by omega)]
    rw [e3,← e4,List.take_left]
   have hdk : (rows.drop q).flatten = rows.flatten.drop (q * i.size) := by
    have e3 : rows.flatten = (rows.take q).flatten ++ (rows.drop q).flatten := by rw [← List.flatten_append,List.take_append_drop]
    have e4 : (rows.take q).flatten.length = q * i.size := by rw [hflat _ fun r hr=>g3 r (List.mem_of_mem_take hr),List.length_take,Nat.min_eq_left (by omega)]
    rw [e3,← e4,List.drop_left]
   have hcp : cur.toList.take (p * i.size) = (cur.toList.take (rows.length * i.size)).take (p * i.size) := by rw [List.take_take,Nat.min_eq_left (by omega)]
   have hlist : (cur.toList.take (p * i.size) ++ news ++ cur.toList.drop (p * i.size + news.length)).take ((p + (rows.length - q)) * i.size) = cur.toList.take (p * i.size) ++ news := by
    rw [show (p + (rows.length - q)) * i.size = (cur.toList.take (p * i.size) ++ news).length from by
     rw [List.length_append,List.length_take,hnl,hsum,Array.length_toList,Nat.min_eq_left (by omega)]]
    exact List.take_left
   refine fin (w.setRow b (cur.toList.take (p * i.size) ++ news ++ cur.toList.drop (p * i.size + news.length)).toArray) (by rw [e1,e2,hr]; simp [OwnRef.val,hb]) (hi.set_obj tag _ hob b hb (rows.take p ++ rows.drop q) true (cur.toList.take (p * i.size) ++ news ++ cur.toList.drop (p * i.size + news.length)).toArray i g1 ?_ ?_ ?_ ?_ hcm ?_ ?_ ?_ (fun _=>hw1 trivial) (fun o' _=>hw1 trivial o'))
   ·rw [hlen]
    exact Nat.le_trans (Nat.mul_le_mul_right _ (by omega)) g2
   ·intro r hr'
    rcases List.mem_append.1 hr' with h | h
    ·exact g3 r (List.mem_of_mem_take h)
    ·exact g3 r (List.mem_of_mem_drop h)
   ·have e9 : (cur.toList.take (p * i.size) ++ news ++ cur.toList.drop (p * i.size + news.length)).length = g.cap * i.size := by
     rw [List.length_append,List.length_append,List.length_take,List.length_drop,hcs2]
     have : p * i.size + news.length ≤ g.cap * i.size := by rw [← hcs]; exact hfit
     omega
    simpa using e9
   ·rw [hlen]; exact (by omega : p + (rows.length - q) ≤ g.cap)
   ·rw [hlen]
    simp only
    rw [hlist,List.flatten_append,htk,hdk,hcp,hnews]
    exact (hcr.take _).append (hcr.drop _)
   ·rw [hlen]
    simp only
    rw [hlist]
    intro v hv
    rcases List.mem_append.1 hv with h | h
    ·rw [hcp] at h; exact h1c v (List.mem_of_mem_take h)
    ·exact hone v h
   ·intro o' v' hm'
    rw [hw1 trivial o'] at hm'
    cases hm'
theorem eff_clearB (hT : T.Ok P) {o : Oper} {ev : Operand → PV} {H : Heap} {x : Operand} {t : TypeId} (ho : o.op = .call { callee := .builtin .clear,args := #[x],argTypes := #[t] }) {ti ei : TInfo} {e : TypeId} (hti : T.get t = some ti) (hd : ti.desc = .slice e) (hei : T.get e = some ei)
  (hz : Nat.beq ei.zero.cells.size ei.size = true) (h1 : (dy ei).all PV.one = true) {tag : Nat} {g : OwnRef} {rows : List (List PV)} (hob : H.ob tag = some ⟨g,e,rows,true⟩) {p q m : Nat} (hp : rows.length ≤ p) (hpq : p ≤ q) (hq : q ≤ m) (hm : m ≤ g.cap)
  (hx : ev x = .val (g.sub ei.size p q m)) {K : PV → Heap → Prop} (hk : K (.tup []) H) : Eff P o ev H K := by
 intro C M a w next Q hi he hn
 have hxr := he x (by rw [ho]; simp [Op.operands,Call.operands])
 rw [hx] at hxr
 simp only [Rep] at hxr
 obtain ⟨i,g1,g2,g3,g4⟩ := hi.objs tag _ hob
 obtain ⟨i',g5,g6,_,hzero⟩ := (hT.get hei).info
 simp only at g1 g2 g3 g4
 rw [g1] at g5
 cases g5
 have hu := (hT.get hti).und
 rw [hd] at hu
 have hself : upd H.ob tag (some ⟨g,e,rows,true⟩) = H.ob := qr _ _ _ hob
 have fin : ∀ w',(Builtin.clear_ #[t] o.type #[g.sub ei.size p q m]).run P w = .ok (.tuple #[]) w' → InvH P C M ⟨H.bx,upd H.ob tag (some ⟨g,e,rows,true⟩)⟩ w' → Oper.wp P o a w next Q := by
  intro w' hr hi'
  have hrun' : (execOp a.eval o).run P w = .ok (.value (.tuple #[])) w' := by
   simp only [execOp,ho,resolve,Sem.run_bind,Sem.run_pure,Result.andThen_ok,invoke,builtin,List.map_toArray,List.map_cons,List.map_nil,hxr]
   rw [hr]
   rfl
  unfold Oper.wp
  rw [hrun']
  rw [hself] at hi'
  exact hn _ _ _ M w' hk (Mem.le_refl M) hi' (by simp [Rep,aM])
 by_cases h0 : q - p = 0
 ·refine fin w ?_ (by rw [hself]; exact hi)
  unfold OwnRef.sub
  rw [h0]
  split <;> (cases g.blk <;> simp [Builtin.clear_,run_underlying hu])
 ·rcases g4 with ⟨_,hn',hc0⟩ | ⟨b,cur,hb,hmn,hcur,hcs,hlc,hcm,hcr,h1c,hw1,hw2⟩
  ·omega
  ·have hz1 := Nat.eq_of_beq_eq_true hz
   have hcs' : cur.size = g.cap * i.size := hcs
   have hcs2 : cur.toList.length = g.cap * i.size := by rw [Array.length_toList]; exact hcs
   have e1 : g.sub ei.size p q m = .slice (some ⟨b,p * i.size,none⟩) (q - p) (m - p) := by unfold OwnRef.sub; rw [zy (by omega),hb,g6]; simp [go]
   have hzl : (dy ei).length = i.size := by simp [dy,hz1,g6]
   have hzc : (Builtin.zeroCells ei.zero.cells (q - p)).toList = (List.replicate (q - p) ei.zero.cells.toList).flatten := by
    unfold Builtin.zeroCells
    exact oz ei.zero.cells (q - p)
   have hzs : (Builtin.zeroCells ei.zero.cells (q - p)).toList.length = (q - p) * i.size := by rw [hzc]; simp [hz1,g6]
   have hrep : aM P M false (List.replicate (q - p) (dy ei)).flatten (List.replicate (q - p) ei.zero.cells.toList).flatten := ll (kZ _) (q - p)
   have hone : ∀ v ∈ (Builtin.zeroCells ei.zero.cells (q - p)).toList,v.oneCell' = true := by
    rw [hzc]
    refine aM.oneCell ?_ hrep
    rw [List.all_eq_true]
    intro x hx
    rw [List.mem_flatten] at hx
    obtain ⟨l,hl,hx⟩ := hx
    rw [List.eq_of_mem_replicate hl] at hx
    exact List.all_eq_true.1 h1 x hx
   have hmq : q * i.size ≤ g.cap * i.size := Nat.mul_le_mul_right _ (by omega)
   have hmp : rows.length * i.size ≤ p * i.size := Nat.mul_le_mul_right _ hp
   have hsub : (q - p) * i.size = q * i.size - p * i.size := Nat.sub_mul _ _ _
   have hpq' : p * i.size ≤ q * i.size := Nat.mul_le_mul_right _ hpq
   have hst := run_storeCells_at P b (p * i.size) e (Builtin.zeroCells ei.zero.cells (q - p)).toList 0 cur w hcur (by rw [hzs]; omega) hone
   simp only [Nat.add_zero] at hst
   obtain ⟨k,hk1⟩ : ∃ k,q - p = k + 1 := ⟨q - p - 1,by omega⟩
   have htake : (cur.toList.take (p * i.size) ++ (Builtin.zeroCells ei.zero.cells (q - p)).toList ++ cur.toList.drop (p * i.size + (Builtin.zeroCells ei.zero.cells (q - p)).toList.length)).take (rows.length * i.size) = cur.toList.take (rows.length * i.size) := by
    rw [List.append_assoc,List.take_append_of_le_length (by rw [List.length_take,hcs2]; omega),List.take_take,Nat.min_eq_left hmp]
   refine fin _ ?_ (hi.set_obj tag _ hob b hb rows true (cur.toList.take (p * i.size) ++ (Builtin.zeroCells ei.zero.cells (q - p)).toList ++ cur.toList.drop (p * i.size + (Builtin.zeroCells ei.zero.cells (q - p)).toList.length)).toArray i g1 g2 g3 ?_ hlc hcm ?_ ?_ ?_ (fun _=>hw1 trivial) (fun o' _=>hw1 trivial o'))
   ·rw [e1]
    have hzv : (zeroValue e).run P w = .ok ei.zero w := by simp [zeroValue,typeInfo,g1,hzero]
    rw [hk1] at hst ⊢
    simp [Builtin.clear_,run_underlying hu,hzv]
    rw [hst]
    simp
   ·have e9 : (cur.toList.take (p * i.size) ++ (Builtin.zeroCells ei.zero.cells (q - p)).toList ++ cur.toList.drop (p * i.size + (Builtin.zeroCells ei.zero.cells (q - p)).toList.length)).length = g.cap * i.size := by
     rw [List.length_append,List.length_append,List.length_take,List.length_drop,hcs2,hzs]
     omega
    simpa using e9
   ·simp only
    rw [htake]
    exact hcr
   ·simp only
    rw [htake]
    exact h1c
   ·intro o' v' hm'
    rw [hw1 trivial o'] at hm'
    cases hm'
end
section
variable {P : Program} {ops : Array Oper} {rest : List Oper} {o : Oper} {n : Nat} {s s' : Nat → PV} {bx : Nat → Option Box} {ob : Nat → Option Obj} {K : PState → Prop} {T : TT} {rb : RB} {k : Nat} {L : List Nat}
theorem pI (hT : T.Ok P) (hg : be ops s o = some true) {t : TypeId} {x : Operand} {lo hi mx : Option Operand} (ho : o.op = .slice t x lo hi mx) {ti ei : TInfo} {e : TypeId} (hti : T.get t = some ti) (hd : ti.desc = .slice e) (hei : T.get e = some ei)
  {tag : Nat} {g : OwnRef} {len : Nat} (hx : evS s x = .own tag g len) {l h m : Nat} (hl : mS (evS s) lo 0 l) (hh : mS (evS s) hi len h) (hm : mS (evS s) mx g.cap m) (hs : mx.isSome = true → hi.isSome = true) (h1 : l ≤ h) (h2 : h ≤ m) (h3 : m ≤ g.cap)
  (hp : putD n s o.dst (.val (g.sub ei.size l h m)) = some s') (hr : Ao P ops rest ⟨n,s',bx,ob⟩ K) : Ao P ops (o :: rest) ⟨n,s,bx,ob⟩ K :=
 mL hg (detS_subV hT ho hti hd hei hx hl hh hm hs h1 h2 h3) hp hr
theorem sK (hT : T.Ok P) (ho : ops[k]? = some o) (hg : be ops s o = some true) {t : TypeId} {x : Operand} {lo hi mx : Option Operand} (hop : o.op = .slice t x lo hi mx) {ti ei : TInfo} {e : TypeId} (hti : T.get t = some ti) (hd : ti.desc = .slice e) (hei : T.get e = some ei)
  {tag : Nat} {g : OwnRef} {len : Nat} (hx : evS s x = .own tag g len) {l h m : Nat} (hl : mS (evS s) lo 0 l) (hh : mS (evS s) hi len h) (hm : mS (evS s) mx g.cap m) (hs : mx.isSome = true → hi.isSome = true) (h1 : l ≤ h) (h2 : h ≤ m) (h3 : m ≤ g.cap)
  (hp : putD n s o.dst (.val (g.sub ei.size l h m)) = some s') (hr : Do P T rb ops L ⟨n,s',bx,ob⟩ K) : Do P T rb ops (k :: L) ⟨n,s,bx,ob⟩ K :=
 lQ ho hg (by rw [hop]; rfl) (fun _=>detS_subV hT hop hti hd hei hx hl hh hm hs h1 h2 h3) hp hr
theorem qM (hT : T.Ok P) (hg : be ops s o = some true) {x : Operand} {t : TypeId} (ho : o.op = .call { callee := .builtin .clear,args := #[x],argTypes := #[t] }) (hdst : o.dst = none) {ti ei : TInfo} {e : TypeId} (hti : T.get t = some ti) (hd : ti.desc = .slice e) (hei : T.get e = some ei)
  (hz : Nat.beq ei.zero.cells.size ei.size = true) (h1 : (dy ei).all PV.one = true) {tag : Nat} {g : OwnRef} {rows : List (List PV)} (hob : ob tag = some ⟨g,e,rows,true⟩) {p q m : Nat} (hp : rows.length ≤ p) (hpq : p ≤ q) (hq : q ≤ m) (hm : m ≤ g.cap)
  (hx : evS s x = .val (g.sub ei.size p q m)) (h : Ao P ops rest ⟨n,s,bx,ob⟩ K) : Ao P ops (o :: rest) ⟨n,s,bx,ob⟩ K :=
 eZ hg (eff_clearB hT ho hti hd hei hz h1 hob hp hpq hq hm hx ⟨s,by simp [hdst,putD],h⟩)
theorem oK (hg : be ops s o = some true) {t t' : TypeId} {x y : Operand} (ho : o.op = .binOp .shr t x y t') {kk k2 : IntKind} {a b : Int} (hx : evS s x = .val (.int kk a)) (hy : evS s y = .val (.int k2 b)) (hb : 0 ≤ b) {m : Nat} (hm : min b.toNat kk.bits = m)
  (hp : putD n s o.dst (.val (.int kk (a.fdiv (2 ^ m)))) = some s') (h : Ao P ops rest ⟨n,s',bx,ob⟩ K) : Ao P ops (o :: rest) ⟨n,s,bx,ob⟩ K := by
 refine eZ hg (fun C M a' w next Q hi he hn=>?_)
 have hxr := he x (by rw [ho]; simp [Op.operands])
 have hyr := he y (by rw [ho]; simp [Op.operands])
 rw [show (⟨n,s,bx,ob⟩ : PState).s = s from rfl,hx] at hxr
 rw [show (⟨n,s,bx,ob⟩ : PState).s = s from rfl,hy] at hyr
 simp only [Rep] at hxr hyr
 subst hm
 have hrun : (execOp a'.eval o).run P w = .ok (.value (.int kk (a.fdiv (2 ^ (min b.toNat kk.bits))))) w := by
  have h2 : (eqGuard .shr t x y (.int kk a) (.int k2 b)).run P w = .ok () w := by simp [eqGuard]
  have hb' : ¬ b < 0 := by omega
  simp only [execOp,ho,hxr,hyr,Sem.run_bind,h2,Result.andThen_ok,binOp,Op.shift,zy hb']
  rfl
 unfold Oper.wp
 rw [hrun]
 exact hn _ _ ⟨bx,ob⟩ M w ⟨s',hp,h⟩ (Mem.le_refl M) hi (by simp only [Rep])
theorem jW {tag : Nat} {g : OwnRef} {e : TypeId} {rows : List (List PV)} {wr : Bool} (hob : ob tag = some ⟨g,e,rows,wr⟩) (h : (rows ≠ [] → ∃ b,g.blk = some b) → Ao P ops rest ⟨n,s,bx,ob⟩ K) : Ao P ops rest ⟨n,s,bx,ob⟩ K := fun C M a w Q hi hq=>by
 refine h (fun hne=>?_) C M a w Q hi hq
 obtain ⟨_,_,_,_,h4⟩ := hi.2.objs tag _ hob
 rcases h4 with ⟨_,h5,_⟩ | ⟨b,_,h5,_⟩
 ·exact absurd h5 hne
 ·exact ⟨b,h5⟩
theorem V.ownC {fn : Func} {R : PV → Heap → Prop} {ks : List KI} {tag : Nat} {g : OwnRef} {e : TypeId} {rows : List (List PV)} {wr : Bool} (hob : ob tag = some ⟨g,e,rows,wr⟩) (h : rows.length ≤ g.cap → V P fn R ks ⟨n,s,bx,ob⟩) : V P fn R ks ⟨n,s,bx,ob⟩ := fun C M a w hi=>by
 refine h ?_ C M a w hi
 obtain ⟨_,_,_,_,h4⟩ := hi.2.objs tag _ hob
 rcases h4 with ⟨_,h5,h6⟩ | ⟨b,_,h5,_,_,_,h6,h7,_⟩
 ·simp only at h5; rw [h5]; simp
 ·exact h6
theorem so {tag : Nat} {g : OwnRef} {e : TypeId} {rows : List (List PV)} {wr : Bool} (hob : ob tag = some ⟨g,e,rows,wr⟩) (h : rows.length ≤ g.cap → Ao P ops rest ⟨n,s,bx,ob⟩ K) : Ao P ops rest ⟨n,s,bx,ob⟩ K := fun C M a w Q hi hq=>by
 refine h ?_ C M a w Q hi hq
 obtain ⟨_,_,_,_,h4⟩ := hi.2.objs tag _ hob
 rcases h4 with ⟨_,h5,h6⟩ | ⟨b,_,h5,_,_,_,h6,h7,_⟩
 ·simp only at h5; rw [h5]; simp
 ·exact h6
theorem Gh.cutO {st : PState} {tag : Nat} {g : OwnRef} {e : TypeId} {rows rows' : List (List PV)} (hob : st.ob tag = some ⟨g,e,rows,true⟩) (m : Nat) (hr : rows.take m = rows') : Gh P st ⟨st.n,st.s,st.bx,upd st.ob tag (some ⟨g,e,rows',true⟩)⟩ := by
 subst hr
 intro C M a w hi
 exact ⟨M,hi.1,hi.2.cutO hob m⟩
theorem sD (hT : T.Ok P) (ho : ops[k]? = some o) (hg : be ops s o = some true) {x y : Operand} {t : TypeId} (hop : o.op = .call { callee := .builtin .append,args := #[x,y],argTypes := #[t,t] }) {ti ei : TInfo} {e : TypeId} (hti : T.get t = some ti) (hd : ti.desc = .slice e) (hei : T.get e = some ei)
  {tag : Nat} {g : OwnRef} {rows rows' : List (List PV)} (hob : ob tag = some ⟨g,e,rows,true⟩) {p q : Nat} (hpq : p ≤ q) (hq : q ≤ rows.length) (hx : evS s x = .val (g.sub ei.size 0 p g.cap)) (hy : evS s y = .val (g.sub ei.size q rows.length g.cap)) (hr : rows.take p ++ rows.drop q = rows')
  (hp : putD n s o.dst (.own tag g rows'.length) = some s') (h : Do P T rb ops L ⟨n,s',bx,upd ob tag (some ⟨g,e,rows',true⟩)⟩ K) : Do P T rb ops (k :: L) ⟨n,s,bx,ob⟩ K := by
 subst hr
 refine ⟨o,ho,true,hg,?_⟩
 simp only [if_true,hop,eJ]
 exact fun bx'=>eff_appendIn hT hop hti hd hei hob hpq hq hx hy ⟨rfl,s',hp,h⟩
theorem sE (hT : T.Ok P) (hg : be ops s o = some true) {t : TypeId} {x y : Operand} (ho : o.op = .slice t x none (some y) none) {ti : TInfo} {e : TypeId} (hti : T.get t = some ti) (hd : ti.desc = .slice e) {ei : TInfo} (hei : T.get e = some ei)
  {tag : Nat} {g : OwnRef} {len : Nat} {rows rows' : List (List PV)} (hx : evS s x = .own tag g len) (hob : ob tag = some ⟨g,e,rows,true⟩) {kk : IntKind} {m : Int} (hy : evS s y = .val (.int kk m)) (hm : 0 ≤ m ∧ m.toNat ≤ rows.length) (hr : rows.take m.toNat = rows') {d : Nat} (hdst : o.dst = some d) (hlt : Nat.blt d n = true)
  (h : Ao P ops rest ⟨n,upd s d (.own tag g rows'.length),bx,upd ob tag (some ⟨g,e,rows',true⟩)⟩ K) : Ao P ops (o :: rest) ⟨n,s,bx,ob⟩ K := by
 subst hr
 refine eZ hg (fun C M a w next Q hi he hn=>?_)
 have hxr := he x (by rw [ho]; simp [Op.operands])
 have hyr := he y (by rw [ho]; simp [Op.operands])
 rw [show (⟨n,s,bx,ob⟩ : PState).s = s from rfl,hx] at hxr
 rw [show (⟨n,s,bx,ob⟩ : PState).s = s from rfl,hy] at hyr
 simp only [Rep] at hxr hyr
 have hu := (hT.get hti).und
 rw [hd] at hu
 have hcap : rows.length ≤ g.cap := by
  obtain ⟨i,_,_,_,h4⟩ := hi.objs tag _ hob
  rcases h4 with ⟨_,b,_⟩ | ⟨_,_,_,_,_,_,h9,_⟩
  ·simp only at b; rw [b]; simp
  ·exact h9
 have hmc : m ≤ (g.cap : Int) := by omega
 have hl2 : (rows.take m.toNat).length = m.toNat := by simp; omega
 have hrun : (execOp a.eval o).run P w = .ok (.value (g.val (rows.take m.toNat).length)) w := by
  rw [hl2]
  simp only [execOp,ho,Sem.run_bind,Sem.run_pure,Option.map_some,Option.map_none,hxr.2,hyr,OwnRef.val]
  cases hb : g.blk with
  | none=>simp [Instr.sliceAt,Instr.slice,run_underlying hu,Instr.sliceBounds,Instr.sliceBound,asIntOf,(hT.get hei).rsize w,hm.1,hmc]
  | some b =>
   have e0 : (⟨b,0,none⟩ : Addr).add 0 = ⟨b,0,none⟩ := by rw [go]
   simp [Instr.sliceAt,Instr.slice,run_underlying hu,Instr.sliceBounds,Instr.sliceBound,asIntOf,(hT.get hei).rsize w,hm.1,hmc,e0]
 unfold Oper.wp
 rw [hrun]
 exact hn _ (.own tag g (rows.take m.toNat).length) ⟨bx,upd ob tag (some ⟨g,e,rows.take m.toNat,true⟩)⟩ M w ⟨_,by simp [hdst,putD,hlt],h⟩ (Mem.le_refl M) (hi.cutO hob m.toNat) (by simp [Rep])
end
def mC (T : TT) : List (Nat × Nat) → List PV → List PV → Option Bool
 | [],_,_=>some true
 | (t,off) :: r,xs,ys=>match T.get t with
  | some ti=>match (bif ti.eqf.isEmpty then (match xs[off]?,ys[off]? with | some p,some q=>pZ ti.desc p q | _,_=>none) else kW T ti.eqf ((xs.drop off).take ti.size) ((ys.drop off).take ti.size)),mC T r xs ys with
   | some b,some c=>some (b && c)
   | _,_=>none
  | none=>none
section
variable {P : Program} {T : TT}
theorem pz (hT : T.Ok P) (w : World) {M : Mem} {d : Nat} {xs ys : List PV} {cs ds : Array Value} (hx : aM P M true xs cs.toList) (hy : aM P M true ys ds.toList) :
  ∀ (fs : List Field) (eqf : List (Nat × Nat)) (b : Bool),ft fs eqf → mC T eqf xs ys = some b → (Op.eqFields (d + 2) cs ds fs).run P w = .ok b w
 | [],[],b,_,h=>by simp only [mC,zo] at h; subst h; simp [Op.eqFields]
 | f :: fs,(t,o) :: r,b,hm,h=>by
  simp only [ft] at hm
  obtain ⟨hn,rfl,rfl,hm⟩ := hm
  simp only [mC] at h
  split at h
  ·rename_i ti hti
   split at h
   ·rename_i b1 b2 h1 h2
    simp only [zo] at h
    subst h
    have ih := pz hT w (d := d) hx hy fs r b2 hm h2
    cases he : ti.eqf.isEmpty with
    | true =>
     simp only [he,zc] at h1
     split at h1
     ·rename_i p q hp hq
      obtain ⟨x,hx1,hx2⟩ := hx.get _ _ hp
      obtain ⟨y,hy1,hy2⟩ := hy.get _ _ hq
      obtain ⟨hag,heq⟩ := pR w (d := d + 1) (hT.get hti) hx2 hy2 h1
      have hpx : ∀ (c : Array Value) (z : Value),c.toList[f.offset]? = some z → (part f.type c f.offset).run P w = .ok z w := by
       intro c z hz
       rw [Array.getElem?_toList] at hz
       simp [part,(hT.get hti).ragg w,hag,hz]
      simp only [Op.eqFields, zp (show f.name ≠ "_" from hn), Sem.run_bind, hpx _ _ hx1, hpx _ _ hy1, Result.andThen_ok, heq]
      cases b1 <;> simp [ih]
     ·cases h1
    | false =>
     simp only [he,zd] at h1
     obtain ⟨k1,k2,k3,k4⟩ := (hT.get hti).eqs (by intro h0; simp [h0] at he)
     have hag : nn ti.desc = true := by
      have hu := (hT.get hti).und
      rw [k4] at hu
      rw [← Option.some.inj hu]
      rfl
     have hpx : ∀ (c : Array Value),(part f.type c f.offset).run P w = .ok (.agg (c.extract f.offset (f.offset + ti.size))) w := by
      intro c
      simp [part,(hT.get hti).ragg w,hag,(hT.get hti).rsize w]
     have hsub : ∀ (zs : List PV) (c : Array Value),aM P M true zs c.toList → aM P M true ((zs.drop f.offset).take ti.size) (c.extract f.offset (f.offset + ti.size)).toList := by
      intro zs c hz
      have e : (c.extract f.offset (f.offset + ti.size)).toList = (c.toList.drop f.offset).take ti.size := by
       rw [Array.toList_extract]
       simp [List.extract_eq_take_drop]
      rw [e]
      exact (hz.drop _).take _
     have heq : (Op.equalIn (d + 2) f.type (.agg (cs.extract f.offset (f.offset + ti.size))) (.agg (ds.extract f.offset (f.offset + ti.size)))).run P w = .ok b1 w := by
      rw [run_equalIn_agg w (d + 1) f.type _ _ k4 k1]
      exact lw hT w (d := d) (hsub _ _ hx) (hsub _ _ hy) _ _ b1 k3 h1
     simp only [Op.eqFields, zp (show f.name ≠ "_" from hn), Sem.run_bind, hpx, Result.andThen_ok, heq]
     cases b1 <;> simp [ih]
   ·cases h
  ·cases h
 | [],_ :: _,b,hm,_=>by simp [ft] at hm
 | _ :: _,[],b,hm,_=>by simp [ft] at hm
theorem detS_eqNest (hT : T.Ok P) {o : Oper} {ev : Operand → PV} {H : Heap} {t t' : TypeId} {x y : Operand} (ho : o.op = .binOp .eql t x y t') {xs ys : List PV} (hx : ev x = .agg xs) (hy : ev y = .agg ys) (h1 : P.stoodInHeld t = false) (h2 : P.eqGuardType P.depth t = false)
  {eqf : List (Nat × Nat)} (h3 : ft (P.fieldsOf t).toList eqf) (h4 : P.underlying t = some (.struct (P.fieldsOf t))) {b : Bool} (hb : mC T eqf xs ys = some b) : DetS P o ev H (.val (.bool b)) := by
 intro C M a w _ he
 have hxr := he x (by rw [ho]; simp [Op.operands])
 have hyr := he y (by rw [ho]; simp [Op.operands])
 rw [hx] at hxr
 rw [hy] at hyr
 simp only [Rep] at hxr hyr
 obtain ⟨cs,ex,hc⟩ := hxr
 obtain ⟨ds,ey,hd⟩ := hyr
 refine ⟨.bool b,?_,by simp only [Rep]⟩
 have key : (binOp .eql t (.agg cs) (.agg ds)).run P w = .ok (.bool b) w := by
  rw [run_eql_struct w t cs ds,show (10000 : Nat) = 9997 + 2 + 1 from rfl,run_equalIn_agg w (9997 + 2) t cs ds h4 h1,pz hT w (d := 9997) hc hd _ _ b h3 hb]
  rfl
 have hg := run_eqGuard_agg (P := P) w .eql t x y cs ds h2
 simp only [execOp,ho,ex,ey]
 simp only [Sem.run_bind,hg,Result.andThen_ok,key]
 rfl
end
section
variable {P : Program} {ops : Array Oper} {rest : List Oper} {o : Oper} {n : Nat} {s s' : Nat → PV} {bx : Nat → Option Box} {ob : Nat → Option Obj} {K : PState → Prop} {T : TT} {rb : RB} {k : Nat} {L : List Nat}
theorem sP (hT : T.Ok P) (ho : ops[k]? = some o) (hg : be ops s o = some true) {t t' : TypeId} {x y : Operand} (hop : o.op = .binOp .eql t x y t') {xs ys : List PV} (hx : evS s x = .agg xs) (hy : evS s y = .agg ys) (h1 : P.stoodInHeld t = false) (h2 : P.eqGuardType P.depth t = false)
  {eqf : List (Nat × Nat)} (h3 : ft (P.fieldsOf t).toList eqf) (h4 : P.underlying t = some (.struct (P.fieldsOf t))) {b : Bool} (hb : mC T eqf xs ys = some b) (hp : putD n s o.dst (.val (.bool b)) = some s') (h : Do P T rb ops L ⟨n,s',bx,ob⟩ K) : Do P T rb ops (k :: L) ⟨n,s,bx,ob⟩ K :=
 lQ ho hg (by rw [hop]; rfl) (fun _=>detS_eqNest hT hop hx hy h1 h2 h3 h4 hb) hp h
end
section
variable {P : Program} {C : Ctx} {M : Mem} {H : Heap} {w : World}
theorem InvH.alloc_part (h : InvH P C M H w) (pre cs : Array Value) (e : TypeId) (fz : Nat × Nat) (hp : ∀ (o : Nat) (v : Value),pre[o]? = some v → cs[o]? = some v) : InvH P C (M.add w.heap.size pre) H (w.alloc (.cells cs e fz)) := by
 have hle := h.add_le pre
 refine ⟨?_,Mem.le_trans h.ext hle,?_,h.os,h.tape,h.output,?_,?_,?_,?_,h.dbox,h.dobj,h.dmix⟩
 ·intro b o v hm
  by_cases hb : b = w.heap.size
  ·subst hb
   rw [cell_of_row (w.alloc (.cells cs e fz)) w.heap.size o cs e fz (heap_alloc_new w _)]
   exact hp o v (by simpa [Mem.add] using hm)
  ·simp only [Mem.add,hb,if_false] at hm
   rw [mE w _ (h.mem_lt hm)]
   exact h.mem b o v hm
 ·intro b o v hm
  by_cases hb : b = w.heap.size
  ·exact .inr (.inl (hb ▸ h.size))
  ·simp only [Mem.add,hb,if_false] at hm
   exact h.new b o v hm
 ·rw [pX]; exact Nat.le_succ_of_le h.size
 ·intro b hb hn
  rw [heap_alloc_old w _ (Nat.lt_of_lt_of_le hb h.size)]
  exact h.frame b hb hn
 ·intro t x hx
  have hlt := h.box_lt hx
  exact (h.boxes t x hx).keep hle (fun o ho=>by simp [Mem.add,Nat.ne_of_lt hlt,ho]) (heap_alloc_old w _ hlt)
 ·intro t x hx
  exact (h.objs t x hx).keep hle (fun b o hb ho=>by simp [Mem.add,Nat.ne_of_lt (h.obj_lt hx hb),ho]) (fun b hb=>heap_alloc_old w _ (h.obj_lt hx hb))
theorem freeze_new (w : World) (cs : Array Value) (e : TypeId) (n : Nat) : (w.alloc (.cells cs e)).freeze ⟨w.heap.size,n,none⟩ 1 = w.alloc (.cells cs e (n,n + 1)) := by
 unfold World.freeze World.alloc
 simp only [Nat.one_ne_zero,if_false]
 congr 1
 apply Array.ext
 ·simp
 ·intro i h1 h2
  rw [Array.getElem_modify]
  split
  ·rename_i hi
   subst hi
   simp
  ·rename_i hi
   have : i < w.heap.size := by simp at h2; omega
   simp [Array.getElem_push,this]
end
section
variable {P : Program} {ops : Array Oper} {rest : List Oper} {o : Oper} {n : Nat} {s s' : Nat → PV} {bx : Nat → Option Box} {ob : Nat → Option Obj} {K : PState → Prop} {T : TT} {rb : RB} {k : Nat} {L : List Nat}
theorem byteRows_rep (M : Mem) (xs : List UInt8) : aM P M false (kI xs).flatten (xs.map fun c=>Value.int .u8 c.toNat) := by
 induction xs with
 | nil=>simp [kI,aM]
 | cons c xs ih=>simp only [kI,List.map_cons,List.flatten_cons,List.cons_append,List.nil_append,aM,Rep]; exact ⟨_,_,rfl,rfl,ih⟩
theorem Ao.s2b (hT : T.Ok P) (hg : be ops s o = some true) {src dst e : TypeId} {x : Operand} (ho : o.op = .convert src dst x) {si di ei : TInfo} (hsi : T.get src = some si) (hsd : si.desc = .string) (hdi : T.get dst = some di) (hdd : di.desc = .slice e) (hei : T.get e = some ei) (hed : ei.desc = .int .u8) (hes : ei.size = 1) (heb : ei.bytes = 1)
  {xs : List UInt8} (hx : evS s x = .str xs) (hl : xs.length ≤ 2 ^ 47) (hp : putD n s o.dst (.list e (kI xs)) = some s') (h : Ao P ops rest ⟨n,s',bx,ob⟩ K) : Ao P ops (o :: rest) ⟨n,s,bx,ob⟩ K := by
 refine eZ hg (fun C M a w next Q hi he hn=>?_)
 have hxr := he x (by rw [ho]; simp [Op.operands])
 rw [show (⟨n,s,bx,ob⟩ : PState).s = s from rfl,hx] at hxr
 simp only [Rep] at hxr
 have hs := (hT.get hsi).und
 have hd := (hT.get hdi).und
 have hee := (hT.get hei).und
 rw [hsd] at hs
 rw [hdd] at hd
 rw [hed] at hee
 obtain ⟨i,hinf,hsz,hby,_⟩ := (hT.get hei).info
 have hge := grownCap_ge w xs.length 0 e
 have hml : xs.length ≤ maxLen := by unfold maxLen; omega
 have hgm : grownCap w xs.length 0 e ≤ maxLen := grownCap_le_maxLen w xs.length 0 e hml
 obtain ⟨pre,hpre⟩ : ∃ pre : Array Value,pre = xs.toArray.map fun b=>Value.int .u8 b.toNat := ⟨_,rfl⟩
 obtain ⟨cs,hcs⟩ : ∃ cs : Array Value,cs = pre ++ Array.replicate (grownCap w xs.length 0 e - xs.length) (.int .u8 0) := ⟨_,rfl⟩
 have hrun : (execOp a.eval o).run P w = .ok (.value (.slice (some ⟨w.heap.size,0,none⟩) xs.length (grownCap w xs.length 0 e))) (w.drew.alloc (.cells cs e (cs.size,cs.size + 1))) := by
  have hz : (ByteArray.mk xs.toArray).size = xs.length := by simp [ByteArray.size]
  have key : (Conv.stringToBytes e ⟨xs.toArray⟩).run P w = .ok (.slice (some ⟨w.heap.size,0,none⟩) xs.length (grownCap w xs.length 0 e)) (w.drew.alloc (.cells cs e (cs.size,cs.size + 1))) := by
   have hmk : ∀ w0 : World,(markStringish ⟨w0.heap.size,0,none⟩).run P (w0.alloc (.cells cs e)) = .ok () (w0.alloc (.cells cs e (cs.size,cs.size + 1))) := by
    intro w0
    have hsh : (w0.alloc (.cells cs e)).shape? w0.heap.size = some (e,cs.size) := by unfold World.shape?; rw [heap_alloc_new]
    unfold markStringish
    simp only [Sem.run_bind,run_shape,Result.andThen_ok,hsh]
    rw [run_freeze,freeze_new]
   have hm0 := hmk w.drew
   subst hcs
   subst hpre
   unfold Conv.stringToBytes
   simp only [Sem.run_bind,hz,run_choose,Question.forced]
   simp [newRow]
   simp [grownCap] at hm0 ⊢
   rw [hm0]
   simp
  simp only [execOp,ho,hxr.1,convert,Sem.run_bind,run_underlying hs,run_underlying hd,run_underlying hee,Result.andThen_ok,key]
  rfl
 unfold Oper.wp
 rw [hrun]
 have hle := (show InvH P C M ⟨bx,ob⟩ w.drew from hi.drew).add_le pre
 have hi' := (show InvH P C M ⟨bx,ob⟩ w.drew from hi.drew).alloc_part pre cs e (cs.size,cs.size + 1) (fun o v hv=>by rw [hcs,Array.getElem?_append_left (Array.getElem?_eq_some_iff.1 hv).1]; exact hv)
 refine hn _ (.list e (kI xs)) ⟨bx,ob⟩ (M.add w.drew.heap.size pre) _ ⟨s',hp,h⟩ hle hi' ?_
 simp only [Rep]
 have hbl : (kI xs).length = xs.length := by simp [kI]
 refine ⟨_,grownCap w xs.length 0 e,i,by rw [hbl],by rw [hbl]; exact hge,hgm,hinf,by rw [hbl,hby,heb]; omega,fun _=>⟨_,_,rfl,?_⟩⟩
 refine dC.of_flat (fun r hr=>?_) (qL (show InvH P C M ⟨bx,ob⟩ w.drew from hi.drew) (kI xs).flatten pre ?_ ?_)
 ·obtain ⟨c,_,rfl⟩ := List.mem_map.1 hr
  rw [hsz,hes]; rfl
 ·rw [hpre]
  intro v hv
  simp at hv
  obtain ⟨c,_,rfl⟩ := hv
  rfl
 ·rw [hpre]
  simpa using byteRows_rep M xs
theorem tf (hT : T.Ok P) (hg : be ops s o = some true) {x : Operand} {t : TypeId} (ho : o.op = .makeSlice t x x) {d : Nat} (hdst : o.dst = some d) (hlt : Nat.blt d n = true) {ti ei : TInfo} {e : TypeId} (hti : T.get t = some ti) (hd : ti.desc = .slice e) (hei : T.get e = some ei)
  (hz : Nat.beq ei.zero.cells.size ei.size = true) (h1 : (dy ei).all PV.one = true) {kk : IntKind} {m : Int} (hx : evS s x = .val (.int kk m)) (hm : 0 ≤ m) (hby : m.toNat * ei.bytes ≤ 2 ^ 47) (hmx : m.toNat ≤ maxLen) {rows : List (List PV)} (hr : List.replicate m.toNat (dy ei) = rows)
  (h : ∀ g,Ao P ops rest ⟨n,upd s d (.own d g rows.length),bx,upd ob d (some ⟨g,e,rows,true⟩)⟩ K) : Ao P ops (o :: rest) ⟨n,s,bx,ob⟩ K := by
 subst hr
 refine eZ hg (fun C M a w next Q hi he hn=>?_)
 have hxr := he x (by rw [ho]; simp [Op.operands])
 rw [show (⟨n,s,bx,ob⟩ : PState).s = s from rfl,hx] at hxr
 simp only [Rep] at hxr
 have hu := (hT.get hti).und
 rw [hd] at hu
 obtain ⟨i,hinf,hs,hbs,hzero⟩ := (hT.get hei).info
 have hz1 := Nat.eq_of_beq_eq_true hz
 obtain ⟨k,hk⟩ : ∃ k : Nat,k = m.toNat := ⟨_,rfl⟩
 rw [← hk] at hby hmx h
 have hkm : m = (k : Int) := by omega
 subst hkm
 have hby2 : k * i.bytes ≤ 2 ^ 47 := by rw [hbs]; exact hby
 have hbi : (i.bytes : Int) * (k : Int) ≤ 281474976710656 := by
  have : ((k * i.bytes : Nat) : Int) ≤ ((2 ^ 47 : Nat) : Int) := Int.ofNat_le.2 hby2
  rw [Int.natCast_mul] at this
  rw [Int.mul_comm]
  omega
 have hrun : (execOp a.eval o).run P w = .ok (.value (.slice (some ⟨w.heap.size,0,none⟩) k k)) (w.alloc (.cells (madeCells ei.zero.cells (k * i.size)) e)) := by
  have := run_make w t e i ei.zero hu hinf hzero kk kk (k : Int) (k : Int) (by omega) (by omega) hbi (by unfold maxLen at hmx; omega)
  simp only [Int.toNat_natCast] at this
  simp only [execOp,ho,hxr,Sem.run_bind,this]
  rfl
 unfold Oper.wp
 rw [hrun]
 have hzl : (dy ei).length = i.size := by simp [dy,hz1,hs]
 have hmc : (madeCells ei.zero.cells (k * i.size)).toList = (List.replicate k ei.zero.cells.toList).flatten := by
  rw [hs,← hz1]
  exact oz ei.zero.cells k
 have hrep : aM P M false (List.replicate k (dy ei)).flatten (List.replicate k ei.zero.cells.toList).flatten := ll (kZ _) k
 have htake : (madeCells ei.zero.cells (k * i.size)).toList.take ((List.replicate k (dy ei)).length * i.size) = (List.replicate k ei.zero.cells.toList).flatten := by
  rw [List.length_replicate,List.take_of_length_le (by simp [size_madeCells]),hmc]
 refine hn _ (.own d ⟨some w.heap.size,k⟩ (List.replicate k (dy ei)).length) _ M _ ⟨_,by simp [hdst,putD,hlt],h ⟨some w.heap.size,k⟩⟩ (Mem.le_refl M)
  ((show InvH P C M ⟨bx,ob⟩ w from hi).alloc_obj d e (List.replicate k (dy ei)) true _ _ i hinf ?_ ?_ ?_ ?_ hmx ?_ ?_) ?_
 ·rw [List.length_replicate]; exact hby2
 ·intro r hr
  rw [List.eq_of_mem_replicate hr]
  exact hzl
 ·rw [size_madeCells]
 ·rw [List.length_replicate]; exact Nat.le_refl _
 ·rw [htake]; exact hrep
 ·rw [htake]
  refine aM.oneCell ?_ hrep
  rw [List.all_flatten]
  rw [List.all_eq_true]
  intro r hr
  rw [List.eq_of_mem_replicate hr]
  exact h1
 ·simp [Rep,OwnRef.val]
theorem Ao.ext (hg : be ops s o = some true) {fx : Operand} {av0 : Array Operand} {ts : Array TypeId} (ho : o.op = .call { callee := .value fx,args := av0,argTypes := ts }) {g : FuncId} (hf : evS s fx = .fn g []) {r : PV}
  (hcall : ∀ (M : Mem) (vs : Array Value) (w : World),aM P M true (av0.toList.map (evS s)) vs.toList → ∃ v,(callFunc g vs).run P w = .ok (.value v) w ∧ Rep P M true r v)
  (hp : putD n s o.dst r = some s') (h : Ao P ops rest ⟨n,s',bx,ob⟩ K) : Ao P ops (o :: rest) ⟨n,s,bx,ob⟩ K := by
 refine eZ hg (fun C M a w next Q hi he hn=>?_)
 have hfr := he fx (by rw [ho]; simp [Op.operands,Call.operands])
 rw [show (⟨n,s,bx,ob⟩ : PState).s = s from rfl,hf] at hfr
 simp only [Rep] at hfr
 obtain ⟨cs,hv,hcaps⟩ := hfr
 have hargs : aM P M true (av0.toList.map (evS s)) (av0.map a.eval).toList := by
  simpa using nC av0.toList fun x hx=>he x (by rw [ho]; simp_all [Op.operands,Call.operands])
 have hc0 : cs = #[] := by
  simp only [aM] at hcaps
  exact Array.toList_eq_nil_iff.1 hcaps
 subst hc0
 obtain ⟨v,hrun,hr⟩ := hcall M (av0.map a.eval) w hargs
 have hrun' : (execOp a.eval o).run P w = .ok (.value v) w := by
  simp [execOp,ho,resolve,hv,Deferred.ofValue,invoke,hrun]
 unfold Oper.wp
 rw [hrun']
 exact hn v r ⟨bx,ob⟩ M w ⟨s',hp,h⟩ (Mem.le_refl M) hi hr
theorem Ao.cmpS (hg : be ops s o = some true) {fx x y : Operand} {ts : Array TypeId} (ho : o.op = .call { callee := .value fx, args := #[x, y], argTypes := ts }) {g : FuncId} (hf : evS s fx = .fn g []) {fn : Func} (h1 : P.funcs[g]? = some fn) (h2 : (fn.name == "runtime.NumGoroutine") = false) (h3 : fn.body.isNone = true) (h4 : Extern.findNext fn = none) (h5 : Extern.find fn = some Extern.BytealgCompare.compare)
  {a b : List UInt8} (hx : evS s x = .str a) (hy : evS s y = .str b) (hp : putD n s o.dst (.val (.int .i64 (Lib.compareBytes a b))) = some s') (h : Ao P ops rest ⟨n,s',bx,ob⟩ K) : Ao P ops (o :: rest) ⟨n,s,bx,ob⟩ K := by
 refine Ao.ext hg ho hf (fun M vs w hr=>?_) hp h
 simp only [List.map_cons,List.map_nil,hx,hy,aM,Rep] at hr
 obtain ⟨v1,l1,e1,⟨r1,_⟩,v2,l2,e2,⟨r2,_⟩,e3⟩ := hr
 subst e3 e2 r1 r2
 have hvs : vs = #[.string ⟨a.toArray⟩,.string ⟨b.toArray⟩] := by
  apply Array.toList_inj.1
  rw [e1]
 subst hvs
 refine ⟨.int .i64 (Lib.compareBytes a b),?_,by simp only [Rep]⟩
 rw [run_callFunc_extern h1 h2 h3 h4 h5,Lib.run_compareString]
 rfl
end
def arrI {α : Type} (n : Nat) (xs : List α) (i : Int) : Option α := if 0 ≤ i ∧ i < n then xs[i.toNat]? else none
theorem arrI_some {α : Type} {n : Nat} {xs : List α} {i : Int} {x : α} (h : arrI n xs i = some x) : (0 ≤ i ∧ i < n) ∧ xs[i.toNat]? = some x := by
 unfold arrI at h
 split at h
 ·rename_i h0; exact ⟨h0,h⟩
 ·cases h
theorem arrI_eq {α : Type} {n : Nat} {xs : List α} {i : Int} {x : α} (h0 : 0 ≤ i ∧ i < n) (h : xs[i.toNat]? = some x) : arrI n xs i = some x := by
 unfold arrI
 rw [zp h0,h]
theorem splice_map {α : Type} (f : α → PV) (xs : List α) (k : Nat) (v : α) {ys : List α} (hk : k < xs.length) (hy : xs.set k v = ys) : fL (xs.map f) k [f v] = ys.map f := by
 subst hy
 unfold fL
 rw [List.map_set,List.length_singleton]
 have hk' : k < (xs.map f).length := by simpa using hk
 rw [List.set_eq_take_append_cons_drop,zp hk',List.append_assoc]
 rfl
section
variable {P : Program} {ops : Array Oper} {rest : List Oper} {o : Oper} {n : Nat} {s s' : Nat → PV} {bx : Nat → Option Box} {ob : Nat → Option Obj} {K : PState → Prop} {T : TT} {rb : RB} {k : Nat} {L : List Nat}
theorem sG (ho : ops[k]? = some o) (hg : be ops s o = some true) {t : TypeId} {x i : Operand} (hop : o.op = .indexAddr t x i) {ti ei : TInfo} {e : TypeId} {len : Nat} (hti : T.get t = some ti) (hd : ti.desc = .array len e) (hei : T.get e = some ei) (hes : ei.size = 1)
  {tag b : Nat} (hx : evS s x = .box tag b 0) {kk : IntKind} {j : Int} (hi : evS s i = .val (.int kk j)) (hj : 0 ≤ j ∧ j < len) (hp : putD n s o.dst (.box tag b j.toNat) = some s') (h : Do P T rb ops L ⟨n,s',bx,ob⟩ K) : Do P T rb ops (k :: L) ⟨n,s,bx,ob⟩ K := by
 refine sk ho hg (by rw [hop]; rfl) (r := .box tag b j.toNat) ?_ hp h
 rw [hop]
 simp [im,iw,hti,hx,hi,hd,hei,hj,hes]
theorem tc (hT : T.Ok P) (hg : be ops s o = some true) {t : TypeId} {x : Operand} (ho : o.op = .load t x) {ti : TInfo} (hti : T.get t = some ti) (hta : nn ti.desc = false) {tag b off : Nat} {cells : List PV}
  (hx : evS s x = .box tag b off) (hb : bx tag = some ⟨b,cells⟩) {r : PV} (hr : cells[off]? = some r) (hp : putD n s o.dst r = some s') (h : Ao P ops rest ⟨n,s',bx,ob⟩ K) : Ao P ops (o :: rest) ⟨n,s,bx,ob⟩ K :=
 Ao.lB hT hg ho hti hx hb (by simp [cO,hta,hr,iI]) hp h
theorem te (ho : ops[k]? = some o) (hrb : rb.b o = true) (hg : be ops s o = some true) {t : TypeId} {x : Operand} (hop : o.op = .load t x) {ti : TInfo} (hti : T.get t = some ti) (hta : nn ti.desc = false) {tag b off : Nat} {cells : List PV}
  (hx : evS s x = .box tag b off) (hb : bx tag = some ⟨b,cells⟩) {r : PV} (hr : cells[off]? = some r) (hp : putD n s o.dst r = some s') (h : Do P T rb ops L ⟨n,s',bx,ob⟩ K) : Do P T rb ops (k :: L) ⟨n,s,bx,ob⟩ K :=
 Do.lB ho hrb hg hop hti hx hb (by simp [cO,hta,hr,iI]) hp h
theorem sR (hT : T.Ok P) (hg : be ops s o = some true) {t : TypeId} {x y : Operand} (ho : o.op = .store t x y) (hd : o.dst = none) {ti : TInfo} (hti : T.get t = some ti) (hts : ti.size = 1) {tag b off : Nat} {cells cells' : List PV} (hx : evS s x = .box tag b off) (hb : bx tag = some ⟨b,cells⟩)
  {p : PV} (hc : eD (evS s y) = some [p]) (h1 : PV.one p = true) (hk : off < cells.length) (hs : fL cells off [p] = cells') (h : Ao P ops rest ⟨n,s,upd bx tag (some ⟨b,cells'⟩),ob⟩ K) : Ao P ops (o :: rest) ⟨n,s,bx,ob⟩ K :=
 Ao.sB hT hg ho hd hti hx hb (cs := [p]) (by simp [hc,eG]) (by simp [h1]) (by rw [hts]; rfl) (by rw [hts]; exact Nat.ble_eq.mpr hk) (by rw [eG,hs]) h
theorem sO (ho : ops[k]? = some o) (hg : be ops s o = some true) {t : TypeId} {x y : Operand} (hop : o.op = .store t x y) (hd : o.dst = none) {ti : TInfo} (hti : T.get t = some ti) (hts : ti.size = 1) {tag b off : Nat} {cells cells' : List PV} (hx : evS s x = .box tag b off) (hb : bx tag = some ⟨b,cells⟩)
  {p : PV} (hc : eD (evS s y) = some [p]) (h1 : PV.one p = true) (hk : off < cells.length) (hs : fL cells off [p] = cells') (h : Do P T rb ops L ⟨n,s,upd bx tag (some ⟨b,cells'⟩),ob⟩ K) : Do P T rb ops (k :: L) ⟨n,s,bx,ob⟩ K :=
 Do.sB ho hg hop hd hti hx hb (cs := [p]) (by simp [hc,eG]) (by simp [h1]) (by rw [hts]; rfl) (by rw [hts]; exact Nat.ble_eq.mpr hk) (by rw [eG,hs]) h
end
def bU : Nat := 100000
def db (n c : Nat) : Nat := max n (min c maxLen)
def iW (b n c : Nat) : Value := bif Nat.beq (db n c) 0 then .slice none 0 0 else .slice (some ⟨b,0,none⟩) n (db n c)
def fY (gf : Nat → OwnRef) (rss : List (List (List PV))) (c : Nat) : List PV := rss.mapIdx (fun i rs=>PV.own (bU + i) (gf i) rs.length) ++ List.replicate (db rss.length c - rss.length) (.val (.slice none 0 0))
def iJ (b : Nat) (gf : Nat → OwnRef) (rss : List (List (List PV))) (c : Nat) : Option Box := bif Nat.beq (db rss.length c) 0 then none else some ⟨b,fY gf rss c⟩
def eX (e : TypeId) (gf : Nat → OwnRef) (rss : List (List (List PV))) (ob : Nat → Option Obj) : Nat → Option Obj := fun t =>
 bif Nat.ble bU t then (rss[t - bU]?).map (fun rs=>⟨gf (t - bU),e,rs,true⟩) else ob t
theorem jJ (n c : Nat) : n ≤ db n c := Nat.le_max_left _ _
theorem famCap_le {n : Nat} (c : Nat) (h : n ≤ maxLen) : db n c ≤ maxLen := Nat.max_le.2 ⟨h,Nat.min_le_right _ _⟩
theorem kh {n c : Nat} (h : n ≤ c) (h' : c ≤ maxLen) : db n c = c := by unfold db; rw [Nat.min_eq_left h',Nat.max_eq_right h]
theorem beq_pos {n : Nat} (h : 0 < n) : Nat.beq n 0 = false := by
 cases n with
 | zero=>omega
 | succ n=>rfl
theorem lH {b n c : Nat} (h : 0 < db n c) : iW b n c = .slice (some ⟨b,0,none⟩) n (db n c) := by simp [iW,beq_pos h]
theorem famV_zero {b n c : Nat} (h : db n c = 0) : iW b n c = .slice none 0 0 := by simp [iW,h]
theorem pS {b : Nat} {gf : Nat → OwnRef} {rss : List (List (List PV))} {c : Nat} (h : 0 < db rss.length c) : iJ b gf rss c = some ⟨b,fY gf rss c⟩ := by simp [iJ,beq_pos h]
theorem famB_zero {b : Nat} {gf : Nat → OwnRef} {rss : List (List (List PV))} {c : Nat} (h : db rss.length c = 0) : iJ b gf rss c = none := by simp [iJ,h]
theorem eO {e : TypeId} {gf : Nat → OwnRef} {rss : List (List (List PV))} {ob : Nat → Option Obj} {i : Nat} {rs : List (List PV)} (h : rss[i]? = some rs) : eX e gf rss ob (bU + i) = some ⟨gf i,e,rs,true⟩ := by
 have : Nat.ble bU (bU + i) = true := by rw [Nat.ble_eq]; exact Nat.le_add_right _ _
 simp [eX,this,h]
theorem rj {b : Nat} {gf : Nat → OwnRef} {rss : List (List (List PV))} {c i : Nat} {rs : List (List PV)} (h : rss[i]? = some rs) : iJ b gf rss c = some ⟨b,fY gf rss c⟩ := by
 have hl := (zg.1 h).1
 exact pS (Nat.lt_of_lt_of_le (by omega) (jJ _ _))
theorem famCells_get {gf : Nat → OwnRef} {rss : List (List (List PV))} {c i : Nat} {rs : List (List PV)} (h : rss[i]? = some rs) : (fY gf rss c)[i]? = some (.own (bU + i) (gf i) rs.length) := by
 have hl := (zg.1 h).1
 unfold fY
 rw [List.getElem?_append_left (by simpa using hl)]
 simp [h]
theorem ou {gf : Nat → OwnRef} {rss : List (List (List PV))} {c : Nat} : (fY gf rss c).length = db rss.length c := by
 have := jJ rss.length c
 simp [fY]; omega
theorem flat_single {α β : Type} (f : α → β) (l : List α) : (l.map fun r=>[f r]).flatten = l.map f := by
 induction l with
 | nil=>rfl
 | cons a l ih=>simp [ih]
theorem splice_one (cells : List PV) (k : Nat) (v : PV) (hk : k < cells.length) : fL cells k [v] = cells.set k v := by
 unfold fL
 rw [List.length_singleton,List.set_eq_take_append_cons_drop,zp hk,List.append_assoc]
 rfl
theorem famCells_set {gf : Nat → OwnRef} {rss : List (List (List PV))} {c i : Nat} {rs rs' : List (List PV)} (h : rss[i]? = some rs) (g : OwnRef) :
  fL (fY gf rss c) i [.own (bU + i) g rs'.length] = fY (upd gf i g) (rss.set i rs') c := by
 have hl := (zg.1 h).1
 rw [splice_one _ _ _ (by rw [ou]; exact Nat.lt_of_lt_of_le hl (jJ _ _))]
 unfold fY
 rw [List.set_append_left _ _ (by simpa using hl),List.length_set]
 congr 1
 apply List.ext_getElem?
 intro j
 simp only [List.getElem?_set,List.length_mapIdx,List.getElem?_mapIdx]
 by_cases hj : i = j
 ·subst hj; simp [hl,fT]
 ·have : j ≠ i := fun h=>hj h.symm
  simp [hj,fK _ _ this]
theorem lN {α : Type} {f : Nat → α} {t : Nat} {v : α} {i : Nat} (h : t < 100000) : upd f t v (bU + i) = f (bU + i) := fK _ _ (by unfold bU; omega)
theorem famO_low {e : TypeId} {gf : Nat → OwnRef} {rss : List (List (List PV))} {ob : Nat → Option Obj} {t : Nat} (h : t < bU) : eX e gf rss ob t = ob t := by
 have : Nat.ble bU t = false := by
  cases hb : Nat.ble bU t with
  | false=>rfl
  | true=>have := Nat.le_of_ble_eq_true hb; omega
 simp [eX,this]
theorem famO_set {e : TypeId} {gf : Nat → OwnRef} {rss : List (List (List PV))} {ob : Nat → Option Obj} {i : Nat} {rs' : List (List PV)} {g : OwnRef} (hl : i < rss.length) :
  ∀ j rs,(rss.set i rs')[j]? = some rs → upd (eX e gf rss ob) (bU + i) (some ⟨g,e,rs',true⟩) (bU + j) = some ⟨upd gf i g j,e,rs,true⟩ := by
 intro j rs h
 rw [List.getElem?_set] at h
 by_cases hj : i = j
 ·subst hj
  simp only [if_true,hl] at h
  cases h
  rw [fT,fT]
 ·have h1 : bU + j ≠ bU + i := by omega
  rw [zy hj] at h
  rw [fK _ _ h1,eO h,fK _ _ (fun h=>hj h.symm)]
theorem famB_put {b c i : Nat} {gf2 : Nat → OwnRef} {rss rss2 : List (List (List PV))} {rs rs' : List (List PV)} (h : rss[i]? = some rs) (hz : rss2 = rss.set i rs') : (some ⟨b,fY gf2 (rss.set i rs') c⟩ : Option Box) = iJ b gf2 rss2 c := by
 subst hz
 exact (rj (i := i) (rs := rs') (by rw [List.getElem?_set]; simp [(zg.1 h).1])).symm
theorem famO_put {e : TypeId} {gf : Nat → OwnRef} {rss rss2 : List (List (List PV))} {ob : Nat → Option Obj} {i : Nat} {rs0 rs' : List (List PV)} {g : OwnRef} (h : rss[i]? = some rs0) (hz : rss2 = rss.set i rs') :
  ∀ j rs,rss2[j]? = some rs → upd (eX e gf rss ob) (bU + i) (some ⟨g,e,rs',true⟩) (bU + j) = some ⟨upd gf i g j,e,rs,true⟩ := by
 subst hz
 exact famO_set (zg.1 h).1
theorem gX (ob ob' : Nat → Option Obj) (t : Nat) : nQ ob [] ob' t = ob t := rfl
theorem gK {ob ob' : Nat → Option Obj} {a k i : Nat} {m : List (Nat × Nat)} (h : a < 100000) : nQ ob ((a,k) :: m) ob' (bU + i) = nQ ob m ob' (bU + i) := by
 unfold nQ
 rw [List.find?_cons]
 have : Nat.beq a (bU + i) = false := by
  cases hb : Nat.beq a (bU + i) with
  | false=>rfl
  | true=>have := Nat.eq_of_beq_eq_true hb; unfold bU at this; omega
 simp only [this]
section
variable {P : Program} {bx bx' : Nat → Option Box} {ob ob' : Nat → Option Obj}
theorem sL {e : TypeId} {gf : Nat → OwnRef} (h : OLe ob ob') : OLe ob (eX e gf [] ob') := fun t x hx=>by
 unfold eX at hx
 cases hq : Nat.ble bU t with
 | true=>rw [hq] at hx; simp at hx
 | false=>rw [hq] at hx; exact h t x hx
theorem kd {e : TypeId} {gf : Nat → OwnRef} {rss : List (List (List PV))} (h : ∀ i rs,rss[i]? = some rs → ob (bU + i) = some ⟨gf i,e,rs,true⟩) (h' : OLe ob ob') : OLe ob (eX e gf rss ob') := by
 intro t x hx
 unfold eX at hx
 cases hb : Nat.ble bU t with
 | false=>rw [hb] at hx; exact h' t x hx
 | true =>
  rw [hb] at hx
  have hle := Nat.le_of_ble_eq_true hb
  simp only [zc,Option.map_eq_some_iff] at hx
  obtain ⟨rs,h1,rfl⟩ := hx
  have := h _ _ h1
  rwa [show bU + (t - bU) = t from by omega] at this
theorem famNil_le (e : TypeId) (gf : Nat → OwnRef) (ob : Nat → Option Obj) : ∀ t x,eX e gf [] ob t = some x → ob t = some x := kd (fun i rs h=>by simp at h) (th ob)
theorem kA {t b c : Nat} {gf : Nat → OwnRef} {rss : List (List (List PV))} (h : bx t = iJ b gf rss c) (h' : BLe P bx bx') : BLe P bx (upd bx' t (iJ b gf rss c)) := fun u x hx=>by
 rw [eW] at hx
 split at hx
 ·rename_i e; subst e; rw [← h] at hx; exact ⟨x,hx,rfl,iR.refl P _⟩
 ·exact h' u x hx
theorem sM {t b : Nat} {gf : Nat → OwnRef} (h' : BLe P bx bx') : BLe P bx (upd bx' t (iJ b gf [] 0)) := fun u x hx=>by
 rw [eW] at hx
 split at hx
 ·rw [famB_zero (by simp [db])] at hx; cases hx
 ·exact h' u x hx
end
theorem InvH.famNil {P : Program} {C : Ctx} {M : Mem} {w : World} {bx : Nat → Option Box} {ob : Nat → Option Obj} (e : TypeId) (gf : Nat → OwnRef) (h : InvH P C M ⟨bx,ob⟩ w) : InvH P C M ⟨bx,eX e gf [] ob⟩ w :=
 h.less (fun _ _ hx=>hx) (famNil_le e gf ob)
section
variable {P : Program} {C : Ctx} {M : Mem} {H : Heap} {w : World}
theorem InvH.freezeAll {bx : Nat → Option Box} {ob : Nat → Option Obj} {e : TypeId} {gf : Nat → OwnRef} {rss : List (List (List PV))} (h : InvH P C M ⟨bx,eX e gf rss ob⟩ w) : ∀ n,n ≤ rss.length →
  ∃ M' ob',M.le M' ∧ InvH P C M' ⟨bx,ob'⟩ w ∧ (∀ t,t < bU → ob' t = ob t) ∧ (∀ i,n ≤ i → ob' (bU + i) = eX e gf rss ob (bU + i)) ∧
   ∀ i rs,i < n → rss[i]? = some rs → Rep P M' true (.list e rs) ((gf i).val rs.length)
 | 0,_=>⟨M,_,Mem.le_refl M,h,fun t ht=>famO_low ht,fun i _=>rfl,fun i rs hi=>by omega⟩
 | n + 1,hn=>by
  obtain ⟨M1,ob1,hle1,h1,ha,hb,hc⟩ := InvH.freezeAll h n (by omega)
  obtain ⟨rs,hrs⟩ : ∃ rs,rss[n]? = some rs := ⟨rss[n],ze (by omega)⟩
  have hx := hb n (Nat.le_refl n)
  rw [eO hrs] at hx
  obtain ⟨M2,hle2,h2,hr⟩ := h1.freezeO (tag := bU + n) (x := ⟨gf n,e,rs,true⟩) hx
  refine ⟨M2,_,Mem.le_trans hle1 hle2,h2,fun t ht=>?_,fun i hi=>?_,fun i rs' hi hrs'=>?_⟩
  ·rw [fK _ _ (by omega)]; exact ha t ht
  ·rw [fK _ _ (by omega)]; exact hb i (by omega)
  ·by_cases hin : i = n
   ·subst hin
    rw [hrs] at hrs'
    cases hrs'
    exact hr
   ·exact Rep.mono hle2 (hc i rs' (by omega) hrs')
theorem InvH.freezeFam {bx : Nat → Option Box} {ob : Nat → Option Obj} {t e e' b c : Nat} {gf : Nat → OwnRef} {rss : List (List (List PV))} (h : InvH P C M ⟨bx,eX e gf rss ob⟩ w) (hb : bx t = iJ b gf rss c)
  {T : TT} (hT : T.Ok P) {ei : TInfo} (hei : T.get e' = some ei) (hsz : ei.size = 1) (hby : rss.length * ei.bytes ≤ 2 ^ 47) (hmx : rss.length ≤ maxLen) :
  ∃ M',M.le M' ∧ InvH P C M' ⟨upd bx t none,eX e gf [] ob⟩ w ∧ Rep P M' true (.list e' (rss.map fun rs=>[.list e rs])) (iW b rss.length c) := by
 obtain ⟨M1,ob1,hle1,h1,ha,_,hc⟩ := h.freezeAll rss.length (Nat.le_refl _)
 obtain ⟨i,hi,hs,hbs,_⟩ := (hT.get hei).info
 have hless : ∀ {M : Mem} {bx : Nat → Option Box},InvH P C M ⟨bx,ob1⟩ w → InvH P C M ⟨bx,eX e gf [] ob⟩ w := fun h=>h.less (fun _ _ hx=>hx) (fun u x hx=>by
  have hx : eX e gf [] ob u = some x := hx
  unfold eX at hx
  cases hq : Nat.ble bU u with
  | true=>rw [hq] at hx; simp at hx
  | false =>
   rw [hq] at hx
   have : u < bU := by
    rcases Nat.lt_or_ge u bU with h | h
    ·exact h
    ·rw [show Nat.ble bU u = true from by rw [Nat.ble_eq]; exact h] at hq; cases hq
   show ob1 u = some x
   rw [ha u this]
   exact hx)
 rcases Nat.eq_zero_or_pos (db rss.length c) with h0 | h0
 ·have hnil : rss = [] := List.length_eq_zero_iff.1 (by have := jJ rss.length c; omega)
  subst hnil
  refine ⟨M1,hle1,(hless h1).less (fun u x hx=>?_) (fun _ _ hx=>hx),?_⟩
  ·simp only [eW] at hx
   split at hx
   ·cases hx
   ·exact hx
  ·rw [famV_zero h0]
   simp only [Rep]
   exact ⟨none,0,i,by simp,by simp,by simp,hi,by simp,by simp⟩
 ·rw [pS h0] at hb
  -- the box,its slices frozen
  obtain ⟨hmine,⟨cs,e0,hcs,hr⟩,hnone⟩ := h1.boxes t _ hb
  let cells' : List PV := rss.map (fun rs=>PV.list e rs) ++ List.replicate (db rss.length c - rss.length) (.val (.slice none 0 0))
  have hr' : aM P M1 true cells' cs.toList := by
   have key : ∀ (l : List (List (List PV))) (k : Nat) (r : List PV) (xs : List Value),(∀ j rs,l[j]? = some rs → Rep P M1 true (.list e rs) ((gf (k + j)).val rs.length)) →
     aM P M1 true (l.mapIdx (fun j rs=>PV.own (bU + (k + j)) (gf (k + j)) rs.length) ++ r) xs → aM P M1 true (l.map (fun rs=>PV.list e rs) ++ r) xs := by
    intro l
    induction l with
    | nil=>intro k r xs _ h; simpa using h
    | cons a l ih =>
     intro k r xs hl h
     simp only [List.mapIdx_cons,List.cons_append,aM,List.map_cons] at h ⊢
     obtain ⟨x,ys,rfl,hx,hy⟩ := h
     refine ⟨x,ys,rfl,?_,ih (k + 1) r ys (fun j rs hj=>?_) ?_⟩
     ·simp only [Rep,Nat.add_zero] at hx
      rw [hx.2]
      exact hl 0 a rfl
     ·have := hl (j + 1) rs (by simpa using hj)
      rwa [show k + (j + 1) = k + 1 + j from by omega] at this
     ·have e : (fun (j : Nat) (rs : List (List PV))=>PV.own (bU + (k + (j + 1))) (gf (k + (j + 1))) rs.length) = fun j rs=>PV.own (bU + (k + 1 + j)) (gf (k + 1 + j)) rs.length := by
       funext j rs
       rw [show k + (j + 1) = k + 1 + j from by omega]
      rw [← e]
      exact hy
   refine key rss 0 _ _ (fun j rs hj=>?_) ?_
   ·rw [Nat.zero_add]
    exact hc j rs (zg.1 hj).1 hj
   ·simpa [fY] using hr
  have h2 : InvH P C M1 ⟨upd bx t (some ⟨b,cells'⟩),ob1⟩ w := by
   have key : ∀ u x,upd bx t (some ⟨b,cells'⟩) u = some x → (u = t ∧ x = ⟨b,cells'⟩) ∨ (u ≠ t ∧ bx u = some x) := by
    intro u x hx
    rw [eW] at hx
    split at hx
    ·rename_i e; exact .inl ⟨e,(Option.some.inj hx).symm⟩
    ·rename_i e; exact .inr ⟨e,hx⟩
   refine ⟨h1.mem,h1.ext,h1.new,h1.os,h1.tape,h1.output,h1.size,h1.frame,fun u x hx=>?_,h1.objs,fun u u' x x' hx hx' hbb=>?_,h1.dobj,fun u u' x x' hx hx' hbb=>?_⟩
   ·rcases key u x hx with ⟨_,rfl⟩ | ⟨_,hx⟩
    ·exact ⟨hmine,⟨cs,e0,hcs,hr'⟩,hnone⟩
    ·exact h1.boxes u x hx
   ·rcases key u x hx with ⟨q1,q2⟩ | ⟨_,hy⟩ <;> rcases key u' x' hx' with ⟨q3,q4⟩ | ⟨_,hy'⟩
    ·rw [q1,q3]
    ·subst q1; subst q2; exact h1.dbox _ u' _ x' hb hy' hbb
    ·subst q3; subst q4; exact h1.dbox u _ x _ hy hb hbb
    ·exact h1.dbox u u' x x' hy hy' hbb
   ·rcases key u x hx with ⟨q1,q2⟩ | ⟨_,hy⟩
    ·subst q1; subst q2; exact h1.dmix _ u' _ x' hb hx' hbb
    ·exact h1.dmix u u' x x' hy hx' hbb
  have hfl : ∀ l : List PV,(∀ p ∈ l,p.froz = true) → PV.frozL l = true := by
   intro l
   induction l with
   | nil=>intro _; rfl
   | cons a l ih=>intro h; simp [PV.frozL,h a (by simp),ih fun p hp=>h p (by simp [hp])]
  obtain ⟨M2,hle2,h3,hra⟩ := h2.freezeB (tag := t) (x := ⟨b,cells'⟩) (fT _ _ _) (hfl _ (fun p hp=>by
    rcases List.mem_append.1 hp with hp | hp
    ·obtain ⟨rs,_,rfl⟩ := List.mem_map.1 hp; rfl
    ·rw [List.eq_of_mem_replicate hp]; rfl)) (List.all_eq_true.2 fun p hp=>by
    rcases List.mem_append.1 hp with hp | hp
    ·obtain ⟨rs,_,rfl⟩ := List.mem_map.1 hp; rfl
    ·rw [List.eq_of_mem_replicate hp]; rfl)
  refine ⟨M2,Mem.le_trans hle1 hle2,(hless h3).less (fun u x hx=>?_) (fun _ _ hx=>hx),?_⟩
  ·simp only [eW] at hx ⊢
   split at hx
   ·cases hx
   ·rename_i q; simp only [zy q]; exact hx
  ·rw [lH h0]
   simp only [Rep]
   refine ⟨some ⟨b,0,none⟩,db rss.length c,i,by simp,by simpa using jJ _ _,famCap_le _ hmx,hi,by rw [zl,hbs]; exact hby,fun _=>⟨b,0,rfl,?_⟩⟩
   have hs1 : i.size = 1 := by rw [hs]; exact hsz
   rw [hs1]
   refine dC.of_flat (fun r hr=>?_) ?_
   ·obtain ⟨rs,_,rfl⟩ := List.mem_map.1 hr; rfl
   ·rw [flat_single]
    have := dJ.take rss.length hra
    have e2 : (cells').take rss.length = rss.map (fun rs=>PV.list e rs) := by
     show (rss.map (fun rs=>PV.list e rs) ++ _).take rss.length = _
     rw [List.take_append_of_le_length (by simp)]
     exact List.take_of_length_le (by simp)
    rw [e2] at this
    exact this
end
section
variable {P : Program} {T : TT} {w : World} {C : Ctx} {M : Mem}
theorem sc (t ty e e0 : TypeId) (i : TypeInfo) (ht : P.underlying t = some (.slice e)) (hi : P.info? e = some i)
  (g sLen sCap : Nat) (cur : Array Value) (hg : w.heap[g]? = some (.cells cur e0 (0,0)))
  (a : Addr) (m c : Nat) (news : List Value) (hl : news.length = m * i.size) (hnews : ∀ j u,news[j]? = some u → w.cell? (a.add j) = some u) (h1 : ∀ u ∈ news,u.oneCell' = true)
  (hroom : sLen + m ≤ sCap) (hfit : sLen * i.size + news.length ≤ cur.size) :
  (Builtin.append_ #[t,t] ty #[.slice (some ⟨g,0,none⟩) sLen sCap,.slice (some a) m c]).run P w =
   .ok (.slice (some ⟨g,0,none⟩) (sLen + m) sCap) (w.setRow g (cur.toList.take (sLen * i.size) ++ news ++ cur.toList.drop (sLen * i.size + news.length)).toArray) := by
 have hf := run_firstCells_some (P := P) w i.size m a m c news hl hnews
 have hst := run_storeCells_at P g (sLen * i.size) e0 news 0 cur w hg (by simpa using hfit) h1
 simp only [Nat.add_zero] at hst
 simp [Builtin.append_,run_underlying ht,sizeOf,typeInfo,hi,Builtin.lenOf,hroom,hf,Addr.add_lit,hst]
theorem repNils {k : Nat} {P : Program} {M : Mem} : aM P M true (List.replicate k (.val (.slice none 0 0))) (List.replicate k (Value.slice none 0 0)) := by
 induction k with
 | zero=>simp [aM]
 | succ k ih=>simp only [List.replicate_succ,aM]; exact ⟨_,_,rfl,by simp [Rep],ih⟩
theorem zeroNils (k : Nat) : (Builtin.zeroCells #[Value.slice none 0 0] k).toList = List.replicate k (Value.slice none 0 0) := by
 unfold Builtin.zeroCells
 rw [oz]
 induction k with
 | zero=>rfl
 | succ k ih=>rw [List.replicate_succ,List.flatten_cons,ih]; rfl
def kP (gf : Nat → OwnRef) (rss : List (List (List PV))) : List PV := rss.mapIdx fun i rs=>PV.own (bU + i) (gf i) rs.length
theorem nL {gf : Nat → OwnRef} {rss : List (List (List PV))} : (kP gf rss).length = rss.length := by simp [kP]
theorem pm {gf : Nat → OwnRef} {rss : List (List (List PV))} {c : Nat} : fY gf rss c = kP gf rss ++ List.replicate (db rss.length c - rss.length) (.val (.slice none 0 0)) := rfl
theorem me {gf : Nat → OwnRef} {rss : List (List (List PV))} {c : Nat} {g : OwnRef} : fY (upd gf rss.length g) (rss ++ [[]]) c =
  kP gf rss ++ (.own (bU + rss.length) g 0 :: List.replicate (db (rss.length + 1) c - (rss.length + 1)) (.val (.slice none 0 0))) := by
 have h : kP (upd gf rss.length g) (rss ++ [[]]) = kP gf rss ++ [.own (bU + rss.length) g 0] := by
  unfold kP
  rw [List.mapIdx_append]
  congr 1
  ·apply List.ext_getElem?
   intro j
   simp only [List.getElem?_mapIdx]
   by_cases hj : j < rss.length
   ·rw [fK _ _ (by omega)]
   ·rw [List.getElem?_eq_none (by omega)]; rfl
  ·simp [fT]
 rw [pm,h]
 simp
theorem qp {bx : Nat → Option Box} {ob : Nat → Option Obj} {t0 b e c : Nat} {gf : Nat → OwnRef} {rss : List (List (List PV))} (hT : T.Ok P) {ei2 : TInfo} (hei2 : T.get e = some ei2)
  (h : InvH P C M ⟨upd bx t0 (some ⟨b,fY (upd gf rss.length ⟨none,0⟩) (rss ++ [[]]) c⟩),eX e gf rss ob⟩ w) :
  InvH P C M ⟨upd bx t0 (iJ b (upd gf rss.length ⟨none,0⟩) (rss ++ [[]]) c),eX e (upd gf rss.length ⟨none,0⟩) (rss ++ [[]]) ob⟩ w := by
 rw [pS (Nat.lt_of_lt_of_le (by simp) (jJ _ _))]
 refine (h.nilobj hT (bU + rss.length) hei2).less (fun _ _ hx=>hx) (fun t x hx=>?_)
 have hx : eX e (upd gf rss.length ⟨none,0⟩) (rss ++ [[]]) ob t = some x := hx
 unfold eX at hx
 cases hq : Nat.ble bU t with
 | false =>
  rw [hq] at hx
  have ht : t < bU := by
   rcases Nat.lt_or_ge t bU with h | h
   ·exact h
   ·rw [show Nat.ble bU t = true from by rw [Nat.ble_eq]; exact h] at hq; cases hq
  show upd (eX e gf rss ob) _ _ t = some x
  rw [fK _ _ (by omega),famO_low ht]
  exact hx
 | true =>
  rw [hq] at hx
  have hle := Nat.le_of_ble_eq_true hq
  simp only [zc,Option.map_eq_some_iff] at hx
  obtain ⟨rs,h1,rfl⟩ := hx
  show upd (eX e gf rss ob) _ _ t = _
  by_cases hj : t = bU + rss.length
  ·subst hj
   rw [fT]
   rw [show bU + rss.length - bU = rss.length from by omega] at h1 ⊢
   simp at h1
   rw [fT,← h1]
  ·rw [fK _ _ hj]
   have h2 := (zg.1 h1).1
   simp at h2
   have h3 : t - bU < rss.length := by omega
   rw [List.getElem?_append_left h3] at h1
   have := eO (e := e) (gf := gf) (ob := ob) h1
   rw [show bU + (t - bU) = t from by omega] at this
   rw [this,fK _ _ (by omega)]
theorem appendFam_core {bx : Nat → Option Box} {ob : Nat → Option Obj} {t0 b e e' c : Nat} {gf : Nat → OwnRef} {rss : List (List (List PV))} (hi : InvH P C M ⟨bx,eX e gf rss ob⟩ w) (hb : bx t0 = iJ b gf rss c) (hT : T.Ok P)
  {t ty : TypeId} {ti ei ei2 : TInfo} (hti : T.get t = some ti) (hd : ti.desc = .slice e') (hei : T.get e' = some ei) (hsz : ei.size = 1) (hz : ei.zero.cells = #[.slice none 0 0]) (hei2 : T.get e = some ei2)
  {v : Value} (hv : Rep P M true (.list e' [[.val (.slice none 0 0)]]) v) (hby : (rss.length + 1) * ei.bytes ≤ 2 ^ 47) (hmx : rss.length + 1 ≤ maxLen) :
  ∃ b' c' w',(Builtin.append_ #[t,t] ty #[iW b rss.length c,v]).run P w = .ok (iW b' (rss.length + 1) c') w' ∧
   InvH P C M ⟨upd bx t0 (iJ b' (upd gf rss.length ⟨none,0⟩) (rss ++ [[]]) c'),eX e (upd gf rss.length ⟨none,0⟩) (rss ++ [[]]) ob⟩ w' := by
 obtain ⟨i,sa,c0,news,hinf,rfl,_,hnl,_,hcells,hrep,hone⟩ := list_src hi hv
 obtain ⟨i',hinf',hs,hbs,hzero⟩ := (hT.get hei).info
 rw [hinf] at hinf'
 cases hinf'
 have hs1 : i.size = 1 := by rw [hs]; exact hsz
 have hnews : news = [.slice none 0 0] := by
  simp only [List.flatten_cons,List.flatten_nil,List.append_nil,aM,Rep] at hrep
  obtain ⟨x,xs,rfl,rfl,rfl⟩ := hrep
  rfl
 subst hnews
 have hu := (hT.get hti).und
 rw [hd] at hu
 obtain ⟨a,rfl,hac⟩ := hcells (by simp)
 have h63 : ((rss.length + 1 : Nat) : Int) ≤ 9223372036854775807 := by unfold maxLen at hmx; omega
 have hby' : (rss.length + 1) * i.bytes ≤ 140737488355328 := by rw [hbs]; exact hby
 have hcap := jJ rss.length c
 rcases Nat.eq_zero_or_pos (db rss.length c) with h0 | h0
 ·have hnil : rss = [] := List.length_eq_zero_iff.1 (by omega)
  subst hnil
  have hg := run_append_nil (P := P) w t ty e' i ei.zero hu hinf hzero a 1 c0 [.slice none 0 0] hnl hac (by omega) (by simp) (by simp at hby'; omega)
  have hge := grownCap_ge w 1 0 e'
  have hgm : grownCap w 1 0 e' ≤ maxLen := grownCap_le_maxLen w 1 0 e' (by simpa using hmx)
  refine ⟨w.heap.size,grownCap w 1 0 e',_,?_,qp hT hei2 ((show InvH P C M _ w.drew from hi.drew).alloc_box t0 _ (#[.slice none 0 0] ++ Builtin.zeroCells ei.zero.cells (grownCap w 1 0 e' - 1)) e' ?_)⟩
  ·rw [famV_zero h0]
   simp only [List.length_singleton]
   rw [hg,lH (by show 0 < db 1 _; rw [kh hge hgm]; omega)]
   show _ = Result.ok (Value.slice _ 1 (db 1 _)) _
   rw [kh hge hgm]
  ·rw [me]
   simp only [List.length_nil,kP,List.mapIdx_nil,List.nil_append,aM]
   refine ⟨.slice none 0 0,(Builtin.zeroCells ei.zero.cells (grownCap w 1 0 e' - 1)).toList,by rw [Array.toList_append]; rfl,by simp [Rep,OwnRef.val],?_⟩
   rw [hz,zeroNils]
   show aM P M true (List.replicate (db 1 _ - 1) _) _
   rw [kh hge hgm]
   exact repNils
 ·rw [pS h0] at hb
  obtain ⟨hmine,⟨cur,e0,hcur,hr⟩,hnone⟩ := hi.boxes t0 _ hb
  have hsize : cur.size = db rss.length c := by
   have := hr.length
   rw [ou] at this
   simpa using this
  have hl2 : kP gf rss = (fY gf rss c).take rss.length := by
   rw [pm,List.take_append_of_le_length (by rw [nL]; exact Nat.le_refl _),← nL (gf := gf) (rss := rss),List.take_length]
  have hrt : aM P M true (kP gf rss) (cur.toList.take rss.length) := by rw [hl2]; exact hr.take _
  by_cases hroom : rss.length + 1 ≤ db rss.length c
  ·have hr2 := sc (P := P) (w := w) t ty e' e0 i hu hinf b rss.length (db rss.length c) cur hcur a 1 c0 [.slice none 0 0] hnl hac hone hroom (by rw [hs1]; simp; omega)
   have hce : db (rss.length + 1) (db rss.length c) = db rss.length c := kh hroom (famCap_le _ (by omega))
   refine ⟨b,db rss.length c,_,?_,qp hT hei2 (hi.set_box t0 _ hb _ (cur.toList.take (rss.length * i.size) ++ [Value.slice none 0 0] ++ cur.toList.drop (rss.length * i.size + [Value.slice none 0 0].length)).toArray ?_)⟩
   ·rw [lH h0]
    simp only [List.length_singleton]
    rw [hr2,lH (by rw [hce]; exact h0),hce]
    rfl
   ·rw [me,hce]
    simp only [hs1,Nat.mul_one,List.append_assoc]
    refine hrt.append ?_
    simp only [List.singleton_append,aM,List.length_singleton]
    refine ⟨_,_,rfl,by simp [Rep,OwnRef.val],?_⟩
    have := hr.drop (rss.length + 1)
    rw [pm,List.drop_append,nL,List.drop_of_length_le (by rw [nL]; omega),List.nil_append,List.drop_replicate] at this
    rwa [show db rss.length c - rss.length - (rss.length + 1 - rss.length) = db rss.length c - (rss.length + 1) from by omega] at this
  ·have holdlen : (cur.toList.take rss.length).length = rss.length * i.size := by rw [hs1]; simp; omega
   have holds : ∀ (j : Nat) (v : Value),(cur.toList.take rss.length)[j]? = some v → w.cell? ((⟨b,0,none⟩ : Addr).add j) = some v := by
    intro j v hj
    rw [go,cell_of_row w b (0 + j) cur e0 (0,0) hcur]
    rw [List.getElem?_take] at hj
    split at hj
    ·simpa using hj
    ·cases hj
   have hr2 := run_append_grow (P := P) w t ty e' i ei.zero hu hinf hzero ⟨b,0,none⟩ rss.length (db rss.length c) _ holdlen holds a 1 c0 [.slice none 0 0] hnl hac (by omega) h63 (growslice_fits (by omega) hby')
   have hge := grownCap_ge w (rss.length + 1) (db rss.length c) e'
   have hgm : grownCap w (rss.length + 1) (db rss.length c) e' ≤ maxLen := grownCap_le_maxLen w _ _ e' hmx
   refine ⟨w.heap.size,grownCap w (rss.length + 1) (db rss.length c) e',_,?_,qp hT hei2 ((show InvH P C M _ w.drew from hi.drew).alloc_box t0 _ ((cur.toList.take rss.length).toArray ++ #[.slice none 0 0] ++ Builtin.zeroCells ei.zero.cells (grownCap w (rss.length + 1) (db rss.length c) e' - (rss.length + 1))) e' ?_)⟩
   ·rw [lH h0]
    simp only [List.length_singleton]
    rw [hr2,lH (by rw [kh hge hgm]; omega),kh hge hgm]
   ·rw [me]
    simp only [Array.toList_append,List.append_assoc]
    refine hrt.append ?_
    simp only [List.singleton_append,aM]
    refine ⟨_,_,rfl,by simp [Rep,OwnRef.val],?_⟩
    rw [hz,zeroNils,kh hge hgm]
    exact repNils
end
section
variable {P : Program} {T : TT} {ops : Array Oper} {rest : List Oper} {o : Oper} {n : Nat} {s s' : Nat → PV} {bx : Nat → Option Box} {ob : Nat → Option Obj} {K : PState → Prop}
theorem sV (t0 e : Nat) (hT : T.Ok P) (hg : be ops s o = some true) {x y : Operand} {t : TypeId} (ho : o.op = .call { callee := .builtin .append,args := #[x,y],argTypes := #[t,t] }) {d : Nat} (hdst : o.dst = some d) (hlt : Nat.blt d n = true) {ti ei ei2 : TInfo} {e' : TypeId}
  (hti : T.get t = some ti) (hd : ti.desc = .slice e') (hei : T.get e' = some ei) (hsz : ei.size = 1) (hz : ei.zero.cells = #[.slice none 0 0]) (hei2 : T.get e = some ei2) {b c m : Nat} {gf : Nat → OwnRef} {rss : List (List (List PV))} (hx : evS s x = .val (iW b m c)) (hm : m = rss.length)
  (hy : evS s y = .list e' [[.val (.slice none 0 0)]]) (hb : bx t0 = iJ b gf rss c) (hby : (rss.length + 1) * ei.bytes ≤ 2 ^ 47) (hmx : rss.length + 1 ≤ maxLen)
  (h : ∀ b' c',Ao P ops rest ⟨n,upd s d (.val (iW b' (m + 1) c')),upd bx t0 (iJ b' (upd gf m ⟨none,0⟩) (rss ++ [[]]) c'),eX e (upd gf m ⟨none,0⟩) (rss ++ [[]]) ob⟩ K) :
  Ao P ops (o :: rest) ⟨n,s,bx,eX e gf rss ob⟩ K := by
 subst hm
 refine eZ hg (K := K) ?_
 intro C M a w next Q hi he hn
 have hxr := he x (by rw [ho]; simp [Op.operands,Call.operands])
 have hyr := he y (by rw [ho]; simp [Op.operands,Call.operands])
 rw [hx] at hxr
 rw [hy] at hyr
 simp only [Rep] at hxr
 obtain ⟨b',c',w',hrun,hi'⟩ := appendFam_core (ty := o.type) hi hb hT hti hd hei hsz hz hei2 hyr hby hmx
 have hrun' : (execOp a.eval o).run P w = .ok (.value (iW b' (rss.length + 1) c')) w' := by
  simp only [execOp,ho,resolve,Sem.run_bind,Sem.run_pure,Result.andThen_ok,invoke,builtin,List.map_toArray,List.map_cons,List.map_nil,hxr]
  rw [hrun]
  rfl
 unfold Oper.wp
 rw [hrun']
 exact hn _ (.val (iW b' (rss.length + 1) c')) _ M w' ⟨_,by simp [hdst,putD,hlt],h b' c'⟩ (Mem.le_refl M) hi' (by simp [Rep])
theorem su (t0 : Nat) (hT : T.Ok P) (hg : be ops s o = some true) {t : TypeId} {x i : Operand} (ho : o.op = .indexAddr t x i) {ti ei : TInfo} {e' : TypeId} (hti : T.get t = some ti) (hd : ti.desc = .slice e') (hei : T.get e' = some ei) (hes : ei.size = 1)
  {b c m : Nat} (hx : evS s x = .val (iW b m c)) {kk : IntKind} {j : Int} (hi : evS s i = .val (.int kk j)) (hj : 0 ≤ j ∧ j.toNat < m) (hp : putD n s o.dst (.box t0 b j.toNat) = some s') (h : Ao P ops rest ⟨n,s',bx,ob⟩ K) : Ao P ops (o :: rest) ⟨n,s,bx,ob⟩ K := by
 have hpos : 0 < db m c := Nat.lt_of_lt_of_le (by omega) (jJ _ _)
 rw [lH hpos] at hx
 refine mL hg ?_ hp h
 intro C M a w hiv he
 have hxr := he x (by rw [ho]; simp [Op.operands])
 have hir := he i (by rw [ho]; simp [Op.operands])
 rw [hx] at hxr
 rw [hi] at hir
 simp only [Rep] at hxr hir
 have hu := (hT.get hti).rund w
 rw [hd] at hu
 have hsz := (hT.get hei).rsize w
 refine ⟨.pointer (some ⟨b,j.toNat,none⟩),?_,by simp [Rep]⟩
 have h2 : j < (m : Int) := by omega
 simp [execOp,ho,Instr.indexAt,hir,hxr,asIntOf,hu,hj.1,h2,hsz,hes,go]
theorem sU (t0 e : Nat) (hT : T.Ok P) (hg : be ops s o = some true) {t e' : TypeId} {ps : Array (Nat × Operand)} (ho : o.op = .buildSlice t 1 ps) {d : Nat} (hdst : o.dst = some d) (hlt : Nat.blt d n = true) {ti ei2 : TInfo} (hti : T.get t = some ti) (hd : ti.desc = .slice e')
  (hr : kv T e' 1 (gM (evS s) ps) = some [[.val (.slice none 0 0)]]) (hei2 : T.get e = some ei2)
  (h : ∀ b' c',Ao P ops rest ⟨n,upd s d (.val (iW b' 1 c')),upd bx t0 (iJ b' (fun _=>⟨none,0⟩) [[]] c'),eX e (fun _=>⟨none,0⟩) [[]] ob⟩ K) :
  Ao P ops (o :: rest) ⟨n,s,bx,ob⟩ K := by
 refine eZ hg (K := K) ?_
 intro C M a w next Q hi he hn
 obtain ⟨i,cs,hinf,hrun,hrep,hone,hlen,hrl,hcs,hby,hn16⟩ := bs_run hT hti hd hr w (fun x hx=>he x (by rw [ho]; simpa [Op.operands] using hx))
 unfold Oper.wp
 have hrun' : (execOp a.eval o).run P w = .ok (.value (iW w.heap.size 1 1)) (w.alloc (.cells cs e')) := by
  simp only [execOp,ho,Sem.run_bind,hrun]
  rfl
 rw [hrun']
 simp only [List.flatten_cons,List.flatten_nil,List.append_nil,aM,Rep] at hrep
 obtain ⟨x,xs,hcc,rfl,rfl⟩ := hrep
 have h0 : InvH P C M ⟨bx,eX e (fun _=>⟨none,0⟩) [] ob⟩ w := InvH.famNil e _ hi
 have hg0 : upd (fun _=>(⟨none,0⟩ : OwnRef)) 0 ⟨none,0⟩ = fun _=>⟨none,0⟩ := by funext t; rw [eW]; split <;> rfl
 have hrc : aM P M true (fY (upd (fun _=>(⟨none,0⟩ : OwnRef)) ([] : List (List (List PV))).length ⟨none,0⟩) ([] ++ [[]]) 1) cs.toList := by
  rw [me,hcc]
  simp only [List.length_nil,kP,List.mapIdx_nil,List.nil_append,aM]
  have e1 : db (0 + 1) 1 = 1 := kh (Nat.le_refl _) (by unfold maxLen; omega)
  rw [e1]
  exact ⟨_,_,rfl,by simp [Rep,OwnRef.val],by simp [aM]⟩
 have h2 := h0.alloc_box t0 _ cs e' hrc
 have h1 := qp (b := w.heap.size) (c := 1) (t0 := t0) (gf := fun _=>(⟨none,0⟩ : OwnRef)) (rss := []) hT hei2 h2
 simp only [List.length_nil,hg0,List.nil_append] at h1
 exact hn _ (.val (iW w.heap.size 1 1)) _ M _ ⟨_,by simp [hdst,putD,hlt],h w.heap.size 1⟩ (Mem.le_refl M) h1 (by simp [Rep])
theorem sC {fn : Func} {R : PV → Heap → Prop} {ks : List KI} (d t0 : Nat) (hT : T.Ok P) {e e' b c m : Nat} {ei : TInfo} (hei : T.get e' = some ei) (hes : ei.size = 1) {gf : Nat → OwnRef} {rss : List (List (List PV))} {rows : List (List PV)} (hs : s d = .val (iW b m c)) (hm : m = rss.length)
  (hb : bx t0 = iJ b gf rss c) (hby : rss.length * ei.bytes ≤ 2 ^ 47) (hmx : rss.length ≤ maxLen) (hrows : rows = rss.map fun rs=>[.list e rs]) (h : V P fn R ks ⟨n,upd s d (.list e' rows),upd bx t0 none,eX e gf [] ob⟩) : V P fn R ks ⟨n,s,bx,eX e gf rss ob⟩ := by
 subst hm
 subst hrows
 refine dq ?_ h
 intro C M a w hi
 obtain ⟨M',hle,hi',hr⟩ := hi.2.freezeFam hb hT hei hes hby hmx
 refine ⟨M',⟨hi.1.1,hi.1.2.1,fun t=>?_⟩,hi'⟩
 have := hi.1.2.2 t
 simp only at this
 simp only [eW]
 split
 ·rename_i e; subst e; rw [hs] at this; simp only [Rep] at this; rw [this]; exact hr
 ·exact Rep.mono hle this
end
def shlI (k : IntKind) (a b : Int) : Option Int := if 0 ≤ b then some (k.wrap (a * 2 ^ (min b.toNat k.bits))) else none
theorem shlI_some {k : IntKind} {a b x : Int} (h : shlI k a b = some x) : 0 ≤ b ∧ x = k.wrap (a * 2 ^ (min b.toNat k.bits)) := by
 unfold shlI at h
 split at h
 ·rename_i h0; exact ⟨h0,(Option.some.inj h).symm⟩
 ·cases h
def andI (k : IntKind) (a b : Int) : Int := k.wrap (BitVec.ofInt k.bits a &&& BitVec.ofInt k.bits b).toNat
def iP (k : IntKind) (a b : Int) : Int := k.wrap (BitVec.ofInt k.bits a ^^^ BitVec.ofInt k.bits b).toNat
section
variable {P : Program} {T : TT} {rb : RB} {ops : Array Oper} {rest : List Oper} {L : List Nat} {k : Nat} {o : Oper} {n : Nat} {s s' : Nat → PV} {bx : Nat → Option Box} {ob : Nat → Option Obj} {K : PState → Prop}
theorem oI {bop : BinOp} {t t' : TypeId} {x y : Operand} (ho : o.op = .binOp bop t x y t') {ev : Operand → PV} {H : Heap} {kk k2 : IntKind} {a b r : Int} (hx : ev x = .val (.int kk a)) (hy : ev y = .val (.int k2 b))
  (hq : (bop matches .eql | .neq) = false) (hr : ∀ w,(binOp bop t (.int kk a) (.int k2 b)).run P w = .ok (.int kk r) w) : DetS P o ev H (.val (.int kk r)) := by
 intro C M a' w hi he
 have hxr := he x (by rw [ho]; simp [Op.operands])
 have hyr := he y (by rw [ho]; simp [Op.operands])
 rw [hx] at hxr
 rw [hy] at hyr
 simp only [Rep] at hxr hyr
 refine ⟨.int kk r,?_,by simp only [Rep]⟩
 have h2 : (eqGuard bop t x y (.int kk a) (.int k2 b)).run P w = .ok () w := by
  cases bop <;> first | (exact absurd hq (by decide)) | simp [eqGuard]
 simp only [execOp,ho,hxr,hyr,Sem.run_bind,h2,Result.andThen_ok,hr w]
 rfl
theorem run_shl {t : TypeId} {kk k2 : IntKind} {a b r : Int} (h : shlI kk a b = some r) (w : World) : (binOp .shl t (.int kk a) (.int k2 b)).run P w = .ok (.int kk r) w := by
 obtain ⟨hb,rfl⟩ := shlI_some h
 have hb' : ¬ b < 0 := by omega
 simp only [binOp,Op.shift,zy hb']
 rfl
theorem run_shr {t : TypeId} {kk k2 : IntKind} {a b : Int} (hb : 0 ≤ b) {m : Nat} (hm : min b.toNat kk.bits = m) (w : World) : (binOp .shr t (.int kk a) (.int k2 b)).run P w = .ok (.int kk (a.fdiv (2 ^ m))) w := by
 subst hm
 have hb' : ¬ b < 0 := by omega
 simp only [binOp,Op.shift,zy hb']
 rfl
theorem run_xor {t : TypeId} {kk : IntKind} {a b : Int} (w : World) : (binOp .xor t (.int kk a) (.int kk b)).run P w = .ok (.int kk (iP kk a b)) w := by
 simp only [binOp,Op.intBits,ne_eq,not_true_eq_false,if_false]
 rfl
theorem run_and {t : TypeId} {kk : IntKind} {a b : Int} (w : World) : (binOp .and t (.int kk a) (.int kk b)).run P w = .ok (.int kk (andI kk a b)) w := by
 simp only [binOp,Op.intBits,ne_eq,not_true_eq_false,if_false]
 rfl
theorem Ao.shl (hg : be ops s o = some true) {t t' : TypeId} {x y : Operand} (ho : o.op = .binOp .shl t x y t') {kk k2 : IntKind} {a b r : Int} (hx : evS s x = .val (.int kk a)) (hy : evS s y = .val (.int k2 b)) (hr : shlI kk a b = some r)
  (hp : putD n s o.dst (.val (.int kk r)) = some s') (h : Ao P ops rest ⟨n,s',bx,ob⟩ K) : Ao P ops (o :: rest) ⟨n,s,bx,ob⟩ K := mL hg (oI ho hx hy rfl (run_shl hr)) hp h
theorem Ao.and (hg : be ops s o = some true) {t t' : TypeId} {x y : Operand} (ho : o.op = .binOp .and t x y t') {kk : IntKind} {a b : Int} (hx : evS s x = .val (.int kk a)) (hy : evS s y = .val (.int kk b))
  (hp : putD n s o.dst (.val (.int kk (andI kk a b))) = some s') (h : Ao P ops rest ⟨n,s',bx,ob⟩ K) : Ao P ops (o :: rest) ⟨n,s,bx,ob⟩ K := mL hg (oI ho hx hy rfl run_and) hp h
theorem sS (ho : ops[k]? = some o) (hg : be ops s o = some true) {t t' : TypeId} {x y : Operand} (hop : o.op = .binOp .shl t x y t') {kk k2 : IntKind} {a b r : Int} (hx : evS s x = .val (.int kk a)) (hy : evS s y = .val (.int k2 b)) (hr : shlI kk a b = some r)
  (hp : putD n s o.dst (.val (.int kk r)) = some s') (h : Do P T rb ops L ⟨n,s',bx,ob⟩ K) : Do P T rb ops (k :: L) ⟨n,s,bx,ob⟩ K := lQ ho hg (by rw [hop]; rfl) (fun _=>oI hop hx hy rfl (run_shl hr)) hp h
theorem Do.shr (ho : ops[k]? = some o) (hg : be ops s o = some true) {t t' : TypeId} {x y : Operand} (hop : o.op = .binOp .shr t x y t') {kk k2 : IntKind} {a b : Int} (hx : evS s x = .val (.int kk a)) (hy : evS s y = .val (.int k2 b)) (hb : 0 ≤ b) {m : Nat} (hm : min b.toNat kk.bits = m)
  (hp : putD n s o.dst (.val (.int kk (a.fdiv (2 ^ m)))) = some s') (h : Do P T rb ops L ⟨n,s',bx,ob⟩ K) : Do P T rb ops (k :: L) ⟨n,s,bx,ob⟩ K := lQ ho hg (by rw [hop]; rfl) (fun _=>oI hop hx hy rfl (run_shr hb hm)) hp h
theorem sx (ho : ops[k]? = some o) (hg : be ops s o = some true) {t t' : TypeId} {x y : Operand} (hop : o.op = .binOp .xor t x y t') {kk : IntKind} {a b : Int} (hx : evS s x = .val (.int kk a)) (hy : evS s y = .val (.int kk b))
  (hp : putD n s o.dst (.val (.int kk (iP kk a b))) = some s') (h : Do P T rb ops L ⟨n,s',bx,ob⟩ K) : Do P T rb ops (k :: L) ⟨n,s,bx,ob⟩ K := lQ ho hg (by rw [hop]; rfl) (fun _=>oI hop hx hy rfl run_xor) hp h
theorem detS_idxS (hT : T.Ok P) {o : Oper} {ev : Operand → PV} {H : Heap} {t : TypeId} {x i : Operand} (ho : o.op = .indexAddr t x i) {ti ei : TInfo} {e : TypeId} (hti : T.get t = some ti) (hd : ti.desc = .slice e) (hei : T.get e = some ei)
  (tag : Nat) {g : OwnRef} {z l h m : Nat} (hx : ev x = .val (g.sub z l h m)) (hz : z = ei.size) {k : IntKind} {j : Int} (hi : ev i = .val (.int k j)) (hj : 0 ≤ j ∧ l + j.toNat < h) (hm : h ≤ m) (hb : ∃ b,g.blk = some b) : DetS P o ev H (.optr tag g ei.size (l + j.toNat) 0) := by
 subst hz
 intro C M a w _ he
 have hxr := he x (by rw [ho]; simp [Op.operands])
 have hir := he i (by rw [ho]; simp [Op.operands])
 rw [hx] at hxr
 rw [hi] at hir
 simp only [Rep] at hxr hir
 obtain ⟨b,hb⟩ := hb
 have hu := (hT.get hti).rund w
 rw [hd] at hu
 have hsz := (hT.get hei).rsize w
 have h2 : j < ((h - l : Nat) : Int) := by omega
 have hml : ¬ m = l := by omega
 refine ⟨.pointer (some ⟨b,(l + j.toNat) * ei.size,none⟩),?_,?_⟩
 ·simp [execOp,ho,Instr.indexAt,hir,hxr,OwnRef.sub,hb,hml,asIntOf,hu,hj.1,h2,hsz,go,Nat.add_mul]
 ·simp only [Rep]
  exact ⟨trivial,b,hb,by simp⟩
theorem Ao.idxV (hT : T.Ok P) (hg : be ops s o = some true) {t : TypeId} {x i : Operand} (ho : o.op = .indexAddr t x i) {ti ei : TInfo} {e : TypeId} (hti : T.get t = some ti) (hd : ti.desc = .slice e) (hei : T.get e = some ei)
  (tag : Nat) {g : OwnRef} {z l h m : Nat} (hx : evS s x = .val (g.sub z l h m)) (hz : z = ei.size) {kk : IntKind} {j : Int} (hi : evS s i = .val (.int kk j)) (hj : 0 ≤ j ∧ l + j.toNat < h) (hm : h ≤ m) (hb : ∃ b,g.blk = some b) (hp : putD n s o.dst (.optr tag g ei.size (l + j.toNat) 0) = some s') (hr : Ao P ops rest ⟨n,s',bx,ob⟩ K) :
  Ao P ops (o :: rest) ⟨n,s,bx,ob⟩ K := mL hg (detS_idxS hT ho hti hd hei tag hx hz hi hj hm hb) hp hr
theorem sJ (hT : T.Ok P) (ho : ops[k]? = some o) (hg : be ops s o = some true) {t : TypeId} {x i : Operand} (hop : o.op = .indexAddr t x i) {ti ei : TInfo} {e : TypeId} (hti : T.get t = some ti) (hd : ti.desc = .slice e) (hei : T.get e = some ei)
  (tag : Nat) {g : OwnRef} {z l h m : Nat} (hx : evS s x = .val (g.sub z l h m)) (hz : z = ei.size) {kk : IntKind} {j : Int} (hi : evS s i = .val (.int kk j)) (hj : 0 ≤ j ∧ l + j.toNat < h) (hm : h ≤ m) (hb : ∃ b,g.blk = some b) (hp : putD n s o.dst (.optr tag g ei.size (l + j.toNat) 0) = some s') (hr : Do P T rb ops L ⟨n,s',bx,ob⟩ K) :
  Do P T rb ops (k :: L) ⟨n,s,bx,ob⟩ K := lQ ho hg (by rw [hop]; rfl) (fun _=>detS_idxS hT hop hti hd hei tag hx hz hi hj hm hb) hp hr
theorem Ao.lenV (hT : T.Ok P) (hg : be ops s o = some true) {x : Operand} {t : TypeId} {ts : List TypeId} (ho : o.op = .call { callee := .builtin .len,args := #[x],argTypes := (t :: ts).toArray }) {ti : TInfo} {e : TypeId} (hti : T.get t = some ti) (hd : ti.desc = .slice e) {g : OwnRef} {z l h m : Nat}
  (hx : evS s x = .val (g.sub z l h m)) (hp : putD n s o.dst (.val (.int .i64 ((h - l : Nat) : Int))) = some s') (hr : Ao P ops rest ⟨n,s',bx,ob⟩ K) : Ao P ops (o :: rest) ⟨n,s,bx,ob⟩ K := by
 refine eZ hg (fun C M a w next Q hi he hn=>?_)
 have hxr := he x (by rw [ho]; simp [Op.operands,Call.operands])
 rw [show (⟨n,s,bx,ob⟩ : PState).s = s from rfl,hx] at hxr
 simp only [Rep] at hxr
 have hu := (hT.get hti).und
 rw [hd] at hu
 have hrun : (execOp a.eval o).run P w = .ok (.value (.int .i64 ((h - l : Nat) : Int))) w := by
  simp only [execOp,ho,resolve,Sem.run_bind,Sem.run_pure,Result.andThen_ok,invoke,builtin,List.map_toArray,List.map_cons,List.map_nil,hxr,OwnRef.sub]
  simp [Builtin.len_,run_underlying hu,goInt]
 unfold Oper.wp
 rw [hrun]
 exact hn _ _ ⟨bx,ob⟩ M w ⟨s',hp,hr⟩ (Mem.le_refl M) hi (by simp only [Rep])
def getS {α : Type} (xs : List α) (l h : Nat) (j : Int) : Option α := if 0 ≤ j ∧ l + j.toNat < h then xs[l + j.toNat]? else none
theorem getSE {α β : Type} {xs : List α} {l h : Nat} {j : Int} {k : α → Option β} {r : β} (H : ai (getS xs l h j) k = some r) : ∃ a,((0 ≤ j ∧ l + j.toNat < h) ∧ xs[l + j.toNat]? = some a) ∧ k a = some r := by
 obtain ⟨a,h1,h2⟩ := ax H
 unfold getS at h1
 split at h1
 ·rename_i h0; exact ⟨a,⟨h0,h1⟩,h2⟩
 ·cases h1
theorem rowsGetN {α : Type} {f f' : α → List PV} (hE : ∀ x,f x = f' x) {xs : List α} {j : Nat} {x : α} (h : xs[j]? = some x) : (xs.map f)[j]? = some (f' x) := by
 rw [List.getElem?_map,h,Option.map_some,hE]
end
end
end Go.Ab

namespace Go.Proofs.YtgaggbdcedpapaaGreat
noncomputable section
open Go Go.Ab
attribute [local irreducible] V Ao Do Gh Eff PH IntKind.wrap
set_option maxRecDepth 4000
def jv (rec76 : LQuery → Option ((List LQuery))) (q : LQuery) : Option ((List LQuery)) :=
 ai (aW (σ := List LQuery) (ρ := Empty) (fun (_ : Nat) (x1 : LQuery) (s1 : List LQuery) =>
  ai (rec76 x1) fun x17 =>
  ai (dT 160 s1 x17) fun (x18 : List LQuery) =>
  some (.next x18)) 0 q.inputs [q]) fun fl1=>fl1.thenP fun (s1 : List LQuery) =>
 some s1
theorem WO_query_Nodes {m : Nat} (rec76 : LQuery → Option ((List LQuery))) (hrec76 : ∀ m a0 r,rec76 a0 = some r → iU Tryz.prog 76 [(.agg (bE a0))] (lh m 35 (r.map ba))) (q : LQuery) (r : (List LQuery)) (H : jv rec76 q = some r) :
  iU Tryz.prog 76 [(.agg (bE q))] (lh m 35 (r.map ba)) := by
 unfold jv at H
 refine PH.aD Tryz.func76 Tryz.ntmps76 ?_
 refine ab (ac (aV ?_))
 refine ao tk rfl (af (ab (ac (ao tk rfl ?_))))
 refine pK (rows' := List.map ba ([q] : List LQuery)) tk rfl rfl rfl rfl rfl rfl rfl (congrArg (List.map List.length) (rowsLit cM ([q] : List LQuery))).symm rfl (iG.trans (b := (List.map bE ([q] : List LQuery)).flatten) (iG.refl _) (iG.of_eq (congrArg List.flatten (rowsLit cM ([q] : List LQuery))))) fun g7=>?_
 refine ao tk rfl (af (ab (ab (ac (al 2 tk rfl (aN tk (zl _) ?_))))))
 refine ao tk rfl (af ?_)
 obtain ⟨fl1,H1,Hp1⟩ := ax H
 refine bP tk 9 rfl rfl (fun hz1 _=>?_)
 rw [zl] at hz1
 refine aY (τ := List LQuery) (γ := OwnRef) (fun s1 g1=>⟨21,upd (fun _=>.any) 3 (.own 7 g1 (s1.map ba).length),fun _=>none,upd (fun _=>none) 7 (some ⟨g1,35,(s1.map ba),true⟩)⟩) (fun t=>fl1 = .next t) ?_ (fun s1 g1 hn1=>?_)
 ·refine az ?_
  refine bC (fun j1 s1 g1=>⟨21,upd (upd (upd (upd (fun _=>.any) 11 (ae (j1 : Int))) 10 (ae (q.inputs.length : Int))) 9 (.list 35 (q.inputs.map ba))) 3 (.own 7 g1 (s1.map ba).length),fun _=>none,upd (fun _=>none) 7 (some ⟨g1,35,(s1.map ba),true⟩)⟩) g7 H1 (Gh.le (aa (aa (aa (aa aj)))) ah (ay ag)) (fun j1 s1 g1 hj1 hr1=>?_)
  refine aw 1 tk rfl (ab ?_)
  refine aZ rfl (fun h=>?_) (fun h=>?_)
  ·have hl1 := co h
   obtain ⟨x1,fb1,hx1,H,hg1⟩ := rMc hl1 hr1
   refine av (ab (az (ab (ac (bs tk (zn j1) (bO cM hx1) ?_)))))
   refine ao tk rfl ?_
   refine bu tk fun b5=>?_
   refine aE tk ?_
   refine af (ac (ao tk rfl (aT tk ?_)))
   obtain ⟨x17,h17,H⟩ := ax H
   have s17 := hrec76 17 x1 _ h17
   refine aq Tryz.call76 (iR.r) (PFun.iv s17) ?_
   obtain ⟨x18,h18,H⟩ := ax H
   have k18 := cY h18
   refine cZ (rows2' := List.map ba x17) (rows' := List.map ba x18) tk rfl rfl rfl rfl rfl rfl rfl rfl rfl rfl rfl rfl rfl (kj.refl _) (et k18.1) (ew k18.2.1) (ez k18.2.2) fun g18=>?_
   refine ao tk rfl (af (aR (bm 2 tk rfl ?_)))
   obtain rfl := am H
   refine aK x18 g18 ⟨hl1,hg1⟩ (Gh.le (aa (aa (aa (aH (PLe.q (aU (by omega))) aj)))) ah (ay ag))
  have hn1 := rMd (cp h) hr1
  refine aO rfl ?_
  refine aQ s1 g1 hn1 (Gh.le (aa aj) ah (ay ag))
 have H := bn hn1 Hp1
 refine aw 2 tk rfl ?_
 obtain rfl := am H
 refine jX tk rfl
def jB : Nat → LQuery → Option ((List LQuery))
 | 0,_=>none
 | n + 1,v0=>jv (fun b0=>jB n b0) v0
theorem WF_query_Nodes  (n : Nat) : (∀ m a0 r,jB n a0 = some r → iU Tryz.prog 76 [(.agg (bE a0))] (lh m 35 (r.map ba))) := by
 induction n with
 | zero=>exact (by intros; rename_i h; exact absurd (show (none : Option _) = some _ from h) (by simp))
 | succ n ih =>
  exact (fun m v0 r h=>WO_query_Nodes (m := m) (fun b0=>jB n b0) ih v0  r h)
def iL (q : LQuery) : Option ((List LQuery)) := iY fun n=>jB n q
theorem nv {m : Nat} (q : LQuery) (r : (List LQuery)) (H : iL q = some r) :
  iU Tryz.prog 76 [(.agg (bE q))] (lh m 35 (r.map ba)) := by
 obtain ⟨n,h⟩ := jG H
 exact (WF_query_Nodes  n) m q r h
def jA (rec88 : LQuery → Option (Int)) (q : LQuery) : Option (Int) :=
 ai (aW (σ := Int) (ρ := Empty) (fun (_ : Nat) (x1 : LQuery) (s1 : Int) =>
  ai (rec88 x1) fun x15 =>
  some (.next (if x15 > s1 then x15 else s1))) 0 q.inputs 0) fun fl1=>fl1.thenP fun (s1 : Int) =>
 some (IntKind.i64.wrap (s1 + (1 : Int)))
theorem WO_query_depth (rec88 : LQuery → Option (Int)) (hrec88 : ∀ a0 r,rec88 a0 = some r → bc Tryz.prog 88 [(.agg (bE a0))] (ae r)) (q : LQuery) (r : Int) (H : jA rec88 q = some r) :
  bc Tryz.prog 88 [(.agg (bE q))] (ae r) := by
 unfold jA at H
 refine PH.aD Tryz.func88 Tryz.ntmps88 ?_
 refine ab (ac (aV ?_))
 refine ao tk rfl (af (aw 1 tk rfl (ab (ab (ac (al 2 tk rfl (aN tk (zl _) ?_)))))))
 refine ao tk rfl (af ?_)
 obtain ⟨fl1,H1,Hp1⟩ := ax H
 refine bP tk 7 rfl rfl (fun hz1 _=>?_)
 rw [zl] at hz1
 refine aY (τ := Int) (γ := Unit) (fun s1 g1=>⟨20,upd (fun _=>.any) 3 (ae s1),fun _=>none,fun _=>none⟩) (fun t=>fl1 = .next t) ?_ (fun s1 g1 hn1=>?_)
 ·refine az ?_
  refine bC (fun j1 s1 g1=>⟨20,upd (upd (upd (upd (fun _=>.any) 9 (ae (j1 : Int))) 8 (ae (q.inputs.length : Int))) 7 (.list 35 (q.inputs.map ba))) 3 (ae s1),fun _=>none,fun _=>none⟩) () H1 (Gh.le (aa (aa (aa (aa aj)))) ah ag) (fun j1 s1 g1 hj1 hr1=>?_)
  refine aw 1 tk rfl (ab ?_)
  refine aZ rfl (fun h=>?_) (fun h=>?_)
  ·have hl1 := co h
   obtain ⟨x1,fb1,hx1,H,hg1⟩ := rMc hl1 hr1
   refine av (ab (az (ab (ac (bs tk (zn j1) (bO cM hx1) ?_)))))
   refine ao tk rfl ?_
   refine bu tk fun b5=>?_
   refine aE tk ?_
   refine af (ac (ao tk rfl (aT tk ?_)))
   obtain ⟨x15,h15,H⟩ := ax H
   have s15 := hrec88 x1 _ h15
   refine aq Tryz.call88 (iR.r) s15 ?_
   refine al 2 tk rfl (af (aR (bm 2 tk rfl ?_)))
   obtain rfl := am H
   refine aK (if x15 > s1 then x15 else s1) () ⟨hl1,hg1⟩ (Gh.le (aa (aa (aa (aH (PLe.q (aU (by omega))) aj)))) ah ag)
  have hn1 := rMd (cp h) hr1
  refine aO rfl ?_
  refine aQ s1 g1 hn1 (Gh.le (aa aj) ah ag)
 have H := bn hn1 Hp1
 refine aw 3 tk rfl ?_
 obtain rfl := am H
 refine aC tk rfl (ps := [(ae (IntKind.i64.wrap (s1 + (1 : Int))))]) ⟨_,_,rfl,rfl,rfl⟩ (PLe.q rfl)
def jy : Nat → LQuery → Option (Int)
 | 0,_=>none
 | n + 1,v0=>jA (fun b0=>jy n b0) v0
theorem WF_query_depth  (n : Nat) : (∀ a0 r,jy n a0 = some r → bc Tryz.prog 88 [(.agg (bE a0))] (ae r)) := by
 induction n with
 | zero=>exact (by intros; rename_i h; exact absurd (show (none : Option _) = some _ from h) (by simp))
 | succ n ih =>
  exact (fun v0 r h=>WO_query_depth (fun b0=>jy n b0) ih v0  r h)
def kx (q : LQuery) : Option (Int) := iY fun n=>jy n q
theorem W_query_depth (q : LQuery) (r : Int) (H : kx q = some r) :
  bc Tryz.prog 88 [(.agg (bE q))] (ae r) := by
 obtain ⟨n,h⟩ := jG H
 exact (WF_query_depth  n) q r h
def jY (rec109 : LQuery → Option (Int × Int)) (q : LQuery) : Option (Int × Int) :=
 ai (aW (σ := Int × Int) (ρ := Empty) (fun (j1 : Nat) (x1 : LQuery) (s1 : Int × Int) =>
  ai (rec109 x1) fun x20 =>
  cond ((j1 : Int) == (0 : Int))
   (some (.next ((if (20001 : Int) < x20.1 then (20001 : Int) else x20.1),(if x20.2 > s1.2 then x20.2 else s1.2))))
   (cond (q.kind == (6 : Int))
    (some (.next ((if (20001 : Int) < (IntKind.i64.wrap (s1.1 + x20.1)) then (20001 : Int) else (IntKind.i64.wrap (s1.1 + x20.1))),(if x20.2 > s1.2 then x20.2 else s1.2))))
    (bf (
     cond (q.kind == (4 : Int))
      (true)
      ((q.kind == (5 : Int)))) fun (t4 : Bool) =>
    cond t4
     (some (.next ((if (20001 : Int) < (IntKind.i64.wrap (s1.1 * (if x20.1 > (1 : Int) then x20.1 else (1 : Int)))) then (20001 : Int) else (IntKind.i64.wrap (s1.1 * (if x20.1 > (1 : Int) then x20.1 else (1 : Int))))),(if x20.2 > s1.2 then x20.2 else s1.2))))
     (some (.next ((if (20001 : Int) < s1.1 then (20001 : Int) else s1.1),(if x20.2 > s1.2 then x20.2 else s1.2))))))) 0 q.inputs (0,0)) fun fl1=>fl1.thenP fun (s1 : Int × Int) =>
 cond (q.kind == (1 : Int))
  (some (24,(if (24 : Int) > s1.2 then (24 : Int) else s1.2)))
  (some (s1.1,(if s1.1 > s1.2 then s1.1 else s1.2)))
theorem WO_query_most (rec109 : LQuery → Option (Int × Int)) (hrec109 : ∀ a0 r,rec109 a0 = some r → bc Tryz.prog 109 [(.agg (bE a0))] (.tup [(ae r.1),(ae r.2)])) (q : LQuery) (r : Int × Int) (H : jY rec109 q = some r) :
  bc Tryz.prog 109 [(.agg (bE q))] (.tup [(ae r.1),(ae r.2)]) := by
 unfold jY at H
 refine PH.aD Tryz.func109 Tryz.ntmps109 ?_
 refine ab (ac (aV ?_))
 refine al 2 tk rfl (af (aw 2 tk rfl (ab (ab (ac (al 2 tk rfl (aN tk (zl _) ?_)))))))
 refine ao tk rfl (af ?_)
 obtain ⟨fl1,H1,Hp1⟩ := ax H
 refine bP tk 11 rfl rfl (fun hz1 _=>?_)
 rw [zl] at hz1
 refine aY (τ := Int × Int) (γ := Unit) (fun s1 g1=>⟨60,upd (upd (upd (fun _=>.any) 5 (ae s1.2)) 4 (ae s1.1)) 1 (.ptr [(ae q.kind),(.str q.table),(.list 9 (q.names.map aB)),(.list 56 (q.exprs.map bg)),(.list 66 (q.aggregates.map cn)),(.list 4 (q.descending.map cz)),(ae q.count),(ae q.offset),(.list 35 (q.inputs.map ba))]),fun _=>none,fun _=>none⟩) (fun t=>fl1 = .next t) ?_ (fun s1 g1 hn1=>?_)
 ·refine az ?_
  refine bC (fun j1 s1 g1=>⟨60,upd (upd (upd (upd (upd (upd (fun _=>.any) 13 (ae (j1 : Int))) 12 (ae (q.inputs.length : Int))) 11 (.list 35 (q.inputs.map ba))) 5 (ae s1.2)) 4 (ae s1.1)) 1 (.ptr [(ae q.kind),(.str q.table),(.list 9 (q.names.map aB)),(.list 56 (q.exprs.map bg)),(.list 66 (q.aggregates.map cn)),(.list 4 (q.descending.map cz)),(ae q.count),(ae q.offset),(.list 35 (q.inputs.map ba))]),fun _=>none,fun _=>none⟩) () H1 (Gh.le (aa (aa (aa (aa (aa (aa aj)))))) ah ag) (fun j1 s1 g1 hj1 hr1=>?_)
  refine aw 1 tk rfl (ab ?_)
  refine aZ rfl (fun h=>?_) (fun h=>?_)
  ·have hl1 := co h
   obtain ⟨x1,fb1,hx1,H,hg1⟩ := rMc hl1 hr1
   refine av (ab (az (ab (ac (ao tk rfl (bs tk (zn j1) (bO cM hx1) ?_))))))
   refine ao tk rfl ?_
   refine bu tk fun b7=>?_
   refine ao tk rfl (aE tk ?_)
   refine af (ab (ac (aT tk ?_)))
   obtain ⟨x20,h20,H⟩ := ax H
   have s20 := hrec109 x1 _ h20
   refine aq Tryz.call109 (iR.r) s20 ?_
   refine al 5 tk rfl (af (aw 4 tk rfl (ab (az (aw 3 tk rfl ?_)))))
   refine aP rfl H (fun H=>?_) (fun H=>?_)
   ·refine bm 2 tk rfl (aR (bm 3 tk rfl (aR (bm 2 tk rfl ?_))))
    obtain rfl := am H
    refine aK ((if (20001 : Int) < x20.1 then (20001 : Int) else x20.1),(if x20.2 > s1.2 then x20.2 else s1.2)) () ⟨hl1,hg1⟩ (Gh.le (aa (aa (aa (aa (aa (aH (PLe.q (aU (by omega))) aj)))))) ah ag)
   refine aw 4 tk rfl ?_
   refine aP rfl H (fun H=>?_) (fun H=>?_)
   ·refine bm 4 tk rfl (aR (bm 3 tk rfl (aR (bm 2 tk rfl ?_))))
    obtain rfl := am H
    refine aK ((if (20001 : Int) < (IntKind.i64.wrap (s1.1 + x20.1)) then (20001 : Int) else (IntKind.i64.wrap (s1.1 + x20.1))),(if x20.2 > s1.2 then x20.2 else s1.2)) () ⟨hl1,hg1⟩ (Gh.le (aa (aa (aa (aa (aa (aH (PLe.q (aU (by omega))) aj)))))) ah ag)
   refine ab ?_
   obtain ⟨fl4,H4,Hp4⟩ := bw H
   refine aY (τ := Bool) (γ := Unit) (fun t4 g4=>⟨60,upd (upd (upd (upd (upd (upd (upd (upd (fun _=>.any) 37 (aF t4)) 13 (ae (j1 : Int))) 12 (ae (q.inputs.length : Int))) 11 (.list 35 (q.inputs.map ba))) 8 (ae x20.1)) 5 (ae (if x20.2 > s1.2 then x20.2 else s1.2))) 4 (ae s1.1)) 1 (.ptr [(ae q.kind),(.str q.table),(.list 9 (q.names.map aB)),(.list 56 (q.exprs.map bg)),(.list 66 (q.aggregates.map cn)),(.list 4 (q.descending.map cz)),(ae q.count),(ae q.offset),(.list 35 (q.inputs.map ba))]),fun _=>none,fun _=>none⟩) (fun t=>t = fl4) ?_ (fun t4 g4 hn4=>?_)
   ·have H := H4
    refine ac (al 4 tk rfl ?_)
    refine bF rfl rfl rfl H (fun H=>?_) (fun H=>?_)
    ·refine al 5 tk rfl (af ?_)
     subst H
     refine aQ true () rfl (Gh.le (aa (aa (aa (aa (aa (aa (aa (aa aj)))))))) ah ag)
    refine al 5 tk rfl (af ?_)
    subst H
    refine aQ (q.kind == (5 : Int)) () rfl (Gh.le (aa (aa (aa (aa (aa (aa (aa (aa aj)))))))) ah ag)
   subst hn4
   have H := Hp4
   refine aP rfl H (fun H=>?_) (fun H=>?_)
   ·refine bm 5 tk rfl (aR (bm 3 tk rfl (aR (bm 2 tk rfl ?_))))
    obtain rfl := am H
    refine aK ((if (20001 : Int) < (IntKind.i64.wrap (s1.1 * (if x20.1 > (1 : Int) then x20.1 else (1 : Int)))) then (20001 : Int) else (IntKind.i64.wrap (s1.1 * (if x20.1 > (1 : Int) then x20.1 else (1 : Int))))),(if x20.2 > s1.2 then x20.2 else s1.2)) () ⟨hl1,hg1⟩ (Gh.le (aa (aa (aa (aa (aa (aH (PLe.q (aU (by omega))) aj)))))) ah ag)
   refine av (aR (bm 3 tk rfl (aR (bm 2 tk rfl ?_))))
   obtain rfl := am H
   refine aK ((if (20001 : Int) < s1.1 then (20001 : Int) else s1.1),(if x20.2 > s1.2 then x20.2 else s1.2)) () ⟨hl1,hg1⟩ (Gh.le (aa (aa (aa (aa (aa (aH (PLe.q (aU (by omega))) aj)))))) ah ag)
  have hn1 := rMd (cp h) hr1
  refine aO rfl ?_
  refine aQ s1 g1 hn1 (Gh.le (aa (aa (aa aj))) ah ag)
 have H := bn hn1 Hp1
 refine ab (aw 3 tk rfl ?_)
 refine aP rfl H (fun H=>?_) (fun H=>?_)
 ·refine bm 1 tk rfl (aw 6 tk rfl ?_)
  obtain rfl := am H
  refine aC tk rfl (ps := [(ae 24),(ae (if (24 : Int) > s1.2 then (24 : Int) else s1.2))]) ⟨_,_,rfl,rfl,_,_,rfl,rfl,rfl⟩ (PLe.q rfl)
 refine av (aw 6 tk rfl ?_)
 obtain rfl := am H
 refine aC tk rfl (ps := [(ae s1.1),(ae (if s1.1 > s1.2 then s1.1 else s1.2))]) ⟨_,_,rfl,rfl,_,_,rfl,rfl,rfl⟩ (PLe.q rfl)
def jZ : Nat → LQuery → Option (Int × Int)
 | 0,_=>none
 | n + 1,v0=>jY (fun b0=>jZ n b0) v0
theorem WF_query_most  (n : Nat) : (∀ a0 r,jZ n a0 = some r → bc Tryz.prog 109 [(.agg (bE a0))] (.tup [(ae r.1),(ae r.2)])) := by
 induction n with
 | zero=>exact (by intros; rename_i h; exact absurd (show (none : Option _) = some _ from h) (by simp))
 | succ n ih =>
  exact (fun v0 r h=>WO_query_most (fun b0=>jZ n b0) ih v0  r h)
def mf (q : LQuery) : Option (Int × Int) := iY fun n=>jZ n q
theorem W_query_most (q : LQuery) (r : Int × Int) (H : mf q = some r) :
  bc Tryz.prog 109 [(.agg (bE q))] (.tup [(ae r.1),(ae r.2)]) := by
 obtain ⟨n,h⟩ := jG H
 exact (WF_query_most  n) q r h
def gT (rec108 : LExpr → (List Int) → Bool → (List Bool) → Option ((List Int) × Bool × (List Bool))) (e : LExpr) (c0 : List Int) (c1 : Bool) (c2 : List Bool) : Option ((List Int) × Bool × (List Bool)) :=
 bf (
  cond (e.kind == (3 : Int))
   (cond (decide (e.index ≥ (0 : Int)))
    ((decide (e.index < (8 : Int))))
    (false))
   (false)) fun (t1 : Bool) =>
 ai (
  cond t1
   (ai (whileM (σ := List Int) (ρ := Empty) (fun (s7 : List Int) =>
    cond (decide ((s7.length : Int) ≤ e.index))
     (ai (dT 8 s7 ([0] : List Int)) fun (x28 : List Int) =>
     some (.next x28))
     (some (.brk s7))) c0) fun fl7=>fl7.thenP fun (s7 : List Int) =>
   ai (
    cond c1
     (some true)
     (ai (arrI 8 c2 e.index) fun (x33 : Bool) =>
     cond x33
      (ai (aG s7 e.index) fun (x39 : Int) =>
      some (x39 != e.value.kind))
      (some false))) fun (t8 : Bool) =>
   ai (aG s7 e.index) fun (_ : Int) =>
   bf (s7.set e.index.toNat e.value.kind) fun (y9 : List Int) =>
   ai (arrI 8 c2 e.index) fun (_ : Bool) =>
   bf (c2.set e.index.toNat true) fun (y10 : List Bool) =>
   some (y9,t8,y10))
   (some (c0,c1,c2))) fun (t6 : List Int × Bool × List Bool) =>
 ai (aW (σ := List Int × Bool × List Bool) (ρ := Empty) (fun (_ : Nat) (x11 : LExpr) (s11 : List Int × Bool × List Bool) =>
  ai (rec108 x11 s11.1 s11.2.1 s11.2.2) fun x66 =>
  some (.next (x66.1,x66.2.1,x66.2.2))) 0 e.args (t6.1,t6.2.1,t6.2.2)) fun fl11=>fl11.thenP fun (s11 : List Int × Bool × List Bool) =>
 some (s11.1,s11.2.1,s11.2.2)
theorem nR (b_c0 : Nat) (g_c0 : OwnRef) (b_c1 : Nat) (b_c2 : Nat) (b_c3 : Nat) (rec108 : LExpr → (List Int) → Bool → (List Bool) → Option ((List Int) × Bool × (List Bool))) (hrec108 : ∀ bq0 gq0 bq1 bq2 bq3 a0 a1 a2 a3 r,rec108 a0 a1 a2 a3 = some r → PH Tryz.prog 108 [(.agg (nz a0)),(.box 1000 bq0 0),(.box 1001 bq1 0),(.box 1002 bq2 0),(.box 1003 bq3 0)] ⟨upd (upd (upd (upd (fun _=>none) 1003 (some ⟨bq3,[(.fn 108 [(.box 1000 bq0 0),(.box 1001 bq1 0),(.box 1002 bq2 0),(.box 1003 bq3 0)])]⟩)) 1002 (some ⟨bq2,(List.map aF a3)⟩)) 1001 (some ⟨bq1,[(aF a2)]⟩)) 1000 (some ⟨bq0,[(.own 1100 gq0 (a1.map bM).length)]⟩),upd (fun _=>none) 1100 (some ⟨gq0,3,(a1.map bM),true⟩)⟩ (fun u H=>∃ gz0,u = (.tup []) ∧ H = ⟨upd (upd (upd (upd (fun _=>none) 1003 (some ⟨bq3,[(.fn 108 [(.box 1000 bq0 0),(.box 1001 bq1 0),(.box 1002 bq2 0),(.box 1003 bq3 0)])]⟩)) 1002 (some ⟨bq2,(List.map aF r.2.2)⟩)) 1001 (some ⟨bq1,[(aF r.2.1)]⟩)) 1000 (some ⟨bq0,[(.own 1100 gz0 (r.1.map bM).length)]⟩),upd (fun _=>none) 1100 (some ⟨gz0,3,(r.1.map bM),true⟩)⟩)) (e : LExpr) (c0 : List Int) (c1 : Bool) (c2 : List Bool) (r : (List Int) × Bool × (List Bool)) (H : gT rec108 e c0 c1 c2 = some r) :
  PH Tryz.prog 108 [(.agg (nz e)),(.box 1000 b_c0 0),(.box 1001 b_c1 0),(.box 1002 b_c2 0),(.box 1003 b_c3 0)] ⟨upd (upd (upd (upd (fun _=>none) 1003 (some ⟨b_c3,[(.fn 108 [(.box 1000 b_c0 0),(.box 1001 b_c1 0),(.box 1002 b_c2 0),(.box 1003 b_c3 0)])]⟩)) 1002 (some ⟨b_c2,(List.map aF c2)⟩)) 1001 (some ⟨b_c1,[(aF c1)]⟩)) 1000 (some ⟨b_c0,[(.own 1100 g_c0 (c0.map bM).length)]⟩),upd (fun _=>none) 1100 (some ⟨g_c0,3,(c0.map bM),true⟩)⟩ (fun u H=>∃ gz0,u = (.tup []) ∧ H = ⟨upd (upd (upd (upd (fun _=>none) 1003 (some ⟨b_c3,[(.fn 108 [(.box 1000 b_c0 0),(.box 1001 b_c1 0),(.box 1002 b_c2 0),(.box 1003 b_c3 0)])]⟩)) 1002 (some ⟨b_c2,(List.map aF r.2.2)⟩)) 1001 (some ⟨b_c1,[(aF r.2.1)]⟩)) 1000 (some ⟨b_c0,[(.own 1100 gz0 (r.1.map bM).length)]⟩),upd (fun _=>none) 1100 (some ⟨gz0,3,(r.1.map bM),true⟩)⟩) := by
 unfold gT at H
 refine PH.aD Tryz.func108 Tryz.ntmps108 ?_
 refine ab (ac (aV ?_))
 refine af (ab (ab ?_))
 obtain ⟨fl1,H1,Hp1⟩ := bw H
 refine aY (τ := Bool) (γ := Unit) (fun t1 g1=>⟨68,upd (upd (upd (upd (upd (upd (fun _=>.any) 20 (aF t1)) 5 (.ptr [(ae e.kind),(.str e.name),(ae e.index),(ae e.value.kind),(ae e.value.int),(.str e.value.text),(.list 56 (e.args.map bg))])) 4 (.box 1003 b_c3 0)) 3 (.box 1002 b_c2 0)) 2 (.box 1001 b_c1 0)) 1 (.box 1000 b_c0 0),upd (upd (upd (upd (fun _=>none) 1003 (some ⟨b_c3,[(.fn 108 [(.box 1000 b_c0 0),(.box 1001 b_c1 0),(.box 1002 b_c2 0),(.box 1003 b_c3 0)])]⟩)) 1002 (some ⟨b_c2,(List.map aF c2)⟩)) 1001 (some ⟨b_c1,[(aF c1)]⟩)) 1000 (some ⟨b_c0,[(.own 1100 g_c0 (c0.map bM).length)]⟩),upd (fun _=>none) 1100 (some ⟨g_c0,3,(c0.map bM),true⟩)⟩) (fun t=>t = fl1) ?_ (fun t1 g1 hn1=>?_)
 ·have H := H1
  refine ac (al 4 tk rfl ?_)
  refine bF rfl rfl rfl H (fun H=>?_) (fun H=>?_)
  ·refine al 5 tk rfl ?_
   refine bF rfl rfl rfl H (fun H=>?_) (fun H=>?_)
   ·refine al 4 tk rfl (af ?_)
    subst H
    refine aQ (decide (e.index < (8 : Int))) () rfl (Gh.le (aa (aa (aa (aa (aa (aa aj)))))) (aA rfl (iR.r) (aA rfl (iR.r) (aA rfl (iR.r) (aA rfl (iR.r) ah)))) (ay ag))
   refine al 4 tk rfl (af ?_)
   subst H
   refine aQ false () rfl (Gh.le (aa (aa (aa (aa (aa (aa aj)))))) (aA rfl (iR.r) (aA rfl (iR.r) (aA rfl (iR.r) (aA rfl (iR.r) ah)))) (ay ag))
  refine al 9 tk rfl (af ?_)
  subst H
  refine aQ false () rfl (Gh.le (aa (aa (aa (aa (aa (aa aj)))))) (aA rfl (iR.r) (aA rfl (iR.r) (aA rfl (iR.r) (aA rfl (iR.r) ah)))) (ay ag))
 subst hn1
 have H := Hp1
 obtain ⟨fl6,H6,Hp6⟩ := ax H
 refine aY (τ := List Int × Bool × List Bool) (γ := OwnRef) (fun t6 g6=>⟨68,upd (upd (upd (upd (upd (fun _=>.any) 5 (.ptr [(ae e.kind),(.str e.name),(ae e.index),(ae e.value.kind),(ae e.value.int),(.str e.value.text),(.list 56 (e.args.map bg))])) 4 (.box 1003 b_c3 0)) 3 (.box 1002 b_c2 0)) 2 (.box 1001 b_c1 0)) 1 (.box 1000 b_c0 0),upd (upd (upd (upd (fun _=>none) 1003 (some ⟨b_c3,[(.fn 108 [(.box 1000 b_c0 0),(.box 1001 b_c1 0),(.box 1002 b_c2 0),(.box 1003 b_c3 0)])]⟩)) 1002 (some ⟨b_c2,(List.map aF t6.2.2)⟩)) 1001 (some ⟨b_c1,[(aF t6.2.1)]⟩)) 1000 (some ⟨b_c0,[(.own 1100 g6 (t6.1.map bM).length)]⟩),upd (fun _=>none) 1100 (some ⟨g6,3,(t6.1.map bM),true⟩)⟩) (fun t=>t = fl6) ?_ (fun t6 g6 hn6=>?_)
 ·have H := H6
  refine aP rfl H (fun H=>?_) (fun H=>?_)
  ·refine ab ?_
   obtain ⟨fl7,H7,Hp7⟩ := ax H
   refine aY (τ := List Int) (γ := OwnRef) (fun s7 g7=>⟨68,upd (upd (upd (upd (upd (fun _=>.any) 5 (.ptr [(ae e.kind),(.str e.name),(ae e.index),(ae e.value.kind),(ae e.value.int),(.str e.value.text),(.list 56 (e.args.map bg))])) 4 (.box 1003 b_c3 0)) 3 (.box 1002 b_c2 0)) 2 (.box 1001 b_c1 0)) 1 (.box 1000 b_c0 0),upd (upd (upd (upd (fun _=>none) 1003 (some ⟨b_c3,[(.fn 108 [(.box 1000 b_c0 0),(.box 1001 b_c1 0),(.box 1002 b_c2 0),(.box 1003 b_c3 0)])]⟩)) 1002 (some ⟨b_c2,(List.map aF c2)⟩)) 1001 (some ⟨b_c1,[(aF c1)]⟩)) 1000 (some ⟨b_c0,[(.own 1100 g7 (s7.map bM).length)]⟩),upd (fun _=>none) 1100 (some ⟨g7,3,(s7.map bM),true⟩)⟩) (fun t=>fl7 = .next t) ?_ (fun s7 g7 hn7=>?_)
   ·refine az ?_
    refine cA (fun s7 g7=>⟨68,upd (upd (upd (upd (upd (fun _=>.any) 5 (.ptr [(ae e.kind),(.str e.name),(ae e.index),(ae e.value.kind),(ae e.value.int),(.str e.value.text),(.list 56 (e.args.map bg))])) 4 (.box 1003 b_c3 0)) 3 (.box 1002 b_c2 0)) 2 (.box 1001 b_c1 0)) 1 (.box 1000 b_c0 0),upd (upd (upd (upd (fun _=>none) 1003 (some ⟨b_c3,[(.fn 108 [(.box 1000 b_c0 0),(.box 1001 b_c1 0),(.box 1002 b_c2 0),(.box 1003 b_c3 0)])]⟩)) 1002 (some ⟨b_c2,(List.map aF c2)⟩)) 1001 (some ⟨b_c1,[(aF c1)]⟩)) 1000 (some ⟨b_c0,[(.own 1100 g7 (s7.map bM).length)]⟩),upd (fun _=>none) 1100 (some ⟨g7,3,(s7.map bM),true⟩)⟩) g_c0 H7 (Gh.le (aa (aa (aa (aa (aa aj))))) (aA rfl (iR.r) (aA rfl (iR.r) (aA rfl (iR.r) (aA rfl (iR.r) ah)))) (ay ag)) (fun m7 s7 g7 hr7=>?_)
    obtain ⟨fb7,H,hg7⟩ := bZ hr7
    refine ab (ab (ac (aT tk ?_)))
    refine ip tk (zl _) ?_
    refine al 3 tk rfl (af ?_)
    refine aP rfl H (fun H=>?_) (fun H=>?_)
    ·refine av (az (ac (aT tk ?_)))
     refine cQ tk (rows' := List.map bM ([0] : List Int)) (kj.refl _) ?_
     obtain ⟨x28,h28,H⟩ := ax H
     have k28 := cY h28
     refine cZ (rows2' := List.map bM ([0] : List Int)) (rows' := List.map bM x28) tk rfl rfl rfl rfl rfl rfl rfl rfl rfl rfl rfl rfl rfl (kj.refl _) (et k28.1) (ew k28.2.1) (ez k28.2.2) fun g28=>?_
     refine aE tk ?_
     refine af (aR ?_)
     obtain rfl := am H
     refine aK x28 g28 hg7 (Gh.le (aa (aa (aa (aa (aa aj))))) (aA rfl (iR.r) (aA rfl (iR.r) (aA rfl (iR.r) (aA rfl (iR.r) ah)))) (ay ag))
    refine aO rfl ?_
    obtain rfl := am H
    refine aQ s7 g7 hg7 (Gh.le (aa (aa (aa (aa (aa aj))))) (aA rfl (iR.r) (aA rfl (iR.r) (aA rfl (iR.r) (aA rfl (iR.r) ah)))) (ay ag))
   have H := bn hn7 Hp7
   refine ab ?_
   obtain ⟨fl8,H8,Hp8⟩ := ax H
   refine aY (τ := Bool) (γ := Unit) (fun t8 g8=>⟨68,upd (upd (upd (upd (upd (fun _=>.any) 5 (.ptr [(ae e.kind),(.str e.name),(ae e.index),(ae e.value.kind),(ae e.value.int),(.str e.value.text),(.list 56 (e.args.map bg))])) 4 (.box 1003 b_c3 0)) 3 (.box 1002 b_c2 0)) 2 (.box 1001 b_c1 0)) 1 (.box 1000 b_c0 0),upd (upd (upd (upd (fun _=>none) 1003 (some ⟨b_c3,[(.fn 108 [(.box 1000 b_c0 0),(.box 1001 b_c1 0),(.box 1002 b_c2 0),(.box 1003 b_c3 0)])]⟩)) 1002 (some ⟨b_c2,(List.map aF c2)⟩)) 1001 (some ⟨b_c1,[(aF t8)]⟩)) 1000 (some ⟨b_c0,[(.own 1100 g7 (s7.map bM).length)]⟩),upd (fun _=>none) 1100 (some ⟨g7,3,(s7.map bM),true⟩)⟩) (fun t=>t = fl8) ?_ (fun t8 g8 hn8=>?_)
   ·have H := H8
    refine cK (tag := 1100) rfl (fun ho1100=>?_)
    refine bo tk mok ⟨true,true,[32,38,43]⟩ [0,1,2,3,4,5,6,7,8,9,10,11,12,13,14,15,16,17,18] rfl (by decide +kernel) rfl (cC ?_)
    refine cq rfl ?_
    refine ik H (fun H=>?_) (fun H=>?_)
    ·refine aL 16 rfl (ec ?_)
     refine bh ?_
     obtain rfl := am H
     refine aQ true () rfl (Gh.le (aa (aa (aa (aa (aa aj))))) (aA rfl (iR.r) (aA rfl (iR.r) (aA rfl (iR.r) (aA rfl (iR.r) ah)))) (ay ag))
    refine aL 2 rfl ?_
    obtain ⟨x33,h33,H⟩ := ax H
    have k33 := arrI_some h33
    refine sG rfl rfl rfl rfl rfl rfl rfl rfl rfl k33.1 rfl ?_
    refine te rfl rfl rfl rfl rfl rfl rfl rfl (by rw [List.getElem?_map,k33.2]; rfl) rfl ?_
    refine cq rfl ?_
    refine ik H (fun H=>?_) (fun H=>?_)
    ·refine cC ?_
     refine aL 2 rfl ?_
     obtain ⟨x39,k39,H⟩ := aX H
     refine aS tk ⟨k39.1,(bl k39.2)⟩ (bi ho1100 k39.2) ?_
     refine bd tk (aI (fun _=>rfl) k39.2) ?_
     refine aL 6 rfl (ec ?_)
     refine bh ?_
     obtain rfl := am H
     refine aQ (x39 != e.value.kind) () rfl (Gh.le (aa (aa (aa (aa (aa aj))))) (aA rfl (iR.r) (aA rfl (iR.r) (aA rfl (iR.r) (aA rfl (iR.r) ah)))) (ay ag))
    refine aL 11 rfl (ec ?_)
    refine bh ?_
    obtain rfl := am H
    refine aQ false () rfl (Gh.le (aa (aa (aa (aa (aa aj))))) (aA rfl (iR.r) (aA rfl (iR.r) (aA rfl (iR.r) (aA rfl (iR.r) ah)))) (ay ag))
   subst hn8
   have H := Hp8
   refine cK (tag := 1100) rfl (fun ho1100=>?_)
   refine bo tk mok ⟨true,false,[49,51,54]⟩ [0,1,2,3,4,5,6,7,8,9,10,11] rfl (by decide +kernel) rfl (cC ?_)
   refine aL 7 rfl ?_
   obtain ⟨x55,k55,H⟩ := aX H
   refine aS tk ⟨k55.1,(bl k55.2)⟩ (bi ho1100 k55.2) ?_
   obtain ⟨y9,hy9,H⟩ := bw H
   refine cg tk rfl rfl rfl rfl rfl rfl rfl rfl rfl (by rw [zl]; exact (zg.1 k55.2).1) (PLe.refl _ _) rfl rfl rfl rfl (by decide) (bG (fun _=>rfl) k55.2 rfl hy9) ?_
   obtain ⟨x56,h56,H⟩ := ax H
   have k56 := arrI_some h56
   refine sG rfl rfl rfl rfl rfl rfl rfl rfl rfl k56.1 rfl ?_
   obtain ⟨y10,hy10,H⟩ := bw H
   refine sO rfl rfl rfl rfl rfl rfl rfl rfl rfl rfl (by rw [zl]; exact (zg.1 k56.2).1) (splice_map aF _ _ _ (zg.1 k56.2).1 hy10) ?_
   refine bh ?_
   obtain rfl := am H
   refine aQ (y9,t8,y10) g7 rfl (Gh.le (aa (aa (aa (aa (aa aj))))) (aA rfl (iR.of2 (iG.cons (PLe2.of_eq (congrArg (PV.own 1100 g7) (bq (f := bM) hy9))) iG.nil)) (aA rfl (iR.r) (aA rfl (iR.r) (aA rfl (iR.r) ah)))) (ay ag))
  refine av ?_
  obtain rfl := am H
  refine aQ (c0,c1,c2) g_c0 rfl (Gh.le (aa (aa (aa (aa (aa aj))))) (aA rfl (iR.r) (aA rfl (iR.r) (aA rfl (iR.r) (aA rfl (iR.r) ah)))) (ay ag))
 subst hn6
 have H := Hp6
 refine ab (ac (al 2 tk rfl (aN tk (zl _) ?_)))
 refine ao tk rfl (af ?_)
 obtain ⟨fl11,H11,Hp11⟩ := ax H
 refine bP tk 58 rfl rfl (fun hz11 _=>?_)
 rw [zl] at hz11
 refine aY (τ := List Int × Bool × List Bool) (γ := OwnRef) (fun s11 g11=>⟨68,upd (upd (upd (upd (fun _=>.any) 4 (.box 1003 b_c3 0)) 3 (.box 1002 b_c2 0)) 2 (.box 1001 b_c1 0)) 1 (.box 1000 b_c0 0),upd (upd (upd (upd (fun _=>none) 1003 (some ⟨b_c3,[(.fn 108 [(.box 1000 b_c0 0),(.box 1001 b_c1 0),(.box 1002 b_c2 0),(.box 1003 b_c3 0)])]⟩)) 1002 (some ⟨b_c2,(List.map aF s11.2.2)⟩)) 1001 (some ⟨b_c1,[(aF s11.2.1)]⟩)) 1000 (some ⟨b_c0,[(.own 1100 g11 (s11.1.map bM).length)]⟩),upd (fun _=>none) 1100 (some ⟨g11,3,(s11.1.map bM),true⟩)⟩) (fun t=>fl11 = .next t) ?_ (fun s11 g11 hn11=>?_)
 ·refine az ?_
  refine bC (fun j11 s11 g11=>⟨68,upd (upd (upd (upd (upd (upd (upd (fun _=>.any) 60 (ae (j11 : Int))) 59 (ae (e.args.length : Int))) 58 (.list 56 (e.args.map bg))) 4 (.box 1003 b_c3 0)) 3 (.box 1002 b_c2 0)) 2 (.box 1001 b_c1 0)) 1 (.box 1000 b_c0 0),upd (upd (upd (upd (fun _=>none) 1003 (some ⟨b_c3,[(.fn 108 [(.box 1000 b_c0 0),(.box 1001 b_c1 0),(.box 1002 b_c2 0),(.box 1003 b_c3 0)])]⟩)) 1002 (some ⟨b_c2,(List.map aF s11.2.2)⟩)) 1001 (some ⟨b_c1,[(aF s11.2.1)]⟩)) 1000 (some ⟨b_c0,[(.own 1100 g11 (s11.1.map bM).length)]⟩),upd (fun _=>none) 1100 (some ⟨g11,3,(s11.1.map bM),true⟩)⟩) g6 H11 (Gh.le (aa (aa (aa (aa (aa (aa (aa aj))))))) (aA rfl (iR.r) (aA rfl (iR.r) (aA rfl (iR.r) (aA rfl (iR.r) ah)))) (ay ag)) (fun j11 s11 g11 hj11 hr11=>?_)
  refine aw 1 tk rfl (ab ?_)
  refine aZ rfl (fun h=>?_) (fun h=>?_)
  ·have hl11 := co h
   obtain ⟨x11,fb11,hx11,H,hg11⟩ := rMc hl11 hr11
   refine av (ab (az (ab (ac (bs tk (zn j11) (bO eT hx11) ?_)))))
   refine ao tk rfl ?_
   refine bu tk fun b7=>?_
   refine aE tk ?_
   refine af (ac (aT tk ?_))
   refine aT tk ?_
   obtain ⟨x66,h66,H⟩ := ax H
   have s66 := hrec108 b_c0 g11 b_c1 b_c2 b_c3 x11 s11.1 s11.2.1 s11.2.2 _ h66
   refine cw (st' := ⟨_,_,upd (upd (upd (upd (upd (fun _=>none) 1003 (some ⟨b_c3,[(.fn 108 [(.box 1000 b_c0 0),(.box 1001 b_c1 0),(.box 1002 b_c2 0),(.box 1003 b_c3 0)])]⟩)) 1002 (some ⟨b_c2,(List.map aF s11.2.2)⟩)) 1001 (some ⟨b_c1,[(aF s11.2.1)]⟩)) 1000 (some ⟨b_c0,[(.own 1100 g11 (s11.1.map bM).length)]⟩)) 7 (some ⟨b7,[(ae x11.kind),(.str x11.name),(ae x11.index),(ae x11.value.kind),(ae x11.value.int),(.str x11.value.text),(.list 56 (x11.args.map bg))]⟩),upd (fun _=>none) 1100 (some ⟨g11,3,(s11.1.map bM),true⟩)⟩) (Gh.le (bQ _ _) (aA rfl (iR.r) (aA rfl (iR.of2 (iG.cons (PLe2.own rfl) iG.nil)) (aA rfl (iR.r) (aA rfl (iR.r) (aA rfl (iR.of2 (iG.cons (PLe2.fn (iG.cons PLe2.boxT (iG.cons PLe2.boxT (iG.cons PLe2.boxT (iG.cons PLe2.boxT iG.nil))))) iG.nil)) ah))))) (ay ag)) ?_
   refine ci (g := 108) rfl rfl rfl Tryz.call108 [(1000,1000),(1001,1001),(1002,1002),(1003,1003)] [(1100,1100)] rfl rfl rfl rfl (iR.of2 (iG.cons (PLe2.of_eq rfl) (iG.cons PLe2.boxT (iG.cons PLe2.boxT (iG.cons PLe2.boxT (iG.cons PLe2.boxT iG.nil)))))) (by rw [dp,dp,dp,dp,bS,bJ,bR]; rfl) s66 ?_
   rintro u66 H66h ⟨gz66_0,rfl,rfl⟩
   refine ⟨_,rfl,?_⟩
   refine cw (st' := ⟨_,_,upd (upd (upd (upd (upd (fun _=>none) 1003 (some ⟨b_c3,[(.fn 108 [(.box 1000 b_c0 0),(.box 1001 b_c1 0),(.box 1002 b_c2 0),(.box 1003 b_c3 0)])]⟩)) 1002 (some ⟨b_c2,(List.map aF x66.2.2)⟩)) 1001 (some ⟨b_c1,[(aF x66.2.1)]⟩)) 1000 (some ⟨b_c0,[(.own 1100 gz66_0 (x66.1.map bM).length)]⟩)) 7 (some ⟨b7,[(ae x11.kind),(.str x11.name),(ae x11.index),(ae x11.value.kind),(ae x11.value.int),(.str x11.value.text),(.list 56 (x11.args.map bg))]⟩),upd (fun _=>none) 1100 (some ⟨gz66_0,3,(x66.1.map bM),true⟩)⟩) (Gh.le (bQ _ _) (aA rfl (iR.r) (aA rfl (iR.of2 (iG.cons (PLe2.own rfl) iG.nil)) (aA rfl (iR.r) (aA rfl (iR.r) (aA rfl (iR.of2 (iG.cons (PLe2.fn (iG.cons PLe2.boxT (iG.cons PLe2.boxT (iG.cons PLe2.boxT (iG.cons PLe2.boxT iG.nil))))) iG.nil)) ah))))) (ay ag)) ?_
   refine af (aR (bm 2 tk rfl ?_))
   obtain rfl := am H
   refine aK (x66.1,x66.2.1,x66.2.2) gz66_0 ⟨hl11,hg11⟩ (Gh.le (aa (aa (aa (aa (aa (aa (aH (PLe.q (aU (by omega))) aj))))))) (aA rfl (iR.r) (aA rfl (iR.r) (aA rfl (iR.r) (aA rfl (iR.r) ah)))) (ay ag))
  have hn11 := rMd (cp h) hr11
  refine aO rfl ?_
  refine aQ s11 g11 hn11 (Gh.le (aa (aa (aa (aa aj)))) (aA rfl (iR.r) (aA rfl (iR.r) (aA rfl (iR.r) (aA rfl (iR.r) ah)))) (ay ag))
 have H := bn hn11 Hp11
 obtain rfl := am H
 refine dq (st' := ⟨68,fun _=>.any,upd (upd (upd (upd (fun _=>none) 1003 (some ⟨b_c3,[(.fn 108 [(.box 1000 b_c0 0),(.box 1001 b_c1 0),(.box 1002 b_c2 0),(.box 1003 b_c3 0)])]⟩)) 1002 (some ⟨b_c2,(List.map aF s11.2.2)⟩)) 1001 (some ⟨b_c1,[(aF s11.2.1)]⟩)) 1000 (some ⟨b_c0,[(.own 1100 g11 (s11.1.map bM).length)]⟩),upd (fun _=>none) 1100 (some ⟨g11,3,(s11.1.map bM),true⟩)⟩) (Gh.le aj (aA rfl (iR.of2 (iG.cons (PLe2.own rfl) iG.nil)) (aA rfl (iR.r) (aA rfl (iR.r) (aA rfl (iR.r) ah)))) (ay ag)) ?_
 refine iy rfl (PLe.q rfl) ⟨_,rfl,rfl⟩
def dG : Nat → LExpr → (List Int) → Bool → (List Bool) → Option ((List Int) × Bool × (List Bool))
 | 0,_,_,_,_=>none
 | n + 1,v0,v1,v2,v3=>gT (fun b0 b1 b2 b3=>dG n b0 b1 b2 b3) v0 v1 v2 v3
theorem nA  (n : Nat) : (∀ bq0 gq0 bq1 bq2 bq3 a0 a1 a2 a3 r,dG n a0 a1 a2 a3 = some r → PH Tryz.prog 108 [(.agg (nz a0)),(.box 1000 bq0 0),(.box 1001 bq1 0),(.box 1002 bq2 0),(.box 1003 bq3 0)] ⟨upd (upd (upd (upd (fun _=>none) 1003 (some ⟨bq3,[(.fn 108 [(.box 1000 bq0 0),(.box 1001 bq1 0),(.box 1002 bq2 0),(.box 1003 bq3 0)])]⟩)) 1002 (some ⟨bq2,(List.map aF a3)⟩)) 1001 (some ⟨bq1,[(aF a2)]⟩)) 1000 (some ⟨bq0,[(.own 1100 gq0 (a1.map bM).length)]⟩),upd (fun _=>none) 1100 (some ⟨gq0,3,(a1.map bM),true⟩)⟩ (fun u H=>∃ gz0,u = (.tup []) ∧ H = ⟨upd (upd (upd (upd (fun _=>none) 1003 (some ⟨bq3,[(.fn 108 [(.box 1000 bq0 0),(.box 1001 bq1 0),(.box 1002 bq2 0),(.box 1003 bq3 0)])]⟩)) 1002 (some ⟨bq2,(List.map aF r.2.2)⟩)) 1001 (some ⟨bq1,[(aF r.2.1)]⟩)) 1000 (some ⟨bq0,[(.own 1100 gz0 (r.1.map bM).length)]⟩),upd (fun _=>none) 1100 (some ⟨gz0,3,(r.1.map bM),true⟩)⟩)) := by
 induction n with
 | zero=>exact (by intros; rename_i h; exact absurd (show (none : Option _) = some _ from h) (by simp))
 | succ n ih =>
  exact (fun bq0 gq0 bq1 bq2 bq3 v0 v1 v2 v3 r h=>nR bq0 gq0 bq1 bq2 bq3 (fun b0 b1 b2 b3=>dG n b0 b1 b2 b3) ih v0 v1 v2 v3  r h)
def fQ (e : LExpr) (c0 : List Int) (c1 : Bool) (c2 : List Bool) : Option ((List Int) × Bool × (List Bool)) := iY fun n=>dG n e c0 c1 c2
theorem kR (b_c0 : Nat) (g_c0 : OwnRef) (b_c1 : Nat) (b_c2 : Nat) (b_c3 : Nat) (e : LExpr) (c0 : List Int) (c1 : Bool) (c2 : List Bool) (r : (List Int) × Bool × (List Bool)) (H : fQ e c0 c1 c2 = some r) :
  PH Tryz.prog 108 [(.agg (nz e)),(.box 1000 b_c0 0),(.box 1001 b_c1 0),(.box 1002 b_c2 0),(.box 1003 b_c3 0)] ⟨upd (upd (upd (upd (fun _=>none) 1003 (some ⟨b_c3,[(.fn 108 [(.box 1000 b_c0 0),(.box 1001 b_c1 0),(.box 1002 b_c2 0),(.box 1003 b_c3 0)])]⟩)) 1002 (some ⟨b_c2,(List.map aF c2)⟩)) 1001 (some ⟨b_c1,[(aF c1)]⟩)) 1000 (some ⟨b_c0,[(.own 1100 g_c0 (c0.map bM).length)]⟩),upd (fun _=>none) 1100 (some ⟨g_c0,3,(c0.map bM),true⟩)⟩ (fun u H=>∃ gz0,u = (.tup []) ∧ H = ⟨upd (upd (upd (upd (fun _=>none) 1003 (some ⟨b_c3,[(.fn 108 [(.box 1000 b_c0 0),(.box 1001 b_c1 0),(.box 1002 b_c2 0),(.box 1003 b_c3 0)])]⟩)) 1002 (some ⟨b_c2,(List.map aF r.2.2)⟩)) 1001 (some ⟨b_c1,[(aF r.2.1)]⟩)) 1000 (some ⟨b_c0,[(.own 1100 gz0 (r.1.map bM).length)]⟩),upd (fun _=>none) 1100 (some ⟨gz0,3,(r.1.map bM),true⟩)⟩) := by
 obtain ⟨n,h⟩ := jG H
 exact (nA  n) b_c0 g_c0 b_c1 b_c2 b_c3 e c0 c1 c2 r h
def hZ (sA : List Int) (v : Int) : Option (Int) :=
 ai (aW (σ := Unit) (ρ := (Int)) (fun (j1 : Nat) (x1 : Int) (_ : Unit) =>
  cond (v == x1)
   (some (.ret (j1 : Int)))
   (some (.next ()))) 0 sA ()) fun fl1=>fl1.thenR fun (_ : Unit) =>
 some (-1)
theorem oL (sA : List Int) (v : Int) (r : Int) (H : hZ sA v = some r) :
  bc Tryz.prog 179 [(.list 3 (sA.map bM)),(ae v)] (ae r) := by
 unfold hZ at H
 refine PH.aD Tryz.func179 Tryz.ntmps179 ?_
 refine aw 1 tk rfl (ab (ab (ac (ao tk rfl (aN tk (zl _) ?_)))))
 refine ao tk rfl (af ?_)
 obtain ⟨fl1,H1,Hp1⟩ := ax H
 refine bP tk 0 rfl rfl (fun hz1 _=>?_)
 rw [zl] at hz1
 refine aY (τ := Unit) (γ := Unit) (fun s1 g1=>⟨19,fun _=>.any,fun _=>none,fun _=>none⟩) (fun t=>fl1 = .next t) ?_ (fun s1 g1 hn1=>?_)
 ·refine az ?_
  refine bC (fun j1 s1 g1=>⟨19,upd (upd (upd (upd (fun _=>.any) 8 (ae (j1 : Int))) 7 (ae (sA.length : Int))) 1 (ae v)) 0 (.list 3 (sA.map bM)),fun _=>none,fun _=>none⟩) () H1 (Gh.le (aa (aa (aa (aa aj)))) ah ag) (fun j1 s1 g1 hj1 hr1=>?_)
  refine aw 1 tk rfl (ab ?_)
  refine aZ rfl (fun h=>?_) (fun h=>?_)
  ·have hl1 := co h
   obtain ⟨x1,fb1,hx1,H,hg1⟩ := rMc hl1 hr1
   refine av (ab (az (aw 2 tk rfl (ab (ac (al 3 tk rfl ?_))))))
   refine bs tk (zn j1) (bO (fun _=>rfl) hx1) ?_
   refine al 2 tk rfl (af ?_)
   refine aP rfl H (fun H=>?_) (fun H=>?_)
   ·refine aw 2 tk rfl ?_
    obtain rfl := am H
    have e1 : fl1 = .ret _ := hg1
    subst e1
    obtain rfl := bp Hp1
    refine aC tk rfl (ps := [(ae (j1 : Int))]) ⟨_,_,rfl,rfl,rfl⟩ (PLe.q rfl)
   refine av (aR (bm 2 tk rfl ?_))
   obtain rfl := am H
   refine aK () () ⟨hl1,hg1⟩ (Gh.le (aa (aa (aa (aH (PLe.q (aU (by omega))) aj)))) ah ag)
  have hn1 := rMd (cp h) hr1
  refine aO rfl ?_
  refine aQ s1 g1 hn1 (Gh.le aj ah ag)
 have H := cl hn1 Hp1
 refine aw 1 tk rfl ?_
 obtain rfl := am H
 refine aC tk rfl (ps := [(ae (-1))]) ⟨_,_,rfl,rfl,rfl⟩ (PLe.q rfl)
def eU (t : LTable) (c0 : LQuery) : Bool :=
 (t.name == c0.table)
theorem pL (t : LTable) (c0 : LQuery) :
  bc Tryz.prog 154 [(.agg (bv t)),(.ptr (bE c0))] (aF (eU t c0)) := by
 obtain ⟨r,H⟩ : ∃ r,eU t c0 = r := ⟨_,rfl⟩
 rw [H]
 unfold eU at H
 refine PH.aD Tryz.func154 Tryz.ntmps154 ?_
 refine ab (ac (aV ?_))
 refine ao tk rfl (af (aw 6 tk rfl ?_))
 subst H
 refine aC tk rfl (ps := [(aF (t.name == c0.table))]) ⟨_,_,rfl,rfl,rfl⟩ (PLe.q rfl)
def dk (sA : List LTable) (f : LTable → Option (Bool)) : Option (Int) :=
 ai (aW (σ := Unit) (ρ := (Int)) (fun (j1 : Nat) (x1 : LTable) (_ : Unit) =>
  ai (f x1) fun x16 =>
  cond x16
   (some (.ret (j1 : Int)))
   (some (.next ()))) 0 sA ()) fun fl1=>fl1.thenR fun (_ : Unit) =>
 some (-1)
theorem gW {g_f : FuncId} {caps_f : List PV} (sA : List LTable) (f : LTable → Option (Bool)) (hg_f : ∀ (vs : Array Value) (w : World),(callFunc g_f vs).run Tryz.prog w = .ok (.enter g_f vs) w) (hp_f : ∀ a0 r,f a0 = some r → bc Tryz.prog g_f ((.agg (bv a0)) :: caps_f) (aF r)) (r : Int) (H : dk sA f = some r) :
  bc Tryz.prog 153 [(.list 91 (sA.map bv)),(.fn g_f caps_f)] (ae r) := by
 unfold dk at H
 refine PH.aD Tryz.func153 Tryz.ntmps153 ?_
 refine aw 1 tk rfl (ab (ab (ac (ao tk rfl (aN tk (zl _) ?_)))))
 refine ao tk rfl (af ?_)
 obtain ⟨fl1,H1,Hp1⟩ := ax H
 refine bP tk 0 rfl rfl (fun hz1 _=>?_)
 rw [zl] at hz1
 refine aY (τ := Unit) (γ := Unit) (fun s1 g1=>⟨19,fun _=>.any,fun _=>none,fun _=>none⟩) (fun t=>fl1 = .next t) ?_ (fun s1 g1 hn1=>?_)
 ·refine az ?_
  refine bC (fun j1 s1 g1=>⟨19,upd (upd (upd (upd (fun _=>.any) 8 (ae (j1 : Int))) 7 (ae (sA.length : Int))) 1 (.fn g_f caps_f)) 0 (.list 91 (sA.map bv)),fun _=>none,fun _=>none⟩) () H1 (Gh.le (aa (aa (aa (aa aj)))) ah ag) (fun j1 s1 g1 hj1 hr1=>?_)
  refine aw 1 tk rfl (ab ?_)
  refine aZ rfl (fun h=>?_) (fun h=>?_)
  ·have hl1 := co h
   obtain ⟨x1,fb1,hx1,H,hg1⟩ := rMc hl1 hr1
   refine av (ab (az (aw 2 tk rfl (ab (ac (al 3 tk rfl ?_))))))
   refine bs tk (zn j1) (bO (fun _=>rfl) hx1) ?_
   refine ao tk rfl ?_
   obtain ⟨x16,h16,H⟩ := ax H
   refine aq hg_f (iR.r) (hp_f _ _ h16) ?_
   refine af ?_
   refine aP rfl H (fun H=>?_) (fun H=>?_)
   ·refine aw 2 tk rfl ?_
    obtain rfl := am H
    have e1 : fl1 = .ret _ := hg1
    subst e1
    obtain rfl := bp Hp1
    refine aC tk rfl (ps := [(ae (j1 : Int))]) ⟨_,_,rfl,rfl,rfl⟩ (PLe.q rfl)
   refine av (aR (bm 2 tk rfl ?_))
   obtain rfl := am H
   refine aK () () ⟨hl1,hg1⟩ (Gh.le (aa (aa (aa (aH (PLe.q (aU (by omega))) aj)))) ah ag)
  have hn1 := rMd (cp h) hr1
  refine aO rfl ?_
  refine aQ s1 g1 hn1 (Gh.le aj ah ag)
 have H := cl hn1 Hp1
 refine aw 1 tk rfl ?_
 obtain rfl := am H
 refine aC tk rfl (ps := [(ae (-1))]) ⟨_,_,rfl,rfl,rfl⟩ (PLe.q rfl)
theorem pf {m : Nat} (xs : List LCol) : iU Tryz.prog 155 [.list 50 (xs.map aJ)] (lh m 50 (xs.map aJ)) := by
 refine PH.aD Tryz.func155 Tryz.ntmps155 ?_
 refine bP tk 0 rfl rfl (fun hz hb=>?_)
 refine aw 1 tk rfl (ab (ab (ac (ao tk rfl ?_))))
 refine rX tk rfl rfl rfl rfl rfl rfl rfl (fun b hn=>?_)
 refine af ?_
 refine aZ rfl (fun h=>?_) (fun h=>?_)
 ·refine aw 1 tk rfl (ic tk 2 902 (e := 50) rfl rfl ?_)
  refine jX tk (hn h).symm
 ·refine av (ab (ac ?_))
  refine pK (rows' := []) tk rfl rfl rfl rfl rfl rfl rfl rfl rfl (iG.refl _) fun g=>?_
  refine ao tk rfl ?_
  refine cZ (rows2' := xs.map aJ) (rows' := xs.map aJ) tk rfl rfl rfl rfl rfl rfl rfl rfl rfl rfl rfl rfl rfl (kj.refl _) (by simpa using hb) (by simpa using hz) rfl fun g'=>?_
  refine ao tk rfl (af ?_)
  refine jX tk rfl
def dc (sA : List LCol) (f : LCol → Option (Bool)) : Option (Int) :=
 ai (aW (σ := Unit) (ρ := (Int)) (fun (j1 : Nat) (x1 : LCol) (_ : Unit) =>
  ai (f x1) fun x16 =>
  cond x16
   (some (.ret (j1 : Int)))
   (some (.next ()))) 0 sA ()) fun fl1=>fl1.thenR fun (_ : Unit) =>
 some (-1)
theorem gO {g_f : FuncId} {caps_f : List PV} (sA : List LCol) (f : LCol → Option (Bool)) (hg_f : ∀ (vs : Array Value) (w : World),(callFunc g_f vs).run Tryz.prog w = .ok (.enter g_f vs) w) (hp_f : ∀ a0 r,f a0 = some r → bc Tryz.prog g_f ((.agg (aJ a0)) :: caps_f) (aF r)) (r : Int) (H : dc sA f = some r) :
  bc Tryz.prog 43 [(.list 50 (sA.map aJ)),(.fn g_f caps_f)] (ae r) := by
 unfold dc at H
 refine PH.aD Tryz.func43 Tryz.ntmps43 ?_
 refine aw 1 tk rfl (ab (ab (ac (ao tk rfl (aN tk (zl _) ?_)))))
 refine ao tk rfl (af ?_)
 obtain ⟨fl1,H1,Hp1⟩ := ax H
 refine bP tk 0 rfl rfl (fun hz1 _=>?_)
 rw [zl] at hz1
 refine aY (τ := Unit) (γ := Unit) (fun s1 g1=>⟨19,fun _=>.any,fun _=>none,fun _=>none⟩) (fun t=>fl1 = .next t) ?_ (fun s1 g1 hn1=>?_)
 ·refine az ?_
  refine bC (fun j1 s1 g1=>⟨19,upd (upd (upd (upd (fun _=>.any) 8 (ae (j1 : Int))) 7 (ae (sA.length : Int))) 1 (.fn g_f caps_f)) 0 (.list 50 (sA.map aJ)),fun _=>none,fun _=>none⟩) () H1 (Gh.le (aa (aa (aa (aa aj)))) ah ag) (fun j1 s1 g1 hj1 hr1=>?_)
  refine aw 1 tk rfl (ab ?_)
  refine aZ rfl (fun h=>?_) (fun h=>?_)
  ·have hl1 := co h
   obtain ⟨x1,fb1,hx1,H,hg1⟩ := rMc hl1 hr1
   refine av (ab (az (aw 2 tk rfl (ab (ac (al 3 tk rfl ?_))))))
   refine bs tk (zn j1) (bO (fun _=>rfl) hx1) ?_
   refine ao tk rfl ?_
   obtain ⟨x16,h16,H⟩ := ax H
   refine aq hg_f (iR.r) (hp_f _ _ h16) ?_
   refine af ?_
   refine aP rfl H (fun H=>?_) (fun H=>?_)
   ·refine aw 2 tk rfl ?_
    obtain rfl := am H
    have e1 : fl1 = .ret _ := hg1
    subst e1
    obtain rfl := bp Hp1
    refine aC tk rfl (ps := [(ae (j1 : Int))]) ⟨_,_,rfl,rfl,rfl⟩ (PLe.q rfl)
   refine av (aR (bm 2 tk rfl ?_))
   obtain rfl := am H
   refine aK () () ⟨hl1,hg1⟩ (Gh.le (aa (aa (aa (aH (PLe.q (aU (by omega))) aj)))) ah ag)
  have hn1 := rMd (cp h) hr1
  refine aO rfl ?_
  refine aQ s1 g1 hn1 (Gh.le aj ah ag)
 have H := cl hn1 Hp1
 refine aw 1 tk rfl ?_
 obtain rfl := am H
 refine aC tk rfl (ps := [(ae (-1))]) ⟨_,_,rfl,rfl,rfl⟩ (PLe.q rfl)
def dV (sA : List (List UInt8)) (v : List UInt8) : Option (Int) :=
 ai (aW (σ := Unit) (ρ := (Int)) (fun (j1 : Nat) (x1 : List UInt8) (_ : Unit) =>
  cond (v == x1)
   (some (.ret (j1 : Int)))
   (some (.next ()))) 0 sA ()) fun fl1=>fl1.thenR fun (_ : Unit) =>
 some (-1)
theorem my (sA : List (List UInt8)) (v : List UInt8) (r : Int) (H : dV sA v = some r) :
  bc Tryz.prog 79 [(.list 9 (sA.map aB)),(.str v)] (ae r) := by
 unfold dV at H
 refine PH.aD Tryz.func79 Tryz.ntmps79 ?_
 refine aw 1 tk rfl (ab (ab (ac (ao tk rfl (aN tk (zl _) ?_)))))
 refine ao tk rfl (af ?_)
 obtain ⟨fl1,H1,Hp1⟩ := ax H
 refine bP tk 0 rfl rfl (fun hz1 _=>?_)
 rw [zl] at hz1
 refine aY (τ := Unit) (γ := Unit) (fun s1 g1=>⟨19,fun _=>.any,fun _=>none,fun _=>none⟩) (fun t=>fl1 = .next t) ?_ (fun s1 g1 hn1=>?_)
 ·refine az ?_
  refine bC (fun j1 s1 g1=>⟨19,upd (upd (upd (upd (fun _=>.any) 8 (ae (j1 : Int))) 7 (ae (sA.length : Int))) 1 (.str v)) 0 (.list 9 (sA.map aB)),fun _=>none,fun _=>none⟩) () H1 (Gh.le (aa (aa (aa (aa aj)))) ah ag) (fun j1 s1 g1 hj1 hr1=>?_)
  refine aw 1 tk rfl (ab ?_)
  refine aZ rfl (fun h=>?_) (fun h=>?_)
  ·have hl1 := co h
   obtain ⟨x1,fb1,hx1,H,hg1⟩ := rMc hl1 hr1
   refine av (ab (az (aw 2 tk rfl (ab (ac (al 3 tk rfl ?_))))))
   refine bs tk (zn j1) (bO (fun _=>rfl) hx1) ?_
   refine al 2 tk rfl (af ?_)
   refine aP rfl H (fun H=>?_) (fun H=>?_)
   ·refine aw 2 tk rfl ?_
    obtain rfl := am H
    have e1 : fl1 = .ret _ := hg1
    subst e1
    obtain rfl := bp Hp1
    refine aC tk rfl (ps := [(ae (j1 : Int))]) ⟨_,_,rfl,rfl,rfl⟩ (PLe.q rfl)
   refine av (aR (bm 2 tk rfl ?_))
   obtain rfl := am H
   refine aK () () ⟨hl1,hg1⟩ (Gh.le (aa (aa (aa (aH (PLe.q (aU (by omega))) aj)))) ah ag)
  have hn1 := rMd (cp h) hr1
  refine aO rfl ?_
  refine aQ s1 g1 hn1 (Gh.le aj ah ag)
 have H := cl hn1 Hp1
 refine aw 1 tk rfl ?_
 obtain rfl := am H
 refine aC tk rfl (ps := [(ae (-1))]) ⟨_,_,rfl,rfl,rfl⟩ (PLe.q rfl)
theorem lT (xs : List (List UInt8)) (v : (List UInt8)) : dV xs v = some (bt (fun x1=>(v == x1)) xs) := by
 unfold dV
 rw [mP (fun x1=>(v == x1)) (fun j _=>(j : Int)) xs 0 (fun k x hk=>by cases (v == x) <;> simp)]
 simp only [bt,Nat.zero_add]
 cases h : xs.findIdx? (fun x1=>(v == x1)) with
 | none=>rfl
 | some i =>
  obtain ⟨hi,_⟩ := List.findIdx?_eq_some_iff_getElem.1 h
  simp [hi]
def cL (y : LCol) (c0 : LCol) : Bool :=
 (y.name == c0.name)
theorem nI (y : LCol) (c0 : LCol) :
  bc Tryz.prog 113 [(.agg (aJ y)),(.ptr (aJ c0))] (aF (cL y c0)) := by
 obtain ⟨r,H⟩ : ∃ r,cL y c0 = r := ⟨_,rfl⟩
 rw [H]
 unfold cL at H
 refine PH.aD Tryz.func113 Tryz.ntmps113 ?_
 refine ab (ac (aV ?_))
 refine ao tk rfl (af (aw 6 tk rfl ?_))
 subst H
 refine aC tk rfl (ps := [(aF (y.name == c0.name))]) ⟨_,_,rfl,rfl,rfl⟩ (PLe.q rfl)
def dQ (v : LVal) : Int :=
 cond (v.kind == (0 : Int))
  (cond (v.int != (0 : Int))
   (3)
   (cond (!(v.text == ([] : List UInt8)))
    (3)
    (0)))
  (bf (
   cond (v.kind == (1 : Int))
    ((v.kind == (1 : Int)))
    ((v.kind == (2 : Int)))) fun (t1 : Bool) =>
  cond t1
   (cond (!(v.text == ([] : List UInt8)))
    (3)
    (cond (v.kind == (2 : Int))
     (cond (v.int != (0 : Int))
      (cond (v.int != (1 : Int))
       (1)
       (cond (decide (v.int < (-1000000000000)))
        (1)
        (cond (decide (v.int > (1000000000000 : Int)))
         (1)
         (0))))
      (cond (decide (v.int < (-1000000000000)))
       (1)
       (cond (decide (v.int > (1000000000000 : Int)))
        (1)
        (0))))
     (cond (decide (v.int < (-1000000000000)))
      (1)
      (cond (decide (v.int > (1000000000000 : Int)))
       (1)
       (0)))))
   (cond (v.kind == (3 : Int))
    (cond (v.int != (0 : Int))
     (3)
     (cond (decide ((v.text.length : Int) > (24 : Int)))
      (2)
      (0)))
    (7)))
theorem oG (v : LVal) :
  bc Tryz.prog 105 [(.agg (ak v))] (ae (dQ v)) := by
 obtain ⟨r,H⟩ : ∃ r,dQ v = r := ⟨_,rfl⟩
 rw [H]
 unfold dQ at H
 refine PH.aD Tryz.func105 Tryz.ntmps105 ?_
 refine ab (ac (aV ?_))
 refine ao tk rfl (af (ab (aw 2 tk rfl (az (aw 2 tk rfl ?_)))))
 refine aP rfl H (fun H=>?_) (fun H=>?_)
 ·refine ab (ac (al 4 tk rfl ?_))
  refine bF rfl rfl rfl H (fun H=>?_) (fun H=>?_)
  ·refine al 4 tk rfl (af (cu rfl (aw 1 tk rfl ?_)))
   subst H
   refine aC tk rfl (ps := [(ae 3)]) ⟨_,_,rfl,rfl,rfl⟩ (PLe.q rfl)
  refine al 4 tk rfl (af ?_)
  refine aP rfl H (fun H=>?_) (fun H=>?_)
  ·refine aw 1 tk rfl ?_
   subst H
   refine aC tk rfl (ps := [(ae 3)]) ⟨_,_,rfl,rfl,rfl⟩ (PLe.q rfl)
  refine av (aR (aw 1 tk rfl ?_))
  subst H
  refine aC tk rfl (ps := [(ae 0)]) ⟨_,_,rfl,rfl,rfl⟩ (PLe.q rfl)
 refine ab (aw 2 tk rfl ?_)
 obtain ⟨fl1,H1,Hp1⟩ := bw H
 refine aY (τ := Bool) (γ := Unit) (fun t1 g1=>⟨53,upd (upd (upd (fun _=>.any) 15 (aF t1)) 4 (ae v.kind)) 1 (.ptr [(ae v.kind),(ae v.int),(.str v.text)]),fun _=>none,fun _=>none⟩) (fun t=>t = fl1) ?_ (fun t1 g1 hn1=>?_)
 ·have H := H1
  refine aP rfl H (fun H=>?_) (fun H=>?_)
  ·refine av ?_
   subst H
   refine aQ (v.kind == (1 : Int)) () rfl (Gh.le (aa (aa (aa aj))) ah ag)
  refine bm 2 tk rfl ?_
  subst H
  refine aQ (v.kind == (2 : Int)) () rfl (Gh.le (aa (aa (aa aj))) ah ag)
 subst hn1
 have H := Hp1
 refine aP rfl H (fun H=>?_) (fun H=>?_)
 ·refine ab (aw 3 tk rfl ?_)
  refine aP rfl H (fun H=>?_) (fun H=>?_)
  ·refine aw 1 tk rfl ?_
   subst H
   refine aC tk rfl (ps := [(ae 3)]) ⟨_,_,rfl,rfl,rfl⟩ (PLe.q rfl)
  refine av (ab (ac (al 4 tk rfl ?_)))
  refine bF rfl rfl rfl H (fun H=>?_) (fun H=>?_)
  ·refine al 5 tk rfl ?_
   refine bF rfl rfl rfl H (fun H=>?_) (fun H=>?_)
   ·refine al 5 tk rfl ?_
    refine bF rfl rfl rfl H (fun H=>?_) (fun H=>?_)
    ·refine al 9 tk rfl (af (cu rfl (aw 1 tk rfl ?_)))
     subst H
     refine aC tk rfl (ps := [(ae 1)]) ⟨_,_,rfl,rfl,rfl⟩ (PLe.q rfl)
    refine al 5 tk rfl ?_
    refine bF rfl rfl rfl H (fun H=>?_) (fun H=>?_)
    ·refine al 4 tk rfl (af (cu rfl (aw 1 tk rfl ?_)))
     subst H
     refine aC tk rfl (ps := [(ae 1)]) ⟨_,_,rfl,rfl,rfl⟩ (PLe.q rfl)
    refine al 4 tk rfl (af ?_)
    refine aP rfl H (fun H=>?_) (fun H=>?_)
    ·refine aw 1 tk rfl ?_
     subst H
     refine aC tk rfl (ps := [(ae 1)]) ⟨_,_,rfl,rfl,rfl⟩ (PLe.q rfl)
    refine av (aR (aw 1 tk rfl ?_))
    subst H
    refine aC tk rfl (ps := [(ae 0)]) ⟨_,_,rfl,rfl,rfl⟩ (PLe.q rfl)
   refine al 10 tk rfl ?_
   refine bF rfl rfl rfl H (fun H=>?_) (fun H=>?_)
   ·refine al 4 tk rfl (af (cu rfl (aw 1 tk rfl ?_)))
    subst H
    refine aC tk rfl (ps := [(ae 1)]) ⟨_,_,rfl,rfl,rfl⟩ (PLe.q rfl)
   refine al 4 tk rfl (af ?_)
   refine aP rfl H (fun H=>?_) (fun H=>?_)
   ·refine aw 1 tk rfl ?_
    subst H
    refine aC tk rfl (ps := [(ae 1)]) ⟨_,_,rfl,rfl,rfl⟩ (PLe.q rfl)
   refine av (aR (aw 1 tk rfl ?_))
   subst H
   refine aC tk rfl (ps := [(ae 0)]) ⟨_,_,rfl,rfl,rfl⟩ (PLe.q rfl)
  refine al 15 tk rfl ?_
  refine bF rfl rfl rfl H (fun H=>?_) (fun H=>?_)
  ·refine al 4 tk rfl (af (cu rfl (aw 1 tk rfl ?_)))
   subst H
   refine aC tk rfl (ps := [(ae 1)]) ⟨_,_,rfl,rfl,rfl⟩ (PLe.q rfl)
  refine al 4 tk rfl (af ?_)
  refine aP rfl H (fun H=>?_) (fun H=>?_)
  ·refine aw 1 tk rfl ?_
   subst H
   refine aC tk rfl (ps := [(ae 1)]) ⟨_,_,rfl,rfl,rfl⟩ (PLe.q rfl)
  refine av (aR (aw 1 tk rfl ?_))
  subst H
  refine aC tk rfl (ps := [(ae 0)]) ⟨_,_,rfl,rfl,rfl⟩ (PLe.q rfl)
 refine aw 2 tk rfl ?_
 refine aP rfl H (fun H=>?_) (fun H=>?_)
 ·refine ab (aw 3 tk rfl ?_)
  refine aP rfl H (fun H=>?_) (fun H=>?_)
  ·refine aw 1 tk rfl ?_
   subst H
   refine aC tk rfl (ps := [(ae 3)]) ⟨_,_,rfl,rfl,rfl⟩ (PLe.q rfl)
  refine av (aw 4 tk rfl ?_)
  refine aP rfl H (fun H=>?_) (fun H=>?_)
  ·refine aw 1 tk rfl ?_
   subst H
   refine aC tk rfl (ps := [(ae 2)]) ⟨_,_,rfl,rfl,rfl⟩ (PLe.q rfl)
  refine av (aR (aw 1 tk rfl ?_))
  subst H
  refine aC tk rfl (ps := [(ae 0)]) ⟨_,_,rfl,rfl,rfl⟩ (PLe.q rfl)
 refine aw 1 tk rfl ?_
 subst H
 refine aC tk rfl (ps := [(ae 7)]) ⟨_,_,rfl,rfl,rfl⟩ (PLe.q rfl)
def eC (t : LTable) (row : Rq) : Option (Rq) :=
 ai (aW (σ := Rq) (ρ := Empty) (fun (_ : Nat) (x1 : Int) (s1 : Rq) =>
  bf (
   cond (decide (x1 ≥ (0 : Int)))
    ((decide (x1 < (row.length : Int))))
    (false)) fun (t6 : Bool) =>
  ai (
   cond t6
    (ai (aG row x1) fun (x27 : LVal) =>
    some x27)
    (some (LVal.mk 0 0 []))) fun (t7 : LVal) =>
  ai (dT 32 s1 ([t7] : Rq)) fun (x32 : Rq) =>
  some (.next x32)) 0 t.primaryKey []) fun fl1=>fl1.thenP fun (s1 : Rq) =>
 some s1
theorem pC (t : LTable) (row : Rq) (r : Rq) (H : eC t row = some r) :
  bc Tryz.prog 86 [(.agg (bv t)),(.list 53 (row.map ak))] (.list 53 (r.map ak)) := by
 unfold eC at H
 refine PH.aD Tryz.func86 Tryz.ntmps86 ?_
 refine ab (ac (aV ?_))
 refine ao tk rfl (af (aw 1 tk rfl (ab (ab (ac (al 2 tk rfl (aN tk (zl _) ?_)))))))
 refine ao tk rfl (af ?_)
 obtain ⟨fl1,H1,Hp1⟩ := ax H
 refine bP tk 10 rfl rfl (fun hz1 _=>?_)
 rw [zl] at hz1
 refine aY (τ := Rq) (γ := OwnRef) (fun s1 g1=>⟨35,upd (fun _=>.any) 5 (.own 32 g1 (s1.map ak).length),fun _=>none,upd (fun _=>none) 32 (some ⟨g1,53,(s1.map ak),true⟩)⟩) (fun t=>fl1 = .next t) ?_ (fun s1 g1 hn1=>?_)
 ·refine az (ic tk 5 32 (e := 53) rfl rfl ?_)
  refine bC (fun j1 s1 g1=>⟨35,upd (upd (upd (upd (upd (fun _=>.any) 12 (ae (j1 : Int))) 11 (ae (t.primaryKey.length : Int))) 10 (.list 3 (t.primaryKey.map bM))) 5 (.own 32 g1 (s1.map ak).length)) 1 (.list 53 (row.map ak)),fun _=>none,upd (fun _=>none) 32 (some ⟨g1,53,(s1.map ak),true⟩)⟩) (⟨none,0⟩) H1 (Gh.le (aa (aa (aa (aa (aa aj))))) ah (ay ag)) (fun j1 s1 g1 hj1 hr1=>?_)
  refine aw 1 tk rfl (ab ?_)
  refine aZ rfl (fun h=>?_) (fun h=>?_)
  ·have hl1 := co h
   obtain ⟨x1,fb1,hx1,H,hg1⟩ := rMc hl1 hr1
   refine av (ab (az (ab (ac ?_))))
   refine bs tk (zn j1) (bO (fun _=>rfl) hx1) ?_
   refine al 2 tk rfl (af (ab (ac (ao tk rfl ?_))))
   refine bu tk fun b8=>?_
   refine aE tk ?_
   refine af (ab (ab ?_))
   obtain ⟨fl6,H6,Hp6⟩ := bw H
   refine aY (τ := Bool) (γ := Unit) (fun t6 g6=>⟨35,upd (upd (upd (upd (upd (upd (upd (upd (fun _=>.any) 24 (aF t6)) 12 (ae (j1 : Int))) 11 (ae (t.primaryKey.length : Int))) 10 (.list 3 (t.primaryKey.map bM))) 8 (.box 8 b8 0)) 7 (ae x1)) 5 (.own 32 g1 (s1.map ak).length)) 1 (.list 53 (row.map ak)),upd (fun _=>none) 8 (some ⟨b8,[(ae 0),(ae 0),(.str [])]⟩),upd (fun _=>none) 32 (some ⟨g1,53,(s1.map ak),true⟩)⟩) (fun t=>t = fl6) ?_ (fun t6 g6 hn6=>?_)
   ·have H := H6
    refine ac (al 3 tk rfl ?_)
    refine bF rfl rfl rfl H (fun H=>?_) (fun H=>?_)
    ·refine al 2 tk rfl (aN tk (zl _) ?_)
     refine al 2 tk rfl (af ?_)
     subst H
     refine aQ (decide (x1 < (row.length : Int))) () rfl (Gh.le (aa (aa (aa (aa (aa (aa (aa (aa aj)))))))) (aA rfl (iR.r) ah) (ay ag))
    refine al 5 tk rfl (af ?_)
    subst H
    refine aQ false () rfl (Gh.le (aa (aa (aa (aa (aa (aa (aa (aa aj)))))))) (aA rfl (iR.r) ah) (ay ag))
   subst hn6
   have H := Hp6
   obtain ⟨fl7,H7,Hp7⟩ := ax H
   refine aY (τ := LVal) (γ := Unit) (fun t7 g7=>⟨35,upd (upd (upd (upd (upd (upd (fun _=>.any) 12 (ae (j1 : Int))) 11 (ae (t.primaryKey.length : Int))) 10 (.list 3 (t.primaryKey.map bM))) 8 (.box 8 b8 0)) 5 (.own 32 g1 (s1.map ak).length)) 1 (.list 53 (row.map ak)),upd (fun _=>none) 8 (some ⟨b8,[(ae t7.kind),(ae t7.int),(.str t7.text)]⟩),upd (fun _=>none) 32 (some ⟨g1,53,(s1.map ak),true⟩)⟩) (fun t=>t = fl7) ?_ (fun t7 g7 hn7=>?_)
   ·have H := H7
    refine aP rfl H (fun H=>?_) (fun H=>?_)
    ·refine ac (al 2 tk rfl ?_)
     obtain ⟨x27,k27,H⟩ := aX H
     refine bs tk k27.1 (aI (fun _=>rfl) k27.2) ?_
     refine ao tk rfl (aE tk ?_)
     refine af ?_
     obtain rfl := am H
     refine aQ x27 () rfl (Gh.le (aa (aa (aa (aa (aa (aa aj)))))) (aA rfl (iR.r) ah) (ay ag))
    refine av ?_
    obtain rfl := am H
    refine aQ (LVal.mk 0 0 []) () rfl (Gh.le (aa (aa (aa (aa (aa (aa aj)))))) (aA rfl (iR.r) ah) (ay ag))
   subst hn7
   have H := Hp7
   refine ac (ao tk rfl (aT tk ?_))
   refine cQ tk (rows' := List.map ak ([t7] : Rq)) (kj.refl _) ?_
   obtain ⟨x32,h32,H⟩ := ax H
   have k32 := cY h32
   refine cZ (rows2' := List.map ak ([t7] : Rq)) (rows' := List.map ak x32) tk rfl rfl rfl rfl rfl rfl rfl rfl rfl rfl rfl rfl rfl (kj.refl _) (et k32.1) (ew k32.2.1) (ez k32.2.2) fun g32=>?_
   refine ao tk rfl (af (aR (bm 2 tk rfl ?_)))
   obtain rfl := am H
   refine aK x32 g32 ⟨hl1,hg1⟩ (Gh.le (aa (aa (aa (aa (aH (PLe.q (aU (by omega))) aj))))) ah (ay ag))
  have hn1 := rMd (cp h) hr1
  refine aO rfl ?_
  refine aQ s1 g1 hn1 (Gh.le (aa aj) ah (ay ag))
 have H := bn hn1 Hp1
 refine aw 2 tk rfl ?_
 obtain rfl := am H
 refine dX 4 rfl rfl rfl ?_
 refine aC tk rfl (ps := [(.list 53 (s1.map ak))]) ⟨_,_,rfl,rfl,rfl⟩ (PLe.q rfl)
def gq (a : Int) (b : Int) : Int :=
 cond (decide (a < b))
  ((-1))
  (cond (decide (a > b))
   (1)
   (0))
theorem kC (a : Int) (b : Int) :
  bc Tryz.prog 107 [(ae a),(ae b)] (ae (gq a b)) := by
 obtain ⟨r,H⟩ : ∃ r,gq a b = r := ⟨_,rfl⟩
 rw [H]
 unfold gq at H
 refine PH.aD Tryz.func107 Tryz.ntmps107 ?_
 refine aw 1 tk rfl (ab (az (aw 4 tk rfl ?_)))
 refine aP rfl H (fun H=>?_) (fun H=>?_)
 ·refine aw 1 tk rfl ?_
  subst H
  refine aC tk rfl (ps := [(ae (-1))]) ⟨_,_,rfl,rfl,rfl⟩ (PLe.q rfl)
 refine aw 4 tk rfl ?_
 refine aP rfl H (fun H=>?_) (fun H=>?_)
 ·refine aw 1 tk rfl ?_
  subst H
  refine aC tk rfl (ps := [(ae 1)]) ⟨_,_,rfl,rfl,rfl⟩ (PLe.q rfl)
 refine av (aR (aw 1 tk rfl ?_))
 subst H
 refine aC tk rfl (ps := [(ae 0)]) ⟨_,_,rfl,rfl,rfl⟩ (PLe.q rfl)
def fv (a : List UInt8) (b : List UInt8) : Int :=
 (Lib.compareBytes a b)
theorem lG (a : List UInt8) (b : List UInt8) :
  bc Tryz.prog 178 [(.str a),(.str b)] (ae (fv a b)) := by
 obtain ⟨r,H⟩ : ∃ r,fv a b = r := ⟨_,rfl⟩
 rw [H]
 unfold fv at H
 refine PH.aD Tryz.func178 Tryz.ntmps178 ?_
 refine aw 1 tk rfl (ab (ac (al 2 tk rfl ?_)))
 refine Ao.cmpS (g := 195) rfl rfl rfl Tryz.func195 (by kernel_rfl) (by kernel_rfl) (by kernel_rfl) (by kernel_rfl) rfl rfl rfl ?_
 refine ao tk rfl (af ?_)
 subst H
 refine aC tk rfl (ps := [(ae (Lib.compareBytes a b))]) ⟨_,_,rfl,rfl,rfl⟩ (PLe.q rfl)
theorem grow_186 {m : Nat} {u : Unit} (n : Int) (h : oW 32 n = some u) : iU Tryz.prog 186 [.val (.slice none 0 0),ae n] (lh m 53 []) := by
 have hn := growI_some h
 have hw : IntKind.i64.wrap (n - IntKind.i64.wrap ((0 : Int) - 0)) = n := by
  have e0 : IntKind.i64.wrap ((0 : Int) - 0) = 0 := bD (by omega) (by omega)
  rw [e0,Int.sub_zero,bD (by omega) (by unfold maxLen at hn; omega)]
 refine PH.aD Tryz.func186 Tryz.ntmps186 ?_
 refine aw 1 tk rfl (ab (aw 2 tk rfl ?_))
 refine aZ rfl (fun h=>?_) (fun h=>?_)
 ·exfalso; have := of_decide_eq_true h; omega
 refine av (ab (ab (ac (al 2 tk rfl (sI tk rfl rfl rfl rfl rfl rfl (al 4 tk rfl (lc 14 (q := ae n) rfl (PLe.q (congrArg ae hw)) (ao tk rfl (af (aw 2 tk rfl ?_))))))))))
 refine aZ rfl (fun h=>?_) (fun h=>?_)
 ·refine ac (al 2 tk rfl (sI tk rfl rfl rfl rfl rfl rfl (Ao.subN tk rfl rfl rfl rfl rfl rfl rfl rfl (ao tk rfl ?_))))
  refine sq tk rfl rfl rfl rfl rfl rfl rfl rfl rfl rfl rfl rfl rfl rfl rfl (of_decide_eq_true h) hn.2.1 hn.2.2 fun g=>?_
  refine al 2 tk rfl (Ao.cutO tk rfl rfl rfl rfl rfl rfl rfl rfl rfl ⟨Int.le_refl 0,Nat.zero_le _⟩ rfl rfl rfl (ao tk rfl (af (aw 2 tk rfl ?_))))
  refine jX tk rfl
 ·refine av (aw 2 tk rfl (ic tk 4 904 (e := 53) rfl rfl ?_))
  refine jX tk rfl
def bN (rA : LRun) (cols : List LCol) (row : Rq) : LEnv :=
 (LEnv.mk cols row rA.args rA.names rA.vals)
theorem kG (rA : LRun) (cols : List LCol) (row : Rq) :
  bc Tryz.prog 139 [(.agg (iB rA)),(.list 50 (cols.map aJ)),(.list 53 (row.map ak))] (.agg (encEnv (bN rA cols row))) := by
 obtain ⟨r,H⟩ : ∃ r,bN rA cols row = r := ⟨_,rfl⟩
 rw [H]
 unfold bN at H
 refine PH.aD Tryz.func139 Tryz.ntmps139 ?_
 refine ab (ac (aV ?_))
 refine bu tk fun b6=>?_
 refine af (ab (ac (al 9 tk rfl (aE tk ?_))))
 refine af ?_
 subst H
 refine aC tk rfl (ps := [(.agg [(.list 50 (cols.map aJ)),(.list 53 (row.map ak)),(.list 53 (rA.args.map ak)),(.list 9 (rA.names.map aB)),(.list 53 (rA.vals.map ak))])]) ⟨_,_,rfl,⟨_,_,_,_,_,rfl,rfl,rfl,rfl⟩,rfl⟩ (PLe.q rfl)
def gd (n : Int) : LVal :=
 cond (decide (n < (-1000000000000)))
  ((LVal.mk 0 0 []))
  (cond (decide (n > (1000000000000 : Int)))
   ((LVal.mk 0 0 []))
   ((LVal.mk 1 n [])))
theorem pT (n : Int) :
  bc Tryz.prog 192 [(ae n)] (.agg (ak (gd n))) := by
 obtain ⟨r,H⟩ : ∃ r,gd n = r := ⟨_,rfl⟩
 rw [H]
 unfold gd at H
 refine PH.aD Tryz.func192 Tryz.ntmps192 ?_
 refine ab (ac ?_)
 refine bu tk fun b2=>?_
 refine af (ab (ab (ac (al 3 tk rfl ?_))))
 refine bF rfl rfl rfl H (fun H=>?_) (fun H=>?_)
 ·refine al 3 tk rfl (af (cu rfl (ab (ac (ao tk rfl (aE tk ?_))))))
  refine af ?_
  subst H
  refine aC tk rfl (ps := [(.agg [(ae 0),(ae 0),(.str [])])]) ⟨_,_,rfl,⟨_,_,_,_,_,rfl,rfl,rfl,rfl⟩,rfl⟩ (PLe.q rfl)
 refine al 3 tk rfl (af ?_)
 refine aP rfl H (fun H=>?_) (fun H=>?_)
 ·refine ab (ac (ao tk rfl (aE tk ?_)))
  refine af ?_
  subst H
  refine aC tk rfl (ps := [(.agg [(ae 0),(ae 0),(.str [])])]) ⟨_,_,rfl,⟨_,_,_,_,_,rfl,rfl,rfl,rfl⟩,rfl⟩ (PLe.q rfl)
 refine av (ab (ac (al 2 tk rfl (aE tk ?_))))
 refine af ?_
 subst H
 refine aC tk rfl (ps := [(.agg [(ae 1),(ae n),(.str [])])]) ⟨_,_,rfl,⟨_,_,_,_,_,rfl,rfl,rfl,rfl⟩,rfl⟩ (PLe.q rfl)
theorem qb {m : Nat} (xs : Rz) : iU Tryz.prog 21 [.list 51 (xs.map (au 53 ak))] (lh m 51 (xs.map (au 53 ak))) := by
 refine PH.aD Tryz.func21 Tryz.ntmps21 ?_
 refine bP tk 0 rfl rfl (fun hz hb=>?_)
 refine aw 1 tk rfl (ab (ab (ac (ao tk rfl ?_))))
 refine rX tk rfl rfl rfl rfl rfl rfl rfl (fun b hn=>?_)
 refine af ?_
 refine aZ rfl (fun h=>?_) (fun h=>?_)
 ·refine aw 1 tk rfl (ic tk 2 902 (e := 51) rfl rfl ?_)
  refine jX tk (hn h).symm
 ·refine av (ab (ac ?_))
  refine pK (rows' := []) tk rfl rfl rfl rfl rfl rfl rfl rfl rfl (iG.refl _) fun g=>?_
  refine ao tk rfl ?_
  refine cZ (rows2' := xs.map (au 53 ak)) (rows' := xs.map (au 53 ak)) tk rfl rfl rfl rfl rfl rfl rfl rfl rfl rfl rfl rfl rfl (kj.refl _) (by simpa using hb) (by simpa using hz) rfl fun g'=>?_
  refine ao tk rfl (af ?_)
  refine jX tk rfl
def cX (s1A : Rq) (s2A : Rq) : Option (Bool) :=
 cond ((s1A.length : Int) != (s2A.length : Int))
  (some false)
  (ai (aW (σ := Unit) (ρ := (Bool)) (fun (j1 : Nat) (x1 : LVal) (_ : Unit) =>
   ai (aG s2A (j1 : Int)) fun (x22 : LVal) =>
   cond (!(x1.kind == x22.kind && (x1.int == x22.int && (x1.text == x22.text && true))))
    (some (.ret false))
    (some (.next ()))) 0 s1A ()) fun fl1=>fl1.thenR fun (_ : Unit) =>
  some true)
theorem gI (s1A : Rq) (s2A : Rq) (r : Bool) (H : cX s1A s2A = some r) :
  bc Tryz.prog 24 [(.list 53 (s1A.map ak)),(.list 53 (s2A.map ak))] (aF r) := by
 unfold cX at H
 refine PH.aD Tryz.func24 Tryz.ntmps24 ?_
 refine aw 1 tk rfl (ab (ab (ac (ao tk rfl (aN tk (zl _) ?_)))))
 refine ao tk rfl (aN tk (zl _) ?_)
 refine ao tk rfl (af ?_)
 refine aP rfl H (fun H=>?_) (fun H=>?_)
 ·refine aw 1 tk rfl ?_
  obtain rfl := am H
  refine aC tk rfl (ps := [(aF false)]) ⟨_,_,rfl,rfl,rfl⟩ (PLe.q rfl)
 refine av (ab (ab (ac (ao tk rfl (aN tk (zl _) ?_)))))
 refine ao tk rfl (af ?_)
 obtain ⟨fl1,H1,Hp1⟩ := ax H
 refine bP tk 0 rfl rfl (fun hz1 _=>?_)
 rw [zl] at hz1
 refine aY (τ := Unit) (γ := Unit) (fun s1 g1=>⟨26,fun _=>.any,fun _=>none,fun _=>none⟩) (fun t=>fl1 = .next t) ?_ (fun s1 g1 hn1=>?_)
 ·refine az ?_
  refine bC (fun j1 s1 g1=>⟨26,upd (upd (upd (upd (fun _=>.any) 13 (ae (j1 : Int))) 12 (ae (s1A.length : Int))) 1 (.list 53 (s2A.map ak))) 0 (.list 53 (s1A.map ak)),fun _=>none,fun _=>none⟩) () H1 (Gh.le (aa (aa (aa (aa aj)))) ah ag) (fun j1 s1 g1 hj1 hr1=>?_)
  refine aw 1 tk rfl (ab ?_)
  refine aZ rfl (fun h=>?_) (fun h=>?_)
  ·have hl1 := co h
   obtain ⟨x1,fb1,hx1,H,hg1⟩ := rMc hl1 hr1
   refine av (ab (az (aw 2 tk rfl (ab (bo tk mok ⟨false,false,[]⟩ [0,1,2,3,4,5,6,7,8] rfl (by decide +kernel) rfl (aL 2 rfl ?_))))))
   refine cj (zn j1) (bO (fun _=>rfl) hx1) ?_
   refine aL 3 rfl ?_
   obtain ⟨x22,k22,H⟩ := aX H
   refine cj k22.1 (aI (fun _=>rfl) k22.2) ?_
   refine aL 2 rfl (bh ?_)
   refine aP rfl H (fun H=>?_) (fun H=>?_)
   ·refine aw 1 tk rfl ?_
    obtain rfl := am H
    have e1 : fl1 = .ret _ := hg1
    subst e1
    obtain rfl := bp Hp1
    refine aC tk rfl (ps := [(aF false)]) ⟨_,_,rfl,rfl,rfl⟩ (PLe.q rfl)
   refine av (aR (bm 2 tk rfl ?_))
   obtain rfl := am H
   refine aK () () ⟨hl1,hg1⟩ (Gh.le (aa (aa (aa (aH (PLe.q (aU (by omega))) aj)))) ah ag)
  have hn1 := rMd (cp h) hr1
  refine aO rfl ?_
  refine aQ s1 g1 hn1 (Gh.le aj ah ag)
 have H := cl hn1 Hp1
 refine aw 1 tk rfl ?_
 obtain rfl := am H
 refine aC tk rfl (ps := [(aF true)]) ⟨_,_,rfl,rfl,rfl⟩ (PLe.q rfl)
def cf (sA : Rz) (f : Rq → Option (Bool)) : Option (Int × Rz) :=
 ai (ni (sA.length : Int)) fun (n1 : Nat) =>
 ai (aW (σ := Rz) (ρ := (Int × Rz)) (fun (j1 : Nat) (_ : Nat) (s1 : Rz) =>
  ai (aG s1 (j1 : Int)) fun (x14 : Rq) =>
  ai (f x14) fun x16 =>
  cond x16
   (some (.ret ((j1 : Int),s1)))
   (some (.next s1))) 0 (List.range n1) sA) fun fl1=>fl1.thenR fun (s1 : Rz) =>
 some ((-1),s1)
theorem fN (g_sA : OwnRef) {g_f : FuncId} {caps_f : List PV} (sA : Rz) (f : Rq → Option (Bool)) (hg_f : ∀ (vs : Array Value) (w : World),(callFunc g_f vs).run Tryz.prog w = .ok (.enter g_f vs) w) (hp_f : ∀ a0 r,f a0 = some r → bc Tryz.prog g_f ((.list 53 (a0.map ak)) :: caps_f) (aF r)) (r : Int × Rz) (H : cf sA f = some r) :
  PH Tryz.prog 22 [(.own 0 g_sA (sA.map (au 53 ak)).length),(.fn g_f caps_f)] ⟨fun _=>none,upd (fun _=>none) 0 (some ⟨g_sA,51,(sA.map (au 53 ak)),true⟩)⟩ (fun u H=>u = (ae r.1) ∧ H = ⟨fun _=>none,upd (fun _=>none) 0 (some ⟨g_sA,51,(r.2.map (au 53 ak)),true⟩)⟩) := by
 unfold cf at H
 refine PH.aD Tryz.func22 Tryz.ntmps22 ?_
 refine aw 1 tk rfl (ab (ab (ac (ao tk rfl (ip tk (zl _) ?_)))))
 refine ao tk rfl (af ?_)
 obtain ⟨n1,hs1,H⟩ := ax H
 have hz1 := mU hs1
 obtain ⟨fl1,H1,Hp1⟩ := ax H
 refine aY (τ := Rz) (γ := Unit) (fun s1 g1=>⟨19,upd (fun _=>.any) 0 (.own 0 g_sA (s1.map (au 53 ak)).length),fun _=>none,upd (fun _=>none) 0 (some ⟨g_sA,51,(s1.map (au 53 ak)),true⟩)⟩) (fun t=>fl1 = .next t) ?_ (fun s1 g1 hn1=>?_)
 ·refine az ?_
  refine bC (fun j1 s1 g1=>⟨19,upd (upd (upd (upd (fun _=>.any) 8 (ae (j1 : Int))) 7 (ae (sA.length : Int))) 1 (.fn g_f caps_f)) 0 (.own 0 g_sA (s1.map (au 53 ak)).length),fun _=>none,upd (fun _=>none) 0 (some ⟨g_sA,51,(s1.map (au 53 ak)),true⟩)⟩) () H1 (Gh.le (aa (aa (aa (aa aj)))) ah (ay ag)) (fun j1 s1 g1 hj1 hr1=>?_)
  refine aw 1 tk rfl (ab ?_)
  refine aZ rfl (fun h=>?_) (fun h=>?_)
  ·have hl1 := natLt hz1 h
   obtain ⟨x1,fb1,hx1,H,hg1⟩ := rMc hl1 hr1
   obtain rfl := natX hx1
   refine av (ab (az (aw 2 tk rfl (ab (ac (al 3 tk rfl ?_))))))
   obtain ⟨x14,k14,H⟩ := aX H
   refine jW (tag := 0) rfl (fun ho0=>?_)
   refine jM tk ⟨k14.1,(bl k14.2)⟩ (bi ho0 k14.2) ?_
   refine oF tk rfl rfl rfl rfl rfl rfl rfl (aI (fun _=>rfl) k14.2) rfl rfl ?_
   obtain ⟨x16,h16,H⟩ := ax H
   refine aq hg_f (iR.r) (hp_f _ _ h16) ?_
   refine af ?_
   refine aP rfl H (fun H=>?_) (fun H=>?_)
   ·refine aw 2 tk rfl ?_
    obtain rfl := am H
    have e1 : fl1 = .ret _ := hg1
    subst e1
    obtain rfl := bp Hp1
    refine dq (st' := ⟨19,upd (fun _=>.any) 4 (ae (j1 : Int)),fun _=>none,upd (fun _=>none) 0 (some ⟨g_sA,51,(s1.map (au 53 ak)),true⟩)⟩) (Gh.le (aa aj) ah (ay ag)) ?_
    refine eH tk rfl (ps := [(ae (j1 : Int))]) ⟨_,_,rfl,rfl,rfl⟩ (PLe.q rfl) ⟨rfl,rfl⟩
   refine av (aR (bm 2 tk rfl ?_))
   obtain rfl := am H
   refine aK s1 () ⟨hl1,hg1⟩ (Gh.le (aa (aa (aa (aH (PLe.q (mw hz1 hl1)) aj)))) ah (ay ag))
  have hn1 := rMd (natGe hz1 h) hr1
  refine aO rfl ?_
  refine aQ s1 g1 hn1 (Gh.le (aa aj) ah (ay ag))
 have H := cl hn1 Hp1
 refine aw 1 tk rfl ?_
 obtain rfl := am H
 refine dq (st' := ⟨19,upd (fun _=>.any) 4 (ae (-1)),fun _=>none,upd (fun _=>none) 0 (some ⟨g_sA,51,(s1.map (au 53 ak)),true⟩)⟩) (Gh.le (aa aj) ah (ay ag)) ?_
 refine eH tk rfl (ps := [(ae (-1))]) ⟨_,_,rfl,rfl,rfl⟩ (PLe.q rfl) ⟨rfl,rfl⟩
theorem W_delete_25 (g_s : OwnRef) (xs : Rz) (i j : Int) (r : Rz) (h : delI xs i j = some r) : PH Tryz.prog 25 [(.own 0 g_s (xs.map (au 53 ak)).length),(ae i),(ae j)] ⟨fun _=>none,upd (fun _=>none) 0 (some ⟨g_s,51,(xs.map (au 53 ak)),true⟩)⟩ (fun u H=>u = .own 0 g_s (r.map (au 53 ak)).length ∧ H = ⟨fun _=>none,upd (fun _=>none) 0 (some ⟨g_s,51,(r.map (au 53 ak)),true⟩)⟩) := by
 obtain ⟨hi,hij,hj,hr⟩ := delI_some h
 have hjl : j.toNat ≤ (xs.map (au 53 ak)).length := by rw [zl]; exact hj
 have hij' : i.toNat ≤ j.toNat := by omega
 have ei : i = (i.toNat : Int) := by omega
 have ej : j = (j.toNat : Int) := by omega
 refine PH.aD Tryz.func25 Tryz.ntmps25 ?_
 refine V.ownC (tag := 0) rfl (fun hc=>?_)
 refine aw 1 tk rfl (ab (ac (al 4 tk rfl (ip tk (m := (xs.map (au 53 ak)).length) rfl ?_))))
 refine pI (l := i.toNat) (h := j.toNat) (m := (xs.map (au 53 ak)).length) tk rfl rfl rfl rfl rfl rfl ⟨_,_,rfl,ei⟩ ⟨_,_,rfl,ej⟩ ⟨_,_,rfl,rfl⟩ (by decide) hij' hjl hc rfl (af (ab (aw 3 tk rfl ?_)))
 refine aZ rfl (fun h=>?_) (fun h=>?_)
 ·have he : i = j := by simpa using h
  have hx : r = xs := by rw [hr,he,List.take_append_drop]
  subst hx
  refine aw 2 tk rfl ?_
  refine dq (st' := ⟨33,upd (fun _=>.any) 6 (.own 0 g_s (r.map (au 53 ak)).length),fun _=>none,upd (fun _=>none) 0 (some ⟨g_s,51,r.map (au 53 ak),true⟩)⟩) (Gh.le (aa aj) ah (ay ag)) ?_
  refine eH tk rfl (ps := [.own 0 g_s (r.map (au 53 ak)).length]) ⟨_,_,rfl,rfl,rfl⟩ (PLe.q rfl) ⟨rfl,rfl⟩
 ·refine av (ab (ac (ao tk rfl (ip tk (m := (xs.map (au 53 ak)).length) rfl ?_))))
  refine ao tk rfl (af (ab (bo tk mok ⟨false,false,[]⟩ [0,1,2,3,4,5,6,7] rfl (by decide +kernel) rfl (aL 2 rfl (sK (l := 0) (h := i.toNat) (m := g_s.cap) tk rfl rfl rfl rfl rfl rfl rfl rfl ⟨_,_,rfl,ei⟩ rfl (by decide) (Nat.zero_le _) (by omega) (Nat.le_refl _) rfl (aL 2 rfl (sK (l := j.toNat) (h := (xs.map (au 53 ak)).length) (m := g_s.cap) tk rfl rfl rfl rfl rfl rfl rfl ⟨_,_,rfl,ej⟩ rfl rfl (by decide) hjl hc (Nat.le_refl _) rfl (sD (rows' := r.map (au 53 ak)) (tag := 0) (p := i.toNat) (q := j.toNat) tk rfl rfl rfl rfl rfl rfl rfl hij' hjl rfl rfl (by rw [hr,List.map_append,List.map_take,List.map_drop]) rfl (cq rfl (bh ?_))))))))))
  have hrl : (r.map (au 53 ak)).length ≤ (xs.map (au 53 ak)).length := by rw [hr]; simp; omega
  refine ab (ac (al 2 tk rfl (ip tk (m := (r.map (au 53 ak)).length) rfl ?_)))
  refine ao tk rfl (pI (l := (r.map (au 53 ak)).length) (h := (xs.map (au 53 ak)).length) (m := g_s.cap) tk rfl rfl rfl rfl rfl rfl ⟨_,_,rfl,rfl⟩ ⟨_,_,rfl,rfl⟩ rfl (by decide) hrl hc (Nat.le_refl _) rfl (qM (tag := 0) (rows := List.map (au 53 ak) r) tk rfl rfl rfl rfl rfl rfl rfl rfl rfl (p := (r.map (au 53 ak)).length) (q := (xs.map (au 53 ak)).length) (m := g_s.cap) (Nat.le_refl _) hrl hc (Nat.le_refl _) rfl (af (aw 2 tk rfl ?_))))
  refine dq (st' := ⟨33,upd (fun _=>.any) 6 (.own 0 g_s (r.map (au 53 ak)).length),fun _=>none,upd (fun _=>none) 0 (some ⟨g_s,51,r.map (au 53 ak),true⟩)⟩) (Gh.le (aa aj) ah (ay ag)) ?_
  refine eH tk rfl (ps := [.own 0 g_s (r.map (au 53 ak)).length]) ⟨_,_,rfl,rfl,rfl⟩ (PLe.q rfl) ⟨rfl,rfl⟩
theorem clone_94 {m : Nat} (xs : Rq) : iU Tryz.prog 94 [.list 53 (xs.map ak)] (lh m 53 (xs.map ak)) := by
 refine PH.aD Tryz.func94 Tryz.ntmps94 ?_
 refine bP tk 0 rfl rfl (fun hz hb=>?_)
 refine aw 1 tk rfl (ab (ab (ac (ao tk rfl ?_))))
 refine rX tk rfl rfl rfl rfl rfl rfl rfl (fun b hn=>?_)
 refine af ?_
 refine aZ rfl (fun h=>?_) (fun h=>?_)
 ·refine aw 1 tk rfl (ic tk 2 902 (e := 53) rfl rfl ?_)
  refine jX tk (hn h).symm
 ·refine av (ab (ac ?_))
  refine pK (rows' := []) tk rfl rfl rfl rfl rfl rfl rfl rfl rfl (iG.refl _) fun g=>?_
  refine ao tk rfl ?_
  refine cZ (rows2' := xs.map ak) (rows' := xs.map ak) tk rfl rfl rfl rfl rfl rfl rfl rfl rfl rfl rfl rfl rfl (kj.refl _) (by simpa using hb) (by simpa using hz) rfl fun g'=>?_
  refine ao tk rfl (af ?_)
  refine jX tk rfl
def ij (a : Rq) (b : Rq) (downs : List Bool) : Option (Int) :=
 ai (aW (σ := Unit) (ρ := (Int)) (fun (j1 : Nat) (x1 : LVal) (_ : Unit) =>
  ai (
   cond (decide ((j1 : Int) ≥ (b.length : Int)))
    (some true)
    (ai (aG b (j1 : Int)) fun (x25 : LVal) =>
    some (x1.kind == x25.kind && (x1.int == x25.int && (x1.text == x25.text && true))))) fun (t3 : Bool) =>
  cond t3
   (some (.next ()))
   (ai (aG b (j1 : Int)) fun (x35 : LVal) =>
   bf (ly x1 x35) fun x37 =>
   cond (decide ((j1 : Int) < (downs.length : Int)))
    (ai (aG downs (j1 : Int)) fun (x45 : Bool) =>
    cond x45
     (cond (!x37)
      (some (.ret (-1)))
      (some (.ret 1)))
     (cond x37
      (some (.ret (-1)))
      (some (.ret 1))))
    (cond x37
     (some (.ret (-1)))
     (some (.ret 1))))) 0 a ()) fun fl1=>fl1.thenR fun (_ : Unit) =>
 some 0
theorem qH (a : Rq) (b : Rq) (downs : List Bool) (r : Int) (H : ij a b downs = some r) :
  bc Tryz.prog 72 [(.list 53 (a.map ak)),(.list 53 (b.map ak)),(.list 4 (downs.map cz))] (ae r) := by
 unfold ij at H
 refine PH.aD Tryz.func72 Tryz.ntmps72 ?_
 refine aw 1 tk rfl (ab (ab (ac (ao tk rfl (aN tk (zl _) ?_)))))
 refine ao tk rfl (af ?_)
 obtain ⟨fl1,H1,Hp1⟩ := ax H
 refine bP tk 0 rfl rfl (fun hz1 _=>?_)
 rw [zl] at hz1
 refine aY (τ := Unit) (γ := Unit) (fun s1 g1=>⟨52,fun _=>.any,fun _=>none,fun _=>none⟩) (fun t=>fl1 = .next t) ?_ (fun s1 g1 hn1=>?_)
 ·refine az ?_
  refine bC (fun j1 s1 g1=>⟨52,upd (upd (upd (upd (upd (fun _=>.any) 11 (ae (j1 : Int))) 10 (ae (a.length : Int))) 2 (.list 4 (downs.map cz))) 1 (.list 53 (b.map ak))) 0 (.list 53 (a.map ak)),fun _=>none,fun _=>none⟩) () H1 (Gh.le (aa (aa (aa (aa (aa aj))))) ah ag) (fun j1 s1 g1 hj1 hr1=>?_)
  refine aw 1 tk rfl (ab ?_)
  refine aZ rfl (fun h=>?_) (fun h=>?_)
  ·have hl1 := co h
   obtain ⟨x1,fb1,hx1,H,hg1⟩ := rMc hl1 hr1
   refine av (ab (az (aw 2 tk rfl (ab (ab ?_)))))
   obtain ⟨fl3,H3,Hp3⟩ := ax H
   refine aY (τ := Bool) (γ := Unit) (fun t3 g3=>⟨52,upd (upd (upd (upd (upd (upd (upd (fun _=>.any) 28 (aF t3)) 11 (ae (j1 : Int))) 10 (ae (a.length : Int))) 7 (ae (j1 : Int))) 2 (.list 4 (downs.map cz))) 1 (.list 53 (b.map ak))) 0 (.list 53 (a.map ak)),fun _=>none,fun _=>none⟩) (fun t=>t = fl3) ?_ (fun t3 g3 hn3=>?_)
   ·have H := H3
    refine bo tk mok ⟨false,false,[]⟩ [0,1,2,3,4,5,6,7,8,9,10,11,12,13,14] rfl (by decide +kernel) rfl (aL 2 rfl (sF rfl rfl rfl rfl rfl rfl (zl _) rfl (aL 2 rfl ?_)))
    refine ik H (fun H=>?_) (fun H=>?_)
    ·refine aL 10 rfl (bh ?_)
     obtain rfl := am H
     refine aQ true () rfl (Gh.le (aa (aa (aa (aa (aa (aa (aa aj))))))) ah ag)
    refine aL 2 rfl ?_
    refine cj (zn j1) (bO (fun _=>rfl) hx1) ?_
    refine aL 3 rfl ?_
    obtain ⟨x25,k25,H⟩ := aX H
    refine cj k25.1 (aI (fun _=>rfl) k25.2) ?_
    refine aL 3 rfl (bh ?_)
    obtain rfl := am H
    refine aQ (x1.kind == x25.kind && (x1.int == x25.int && (x1.text == x25.text && true))) () rfl (Gh.le (aa (aa (aa (aa (aa (aa (aa aj))))))) ah ag)
   subst hn3
   have H := Hp3
   refine aP rfl H (fun H=>?_) (fun H=>?_)
   ·refine aO rfl (bm 2 tk rfl ?_)
    obtain rfl := am H
    refine aK () () ⟨hl1,hg1⟩ (Gh.le (aa (aa (aa (aa (aH (PLe.q (aU (by omega))) aj))))) ah ag)
   refine av (ab (bo tk mok ⟨false,false,[]⟩ [0,1,2,3,4,5,6,7,8,9] rfl (by decide +kernel) rfl (aL 2 rfl ?_)))
   refine cj (zn j1) (bO (fun _=>rfl) hx1) ?_
   refine aL 3 rfl ?_
   obtain ⟨x35,k35,H⟩ := aX H
   refine cj k35.1 (aI (fun _=>rfl) k35.2) ?_
   refine cq rfl ?_
   obtain ⟨x37,h37,H⟩ := bw H
   have s37 := mg x1 x35
   rw [h37] at s37
   refine bj Tryz.call45 (iR.r) s37 ?_
   refine cq rfl (bh (ab (ab (ac (al 2 tk rfl (aN tk (zl _) ?_))))))
   refine al 2 tk rfl ?_
   refine bF rfl rfl rfl H (fun H=>?_) (fun H=>?_)
   ·refine al 2 tk rfl ?_
    obtain ⟨x45,k45,H⟩ := aX H
    refine bs tk k45.1 (aI (fun _=>rfl) k45.2) ?_
    refine al 2 tk rfl (af ?_)
    refine aP rfl H (fun H=>?_) (fun H=>?_)
    ·refine bm 3 tk rfl (ab (aw 1 tk rfl ?_))
     refine aP rfl H (fun H=>?_) (fun H=>?_)
     ·refine aw 1 tk rfl ?_
      obtain rfl := am H
      have e1 : fl1 = .ret _ := hg1
      subst e1
      obtain rfl := bp Hp1
      refine aC tk rfl (ps := [(ae (-1))]) ⟨_,_,rfl,rfl,rfl⟩ (PLe.q rfl)
     refine av (aw 1 tk rfl ?_)
     obtain rfl := am H
     have e1 : fl1 = .ret _ := hg1
     subst e1
     obtain rfl := bp Hp1
     refine aC tk rfl (ps := [(ae 1)]) ⟨_,_,rfl,rfl,rfl⟩ (PLe.q rfl)
    refine av (ab (aw 1 tk rfl ?_))
    refine aP rfl H (fun H=>?_) (fun H=>?_)
    ·refine aw 1 tk rfl ?_
     obtain rfl := am H
     have e1 : fl1 = .ret _ := hg1
     subst e1
     obtain rfl := bp Hp1
     refine aC tk rfl (ps := [(ae (-1))]) ⟨_,_,rfl,rfl,rfl⟩ (PLe.q rfl)
    refine av (aw 1 tk rfl ?_)
    obtain rfl := am H
    have e1 : fl1 = .ret _ := hg1
    subst e1
    obtain rfl := bp Hp1
    refine aC tk rfl (ps := [(ae 1)]) ⟨_,_,rfl,rfl,rfl⟩ (PLe.q rfl)
   refine al 5 tk rfl (af (bL rfl (av (ab (aw 1 tk rfl ?_)))))
   refine aP rfl H (fun H=>?_) (fun H=>?_)
   ·refine aw 1 tk rfl ?_
    obtain rfl := am H
    have e1 : fl1 = .ret _ := hg1
    subst e1
    obtain rfl := bp Hp1
    refine aC tk rfl (ps := [(ae (-1))]) ⟨_,_,rfl,rfl,rfl⟩ (PLe.q rfl)
   refine av (aw 1 tk rfl ?_)
   obtain rfl := am H
   have e1 : fl1 = .ret _ := hg1
   subst e1
   obtain rfl := bp Hp1
   refine aC tk rfl (ps := [(ae 1)]) ⟨_,_,rfl,rfl,rfl⟩ (PLe.q rfl)
  have hn1 := rMd (cp h) hr1
  refine aO rfl ?_
  refine aQ s1 g1 hn1 (Gh.le aj ah ag)
 have H := cl hn1 Hp1
 refine aw 1 tk rfl ?_
 obtain rfl := am H
 refine aC tk rfl (ps := [(ae 0)]) ⟨_,_,rfl,rfl,rfl⟩ (PLe.q rfl)
def cU (data : Rz) (a : Int) (b : Int) (cmp : Rq → Rq → Option (Int)) : Option (Rz) :=
 ai (whileM (σ := Rz × Int) (ρ := Empty) (fun (s1 : Rz × Int) =>
  cond (decide (s1.2 < b))
   (ai (whileM (σ := Rz × Int) (ρ := Empty) (fun (s22 : Rz × Int) =>
    ai (
     cond (decide (s22.2 > a))
      (ai (aG s22.1 s22.2) fun (x25 : Rq) =>
      ai (aG s22.1 (IntKind.i64.wrap (s22.2 - (1 : Int)))) fun (x30 : Rq) =>
      ai (cmp x25 x30) fun x32 =>
      some (s22.1,(decide (x32 < (0 : Int)))))
      (some (s22.1,false))) fun (t29 : Rz × Bool) =>
    cond t29.2
     (ai (aG t29.1 (IntKind.i64.wrap (s22.2 - (1 : Int)))) fun (x45 : Rq) =>
     ai (aG t29.1 s22.2) fun (x49 : Rq) =>
     ai (aG t29.1 s22.2) fun (_ : Rq) =>
     bf (t29.1.set s22.2.toNat x45) fun (y30 : Rz) =>
     ai (aG y30 (IntKind.i64.wrap (s22.2 - (1 : Int)))) fun (_ : Rq) =>
     bf (y30.set ((IntKind.i64.wrap (s22.2 - (1 : Int))).toNat) x49) fun (y31 : Rz) =>
     some (.next (y31,(IntKind.i64.wrap (s22.2 - (1 : Int))))))
     (some (.brk (t29.1,s22.2)))) (s1.1,s1.2)) fun fl22=>fl22.thenP fun (s22 : Rz × Int) =>
   some (.next (s22.1,(IntKind.i64.wrap (s1.2 + (1 : Int))))))
   (some (.brk (s1.1,s1.2)))) (data,(IntKind.i64.wrap (a + (1 : Int))))) fun fl1=>fl1.thenP fun (s1 : Rz × Int) =>
 some s1.1
theorem iq (g_data : OwnRef) {g_cmp : FuncId} {caps_cmp : List PV} (data : Rz) (a : Int) (b : Int) (cmp : Rq → Rq → Option (Int)) (hg_cmp : ∀ (vs : Array Value) (w : World),(callFunc g_cmp vs).run Tryz.prog w = .ok (.enter g_cmp vs) w) (hp_cmp : ∀ a0 a1 r,cmp a0 a1 = some r → bc Tryz.prog g_cmp ((.list 53 (a0.map ak)) :: (.list 53 (a1.map ak)) :: caps_cmp) (ae r)) (r : Rz) (H : cU data a b cmp = some r) :
  PH Tryz.prog 114 [(.own 0 g_data (data.map (au 53 ak)).length),(ae a),(ae b),(.fn g_cmp caps_cmp)] ⟨fun _=>none,upd (fun _=>none) 0 (some ⟨g_data,51,(data.map (au 53 ak)),true⟩)⟩ (fun u H=>u = (.tup []) ∧ H = ⟨fun _=>none,upd (fun _=>none) 0 (some ⟨g_data,51,(r.map (au 53 ak)),true⟩)⟩) := by
 unfold cU at H
 refine PH.aD Tryz.func114 Tryz.ntmps114 ?_
 refine aw 3 tk rfl ?_
 obtain ⟨fl1,H1,Hp1⟩ := ax H
 refine aY (τ := Rz × Int) (γ := Unit) (fun s1 g1=>⟨53,upd (fun _=>.any) 0 (.own 0 g_data (s1.1.map (au 53 ak)).length),fun _=>none,upd (fun _=>none) 0 (some ⟨g_data,51,(s1.1.map (au 53 ak)),true⟩)⟩) (fun t=>fl1 = .next t) ?_ (fun s1 g1 hn1=>?_)
 ·refine az ?_
  refine cA (fun s1 g1=>⟨53,upd (upd (upd (upd (upd (fun _=>.any) 8 (ae s1.2)) 3 (.fn g_cmp caps_cmp)) 2 (ae b)) 1 (ae a)) 0 (.own 0 g_data (s1.1.map (au 53 ak)).length),fun _=>none,upd (fun _=>none) 0 (some ⟨g_data,51,(s1.1.map (au 53 ak)),true⟩)⟩) () H1 (Gh.le (aa (aa (aa (aa (aa aj))))) ah (ay ag)) (fun m1 s1 g1 hr1=>?_)
  obtain ⟨fb1,H,hg1⟩ := bZ hr1
  refine ab (aw 3 tk rfl ?_)
  refine aP rfl H (fun H=>?_) (fun H=>?_)
  ·refine av (ab (az (aw 2 tk rfl ?_)))
   obtain ⟨fl22,H22,Hp22⟩ := ax H
   refine aY (τ := Rz × Int) (γ := Unit) (fun s22 g22=>⟨53,upd (upd (upd (upd (upd (fun _=>.any) 8 (ae s1.2)) 3 (.fn g_cmp caps_cmp)) 2 (ae b)) 1 (ae a)) 0 (.own 0 g_data (s22.1.map (au 53 ak)).length),fun _=>none,upd (fun _=>none) 0 (some ⟨g_data,51,(s22.1.map (au 53 ak)),true⟩)⟩) (fun t=>fl22 = .next t) ?_ (fun s22 g22 hn22=>?_)
   ·refine az ?_
    refine cA (fun s22 g22=>⟨53,upd (upd (upd (upd (upd (upd (fun _=>.any) 9 (ae s22.2)) 8 (ae s1.2)) 3 (.fn g_cmp caps_cmp)) 2 (ae b)) 1 (ae a)) 0 (.own 0 g_data (s22.1.map (au 53 ak)).length),fun _=>none,upd (fun _=>none) 0 (some ⟨g_data,51,(s22.1.map (au 53 ak)),true⟩)⟩) () H22 (Gh.le (aa (aa (aa (aa (aa (aa aj)))))) ah (ay ag)) (fun m22 s22 g22 hr22=>?_)
    obtain ⟨fb22,H,hg22⟩ := bZ hr22
    refine ab (ab ?_)
    obtain ⟨fl29,H29,Hp29⟩ := ax H
    refine aY (τ := Rz × Bool) (γ := Unit) (fun t29 g29=>⟨53,upd (upd (upd (upd (upd (upd (upd (fun _=>.any) 34 (aF t29.2)) 9 (ae s22.2)) 8 (ae s1.2)) 3 (.fn g_cmp caps_cmp)) 2 (ae b)) 1 (ae a)) 0 (.own 0 g_data (t29.1.map (au 53 ak)).length),fun _=>none,upd (fun _=>none) 0 (some ⟨g_data,51,(t29.1.map (au 53 ak)),true⟩)⟩) (fun t=>t = fl29) ?_ (fun t29 g29 hn29=>?_)
    ·have H := H29
     refine cK (tag := 0) rfl (fun ho0=>?_)
     refine bo tk mok ⟨false,true,[]⟩ [0,1,2,3,4,5,6,7,8,9,10,11,12,13,14,15,16] rfl (by decide +kernel) rfl (aL 4 rfl ?_)
     refine ik H (fun H=>?_) (fun H=>?_)
     ·refine aL 3 rfl ?_
      obtain ⟨x25,k25,H⟩ := aX H
      refine aS tk ⟨k25.1,(bl k25.2)⟩ (bi ho0 k25.2) ?_
      refine bd tk (aI (fun _=>rfl) k25.2) ?_
      refine aL 3 rfl ?_
      obtain ⟨x30,k30,H⟩ := aX H
      refine aS tk ⟨k30.1,(bl k30.2)⟩ (bi ho0 k30.2) ?_
      refine bd tk (aI (fun _=>rfl) k30.2) ?_
      obtain ⟨x32,h32,H⟩ := ax H
      refine bj hg_cmp (iR.r) (hp_cmp _ _ _ h32) ?_
      refine aL 2 rfl (bh ?_)
      obtain rfl := am H
      refine aQ (s22.1,(decide (x32 < (0 : Int)))) () rfl (Gh.le (aa (aa (aa (aa (aa (aa (aa aj))))))) ah (ay ag))
     refine aL 13 rfl (bh ?_)
     obtain rfl := am H
     refine aQ (s22.1,false) () rfl (Gh.le (aa (aa (aa (aa (aa (aa (aa aj))))))) ah (ay ag))
    subst hn29
    have H := Hp29
    refine aP rfl H (fun H=>?_) (fun H=>?_)
    ·refine av (ab (az ?_))
     refine cK (tag := 0) rfl (fun ho0=>?_)
     refine bo tk mok ⟨false,true,[]⟩ [0,1,2,3,4,5,6,7,8,9,10,11,12,13,14,15,16,17] rfl (by decide +kernel) rfl (aL 8 rfl ?_)
     obtain ⟨x45,k45,H⟩ := aX H
     refine aS tk ⟨k45.1,(bl k45.2)⟩ (bi ho0 k45.2) ?_
     refine bd tk (aI (fun _=>rfl) k45.2) ?_
     refine aL 2 rfl ?_
     obtain ⟨x49,k49,H⟩ := aX H
     refine aS tk ⟨k49.1,(bl k49.2)⟩ (bi ho0 k49.2) ?_
     refine bd tk (aI (fun _=>rfl) k49.2) ?_
     obtain ⟨x51,k51,H⟩ := aX H
     refine aS tk ⟨k51.1,(bl k51.2)⟩ (bi ho0 k51.2) ?_
     obtain ⟨y30,hy30,H⟩ := bw H
     refine cg tk rfl rfl rfl rfl rfl rfl rfl rfl rfl (by rw [zl]; exact (zg.1 k51.2).1) (PLe.refl _ _) rfl rfl rfl rfl (by decide) (bG (fun _=>rfl) k51.2 rfl hy30) ?_
     obtain ⟨x52,k52,H⟩ := aX H
     refine aS tk ⟨k52.1,(gg (bq (f := (au 53 ak)) hy30) k52.2)⟩ (gc ho0 (bq (f := (au 53 ak)) hy30) k52.2) ?_
     obtain ⟨y31,hy31,H⟩ := bw H
     refine cg tk rfl rfl rfl rfl rfl rfl rfl rfl rfl (by rw [zl]; exact (zg.1 k52.2).1) (PLe.refl _ _) rfl rfl rfl rfl (by decide) (bG (fun _=>rfl) k52.2 rfl hy31) ?_
     refine bh (aR (bm 3 tk rfl ?_))
     obtain rfl := am H
     refine aK (y31,(IntKind.i64.wrap (s22.2 - (1 : Int)))) () hg22 (Gh.le (aH (PLe.of2 (PLe2.of_eq (congrArg (PV.own 0 g_data) ((bq (f := (au 53 ak)) hy30).trans (bq (f := (au 53 ak)) hy31))))) (aa (aa (aa (aa (aa aj)))))) ah (ay ag))
    refine aO rfl ?_
    obtain rfl := am H
    refine aQ (t29.1,s22.2) () hg22 (Gh.le (aa (aa (aa (aa (aa aj))))) ah (ay ag))
   have H := bn hn22 Hp22
   refine aR (bm 3 tk rfl ?_)
   obtain rfl := am H
   refine aK (s22.1,(IntKind.i64.wrap (s1.2 + (1 : Int)))) () hg1 (Gh.le (aa (aa (aa (aa (aa aj))))) ah (ay ag))
  refine aO rfl ?_
  obtain rfl := am H
  refine aQ (s1.1,s1.2) () hg1 (Gh.le (aa aj) ah (ay ag))
 have H := bn hn1 Hp1
 obtain rfl := am H
 refine dq (st' := ⟨53,fun _=>.any,fun _=>none,upd (fun _=>none) 0 (some ⟨g_data,51,(s1.1.map (au 53 ak)),true⟩)⟩) (Gh.le aj ah (ay ag)) ?_
 refine iy rfl (PLe.q rfl) ⟨rfl,rfl⟩
def cR (data : Rz) (a : Int) (b : Int) (n : Int) (_cmp : Rq → Rq → Option (Int)) : Option (Rz) :=
 ai (whileM (σ := Rz × Int) (ρ := Empty) (fun (s1 : Rz × Int) =>
  cond (decide (s1.2 < n))
   (ai (aG s1.1 (IntKind.i64.wrap (b + s1.2))) fun (x28 : Rq) =>
   ai (aG s1.1 (IntKind.i64.wrap (a + s1.2))) fun (x34 : Rq) =>
   ai (aG s1.1 (IntKind.i64.wrap (a + s1.2))) fun (_ : Rq) =>
   bf (s1.1.set ((IntKind.i64.wrap (a + s1.2)).toNat) x28) fun (y6 : Rz) =>
   ai (aG y6 (IntKind.i64.wrap (b + s1.2))) fun (_ : Rq) =>
   bf (y6.set ((IntKind.i64.wrap (b + s1.2)).toNat) x34) fun (y7 : Rz) =>
   some (.next (y7,(IntKind.i64.wrap (s1.2 + (1 : Int))))))
   (some (.brk (s1.1,s1.2)))) (data,0)) fun fl1=>fl1.thenP fun (s1 : Rz × Int) =>
 some s1.1
theorem gC (g_data : OwnRef) {g_cmp : FuncId} {caps_cmp : List PV} (data : Rz) (a : Int) (b : Int) (n : Int) (cmp : Rq → Rq → Option (Int)) (_hg_cmp : ∀ (vs : Array Value) (w : World),(callFunc g_cmp vs).run Tryz.prog w = .ok (.enter g_cmp vs) w) (_hp_cmp : ∀ a0 a1 r,cmp a0 a1 = some r → bc Tryz.prog g_cmp ((.list 53 (a0.map ak)) :: (.list 53 (a1.map ak)) :: caps_cmp) (ae r)) (r : Rz) (H : cR data a b n cmp = some r) :
  PH Tryz.prog 213 [(.own 0 g_data (data.map (au 53 ak)).length),(ae a),(ae b),(ae n),(.fn g_cmp caps_cmp)] ⟨fun _=>none,upd (fun _=>none) 0 (some ⟨g_data,51,(data.map (au 53 ak)),true⟩)⟩ (fun u H=>u = (.tup []) ∧ H = ⟨fun _=>none,upd (fun _=>none) 0 (some ⟨g_data,51,(r.map (au 53 ak)),true⟩)⟩) := by
 unfold cR at H
 refine PH.aD Tryz.func213 Tryz.ntmps213 ?_
 refine aw 1 tk rfl ?_
 obtain ⟨fl1,H1,Hp1⟩ := ax H
 refine aY (τ := Rz × Int) (γ := Unit) (fun s1 g1=>⟨38,upd (fun _=>.any) 0 (.own 0 g_data (s1.1.map (au 53 ak)).length),fun _=>none,upd (fun _=>none) 0 (some ⟨g_data,51,(s1.1.map (au 53 ak)),true⟩)⟩) (fun t=>fl1 = .next t) ?_ (fun s1 g1 hn1=>?_)
 ·refine az ?_
  refine cA (fun s1 g1=>⟨38,upd (upd (upd (upd (upd (fun _=>.any) 10 (ae s1.2)) 3 (ae n)) 2 (ae b)) 1 (ae a)) 0 (.own 0 g_data (s1.1.map (au 53 ak)).length),fun _=>none,upd (fun _=>none) 0 (some ⟨g_data,51,(s1.1.map (au 53 ak)),true⟩)⟩) () H1 (Gh.le (aa (aa (aa (aa (aa aj))))) ah (ay ag)) (fun m1 s1 g1 hr1=>?_)
  obtain ⟨fb1,H,hg1⟩ := bZ hr1
  refine ab (aw 3 tk rfl ?_)
  refine aP rfl H (fun H=>?_) (fun H=>?_)
  ·refine av (ab (az ?_))
   refine cK (tag := 0) rfl (fun ho0=>?_)
   refine bo tk mok ⟨false,true,[]⟩ [0,1,2,3,4,5,6,7,8,9,10,11,12,13,14,15,16,17,18,19,20,21,22,23] rfl (by decide +kernel) rfl (aL 12 rfl ?_)
   obtain ⟨x28,k28,H⟩ := aX H
   refine aS tk ⟨k28.1,(bl k28.2)⟩ (bi ho0 k28.2) ?_
   refine bd tk (aI (fun _=>rfl) k28.2) ?_
   refine aL 4 rfl ?_
   obtain ⟨x34,k34,H⟩ := aX H
   refine aS tk ⟨k34.1,(bl k34.2)⟩ (bi ho0 k34.2) ?_
   refine bd tk (aI (fun _=>rfl) k34.2) ?_
   obtain ⟨x36,k36,H⟩ := aX H
   refine aS tk ⟨k36.1,(bl k36.2)⟩ (bi ho0 k36.2) ?_
   obtain ⟨y6,hy6,H⟩ := bw H
   refine cg tk rfl rfl rfl rfl rfl rfl rfl rfl rfl (by rw [zl]; exact (zg.1 k36.2).1) (PLe.refl _ _) rfl rfl rfl rfl (by decide) (bG (fun _=>rfl) k36.2 rfl hy6) ?_
   obtain ⟨x37,k37,H⟩ := aX H
   refine aS tk ⟨k37.1,(gg (bq (f := (au 53 ak)) hy6) k37.2)⟩ (gc ho0 (bq (f := (au 53 ak)) hy6) k37.2) ?_
   obtain ⟨y7,hy7,H⟩ := bw H
   refine cg tk rfl rfl rfl rfl rfl rfl rfl rfl rfl (by rw [zl]; exact (zg.1 k37.2).1) (PLe.refl _ _) rfl rfl rfl rfl (by decide) (bG (fun _=>rfl) k37.2 rfl hy7) ?_
   refine bh (aR (bm 3 tk rfl ?_))
   obtain rfl := am H
   refine aK (y7,(IntKind.i64.wrap (s1.2 + (1 : Int)))) () hg1 (Gh.le (aH (PLe.of2 (PLe2.of_eq (congrArg (PV.own 0 g_data) ((bq (f := (au 53 ak)) hy6).trans (bq (f := (au 53 ak)) hy7))))) (aa (aa (aa (aa aj))))) ah (ay ag))
  refine aO rfl ?_
  obtain rfl := am H
  refine aQ (s1.1,s1.2) () hg1 (Gh.le (aa aj) ah (ay ag))
 have H := bn hn1 Hp1
 obtain rfl := am H
 refine dq (st' := ⟨38,fun _=>.any,fun _=>none,upd (fun _=>none) 0 (some ⟨g_data,51,(s1.1.map (au 53 ak)),true⟩)⟩) (Gh.le aj ah (ay ag)) ?_
 refine iy rfl (PLe.q rfl) ⟨rfl,rfl⟩
def kr (rec82 : LQuery → Int → Option (Int)) (q : LQuery) (most : Int) : Option (Int) :=
 ai (aW (σ := Int) (ρ := Empty) (fun (_ : Nat) (x1 : LExpr) (s1 : Int) =>
  bf (jf x1 (IntKind.i64.wrap (s1 - (1 : Int)))) fun x23 =>
  some (.next x23)) 0 q.exprs most) fun fl1=>fl1.thenP fun (s1 : Int) =>
 ai (aW (σ := Int) (ρ := Empty) (fun (_ : Nat) (x2 : LAggregateCall) (s2 : Int) =>
  ai (aW (σ := Int) (ρ := Empty) (fun (_ : Nat) (x5 : LExpr) (s5 : Int) =>
   bf (jf x5 (IntKind.i64.wrap (s5 - (1 : Int)))) fun x42 =>
   some (.next x42)) 0 x2.args s2) fun fl5=>fl5.thenP fun (s5 : Int) =>
  some (.next s5)) 0 q.aggregates s1) fun fl2=>fl2.thenP fun (s2 : Int) =>
 ai (aW (σ := Int) (ρ := (Int)) (fun (_ : Nat) (x6 : LQuery) (s6 : Int) =>
  cond (decide (s6 < (0 : Int)))
   (some (.ret (-1)))
   (ai (rec82 x6 (IntKind.i64.wrap (s6 - (1 : Int)))) fun x57 =>
   some (.next x57))) 0 q.inputs s2) fun fl6=>fl6.thenR fun (s6 : Int) =>
 some s6
theorem rG (rec82 : LQuery → Int → Option (Int)) (hrec82 : ∀ a0 a1 r,rec82 a0 a1 = some r → bc Tryz.prog 82 [(.agg (bE a0)),(ae a1)] (ae r)) (q : LQuery) (most : Int) (r : Int) (H : kr rec82 q most = some r) :
  bc Tryz.prog 82 [(.agg (bE q)),(ae most)] (ae r) := by
 unfold kr at H
 refine PH.aD Tryz.func82 Tryz.ntmps82 ?_
 refine ab (ac (aV ?_))
 refine ao tk rfl (af (ab (ab (ac (al 2 tk rfl (aN tk (zl _) ?_))))))
 refine ao tk rfl (af ?_)
 obtain ⟨fl1,H1,Hp1⟩ := ax H
 refine bP tk 14 rfl rfl (fun hz1 _=>?_)
 rw [zl] at hz1
 refine aY (τ := Int) (γ := Unit) (fun s1 g1=>⟨60,upd (upd (fun _=>.any) 2 (.ptr [(ae q.kind),(.str q.table),(.list 9 (q.names.map aB)),(.list 56 (q.exprs.map bg)),(.list 66 (q.aggregates.map cn)),(.list 4 (q.descending.map cz)),(ae q.count),(ae q.offset),(.list 35 (q.inputs.map ba))])) 1 (ae s1),fun _=>none,fun _=>none⟩) (fun t=>fl1 = .next t) ?_ (fun s1 g1 hn1=>?_)
 ·refine az ?_
  refine bC (fun j1 s1 g1=>⟨60,upd (upd (upd (upd (upd (fun _=>.any) 16 (ae (j1 : Int))) 15 (ae (q.exprs.length : Int))) 14 (.list 56 (q.exprs.map bg))) 2 (.ptr [(ae q.kind),(.str q.table),(.list 9 (q.names.map aB)),(.list 56 (q.exprs.map bg)),(.list 66 (q.aggregates.map cn)),(.list 4 (q.descending.map cz)),(ae q.count),(ae q.offset),(.list 35 (q.inputs.map ba))])) 1 (ae s1),fun _=>none,fun _=>none⟩) () H1 (Gh.le (aa (aa (aa (aa (aa aj))))) ah ag) (fun j1 s1 g1 hj1 hr1=>?_)
  refine aw 1 tk rfl (ab ?_)
  refine aZ rfl (fun h=>?_) (fun h=>?_)
  ·have hl1 := co h
   obtain ⟨x1,fb1,hx1,H,hg1⟩ := rMc hl1 hr1
   refine av (ab (az (ab (ac (bs tk (zn j1) (bO eT hx1) ?_)))))
   refine ao tk rfl ?_
   refine bu tk fun b6=>?_
   refine aE tk ?_
   refine af (ac (aT tk ?_))
   refine al 2 tk rfl ?_
   obtain ⟨x23,h23,H⟩ := bw H
   have s23 := qt x1 (IntKind.i64.wrap (s1 - (1 : Int)))
   rw [h23] at s23
   refine aq Tryz.call38 (iR.r) s23 ?_
   refine ao tk rfl (af (aR (bm 2 tk rfl ?_)))
   obtain rfl := am H
   refine aK x23 () ⟨hl1,hg1⟩ (Gh.le (aa (aa (aa (aa (aH (PLe.q (aU (by omega))) aj))))) ah ag)
  have hn1 := rMd (cp h) hr1
  refine aO rfl ?_
  refine aQ s1 g1 hn1 (Gh.le (aa (aa aj)) ah ag)
 have H := bn hn1 Hp1
 refine ab (ab (ac (al 2 tk rfl (aN tk (zl _) ?_))))
 refine ao tk rfl (af ?_)
 obtain ⟨fl2,H2,Hp2⟩ := ax H
 refine bP tk 26 rfl rfl (fun hz2 _=>?_)
 rw [zl] at hz2
 refine aY (τ := Int) (γ := Unit) (fun s2 g2=>⟨60,upd (upd (fun _=>.any) 2 (.ptr [(ae q.kind),(.str q.table),(.list 9 (q.names.map aB)),(.list 56 (q.exprs.map bg)),(.list 66 (q.aggregates.map cn)),(.list 4 (q.descending.map cz)),(ae q.count),(ae q.offset),(.list 35 (q.inputs.map ba))])) 1 (ae s2),fun _=>none,fun _=>none⟩) (fun t=>fl2 = .next t) ?_ (fun s2 g2 hn2=>?_)
 ·refine az ?_
  refine bC (fun j2 s2 g2=>⟨60,upd (upd (upd (upd (upd (fun _=>.any) 28 (ae (j2 : Int))) 27 (ae (q.aggregates.length : Int))) 26 (.list 66 (q.aggregates.map cn))) 2 (.ptr [(ae q.kind),(.str q.table),(.list 9 (q.names.map aB)),(.list 56 (q.exprs.map bg)),(.list 66 (q.aggregates.map cn)),(.list 4 (q.descending.map cz)),(ae q.count),(ae q.offset),(.list 35 (q.inputs.map ba))])) 1 (ae s2),fun _=>none,fun _=>none⟩) () H2 (Gh.le (aa (aa (aa (aa (aa aj))))) ah ag) (fun j2 s2 g2 hj2 hr2=>?_)
  refine aw 1 tk rfl (ab ?_)
  refine aZ rfl (fun h=>?_) (fun h=>?_)
  ·have hl2 := co h
   obtain ⟨x2,fb2,hx2,H,hg2⟩ := rMc hl2 hr2
   refine av (ab (az (ab (ac ?_))))
   refine bs tk (zn j2) (bO (fun _=>rfl) hx2) ?_
   refine ao tk rfl ?_
   refine bu tk fun b8=>?_
   refine aE tk ?_
   refine af (ab (ac (ao tk rfl (aT tk ?_))))
   refine aN tk (zl _) ?_
   refine ao tk rfl (af ?_)
   obtain ⟨fl5,H5,Hp5⟩ := ax H
   refine bP tk 33 rfl rfl (fun hz5 _=>?_)
   rw [zl] at hz5
   refine aY (τ := Int) (γ := Unit) (fun s5 g5=>⟨60,upd (upd (upd (upd (upd (fun _=>.any) 28 (ae (j2 : Int))) 27 (ae (q.aggregates.length : Int))) 26 (.list 66 (q.aggregates.map cn))) 2 (.ptr [(ae q.kind),(.str q.table),(.list 9 (q.names.map aB)),(.list 56 (q.exprs.map bg)),(.list 66 (q.aggregates.map cn)),(.list 4 (q.descending.map cz)),(ae q.count),(ae q.offset),(.list 35 (q.inputs.map ba))])) 1 (ae s5),fun _=>none,fun _=>none⟩) (fun t=>fl5 = .next t) ?_ (fun s5 g5 hn5=>?_)
   ·refine az ?_
    refine bC (fun j5 s5 g5=>⟨60,upd (upd (upd (upd (upd (upd (upd (upd (fun _=>.any) 35 (ae (j5 : Int))) 34 (ae (x2.args.length : Int))) 33 (.list 56 (x2.args.map bg))) 28 (ae (j2 : Int))) 27 (ae (q.aggregates.length : Int))) 26 (.list 66 (q.aggregates.map cn))) 2 (.ptr [(ae q.kind),(.str q.table),(.list 9 (q.names.map aB)),(.list 56 (q.exprs.map bg)),(.list 66 (q.aggregates.map cn)),(.list 4 (q.descending.map cz)),(ae q.count),(ae q.offset),(.list 35 (q.inputs.map ba))])) 1 (ae s5),fun _=>none,fun _=>none⟩) () H5 (Gh.le (aa (aa (aa (aa (aa (aa (aa (aa aj)))))))) ah ag) (fun j5 s5 g5 hj5 hr5=>?_)
    refine aw 1 tk rfl (ab ?_)
    refine aZ rfl (fun h=>?_) (fun h=>?_)
    ·have hl5 := co h
     obtain ⟨x5,fb5,hx5,H,hg5⟩ := rMc hl5 hr5
     refine av (ab (az (ab (ac (bs tk (zn j5) (bO eT hx5) ?_)))))
     refine ao tk rfl ?_
     refine bu tk fun b10=>?_
     refine aE tk ?_
     refine af (ac (aT tk ?_))
     refine al 2 tk rfl ?_
     obtain ⟨x42,h42,H⟩ := bw H
     have s42 := qt x5 (IntKind.i64.wrap (s5 - (1 : Int)))
     rw [h42] at s42
     refine aq Tryz.call38 (iR.r) s42 ?_
     refine ao tk rfl (af (aR (bm 2 tk rfl ?_)))
     obtain rfl := am H
     refine aK x42 () ⟨hl5,hg5⟩ (Gh.le (aa (aa (aa (aa (aa (aa (aa (aH (PLe.q (aU (by omega))) aj)))))))) ah ag)
    have hn5 := rMd (cp h) hr5
    refine aO rfl ?_
    refine aQ s5 g5 hn5 (Gh.le (aa (aa (aa (aa (aa aj))))) ah ag)
   have H := bn hn5 Hp5
   refine aR (bm 2 tk rfl ?_)
   obtain rfl := am H
   refine aK s5 () ⟨hl2,hg2⟩ (Gh.le (aa (aa (aa (aa (aH (PLe.q (aU (by omega))) aj))))) ah ag)
  have hn2 := rMd (cp h) hr2
  refine aO rfl ?_
  refine aQ s2 g2 hn2 (Gh.le (aa (aa aj)) ah ag)
 have H := bn hn2 Hp2
 refine ab (ab (ac (al 2 tk rfl (aN tk (zl _) ?_))))
 refine ao tk rfl (af ?_)
 obtain ⟨fl6,H6,Hp6⟩ := ax H
 refine bP tk 46 rfl rfl (fun hz6 _=>?_)
 rw [zl] at hz6
 refine aY (τ := Int) (γ := Unit) (fun s6 g6=>⟨60,upd (fun _=>.any) 1 (ae s6),fun _=>none,fun _=>none⟩) (fun t=>fl6 = .next t) ?_ (fun s6 g6 hn6=>?_)
 ·refine az ?_
  refine bC (fun j6 s6 g6=>⟨60,upd (upd (upd (upd (fun _=>.any) 48 (ae (j6 : Int))) 47 (ae (q.inputs.length : Int))) 46 (.list 35 (q.inputs.map ba))) 1 (ae s6),fun _=>none,fun _=>none⟩) () H6 (Gh.le (aa (aa (aa (aa aj)))) ah ag) (fun j6 s6 g6 hj6 hr6=>?_)
  refine aw 1 tk rfl (ab ?_)
  refine aZ rfl (fun h=>?_) (fun h=>?_)
  ·have hl6 := co h
   obtain ⟨x6,fb6,hx6,H,hg6⟩ := rMc hl6 hr6
   refine av (ab (az (ab (ac (bs tk (zn j6) (bO cM hx6) ?_)))))
   refine ao tk rfl ?_
   refine bu tk fun b12=>?_
   refine aE tk ?_
   refine af (ab (aw 2 tk rfl ?_))
   refine aP rfl H (fun H=>?_) (fun H=>?_)
   ·refine aw 1 tk rfl ?_
    obtain rfl := am H
    have e6 : fl6 = .ret _ := hg6
    subst e6
    obtain rfl := bp Hp6
    refine aC tk rfl (ps := [(ae (-1))]) ⟨_,_,rfl,rfl,rfl⟩ (PLe.q rfl)
   refine av (ac (aT tk ?_))
   refine al 2 tk rfl ?_
   obtain ⟨x57,h57,H⟩ := ax H
   have s57 := hrec82 x6 (IntKind.i64.wrap (s6 - (1 : Int))) _ h57
   refine aq Tryz.call82 (iR.r) s57 ?_
   refine ao tk rfl (af (aR (bm 2 tk rfl ?_)))
   obtain rfl := am H
   refine aK x57 () ⟨hl6,hg6⟩ (Gh.le (aa (aa (aa (aH (PLe.q (aU (by omega))) aj)))) ah ag)
  have hn6 := rMd (cp h) hr6
  refine aO rfl ?_
  refine aQ s6 g6 hn6 (Gh.le (aa aj) ah ag)
 have H := cl hn6 Hp6
 refine aw 2 tk rfl ?_
 obtain rfl := am H
 refine aC tk rfl (ps := [(ae s6)]) ⟨_,_,rfl,rfl,rfl⟩ (PLe.q rfl)
def gE : Nat → LQuery → Int → Option (Int)
 | 0,_,_=>none
 | n + 1,v0,v1=>kr (fun b0 b1=>gE n b0 b1) v0 v1
theorem ru  (n : Nat) : (∀ a0 a1 r,gE n a0 a1 = some r → bc Tryz.prog 82 [(.agg (bE a0)),(ae a1)] (ae r)) := by
 induction n with
 | zero=>exact (by intros; rename_i h; exact absurd (show (none : Option _) = some _ from h) (by simp))
 | succ n ih =>
  exact (fun v0 v1 r h=>rG (fun b0 b1=>gE n b0 b1) ih v0 v1  r h)
def lK (q : LQuery) (most : Int) : Option (Int) := iY fun n=>gE n q most
theorem rZ (q : LQuery) (most : Int) (r : Int) (H : lK q most = some r) :
  bc Tryz.prog 82 [(.agg (bE q)),(ae most)] (ae r) := by
 obtain ⟨n,h⟩ := jG H
 exact (ru  n) q most r h
def fS (sA : List UInt8) : Option (Bool) :=
 ai (
  cond (decide ((sA.length : Int) < (1 : Int)))
   (some true)
   (cond (decide ((sA.length : Int) > (12 : Int)))
    (some true)
    (ai (aG sA 0) fun (x15 : UInt8) =>
    cond (decide ((x15.toNat : Int) ≥ (48 : Int)))
     (ai (aG sA 0) fun (x19 : UInt8) =>
     some (decide ((x19.toNat : Int) ≤ (57 : Int))))
     (some false)))) fun (t1 : Bool) =>
 cond t1
  (some false)
  (ai (cE (sA.length ≤ 2 ^ 47) ()) fun (_ : Unit) =>
  ai (aW (σ := Unit) (ρ := (Bool)) (fun (_ : Nat) (x2 : UInt8) (_ : Unit) =>
   cond (decide ((x2.toNat : Int) < (97 : Int)))
    (cond (decide ((x2.toNat : Int) < (48 : Int)))
     (some (.ret false))
     (cond (decide ((x2.toNat : Int) > (57 : Int)))
      (some (.ret false))
      (some (.next ()))))
    (cond (decide ((x2.toNat : Int) > (122 : Int)))
     (cond (decide ((x2.toNat : Int) < (48 : Int)))
      (some (.ret false))
      (cond (decide ((x2.toNat : Int) > (57 : Int)))
       (some (.ret false))
       (some (.next ()))))
     (some (.next ())))) 0 sA ()) fun fl2=>fl2.thenR fun (_ : Unit) =>
  some true)
theorem mX (sA : List UInt8) (r : Bool) (H : fS sA = some r) :
  bc Tryz.prog 143 [(.str sA)] (aF r) := by
 unfold fS at H
 refine PH.aD Tryz.func143 Tryz.ntmps143 ?_
 refine aw 1 tk rfl (ab (ab ?_))
 obtain ⟨fl1,H1,Hp1⟩ := ax H
 refine aY (τ := Bool) (γ := Unit) (fun t1 g1=>⟨45,upd (upd (fun _=>.any) 22 (aF t1)) 0 (.str sA),fun _=>none,fun _=>none⟩) (fun t=>t = fl1) ?_ (fun t1 g1 hn1=>?_)
 ·have H := H1
  refine ac (al 4 tk rfl ?_)
  refine bF rfl rfl rfl H (fun H=>?_) (fun H=>?_)
  ·refine al 14 tk rfl (af ?_)
   obtain rfl := am H
   refine aQ true () rfl (Gh.le (aa (aa aj)) ah ag)
  refine al 5 tk rfl ?_
  refine bF rfl rfl rfl H (fun H=>?_) (fun H=>?_)
  ·refine al 9 tk rfl (af ?_)
   obtain rfl := am H
   refine aQ true () rfl (Gh.le (aa (aa aj)) ah ag)
  refine ao tk rfl ?_
  obtain ⟨x15,k15,H⟩ := aX H
  refine rp tk rfl rfl rfl rfl rfl rfl k15.1 k15.2 rfl (al 2 tk rfl ?_)
  refine bF rfl rfl rfl H (fun H=>?_) (fun H=>?_)
  ·refine ao tk rfl ?_
   obtain ⟨x19,k19,H⟩ := aX H
   refine rp tk rfl rfl rfl rfl rfl rfl k19.1 k19.2 rfl (al 3 tk rfl (af ?_))
   obtain rfl := am H
   refine aQ (decide ((x19.toNat : Int) ≤ (57 : Int))) () rfl (Gh.le (aa (aa aj)) ah ag)
  refine al 5 tk rfl (af ?_)
  obtain rfl := am H
  refine aQ false () rfl (Gh.le (aa (aa aj)) ah ag)
 subst hn1
 have H := Hp1
 refine aP rfl H (fun H=>?_) (fun H=>?_)
 ·refine aw 1 tk rfl ?_
  obtain rfl := am H
  refine aC tk rfl (ps := [(aF false)]) ⟨_,_,rfl,rfl,rfl⟩ (PLe.q rfl)
 refine av (ab (ab (ac (ao tk rfl ?_))))
 obtain ⟨_,h24,H⟩ := ax H
 refine Ao.s2b (xs := sA) tk rfl rfl rfl rfl rfl rfl rfl rfl rfl rfl rfl (bI h24).1 rfl (aN tk (zl _) ?_)
 refine ao tk rfl (af ?_)
 obtain ⟨fl2,H2,Hp2⟩ := ax H
 refine bP tk 24 rfl rfl (fun hz2 _=>?_)
 rw [zl] at hz2
 refine aY (τ := Unit) (γ := Unit) (fun s2 g2=>⟨45,fun _=>.any,fun _=>none,fun _=>none⟩) (fun t=>fl2 = .next t) ?_ (fun s2 g2 hn2=>?_)
 ·refine az ?_
  refine bC (fun j2 s2 g2=>⟨45,upd (upd (upd (fun _=>.any) 26 (ae (j2 : Int))) 25 (ae (sA.length : Int))) 24 (.list 5 (sA.map rU8)),fun _=>none,fun _=>none⟩) () H2 (Gh.le (aa (aa (aa aj))) ah ag) (fun j2 s2 g2 hj2 hr2=>?_)
  refine aw 1 tk rfl (ab ?_)
  refine aZ rfl (fun h=>?_) (fun h=>?_)
  ·have hl2 := co h
   obtain ⟨x2,fb2,hx2,H,hg2⟩ := rMc hl2 hr2
   refine av (ab (az (ab (ac ?_))))
   refine bs tk (zn j2) (bO (fun _=>rfl) hx2) ?_
   refine al 2 tk rfl (af (ab (ac (al 3 tk rfl ?_))))
   refine bF rfl rfl rfl H (fun H=>?_) (fun H=>?_)
   ·refine al 7 tk rfl ?_
    refine bF rfl rfl rfl H (fun H=>?_) (fun H=>?_)
    ·refine al 4 tk rfl (af (cu rfl (aw 1 tk rfl ?_)))
     obtain rfl := am H
     have e2 : fl2 = .ret _ := hg2
     subst e2
     obtain rfl := bp Hp2
     refine aC tk rfl (ps := [(aF false)]) ⟨_,_,rfl,rfl,rfl⟩ (PLe.q rfl)
    refine al 4 tk rfl (af ?_)
    refine aP rfl H (fun H=>?_) (fun H=>?_)
    ·refine aw 1 tk rfl ?_
     obtain rfl := am H
     have e2 : fl2 = .ret _ := hg2
     subst e2
     obtain rfl := bp Hp2
     refine aC tk rfl (ps := [(aF false)]) ⟨_,_,rfl,rfl,rfl⟩ (PLe.q rfl)
    refine av (aR (bm 2 tk rfl ?_))
    obtain rfl := am H
    refine aK () () ⟨hl2,hg2⟩ (Gh.le (aa (aa (aH (PLe.q (aU (by omega))) aj))) ah ag)
   refine al 4 tk rfl ?_
   refine bF rfl rfl rfl H (fun H=>?_) (fun H=>?_)
   ·refine al 3 tk rfl ?_
    refine bF rfl rfl rfl H (fun H=>?_) (fun H=>?_)
    ·refine al 4 tk rfl (af (cu rfl (aw 1 tk rfl ?_)))
     obtain rfl := am H
     have e2 : fl2 = .ret _ := hg2
     subst e2
     obtain rfl := bp Hp2
     refine aC tk rfl (ps := [(aF false)]) ⟨_,_,rfl,rfl,rfl⟩ (PLe.q rfl)
    refine al 4 tk rfl (af ?_)
    refine aP rfl H (fun H=>?_) (fun H=>?_)
    ·refine aw 1 tk rfl ?_
     obtain rfl := am H
     have e2 : fl2 = .ret _ := hg2
     subst e2
     obtain rfl := bp Hp2
     refine aC tk rfl (ps := [(aF false)]) ⟨_,_,rfl,rfl,rfl⟩ (PLe.q rfl)
    refine av (aR (bm 2 tk rfl ?_))
    obtain rfl := am H
    refine aK () () ⟨hl2,hg2⟩ (Gh.le (aa (aa (aH (PLe.q (aU (by omega))) aj))) ah ag)
   refine al 7 tk rfl (af (bL rfl (av (aR (bm 2 tk rfl ?_)))))
   obtain rfl := am H
   refine aK () () ⟨hl2,hg2⟩ (Gh.le (aa (aa (aH (PLe.q (aU (by omega))) aj))) ah ag)
  have hn2 := rMd (cp h) hr2
  refine aO rfl ?_
  refine aQ s2 g2 hn2 (Gh.le aj ah ag)
 have H := cl hn2 Hp2
 refine aw 1 tk rfl ?_
 obtain rfl := am H
 refine aC tk rfl (ps := [(aF true)]) ⟨_,_,rfl,rfl,rfl⟩ (PLe.q rfl)
def ep (c : LCol) (c0 : List UInt8) : Bool :=
 (c.name == c0)
theorem pw (c : LCol) (c0 : List UInt8) :
  bc Tryz.prog 176 [(.agg (aJ c)),(.ptr [(.str c0)])] (aF (ep c c0)) := by
 obtain ⟨r,H⟩ : ∃ r,ep c c0 = r := ⟨_,rfl⟩
 rw [H]
 unfold ep at H
 refine PH.aD Tryz.func176 Tryz.ntmps176 ?_
 refine ab (ac (aV ?_))
 refine ao tk rfl (af (aw 5 tk rfl ?_))
 subst H
 refine aC tk rfl (ps := [(aF (c.name == c0))]) ⟨_,_,rfl,rfl,rfl⟩ (PLe.q rfl)
def dA (t : LTable) (c0 : List UInt8) : Bool :=
 (t.name == c0)
theorem pW (t : LTable) (c0 : List UInt8) :
  bc Tryz.prog 177 [(.agg (bv t)),(.ptr [(.str c0)])] (aF (dA t c0)) := by
 obtain ⟨r,H⟩ : ∃ r,dA t c0 = r := ⟨_,rfl⟩
 rw [H]
 unfold dA at H
 refine PH.aD Tryz.func177 Tryz.ntmps177 ?_
 refine ab (ac (aV ?_))
 refine ao tk rfl (af (aw 5 tk rfl ?_))
 subst H
 refine aC tk rfl (ps := [(aF (t.name == c0))]) ⟨_,_,rfl,rfl,rfl⟩ (PLe.q rfl)
def gk (s1A : List Int) (s2A : List Int) : Option (Bool) :=
 cond ((s1A.length : Int) != (s2A.length : Int))
  (some false)
  (ai (aW (σ := Unit) (ρ := (Bool)) (fun (j1 : Nat) (x1 : Int) (_ : Unit) =>
   ai (aG s2A (j1 : Int)) fun (x22 : Int) =>
   cond (x1 != x22)
    (some (.ret false))
    (some (.next ()))) 0 s1A ()) fun fl1=>fl1.thenR fun (_ : Unit) =>
  some true)
theorem oN (s1A : List Int) (s2A : List Int) (r : Bool) (H : gk s1A s2A = some r) :
  bc Tryz.prog 147 [(.list 3 (s1A.map bM)),(.list 3 (s2A.map bM))] (aF r) := by
 unfold gk at H
 refine PH.aD Tryz.func147 Tryz.ntmps147 ?_
 refine aw 1 tk rfl (ab (ab (ac (ao tk rfl (aN tk (zl _) ?_)))))
 refine ao tk rfl (aN tk (zl _) ?_)
 refine ao tk rfl (af ?_)
 refine aP rfl H (fun H=>?_) (fun H=>?_)
 ·refine aw 1 tk rfl ?_
  obtain rfl := am H
  refine aC tk rfl (ps := [(aF false)]) ⟨_,_,rfl,rfl,rfl⟩ (PLe.q rfl)
 refine av (ab (ab (ac (ao tk rfl (aN tk (zl _) ?_)))))
 refine ao tk rfl (af ?_)
 obtain ⟨fl1,H1,Hp1⟩ := ax H
 refine bP tk 0 rfl rfl (fun hz1 _=>?_)
 rw [zl] at hz1
 refine aY (τ := Unit) (γ := Unit) (fun s1 g1=>⟨26,fun _=>.any,fun _=>none,fun _=>none⟩) (fun t=>fl1 = .next t) ?_ (fun s1 g1 hn1=>?_)
 ·refine az ?_
  refine bC (fun j1 s1 g1=>⟨26,upd (upd (upd (upd (fun _=>.any) 13 (ae (j1 : Int))) 12 (ae (s1A.length : Int))) 1 (.list 3 (s2A.map bM))) 0 (.list 3 (s1A.map bM)),fun _=>none,fun _=>none⟩) () H1 (Gh.le (aa (aa (aa (aa aj)))) ah ag) (fun j1 s1 g1 hj1 hr1=>?_)
  refine aw 1 tk rfl (ab ?_)
  refine aZ rfl (fun h=>?_) (fun h=>?_)
  ·have hl1 := co h
   obtain ⟨x1,fb1,hx1,H,hg1⟩ := rMc hl1 hr1
   refine av (ab (az (aw 2 tk rfl (ab (bo tk mok ⟨false,false,[]⟩ [0,1,2,3,4,5,6,7,8] rfl (by decide +kernel) rfl (aL 2 rfl ?_))))))
   refine cj (zn j1) (bO (fun _=>rfl) hx1) ?_
   refine aL 3 rfl ?_
   obtain ⟨x22,k22,H⟩ := aX H
   refine cj k22.1 (aI (fun _=>rfl) k22.2) ?_
   refine aL 2 rfl (bh ?_)
   refine aP rfl H (fun H=>?_) (fun H=>?_)
   ·refine aw 1 tk rfl ?_
    obtain rfl := am H
    have e1 : fl1 = .ret _ := hg1
    subst e1
    obtain rfl := bp Hp1
    refine aC tk rfl (ps := [(aF false)]) ⟨_,_,rfl,rfl,rfl⟩ (PLe.q rfl)
   refine av (aR (bm 2 tk rfl ?_))
   obtain rfl := am H
   refine aK () () ⟨hl1,hg1⟩ (Gh.le (aa (aa (aa (aH (PLe.q (aU (by omega))) aj)))) ah ag)
  have hn1 := rMd (cp h) hr1
  refine aO rfl ?_
  refine aQ s1 g1 hn1 (Gh.le aj ah ag)
 have H := cl hn1 Hp1
 refine aw 1 tk rfl ?_
 obtain rfl := am H
 refine aC tk rfl (ps := [(aF true)]) ⟨_,_,rfl,rfl,rfl⟩ (PLe.q rfl)
def de (sA : List LForeignKey) (f : LForeignKey → Option (Bool)) : Option (Int) :=
 ai (aW (σ := Unit) (ρ := (Int)) (fun (j1 : Nat) (x1 : LForeignKey) (_ : Unit) =>
  ai (f x1) fun x16 =>
  cond x16
   (some (.ret (j1 : Int)))
   (some (.next ()))) 0 sA ()) fun fl1=>fl1.thenR fun (_ : Unit) =>
 some (-1)
theorem je {g_f : FuncId} {caps_f : List PV} (sA : List LForeignKey) (f : LForeignKey → Option (Bool)) (hg_f : ∀ (vs : Array Value) (w : World),(callFunc g_f vs).run Tryz.prog w = .ok (.enter g_f vs) w) (hp_f : ∀ a0 r,f a0 = some r → bc Tryz.prog g_f ((.agg (cy a0)) :: caps_f) (aF r)) (r : Int) (H : de sA f = some r) :
  bc Tryz.prog 146 [(.list 142 (sA.map cy)),(.fn g_f caps_f)] (ae r) := by
 unfold de at H
 refine PH.aD Tryz.func146 Tryz.ntmps146 ?_
 refine aw 1 tk rfl (ab (ab (ac (ao tk rfl (aN tk (zl _) ?_)))))
 refine ao tk rfl (af ?_)
 obtain ⟨fl1,H1,Hp1⟩ := ax H
 refine bP tk 0 rfl rfl (fun hz1 _=>?_)
 rw [zl] at hz1
 refine aY (τ := Unit) (γ := Unit) (fun s1 g1=>⟨19,fun _=>.any,fun _=>none,fun _=>none⟩) (fun t=>fl1 = .next t) ?_ (fun s1 g1 hn1=>?_)
 ·refine az ?_
  refine bC (fun j1 s1 g1=>⟨19,upd (upd (upd (upd (fun _=>.any) 8 (ae (j1 : Int))) 7 (ae (sA.length : Int))) 1 (.fn g_f caps_f)) 0 (.list 142 (sA.map cy)),fun _=>none,fun _=>none⟩) () H1 (Gh.le (aa (aa (aa (aa aj)))) ah ag) (fun j1 s1 g1 hj1 hr1=>?_)
  refine aw 1 tk rfl (ab ?_)
  refine aZ rfl (fun h=>?_) (fun h=>?_)
  ·have hl1 := co h
   obtain ⟨x1,fb1,hx1,H,hg1⟩ := rMc hl1 hr1
   refine av (ab (az (aw 2 tk rfl (ab (ac (al 3 tk rfl ?_))))))
   refine bs tk (zn j1) (bO (fun _=>rfl) hx1) ?_
   refine ao tk rfl ?_
   obtain ⟨x16,h16,H⟩ := ax H
   refine aq hg_f (iR.r) (hp_f _ _ h16) ?_
   refine af ?_
   refine aP rfl H (fun H=>?_) (fun H=>?_)
   ·refine aw 2 tk rfl ?_
    obtain rfl := am H
    have e1 : fl1 = .ret _ := hg1
    subst e1
    obtain rfl := bp Hp1
    refine aC tk rfl (ps := [(ae (j1 : Int))]) ⟨_,_,rfl,rfl,rfl⟩ (PLe.q rfl)
   refine av (aR (bm 2 tk rfl ?_))
   obtain rfl := am H
   refine aK () () ⟨hl1,hg1⟩ (Gh.le (aa (aa (aa (aH (PLe.q (aU (by omega))) aj)))) ah ag)
  have hn1 := rMd (cp h) hr1
  refine aO rfl ?_
  refine aQ s1 g1 hn1 (Gh.le aj ah ag)
 have H := cl hn1 Hp1
 refine aw 1 tk rfl ?_
 obtain rfl := am H
 refine aC tk rfl (ps := [(ae (-1))]) ⟨_,_,rfl,rfl,rfl⟩ (PLe.q rfl)
def dv (sA : List LConstraint) (v : LConstraint) : Option (Int) :=
 ai (aW (σ := Unit) (ρ := (Int)) (fun (j1 : Nat) (x1 : LConstraint) (_ : Unit) =>
  cond (v.table == x1.table && (v.left == x1.left && (v.op == x1.op && (v.right == x1.right && ((v.value.kind == x1.value.kind && (v.value.int == x1.value.int && (v.value.text == x1.value.text && true))) && true)))))
   (some (.ret (j1 : Int)))
   (some (.next ()))) 0 sA ()) fun fl1=>fl1.thenR fun (_ : Unit) =>
 some (-1)
theorem jI (sA : List LConstraint) (v : LConstraint) (r : Int) (H : dv sA v = some r) :
  bc Tryz.prog 149 [(.list 148 (sA.map cJ)),(.agg (cJ v))] (ae r) := by
 unfold dv at H
 refine PH.aD Tryz.func149 Tryz.ntmps149 ?_
 refine ab (ac (aV ?_))
 refine ao tk rfl (af (ab (ab (ac (ao tk rfl (aN tk (zl _) ?_))))))
 refine ao tk rfl (af ?_)
 obtain ⟨fl1,H1,Hp1⟩ := ax H
 refine bP tk 0 rfl rfl (fun hz1 _=>?_)
 rw [zl] at hz1
 refine aY (τ := Unit) (γ := Unit) (fun s1 g1=>⟨19,fun _=>.any,fun _=>none,fun _=>none⟩) (fun t=>fl1 = .next t) ?_ (fun s1 g1 hn1=>?_)
 ·refine az ?_
  refine bC (fun j1 s1 g1=>⟨19,upd (upd (upd (upd (fun _=>.any) 8 (ae (j1 : Int))) 7 (ae (sA.length : Int))) 3 (.ptr [(.str v.table),(ae v.left),(.str v.op),(ae v.right),(ae v.value.kind),(ae v.value.int),(.str v.value.text)])) 0 (.list 148 (sA.map cJ)),fun _=>none,fun _=>none⟩) () H1 (Gh.le (aa (aa (aa (aa aj)))) ah ag) (fun j1 s1 g1 hj1 hr1=>?_)
  refine aw 1 tk rfl (ab ?_)
  refine aZ rfl (fun h=>?_) (fun h=>?_)
  ·have hl1 := co h
   obtain ⟨x1,fb1,hx1,H,hg1⟩ := rMc hl1 hr1
   refine av (ab (az (aw 2 tk rfl (ab (bo tk mok ⟨false,false,[]⟩ [0,1,2,3,4,5] rfl (by decide +kernel) rfl (aL 3 rfl ?_))))))
   refine cj (zn j1) (bO (fun _=>rfl) hx1) ?_
   refine cq rfl (sP (b := (v.table == x1.table && (v.left == x1.left && (v.op == x1.op && (v.right == x1.right && ((v.value.kind == x1.value.kind && (v.value.int == x1.value.int && (v.value.text == x1.value.text && true))) && true)))))) tk rfl rfl rfl rfl rfl Tryz.stoodInHeld148 Tryz.eqGuardType148 (eqf := [(9,0),(3,1),(9,2),(3,3),(53,4)]) (by simp [ft,Program.fieldsOf,Tryz.underlying148]) (by kernel_rfl) rfl rfl (bh ?_))
   refine aP rfl H (fun H=>?_) (fun H=>?_)
   ·refine aw 2 tk rfl ?_
    obtain rfl := am H
    have e1 : fl1 = .ret _ := hg1
    subst e1
    obtain rfl := bp Hp1
    refine aC tk rfl (ps := [(ae (j1 : Int))]) ⟨_,_,rfl,rfl,rfl⟩ (PLe.q rfl)
   refine av (aR (bm 2 tk rfl ?_))
   obtain rfl := am H
   refine aK () () ⟨hl1,hg1⟩ (Gh.le (aa (aa (aa (aH (PLe.q (aU (by omega))) aj)))) ah ag)
  have hn1 := rMd (cp h) hr1
  refine aO rfl ?_
  refine aQ s1 g1 hn1 (Gh.le aj ah ag)
 have H := cl hn1 Hp1
 refine aw 1 tk rfl ?_
 obtain rfl := am H
 refine aC tk rfl (ps := [(ae (-1))]) ⟨_,_,rfl,rfl,rfl⟩ (PLe.q rfl)
def cS (s1A : Rz) (s2A : Rz) (eq : Rq → Rq → Option (Bool)) : Option (Bool) :=
 cond ((s1A.length : Int) != (s2A.length : Int))
  (some false)
  (ai (aW (σ := Unit) (ρ := (Bool)) (fun (j1 : Nat) (x1 : Rq) (_ : Unit) =>
   ai (aG s2A (j1 : Int)) fun (x24 : Rq) =>
   ai (eq x1 x24) fun x29 =>
   cond (!x29)
    (some (.ret false))
    (some (.next ()))) 0 s1A ()) fun fl1=>fl1.thenR fun (_ : Unit) =>
  some true)
theorem iK {g_eq : FuncId} {caps_eq : List PV} (s1A : Rz) (s2A : Rz) (eq : Rq → Rq → Option (Bool)) (hg_eq : ∀ (vs : Array Value) (w : World),(callFunc g_eq vs).run Tryz.prog w = .ok (.enter g_eq vs) w) (hp_eq : ∀ a0 a1 r,eq a0 a1 = some r → bc Tryz.prog g_eq ((.list 53 (a0.map ak)) :: (.list 53 (a1.map ak)) :: caps_eq) (aF r)) (r : Bool) (H : cS s1A s2A eq = some r) :
  bc Tryz.prog 56 [(.list 51 (s1A.map (au 53 ak))),(.list 51 (s2A.map (au 53 ak))),(.fn g_eq caps_eq)] (aF r) := by
 unfold cS at H
 refine PH.aD Tryz.func56 Tryz.ntmps56 ?_
 refine aw 1 tk rfl (ab (ab (ac (ao tk rfl (aN tk (zl _) ?_)))))
 refine ao tk rfl (aN tk (zl _) ?_)
 refine ao tk rfl (af ?_)
 refine aP rfl H (fun H=>?_) (fun H=>?_)
 ·refine aw 1 tk rfl ?_
  obtain rfl := am H
  refine aC tk rfl (ps := [(aF false)]) ⟨_,_,rfl,rfl,rfl⟩ (PLe.q rfl)
 refine av (ab (ab (ac (ao tk rfl (aN tk (zl _) ?_)))))
 refine ao tk rfl (af ?_)
 obtain ⟨fl1,H1,Hp1⟩ := ax H
 refine bP tk 15 rfl rfl (fun hz1 _=>?_)
 rw [zl] at hz1
 refine aY (τ := Unit) (γ := Unit) (fun s1 g1=>⟨32,fun _=>.any,fun _=>none,fun _=>none⟩) (fun t=>fl1 = .next t) ?_ (fun s1 g1 hn1=>?_)
 ·refine az ?_
  refine bC (fun j1 s1 g1=>⟨32,upd (upd (upd (upd (upd (fun _=>.any) 17 (ae (j1 : Int))) 16 (ae (s1A.length : Int))) 15 (.list 51 (s1A.map (au 53 ak)))) 2 (.fn g_eq caps_eq)) 1 (.list 51 (s2A.map (au 53 ak))),fun _=>none,fun _=>none⟩) () H1 (Gh.le (aa (aa (aa (aa (aa aj))))) ah ag) (fun j1 s1 g1 hj1 hr1=>?_)
  refine aw 1 tk rfl (ab ?_)
  refine aZ rfl (fun h=>?_) (fun h=>?_)
  ·have hl1 := co h
   obtain ⟨x1,fb1,hx1,H,hg1⟩ := rMc hl1 hr1
   refine av (ab (az (ab (ac (ao tk rfl ?_)))))
   refine bs tk (zn j1) (bO (fun _=>rfl) hx1) ?_
   refine al 3 tk rfl (af (ab (ac (al 2 tk rfl ?_))))
   obtain ⟨x24,k24,H⟩ := aX H
   refine bs tk k24.1 (aI (fun _=>rfl) k24.2) ?_
   refine al 2 tk rfl (af (ab (ac (al 3 tk rfl ?_))))
   obtain ⟨x29,h29,H⟩ := ax H
   refine aq hg_eq (iR.r) (hp_eq _ _ _ h29) ?_
   refine ao tk rfl (af ?_)
   refine aP rfl H (fun H=>?_) (fun H=>?_)
   ·refine aw 1 tk rfl ?_
    obtain rfl := am H
    have e1 : fl1 = .ret _ := hg1
    subst e1
    obtain rfl := bp Hp1
    refine aC tk rfl (ps := [(aF false)]) ⟨_,_,rfl,rfl,rfl⟩ (PLe.q rfl)
   refine av (aR (bm 2 tk rfl ?_))
   obtain rfl := am H
   refine aK () () ⟨hl1,hg1⟩ (Gh.le (aa (aa (aa (aa (aH (PLe.q (aU (by omega))) aj))))) ah ag)
  have hn1 := rMd (cp h) hr1
  refine aO rfl ?_
  refine aQ s1 g1 hn1 (Gh.le aj ah ag)
 have H := cl hn1 Hp1
 refine aw 1 tk rfl ?_
 obtain rfl := am H
 refine aC tk rfl (ps := [(aF true)]) ⟨_,_,rfl,rfl,rfl⟩ (PLe.q rfl)
def jR (x : Int) : Option (Int) :=
 bf (
  cond (decide (x ≥ (4294967296 : Int)))
   (((Int.fdiv x (2 ^ 32)),32))
   ((x,0))) fun (t1 : Int × Int) =>
 bf (
  cond (decide (t1.1 ≥ (65536 : Int)))
   (((Int.fdiv t1.1 (2 ^ 16)),(IntKind.i64.wrap (t1.2 + (16 : Int)))))
   ((t1.1,t1.2))) fun (t2 : Int × Int) =>
 bf (
  cond (decide (t2.1 ≥ (256 : Int)))
   (((Int.fdiv t2.1 (2 ^ 8)),(IntKind.i64.wrap (t2.2 + (8 : Int)))))
   ((t2.1,t2.2))) fun (t3 : Int × Int) =>
 ai (aG ([0,1,2,2,3,3,3,3,4,4,4,4,4,4,4,4,5,5,5,5,5,5,5,5,5,5,5,5,5,5,5,5,6,6,6,6,6,6,6,6,6,6,6,6,6,6,6,6,6,6,6,6,6,6,6,6,6,6,6,6,6,6,6,6,7,7,7,7,7,7,7,7,7,7,7,7,7,7,7,7,7,7,7,7,7,7,7,7,7,7,7,7,7,7,7,7,7,7,7,7,7,7,7,7,7,7,7,7,7,7,7,7,7,7,7,7,7,7,7,7,7,7,7,7,7,7,7,7,8,8,8,8,8,8,8,8,8,8,8,8,8,8,8,8,8,8,8,8,8,8,8,8,8,8,8,8,8,8,8,8,8,8,8,8,8,8,8,8,8,8,8,8,8,8,8,8,8,8,8,8,8,8,8,8,8,8,8,8,8,8,8,8,8,8,8,8,8,8,8,8,8,8,8,8,8,8,8,8,8,8,8,8,8,8,8,8,8,8,8,8,8,8,8,8,8,8,8,8,8,8,8,8,8,8,8,8,8,8,8,8,8,8,8,8,8,8,8,8,8,8,8,8,8,8,8,8] : List UInt8) ((u8of t3.1).toNat : Int)) fun (x22 : UInt8) =>
 some (IntKind.i64.wrap (t3.2 + (IntKind.i64.wrap (x22.toNat : Int))))
theorem rx (x : Int) (r : Int) (H : jR x = some r) :
  bc Tryz.prog 123 [(.val (.int .u64 x))] (ae r) := by
 unfold jR at H
 refine PH.aD Tryz.func123 Tryz.ntmps123 ?_
 refine aw 1 tk rfl (ab (aw 2 tk rfl ?_))
 obtain ⟨fl1,H1,Hp1⟩ := bw H
 refine aY (τ := Int × Int) (γ := Unit) (fun t1 g1=>⟨25,upd (upd (fun _=>.any) 2 (ae t1.2)) 0 (.val (.int .u64 t1.1)),fun _=>none,fun _=>none⟩) (fun t=>t = fl1) ?_ (fun t1 g1 hn1=>?_)
 ·have H := H1
  refine aP rfl H (fun H=>?_) (fun H=>?_)
  ·refine ab (ac (ao tk rfl (oK (m := 32) rfl rfl rfl rfl (by decide) rfl rfl (ao tk rfl (af (bm 1 tk rfl ?_))))))
   subst H
   refine aQ ((Int.fdiv x (2 ^ 32)),32) () rfl (Gh.le (aa (aa aj)) ah ag)
  refine av ?_
  subst H
  refine aQ (x,0) () rfl (Gh.le (aa (aa aj)) ah ag)
 subst hn1
 have H := Hp1
 refine ab (aw 2 tk rfl ?_)
 obtain ⟨fl2,H2,Hp2⟩ := bw H
 refine aY (τ := Int × Int) (γ := Unit) (fun t2 g2=>⟨25,upd (upd (fun _=>.any) 2 (ae t2.2)) 0 (.val (.int .u64 t2.1)),fun _=>none,fun _=>none⟩) (fun t=>t = fl2) ?_ (fun t2 g2 hn2=>?_)
 ·have H := H2
  refine aP rfl H (fun H=>?_) (fun H=>?_)
  ·refine ab (ac (ao tk rfl (oK (m := 16) rfl rfl rfl rfl (by decide) rfl rfl (ao tk rfl (af (bm 3 tk rfl ?_))))))
   subst H
   refine aQ ((Int.fdiv t1.1 (2 ^ 16)),(IntKind.i64.wrap (t1.2 + (16 : Int)))) () rfl (Gh.le (aa (aa aj)) ah ag)
  refine av ?_
  subst H
  refine aQ (t1.1,t1.2) () rfl (Gh.le (aa (aa aj)) ah ag)
 subst hn2
 have H := Hp2
 refine ab (aw 2 tk rfl ?_)
 obtain ⟨fl3,H3,Hp3⟩ := bw H
 refine aY (τ := Int × Int) (γ := Unit) (fun t3 g3=>⟨25,upd (upd (fun _=>.any) 2 (ae t3.2)) 0 (.val (.int .u64 t3.1)),fun _=>none,fun _=>none⟩) (fun t=>t = fl3) ?_ (fun t3 g3 hn3=>?_)
 ·have H := H3
  refine aP rfl H (fun H=>?_) (fun H=>?_)
  ·refine ab (ac (ao tk rfl (oK (m := 8) rfl rfl rfl rfl (by decide) rfl rfl (ao tk rfl (af (bm 3 tk rfl ?_))))))
   subst H
   refine aQ ((Int.fdiv t2.1 (2 ^ 8)),(IntKind.i64.wrap (t2.2 + (8 : Int)))) () rfl (Gh.le (aa (aa aj)) ah ag)
  refine av ?_
  subst H
  refine aQ (t2.1,t2.2) () rfl (Gh.le (aa (aa aj)) ah ag)
 subst hn3
 have H := Hp3
 refine ab (ac (al 2 tk rfl (Ao.toU8 tk rfl rfl rfl rfl rfl rfl rfl ?_)))
 obtain ⟨x22,k22,H⟩ := aX H
 refine rp tk rfl rfl rfl rfl rfl rfl k22.1 k22.2 rfl (al 3 tk rfl (af ?_))
 obtain rfl := am H
 refine aC tk rfl (ps := [(ae (IntKind.i64.wrap (t3.2 + (IntKind.i64.wrap (x22.toNat : Int)))))]) ⟨_,_,rfl,rfl,rfl⟩ (PLe.q rfl)
def ir (rA : Int) : Option (Int × Int) :=
 ai (shlI .u64 rA (13 : Int)) fun (x9 : Int) =>
 ai (shlI .u64 (iP .u64 (iP .u64 rA x9) (Int.fdiv (iP .u64 rA x9) (2 ^ 7))) (17 : Int)) fun (x27 : Int) =>
 some ((iP .u64 (iP .u64 (iP .u64 rA x9) (Int.fdiv (iP .u64 rA x9) (2 ^ 7))) x27),(iP .u64 (iP .u64 (iP .u64 rA x9) (Int.fdiv (iP .u64 rA x9) (2 ^ 7))) x27))
theorem pp (b_rA : Nat) (rA : Int) (r : Int × Int) (H : ir rA = some r) :
  PH Tryz.prog 162 [(.box 1500 b_rA 0)] ⟨upd (fun _=>none) 1500 (some ⟨b_rA,[(.val (.int .u64 rA))]⟩),fun _=>none⟩ (fun u H=>u = (.val (.int .u64 r.1)) ∧ H = ⟨upd (fun _=>none) 1500 (some ⟨b_rA,[(.val (.int .u64 r.2))]⟩),fun _=>none⟩) := by
 unfold ir at H
 refine PH.aD Tryz.func162 Tryz.ntmps162 ?_
 refine aw 1 tk rfl (ab (bo tk mok ⟨true,false,[]⟩ [0,1,2,3,4,5,6,7,8,9] rfl (by decide +kernel) rfl (aL 2 rfl (cC ?_))))
 refine aL 2 rfl (cC ?_)
 obtain ⟨x9,h9,H⟩ := ax H
 refine sS rfl rfl rfl rfl rfl h9 rfl (sx rfl rfl rfl rfl rfl rfl (cq rfl (ec ?_)))
 refine bh (ab (bo tk mok ⟨true,false,[]⟩ [0,1,2,3,4,5,6,7,8,9] rfl (by decide +kernel) rfl (aL 2 rfl (cC ?_))))
 refine aL 2 rfl (cC ?_)
 refine Do.shr (m := 7) rfl rfl rfl rfl rfl (by decide) rfl rfl (sx rfl rfl rfl rfl rfl rfl (cq rfl (ec ?_)))
 refine bh (ab (bo tk mok ⟨true,false,[]⟩ [0,1,2,3,4,5,6,7,8,9] rfl (by decide +kernel) rfl (aL 2 rfl (cC ?_))))
 refine aL 2 rfl (cC ?_)
 obtain ⟨x27,h27,H⟩ := ax H
 refine sS rfl rfl rfl rfl rfl h27 rfl (sx rfl rfl rfl rfl rfl rfl (cq rfl (ec ?_)))
 refine bh (ab (ac (al 2 tk rfl (aT tk ?_))))
 refine ao tk rfl (af ?_)
 obtain rfl := am H
 refine dq (st' := ⟨33,upd (fun _=>.any) 2 (.val (.int .u64 (iP .u64 (iP .u64 (iP .u64 rA x9) (Int.fdiv (iP .u64 rA x9) (2 ^ 7))) x27))),upd (fun _=>none) 1500 (some ⟨b_rA,[(.val (.int .u64 (iP .u64 (iP .u64 (iP .u64 rA x9) (Int.fdiv (iP .u64 rA x9) (2 ^ 7))) x27)))]⟩),fun _=>none⟩) (Gh.le (aa aj) (aA rfl (iR.r) ah) ag) ?_
 refine eH tk rfl (ps := [(.val (.int .u64 (iP .u64 (iP .u64 (iP .u64 rA x9) (Int.fdiv (iP .u64 rA x9) (2 ^ 7))) x27)))]) ⟨_,_,rfl,rfl,rfl⟩ (PLe.q rfl) ⟨rfl,rfl⟩
def gL (x : List UInt8) : Bool :=
 (!(x == x))
theorem nm (x : List UInt8) :
  bc Tryz.prog 96 [(.str x)] (aF (gL x)) := by
 obtain ⟨r,H⟩ : ∃ r,gL x = r := ⟨_,rfl⟩
 rw [H]
 unfold gL at H
 refine PH.aD Tryz.func96 Tryz.ntmps96 ?_
 refine aw 1 tk rfl (aw 4 tk rfl ?_)
 subst H
 refine aC tk rfl (ps := [(aF (!(x == x)))]) ⟨_,_,rfl,rfl,rfl⟩ (PLe.q rfl)
def dL (data : List (List UInt8)) (a : Int) (b : Int) : Option ((List (List UInt8))) :=
 ai (whileM (σ := List (List UInt8) × Int × Int) (ρ := Empty) (fun (s1 : List (List UInt8) × Int × Int) =>
  cond (decide (s1.2.1 < s1.2.2))
   (ai (aG s1.1 s1.2.2) fun (x20 : List UInt8) =>
   ai (aG s1.1 s1.2.1) fun (x24 : List UInt8) =>
   ai (aG s1.1 s1.2.1) fun (_ : List UInt8) =>
   bf (s1.1.set s1.2.1.toNat x20) fun (y6 : List (List UInt8)) =>
   ai (aG y6 s1.2.2) fun (_ : List UInt8) =>
   bf (y6.set s1.2.2.toNat x24) fun (y7 : List (List UInt8)) =>
   some (.next (y7,(IntKind.i64.wrap (s1.2.1 + (1 : Int))),(IntKind.i64.wrap (s1.2.2 - (1 : Int))))))
   (some (.brk (s1.1,s1.2.1,s1.2.2)))) (data,a,(IntKind.i64.wrap (b - (1 : Int))))) fun fl1=>fl1.thenP fun (s1 : List (List UInt8) × Int × Int) =>
 some s1.1
theorem ld (g_data : OwnRef) (data : List (List UInt8)) (a : Int) (b : Int) (r : (List (List UInt8))) (H : dL data a b = some r) :
  PH Tryz.prog 128 [(.own 0 g_data (data.map aB).length),(ae a),(ae b)] ⟨fun _=>none,upd (fun _=>none) 0 (some ⟨g_data,9,(data.map aB),true⟩)⟩ (fun u H=>u = (.tup []) ∧ H = ⟨fun _=>none,upd (fun _=>none) 0 (some ⟨g_data,9,(r.map aB),true⟩)⟩) := by
 unfold dL at H
 refine PH.aD Tryz.func128 Tryz.ntmps128 ?_
 refine aw 2 tk rfl (aw 3 tk rfl ?_)
 obtain ⟨fl1,H1,Hp1⟩ := ax H
 refine aY (τ := List (List UInt8) × Int × Int) (γ := Unit) (fun s1 g1=>⟨32,upd (fun _=>.any) 0 (.own 0 g_data (s1.1.map aB).length),fun _=>none,upd (fun _=>none) 0 (some ⟨g_data,9,(s1.1.map aB),true⟩)⟩) (fun t=>fl1 = .next t) ?_ (fun s1 g1 hn1=>?_)
 ·refine az ?_
  refine cA (fun s1 g1=>⟨32,upd (upd (upd (fun _=>.any) 7 (ae s1.2.2)) 6 (ae s1.2.1)) 0 (.own 0 g_data (s1.1.map aB).length),fun _=>none,upd (fun _=>none) 0 (some ⟨g_data,9,(s1.1.map aB),true⟩)⟩) () H1 (Gh.le (aa (aa (aa aj))) ah (ay ag)) (fun m1 s1 g1 hr1=>?_)
  obtain ⟨fb1,H,hg1⟩ := bZ hr1
  refine ab (aw 3 tk rfl ?_)
  refine aP rfl H (fun H=>?_) (fun H=>?_)
  ·refine av (az (ab ?_))
   refine cK (tag := 0) rfl (fun ho0=>?_)
   refine bo tk mok ⟨false,true,[]⟩ [0,1,2,3,4,5,6,7,8,9,10,11,12,13,14,15] rfl (by decide +kernel) rfl (aL 6 rfl ?_)
   obtain ⟨x20,k20,H⟩ := aX H
   refine aS tk ⟨k20.1,(bl k20.2)⟩ (bi ho0 k20.2) ?_
   refine bd tk (aI (fun _=>rfl) k20.2) ?_
   refine aL 2 rfl ?_
   obtain ⟨x24,k24,H⟩ := aX H
   refine aS tk ⟨k24.1,(bl k24.2)⟩ (bi ho0 k24.2) ?_
   refine bd tk (aI (fun _=>rfl) k24.2) ?_
   obtain ⟨x26,k26,H⟩ := aX H
   refine aS tk ⟨k26.1,(bl k26.2)⟩ (bi ho0 k26.2) ?_
   obtain ⟨y6,hy6,H⟩ := bw H
   refine cg tk rfl rfl rfl rfl rfl rfl rfl rfl rfl (by rw [zl]; exact (zg.1 k26.2).1) (PLe.refl _ _) rfl rfl rfl rfl (by decide) (bG (fun _=>rfl) k26.2 rfl hy6) ?_
   obtain ⟨x27,k27,H⟩ := aX H
   refine aS tk ⟨k27.1,(gg (bq (f := aB) hy6) k27.2)⟩ (gc ho0 (bq (f := aB) hy6) k27.2) ?_
   obtain ⟨y7,hy7,H⟩ := bw H
   refine cg tk rfl rfl rfl rfl rfl rfl rfl rfl rfl (by rw [zl]; exact (zg.1 k27.2).1) (PLe.refl _ _) rfl rfl rfl rfl (by decide) (bG (fun _=>rfl) k27.2 rfl hy7) ?_
   refine bh (aw 3 tk rfl (bm 3 tk rfl (aR ?_)))
   obtain rfl := am H
   refine aK (y7,(IntKind.i64.wrap (s1.2.1 + (1 : Int))),(IntKind.i64.wrap (s1.2.2 - (1 : Int)))) () hg1 (Gh.le (aH (PLe.of2 (PLe2.of_eq (congrArg (PV.own 0 g_data) ((bq (f := aB) hy6).trans (bq (f := aB) hy7))))) (aa (aa aj))) ah (ay ag))
  refine aO rfl ?_
  obtain rfl := am H
  refine aQ (s1.1,s1.2.1,s1.2.2) () hg1 (Gh.le (aa aj) ah (ay ag))
 have H := bn hn1 Hp1
 obtain rfl := am H
 refine dq (st' := ⟨32,fun _=>.any,fun _=>none,upd (fun _=>none) 0 (some ⟨g_data,9,(s1.1.map aB),true⟩)⟩) (Gh.le aj ah (ay ag)) ?_
 refine iy rfl (PLe.q rfl) ⟨rfl,rfl⟩
def eB (sA : List (List UInt8)) : Option (List (List UInt8)) :=
 cond (decide ((sA.length : Int) < (2 : Int)))
  (some sA)
  (ai (whileM (σ := List (List UInt8) × Int) (ρ := (List (List UInt8))) (fun (s1 : List (List UInt8) × Int) =>
   cond (decide (s1.2 < (s1.1.length : Int)))
    (ai (aG s1.1 s1.2) fun (x18 : List UInt8) =>
    ai (aG s1.1 (IntKind.i64.wrap (s1.2 - (1 : Int)))) fun (x23 : List UInt8) =>
    cond (x18 == x23)
     (ai (nw s1.1 s1.2) fun (_y16 : List (List UInt8)) =>
     ai (whileM (σ := List (List UInt8) × Int × Int) (ρ := Empty) (fun (s17 : List (List UInt8) × Int × Int) =>
      cond (decide (s17.2.2 < (((s1.1.map aB).length - s1.2.toNat : Nat) : Int)))
       (ai (getS s17.1 s1.2.toNat ((s1.1.map aB).length) s17.2.2) fun (x37 : List UInt8) =>
       ai (getS s17.1 s1.2.toNat ((s1.1.map aB).length) (IntKind.i64.wrap (s17.2.2 - (1 : Int)))) fun (x42 : List UInt8) =>
       cond (!(x37 == x42))
        (ai (getS s17.1 s1.2.toNat ((s1.1.map aB).length) s17.2.2) fun (x49 : List UInt8) =>
        ai (aG s17.1 s17.2.1) fun (_ : List UInt8) =>
        bf (s17.1.set s17.2.1.toNat x49) fun (y20 : List (List UInt8)) =>
        some (.next (y20,(IntKind.i64.wrap (s17.2.1 + (1 : Int))),(IntKind.i64.wrap (s17.2.2 + (1 : Int))))))
        (some (.next (s17.1,s17.2.1,(IntKind.i64.wrap (s17.2.2 + (1 : Int)))))))
       (some (.brk (s17.1,s17.2.1,s17.2.2)))) (s1.1,s1.2,1)) fun fl17=>fl17.thenP fun (s17 : List (List UInt8) × Int × Int) =>
     ai (nw s17.1 s17.2.1) fun (y21 : List (List UInt8)) =>
     ai (nw y21 s17.2.1) fun (y22 : List (List UInt8)) =>
     some (.ret y22))
     (some (.next (s1.1,(IntKind.i64.wrap (s1.2 + (1 : Int)))))))
    (some (.brk (s1.1,s1.2)))) (sA,1)) fun fl1=>fl1.thenR fun (s1 : List (List UInt8) × Int) =>
  some s1.1)
theorem lU (g_sA : OwnRef) (sA : List (List UInt8)) (r : List (List UInt8)) (H : eB sA = some r) :
  PH Tryz.prog 78 [(.own 0 g_sA (sA.map aB).length)] ⟨fun _=>none,upd (fun _=>none) 0 (some ⟨g_sA,9,(sA.map aB),true⟩)⟩ (fun u H=>u = .own 0 g_sA (r.map aB).length ∧ H = ⟨fun _=>none,upd (fun _=>none) 0 (some ⟨g_sA,9,(r.map aB),true⟩)⟩) := by
 unfold eB at H
 refine PH.aD Tryz.func78 Tryz.ntmps78 ?_
 refine aw 1 tk rfl (ab (ab (ac (ao tk rfl (ip tk (zl _) ?_)))))
 refine ao tk rfl (af ?_)
 refine aP rfl H (fun H=>?_) (fun H=>?_)
 ·refine aw 2 tk rfl ?_
  obtain rfl := am H
  refine dq (st' := ⟨61,upd (fun _=>.any) 2 (.own 0 g_sA (sA.map aB).length),fun _=>none,upd (fun _=>none) 0 (some ⟨g_sA,9,(sA.map aB),true⟩)⟩) (Gh.le (aa aj) ah (ay ag)) ?_
  refine eH tk rfl (ps := [(.own 0 g_sA (sA.map aB).length)]) ⟨_,_,rfl,rfl,rfl⟩ (PLe.of2 (PLe2.own rfl)) ⟨rfl,rfl⟩
 refine av (ab (aw 1 tk rfl ?_))
 obtain ⟨fl1,H1,Hp1⟩ := ax H
 refine aY (τ := List (List UInt8) × Int) (γ := Unit) (fun s1 g1=>⟨61,upd (fun _=>.any) 0 (.own 0 g_sA (s1.1.map aB).length),fun _=>none,upd (fun _=>none) 0 (some ⟨g_sA,9,(s1.1.map aB),true⟩)⟩) (fun t=>fl1 = .next t) ?_ (fun s1 g1 hn1=>?_)
 ·refine az ?_
  refine cA (fun s1 g1=>⟨61,upd (upd (fun _=>.any) 3 (ae s1.2)) 0 (.own 0 g_sA (s1.1.map aB).length),fun _=>none,upd (fun _=>none) 0 (some ⟨g_sA,9,(s1.1.map aB),true⟩)⟩) () H1 (Gh.le (aa (aa aj)) ah (ay ag)) (fun m1 s1 g1 hr1=>?_)
  obtain ⟨fb1,H,hg1⟩ := bZ hr1
  refine ab (ab (ac (al 2 tk rfl (ip tk (zl _) ?_))))
  refine ao tk rfl (af ?_)
  refine aP rfl H (fun H=>?_) (fun H=>?_)
  ·refine av (ab (az (ab ?_)))
   refine cK (tag := 0) rfl (fun ho0=>?_)
   refine bo tk mok ⟨false,true,[]⟩ [0,1,2,3,4,5,6,7,8,9] rfl (by decide +kernel) rfl (aL 2 rfl ?_)
   obtain ⟨x18,k18,H⟩ := aX H
   refine aS tk ⟨k18.1,(bl k18.2)⟩ (bi ho0 k18.2) ?_
   refine bd tk (aI (fun _=>rfl) k18.2) ?_
   refine aL 3 rfl ?_
   obtain ⟨x23,k23,H⟩ := aX H
   refine aS tk ⟨k23.1,(bl k23.2)⟩ (bi ho0 k23.2) ?_
   refine bd tk (aI (fun _=>rfl) k23.2) ?_
   refine cq rfl (bh ?_)
   refine aP rfl H (fun H=>?_) (fun H=>?_)
   ·refine ab (ac (al 2 tk rfl ?_))
    obtain ⟨y16,hy16,H⟩ := ax H
    have ky16 := np hy16
    refine so (tag := 0) rfl (fun hcy16=>?_)
    have hny16 : (s1.1.map aB).length = (List.map aB s1.1).length := rfl
    have hmy16 := ky16.2.1
    rw [← zl (f := aB),← hny16] at hmy16
    rw [← hny16] at hcy16
    refine pI (l := s1.2.toNat) (h := (s1.1.map aB).length) (m := g_sA.cap) tk rfl rfl rfl rfl rfl rfl ⟨_,_,rfl,(Int.toNat_of_nonneg ky16.1).symm⟩ rfl rfl (by decide) hmy16 hcy16 (Nat.le_refl _) rfl (ao tk rfl (af (ab (aw 1 tk rfl ?_))))
    obtain ⟨fl17,H17,Hp17⟩ := ax H
    refine aY (τ := List (List UInt8) × Int × Int) (γ := Unit) (fun s17 g17=>⟨61,upd (upd (fun _=>.any) 3 (ae s17.2.1)) 0 (.own 0 g_sA (s17.1.map aB).length),fun _=>none,upd (fun _=>none) 0 (some ⟨g_sA,9,(s17.1.map aB),true⟩)⟩) (fun t=>fl17 = .next t) ?_ (fun s17 g17 hn17=>?_)
    ·refine az ?_
     refine cA (fun s17 g17=>⟨61,upd (upd (upd (upd (fun _=>.any) 5 (ae s17.2.2)) 4 (.val (OwnRef.sub g_sA 1 s1.2.toNat ((s1.1.map aB).length) g_sA.cap))) 3 (ae s17.2.1)) 0 (.own 0 g_sA (s17.1.map aB).length),fun _=>none,upd (fun _=>none) 0 (some ⟨g_sA,9,(s17.1.map aB),true⟩)⟩) () H17 (Gh.le (aa (aa (aa (aa aj)))) ah (ay ag)) (fun m17 s17 g17 hr17=>?_)
     obtain ⟨fb17,H,hg17⟩ := bZ hr17
     refine ab (ab (ac (al 2 tk rfl (Ao.lenV tk rfl rfl rfl rfl rfl rfl (ao tk rfl (af ?_))))))
     refine aP rfl H (fun H=>?_) (fun H=>?_)
     ·refine av (ab (az (ab ?_)))
      refine cK (tag := 0) rfl (fun ho0=>?_)
      refine bo tk mok ⟨false,true,[]⟩ [0,1,2,3,4,5,6,7,8,9] rfl (by decide +kernel) rfl (aL 2 rfl ?_)
      obtain ⟨x37,k37,H⟩ := getSE H
      refine sJ tk rfl rfl rfl rfl rfl rfl 0 rfl rfl rfl k37.1 hcy16 (bi ho0 k37.2) rfl ?_
      refine bd tk (rowsGetN (fun _=>rfl) k37.2) ?_
      refine aL 3 rfl ?_
      obtain ⟨x42,k42,H⟩ := getSE H
      refine sJ tk rfl rfl rfl rfl rfl rfl 0 rfl rfl rfl k42.1 hcy16 (bi ho0 k42.2) rfl ?_
      refine bd tk (rowsGetN (fun _=>rfl) k42.2) ?_
      refine cq rfl (bh ?_)
      refine aP rfl H (fun H=>?_) (fun H=>?_)
      ·refine ab (ac (al 4 tk rfl ?_))
       obtain ⟨x49,k49,H⟩ := getSE H
       refine jW (tag := 0) rfl (fun ho0=>?_)
       refine Ao.idxV tk rfl rfl rfl rfl rfl 0 rfl rfl rfl k49.1 hcy16 (bi ho0 k49.2) rfl ?_
       refine oF tk rfl rfl rfl rfl rfl rfl rfl (rowsGetN (fun _=>rfl) k49.2) rfl rfl ?_
       obtain ⟨x51,k51,H⟩ := aX H
       refine jW (tag := 0) rfl (fun ho0=>?_)
       refine jM tk ⟨k51.1,(bl k51.2)⟩ (bi ho0 k51.2) ?_
       obtain ⟨y20,hy20,H⟩ := bw H
       refine lM tk rfl rfl rfl rfl rfl rfl rfl rfl (by rw [zl]; exact (zg.1 k51.2).1) (PLe.refl _ _) rfl rfl rfl rfl (by decide) (bG (fun _=>rfl) k51.2 rfl hy20) ?_
       refine af (bm 3 tk rfl (aR (bm 3 tk rfl ?_)))
       obtain rfl := am H
       refine aK (y20,(IntKind.i64.wrap (s17.2.1 + (1 : Int))),(IntKind.i64.wrap (s17.2.2 + (1 : Int)))) () hg17 (Gh.le (aH (PLe.of2 (PLe2.of_eq (congrArg (PV.own 0 g_sA) (bq (f := aB) hy20)))) (aa (aa (aa aj)))) ah (ay ag))
      refine av (aR (bm 3 tk rfl ?_))
      obtain rfl := am H
      refine aK (s17.1,s17.2.1,(IntKind.i64.wrap (s17.2.2 + (1 : Int)))) () hg17 (Gh.le (aa (aa (aa (aa aj)))) ah (ay ag))
     refine aO rfl ?_
     obtain rfl := am H
     refine aQ (s17.1,s17.2.1,s17.2.2) () hg17 (Gh.le (aa (aa aj)) ah (ay ag))
    have H := bn hn17 Hp17
    refine ab (ac (al 2 tk rfl ?_))
    obtain ⟨y21,hy21,H⟩ := ax H
    have ky21 := np hy21
    refine so (tag := 0) rfl (fun hcy21=>?_)
    have hny21 : (s17.1.map aB).length = (List.map aB s17.1).length := rfl
    have hmy21 := ky21.2.1
    rw [← zl (f := aB),← hny21] at hmy21
    rw [← hny21] at hcy21
    refine pI (l := s17.2.1.toNat) (h := (s17.1.map aB).length) (m := g_sA.cap) tk rfl rfl rfl rfl rfl rfl ⟨_,_,rfl,(Int.toNat_of_nonneg ky21.1).symm⟩ rfl rfl (by decide) hmy21 hcy21 (Nat.le_refl _) rfl (cw (Gh.cutO (tag := 0) (rows' := List.map aB y21) rfl s17.2.1.toNat (by rw [← List.map_take,ky21.2.2])) ?_)
    refine qM (tag := 0) (rows := List.map aB y21) tk rfl rfl rfl rfl rfl rfl rfl rfl rfl (p := s17.2.1.toNat) (q := (s17.1.map aB).length) (m := g_sA.cap) (by rw [zl,ky21.2.2,List.length_take]; exact Nat.min_le_left _ _) hmy21 hcy21 (Nat.le_refl _) rfl ?_
    refine af (ab (ac (al 2 tk rfl ?_)))
    obtain ⟨y22,hy22,H⟩ := ax H
    have ky22 := np hy22
    refine sE (rows' := List.map aB y22) tk rfl rfl rfl rfl rfl rfl rfl rfl ⟨ky22.1,by rw [zl]; exact ky22.2.1⟩ (by rw [← List.map_take,ky22.2.2]) rfl rfl ?_
    refine ao tk rfl (af ?_)
    obtain rfl := am H
    have e1 : fl1 = .ret _ := hg1
    subst e1
    obtain rfl := bp Hp1
    refine dq (st' := ⟨61,upd (fun _=>.any) 2 (.own 0 g_sA (y22.map aB).length),fun _=>none,upd (fun _=>none) 0 (some ⟨g_sA,9,(y22.map aB),true⟩)⟩) (Gh.le (aa aj) ah (ay ag)) ?_
    refine eH tk rfl (ps := [(.own 0 g_sA (y22.map aB).length)]) ⟨_,_,rfl,rfl,rfl⟩ (PLe.of2 (PLe2.own rfl)) ⟨rfl,rfl⟩
   refine av (aR (bm 3 tk rfl ?_))
   obtain rfl := am H
   refine aK (s1.1,(IntKind.i64.wrap (s1.2 + (1 : Int)))) () hg1 (Gh.le (aa (aa aj)) ah (ay ag))
  refine aO rfl ?_
  obtain rfl := am H
  refine aQ (s1.1,s1.2) () hg1 (Gh.le (aa aj) ah (ay ag))
 have H := cl hn1 Hp1
 refine aw 2 tk rfl ?_
 obtain rfl := am H
 refine dq (st' := ⟨61,upd (fun _=>.any) 2 (.own 0 g_sA (s1.1.map aB).length),fun _=>none,upd (fun _=>none) 0 (some ⟨g_sA,9,(s1.1.map aB),true⟩)⟩) (Gh.le (aa aj) ah (ay ag)) ?_
 refine eH tk rfl (ps := [(.own 0 g_sA (s1.1.map aB).length)]) ⟨_,_,rfl,rfl,rfl⟩ (PLe.of2 (PLe2.own rfl)) ⟨rfl,rfl⟩
end
end Go.Proofs.YtgaggbdcedpapaaGreat
