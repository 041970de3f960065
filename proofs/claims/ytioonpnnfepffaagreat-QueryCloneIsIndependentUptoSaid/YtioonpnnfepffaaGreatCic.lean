/- queryCloneIsIndependentUpto_holds, part 3: the layer, the plain functions and what they compute; conditions as in the statement. -/
import Derived.Test.YtioonpnnfepffaaGreatCib
set_option maxHeartbeats 4000000
namespace Go.Ab
noncomputable section
section
variable {P : Program} {T : TT}
theorem detS_idxO (hT : T.Ok P) {o : Oper} {ev : Operand → PV} {H : Heap} {t : TypeId} {x i : Operand} (ho : o.op = .indexAddr t x i) {ti ei : TInfo} {e : TypeId} (hti : T.get t = some ti) (hd : ti.desc = .slice e) (hei : T.get e = some ei)
  {tag : Nat} {g : OwnRef} {len : Nat} (hx : ev x = .own tag g len) {k : IntKind} {j : Int} (hi : ev i = .val (.int k j)) (hj : 0 ≤ j ∧ j.toNat < len) (hb : ∃ b,g.blk = some b) : DetS P o ev H (.optr tag g ei.size j.toNat 0) := by
 intro C M a w _ he
 have hxr := he x (by rw [ho]; simp [Op.operands])
 have hir := he i (by rw [ho]; simp [Op.operands])
 rw [hx] at hxr
 rw [hi] at hir
 simp only [Rep] at hxr hir
 obtain ⟨b,hb⟩ := hb
 have hu := (hT.get hti).rund w
 rw [hd] at hu
 have hsz := (hT.get hei).rsize w
 have h2 : j < (len : Int) := by omega
 refine ⟨.pointer (some ⟨b,j.toNat * ei.size,none⟩),?_,?_⟩
 ·simp [execOp,ho,Instr.indexAt,hir,hxr.2,OwnRef.val,hb,asIntOf,hu,hj.1,h2,hsz,gB]
 ·simp only [Rep]
  exact ⟨trivial,b,hb,by simp⟩
theorem nk {k : Nat} : ∀ {rows : List (List PV)} {j : Nat} {r : List PV},(∀ q ∈ rows,q.length = k) → rows[j]? = some r → ∀ i p,r[i]? = some p → rows.flatten[j * k + i]? = some p
 | [],j,r,_,h,_,_,_=>by simp at h
 | q :: rows,0,r,hl,h,i,p,hp=>by
  simp only [List.getElem?_cons_zero,zo] at h
  subst h
  simp only [List.flatten_cons,Nat.zero_mul,Nat.zero_add]
  rw [List.getElem?_append_left (zg.1 hp).1]
  exact hp
 | q :: rows,j + 1,r,hl,h,i,p,hp=>by
  have hq := hl q (by simp)
  have := nk (rows := rows) (j := j) (fun q hq=>hl q (by simp [hq])) (by simpa using h) i p hp
  simp only [List.flatten_cons]
  rw [List.getElem?_append_right (by rw [hq,Nat.add_mul]; omega),hq,show (j + 1) * k + i - k = j * k + i from by rw [Nat.add_mul]; omega]
  exact this
theorem detS_loadO (hT : T.Ok P) {o : Oper} {ev : Operand → PV} {H : Heap} {t : TypeId} {x : Operand} (ho : o.op = .load t x) {ti : TInfo} (hti : T.get t = some ti) {tag : Nat} {g : OwnRef} {k row off : Nat} (hx : ev x = .optr tag g k row off)
  {e : TypeId} {rows : List (List PV)} {wr : Bool} (hob : H.ob tag = some ⟨g,e,rows,wr⟩) {ei : TInfo} (hei : T.get e = some ei) (hk : k = ei.size) {cells : List PV} (hr : rows[row]? = some cells) {r : PV} (hc : fW ti off cells = some r) : DetS P o ev H r := by
 intro C M a w hi he
 have hxr := he x (by rw [ho]; simp [Op.operands])
 rw [hx] at hxr
 simp only [Rep] at hxr
 obtain ⟨_,b,hb,hv⟩ := hxr
 obtain ⟨i,h1,h2,h3,h4⟩ := hi.objs tag _ hob
 obtain ⟨i',h5,h6,_,_⟩ := (hT.get hei).info
 simp only at h1 h3 h4
 rw [h1] at h5
 cases h5
 rcases h4 with ⟨hn,_⟩ | ⟨b',cur,hb',hm,hcur,hcs,hlc,hcm,hcr,h1c,_,_⟩
 ·rw [hb] at hn; cases hn
 ·rw [hb] at hb'
  cases hb'
  have hlt : row < rows.length := (zg.1 hr).1
  have hcl : cells.length = i.size := h3 cells (List.mem_of_getElem? hr)
  have hks : k = i.size := by rw [hk,h6]
  subst hks
  -- the cells of that row
  have hflat : rows.flatten.length = rows.length * i.size := by
   have : ∀ l : List (List PV),(∀ q ∈ l,q.length = i.size) → l.flatten.length = l.length * i.size := by
    intro l
    induction l with
    | nil=>simp
    | cons q l ih=>intro hl; simp [ih fun q hq=>hl q (by simp [hq]),hl q (by simp),Nat.add_mul]; omega
   exact this rows h3
  have hseg : aB P M false cells ((cur.toList.take (rows.length * i.size)).drop (row * i.size) |>.take i.size) := by
   have h7 := (hcr.drop (row * i.size)).take i.size
   have e1 : (rows.flatten.drop (row * i.size)).take i.size = cells := by
    apply List.ext_getElem?
    intro m
    rw [List.getElem?_take]
    split
    ·rename_i hm
     rw [List.getElem?_drop]
     have hcm : cells[m]? = some cells[m] := ze (by omega)
     rw [hcm]
     exact nk h3 hr m _ hcm
    ·rw [List.getElem?_eq_none (by omega)]
   rwa [e1] at h7
  obtain ⟨v,h8,h9⟩ := mG (hT.get hti) w b (row * i.size) off cells _ hseg (fun j y hj=>by
   rw [cell_of_row w b (row * i.size + j) cur e (0,0) hcur]
   rw [List.getElem?_take] at hj
   split at hj
   ·rw [List.getElem?_drop,List.getElem?_take] at hj
    split at hj
    ·simpa using hj
    ·cases hj
   ·cases hj) hc
  refine ⟨v,?_,h9.slot⟩
  simp [execOp,ho,hv,Instr.loadAt,Instr.sureAddr,h8]
theorem splice_seg {α : Type} (X Y Z cs : List α) (off : Nat) (h : off + cs.length ≤ Y.length) :
  X ++ (Y.take off ++ cs ++ Y.drop (off + cs.length)) ++ Z = (X ++ (Y ++ Z)).take (X.length + off) ++ cs ++ (X ++ (Y ++ Z)).drop (X.length + off + cs.length) := by
 rw [List.take_length_add_append,List.take_append_of_le_length (by omega),show X.length + off + cs.length = X.length + (off + cs.length) from by omega,List.drop_length_add_append,List.drop_append_of_le_length h]
 simp
theorem splice_take {α : Type} (l cs : List α) (p N : Nat) (h : p + cs.length ≤ N) (hN : N ≤ l.length) :
  (l.take p ++ cs ++ l.drop (p + cs.length)).take N = (l.take N).take p ++ cs ++ (l.take N).drop (p + cs.length) := by
 obtain ⟨U,hU⟩ : ∃ U,U = l.take N := ⟨_,rfl⟩
 obtain ⟨W,hW⟩ : ∃ W,W = l.drop N := ⟨_,rfl⟩
 have hl : l = U ++ W := by rw [hU,hW,List.take_append_drop]
 have hUl : U.length = N := by rw [hU]; simp; omega
 rw [← hU,hl,List.take_append_of_le_length (l₁ := U) (i := p) (by omega),List.drop_append_of_le_length (l₁ := U) (i := p + cs.length) (by omega)]
 rw [← List.append_assoc]
 have e : (U.take p ++ cs ++ U.drop (p + cs.length)).length = N := by simp; omega
 rw [← e,List.take_left]
def setRow (rows : List (List PV)) (row off : Nat) (cs : List PV) : List (List PV) := rows.set row (fw (rows.getD row []) off cs)
theorem set_flat {k : Nat} : ∀ {rows : List (List PV)} {j : Nat} {q : List PV},(∀ r ∈ rows,r.length = k) → q.length = k → j < rows.length → (rows.set j q).flatten = rows.flatten.take (j * k) ++ q ++ rows.flatten.drop (j * k + k)
 | [],j,q,_,_,h=>by simp at h
 | r :: rows,0,q,hl,hq,_=>by
  have hr := hl r (by simp)
  simp only [List.set_cons_zero,List.flatten_cons,Nat.zero_mul,List.take_zero,List.nil_append,Nat.zero_add]
  rw [← hr,List.drop_left]
 | r :: rows,j + 1,q,hl,hq,h=>by
  have hr := hl r (by simp)
  have ih := set_flat (rows := rows) (j := j) (q := q) (fun r hr=>hl r (by simp [hr])) hq (by simpa using h)
  simp only [List.set_cons_succ,List.flatten_cons,ih]
  have e1 : (j + 1) * k = r.length + j * k := by rw [Nat.add_mul,hr]; omega
  have e2 : r.length + j * k + k = r.length + (j * k + k) := by omega
  rw [e1,List.take_length_add_append,e2,List.drop_length_add_append]
  simp
theorem eff_storeO (hT : T.Ok P) {o : Oper} {ev : Operand → PV} {H : Heap} {t : TypeId} {x y : Operand} (ho : o.op = .store t x y) {ti : TInfo} (hti : T.get t = some ti) {tag : Nat} {g : OwnRef} {k row off : Nat} (hx : ev x = .optr tag g k row off)
  {e : TypeId} {rows : List (List PV)} (hob : H.ob tag = some ⟨g,e,rows,true⟩) {ei : TInfo} (hei : T.get e = some ei) (hk : k = ei.size) (hrow : row < rows.length) {py : PV} (hy : PLe P (ev y) py) {cs : List PV} (hc : da py = some cs) (hf : PV.frozL cs = true) (h1 : cs.all PV.one = true) (hl : cs.length = ti.size) (hle : off + ti.size ≤ ei.size)
  {K : PV → Heap → Prop} (hK : K .any ⟨H.bx,upd H.ob tag (some ⟨g,e,setRow rows row off cs,true⟩)⟩) : Eff P o ev H K := by
 intro C M a w next Q hi he hn
 have hxr := he x (by rw [ho]; simp [Op.operands])
 have hyr := he y (by rw [ho]; simp [Op.operands])
 rw [hx] at hxr
 simp only [Rep] at hxr
 obtain ⟨_,b,hb,hv⟩ := hxr
 have hr := kq hc (hy M _ hyr)
 have hone := aB.oneCell h1 hr
 have hrf := aB.unslot hf hr
 have hvs : (a.eval y).cells.size = ti.size := by have := hr.length; simp at this; omega
 obtain ⟨i,g1,g2,g3,g4⟩ := hi.objs tag _ hob
 obtain ⟨i',g5,g6,_,_⟩ := (hT.get hei).info
 simp only at g1 g2 g3 g4
 rw [g1] at g5
 cases g5
 rcases g4 with ⟨hn',_⟩ | ⟨b',cur,hb',hm,hcur,hcs,hlc,hcm,hcr,h1c,hw1,hw2⟩
 ·rw [hb] at hn'; cases hn'
 rw [hb] at hb'
 cases hb'
 have hks : k = i.size := by rw [hk,g6]
 subst hks
 rw [← g6] at hle
 have hfit : row * i.size + i.size ≤ rows.length * i.size := by
  have := Nat.mul_le_mul_right i.size (show row + 1 ≤ rows.length from hrow)
  rw [Nat.add_mul] at this
  omega
 have hcap : rows.length * i.size ≤ cur.size := by rw [hcs]; exact Nat.mul_le_mul_right _ hlc
 have hvl : (a.eval y).cells.toList.length = ti.size := by simpa using hvs
 have hst := run_storeCells_at P b (row * i.size + off) e (a.eval y).cells.toList 0 cur w hcur (by rw [hvl]; omega) hone
 simp only [Nat.add_zero] at hst
 have hrun : (execOp a.eval o).run P w = .ok .skip (w.setRow b (cur.toList.take (row * i.size + off) ++ (a.eval y).cells.toList ++ cur.toList.drop (row * i.size + off + (a.eval y).cells.toList.length)).toArray) := by
  simp only [execOp,ho,Instr.storeAt,hv,Instr.sureAddr,Sem.run_bind,Sem.run_pure,Result.andThen_ok,storeVar,(hT.get hti).rsize w,hvs]
  simp only [ne_eq,not_true_eq_false,if_false]
  rw [hst]
  rfl
 unfold Oper.wp
 rw [hrun]
 have hgetD : rows.getD row [] = rows[row] := by simp [hrow]
 have hrl : (rows.getD row []).length = i.size := by rw [hgetD]; exact g3 _ (List.getElem_mem hrow)
 have hspl : (fw (rows.getD row []) off cs).length = i.size := by
  unfold fw
  rw [List.length_append,List.length_append,List.length_take,List.length_drop,hrl,hl]
  omega
 have hlens : ∀ r ∈ setRow rows row off cs,r.length = i.size := by
  intro r hr'
  rcases List.mem_or_eq_of_mem_set hr' with h | h
  ·exact g3 r h
  ·rw [h]; exact hspl
 have hlen : (setRow rows row off cs).length = rows.length := by simp [setRow]
 have hflat : rows.flatten.length = rows.length * i.size := by
  have : ∀ l : List (List PV),(∀ q ∈ l,q.length = i.size) → l.flatten.length = l.length * i.size := by
   intro l
   induction l with
   | nil=>simp
   | cons q l ih=>intro hl; simp [ih fun q hq=>hl q (by simp [hq]),hl q (by simp),Nat.add_mul]; omega
  exact this rows g3
 have hrl2 : rows[row].length = i.size := g3 _ (List.getElem_mem hrow)
 have hrowcells : (rows.flatten.drop (row * i.size)).take i.size = rows.getD row [] := by
  rw [hgetD]
  apply List.ext_getElem?
  intro m
  rw [List.getElem?_take]
  split
  ·rename_i hm'
   rw [List.getElem?_drop]
   have hml : m < rows[row].length := by rw [hrl2]; exact hm'
   have hcm' : rows[row][m]? = some (rows[row][m]'hml) := ze hml
   rw [hcm']
   exact nk g3 (ze hrow) m _ hcm'
  ·rw [List.getElem?_eq_none (by rw [hrl2]; omega)]
 have hpv : (setRow rows row off cs).flatten = fw rows.flatten (row * i.size + off) cs := by
  unfold setRow
  rw [set_flat g3 hspl hrow,← hrowcells]
  have hA : (rows.flatten.take (row * i.size)).length = row * i.size := by rw [List.length_take,hflat]; omega
  have hY : ((rows.flatten.drop (row * i.size)).take i.size).length = i.size := by rw [List.length_take,List.length_drop,hflat]; omega
  have hdec : rows.flatten = rows.flatten.take (row * i.size) ++ ((rows.flatten.drop (row * i.size)).take i.size ++ rows.flatten.drop (row * i.size + i.size)) := by
   rw [← List.drop_drop,List.take_append_drop,List.take_append_drop]
  have key := splice_seg (rows.flatten.take (row * i.size)) ((rows.flatten.drop (row * i.size)).take i.size) (rows.flatten.drop (row * i.size + i.size)) cs off (by rw [hY,hl]; omega)
  rw [← hdec,hA] at key
  exact key
 have hvlist : (cur.toList.take (row * i.size + off) ++ (a.eval y).cells.toList ++ cur.toList.drop (row * i.size + off + (a.eval y).cells.toList.length)).take (rows.length * i.size) =
   (cur.toList.take (rows.length * i.size)).take (row * i.size + off) ++ (a.eval y).cells.toList ++ (cur.toList.take (rows.length * i.size)).drop (row * i.size + off + (a.eval y).cells.toList.length) := by
  exact splice_take cur.toList (a.eval y).cells.toList (row * i.size + off) (rows.length * i.size) (by rw [hvl]; omega) (by simpa using hcap)
 refine hn undef _ _ M _ hK (Mem.le_refl M) (hi.set_obj tag _ hob b hb (setRow rows row off cs) true _ i g1 ?_ hlens ?_ ?_ hcm ?_ ?_ ?_ (fun _=>hw1 trivial) ?_) (by simp [Rep])
 ·rw [hlen]; exact g2
 ·simp only [List.size_toArray,List.length_append,List.length_take,List.length_drop,Array.length_toList,hvl]
  omega
 ·rw [hlen]; exact hlc
 ·rw [hlen,hpv]
  simp only
  rw [hvlist]
  exact pM hcr hrf (row * i.size + off)
 ·rw [hlen]
  simp only
  rw [hvlist]
  intro v hv'
  simp only [List.mem_append] at hv'
  rcases hv' with (h | h) | h
  ·exact h1c v (List.mem_of_mem_take h)
  ·exact hone v h
  ·exact h1c v (List.mem_of_mem_drop h)
 ·intro o' v' hm'
  rw [hw1 trivial o'] at hm'
  cases hm'
 ·intro o' _
  exact hw1 trivial o'
end
section
variable {P : Program} {ops : Array Oper} {rest : List Oper} {o : Oper} {n : Nat} {s s' : Nat → PV} {bx : Nat → Option Box} {ob : Nat → Option Obj} {K : PState → Prop} {T : TT} {rb : RB} {k : Nat} {L : List Nat}
theorem rf (hg : aQ ops s o = some true) {r : PV} (hd : DetS P o (evS s) ⟨bx,ob⟩ r) (hp : putD n s o.dst r = some s') (h : Ao P ops rest ⟨n,s',bx,ob⟩ K) : Ao P ops (o :: rest) ⟨n,s,bx,ob⟩ K :=
 er hg (fun C M a w next Q hi he hn=>by
  obtain ⟨v,hrun,hr⟩ := hd C M a w hi he
  unfold Oper.wp
  rw [hrun]
  exact hn v r ⟨bx,ob⟩ M w ⟨s',hp,h⟩ (Mem.le_refl M) hi hr)
theorem qZ (ho : ops[k]? = some o) (hg : aQ ops s o = some true) (hc : dE o.op = .det) {r : PV} (hd : ∀ bx',DetS P o (evS s) ⟨bx',if rb.o o && lj o.op then ob else fun _=>none⟩ r) (hp : putD n s o.dst r = some s')
  (h : Do P T rb ops L ⟨n,s',bx,ob⟩ K) : Do P T rb ops (k :: L) ⟨n,s,bx,ob⟩ K := by
 refine ⟨o,ho,true,hg,?_⟩
 simp only [if_true,hc]
 exact ⟨r,s',.inr hd,hp,h⟩
theorem Ao.idxO (hT : T.Ok P) (hg : aQ ops s o = some true) {t : TypeId} {x i : Operand} (ho : o.op = .indexAddr t x i) {ti ei : TInfo} {e : TypeId} (hti : T.get t = some ti) (hd : ti.desc = .slice e) (hei : T.get e = some ei)
  {tag : Nat} {g : OwnRef} {len : Nat} (hx : evS s x = .own tag g len) {kk : IntKind} {j : Int} (hi : evS s i = .val (.int kk j)) (hj : 0 ≤ j ∧ j.toNat < len) (hb : ∃ b,g.blk = some b) (hp : putD n s o.dst (.optr tag g ei.size j.toNat 0) = some s') (h : Ao P ops rest ⟨n,s',bx,ob⟩ K) :
  Ao P ops (o :: rest) ⟨n,s,bx,ob⟩ K := rf hg (detS_idxO hT ho hti hd hei hx hi hj hb) hp h
theorem fH {t : TypeId} {x i : Operand} {ti ei : TInfo} {e : TypeId} {tag : Nat} {g : OwnRef} {len : Nat} {kk : IntKind} {j : Int} (hT : T.Ok P) (hj : 0 ≤ j ∧ j.toNat < len) (hb : ∃ b,g.blk = some b) (h : Ao P ops rest ⟨n,s',bx,ob⟩ K) (hg : aQ ops s o = some true := by exact rfl) (ho : o.op = .indexAddr t x i := by exact rfl) (hti : T.get t = some ti := by exact rfl) (hd : ti.desc = .slice e := by exact rfl) (hei : T.get e = some ei := by exact rfl) (hx : evS s x = .own tag g len := by exact rfl) (hi : evS s i = .val (.int kk j) := by exact rfl) (hp : putD n s o.dst (.optr tag g ei.size j.toNat 0) = some s' := by exact rfl) : Ao P ops (o :: rest) ⟨n,s,bx,ob⟩ K := Ao.idxO hT hg ho hti hd hei hx hi hj hb hp h
theorem Do.idxO (hT : T.Ok P) (ho : ops[k]? = some o) (hg : aQ ops s o = some true) {t : TypeId} {x i : Operand} (hop : o.op = .indexAddr t x i) {ti ei : TInfo} {e : TypeId} (hti : T.get t = some ti) (hd : ti.desc = .slice e) (hei : T.get e = some ei)
  {tag : Nat} {g : OwnRef} {len : Nat} (hx : evS s x = .own tag g len) {kk : IntKind} {j : Int} (hi : evS s i = .val (.int kk j)) (hj : 0 ≤ j ∧ j.toNat < len) (hb : ∃ b,g.blk = some b) (hp : putD n s o.dst (.optr tag g ei.size j.toNat 0) = some s') (h : Do P T rb ops L ⟨n,s',bx,ob⟩ K) :
  Do P T rb ops (k :: L) ⟨n,s,bx,ob⟩ K := qZ ho hg (by rw [hop]; rfl) (fun _=>detS_idxO hT hop hti hd hei hx hi hj hb) hp h
theorem dk {t : TypeId} {x i : Operand} {ti ei : TInfo} {e : TypeId} {tag : Nat} {g : OwnRef} {len : Nat} {kk : IntKind} {j : Int} (hT : T.Ok P) (hj : 0 ≤ j ∧ j.toNat < len) (hb : ∃ b,g.blk = some b) (h : Do P T rb ops L ⟨n,s',bx,ob⟩ K) (ho : ops[k]? = some o := by exact rfl) (hg : aQ ops s o = some true := by exact rfl) (hop : o.op = .indexAddr t x i := by exact rfl) (hti : T.get t = some ti := by exact rfl) (hd : ti.desc = .slice e := by exact rfl) (hei : T.get e = some ei := by exact rfl) (hx : evS s x = .own tag g len := by exact rfl) (hi : evS s i = .val (.int kk j) := by exact rfl) (hp : putD n s o.dst (.optr tag g ei.size j.toNat 0) = some s' := by exact rfl) : Do P T rb ops (k :: L) ⟨n,s,bx,ob⟩ K := Do.idxO hT ho hg hop hti hd hei hx hi hj hb hp h
theorem lD (hT : T.Ok P) (hg : aQ ops s o = some true) {t : TypeId} {x : Operand} (ho : o.op = .load t x) {ti : TInfo} (hti : T.get t = some ti) {tag : Nat} {g : OwnRef} {kz row off : Nat} (hx : evS s x = .optr tag g kz row off)
  {e : TypeId} {rows : List (List PV)} {wr : Bool} (hob : ob tag = some ⟨g,e,rows,wr⟩) {ei : TInfo} (hei : T.get e = some ei) (hk : kz = ei.size) {cells : List PV} (hr : rows[row]? = some cells) {r : PV} (hc : fW ti off cells = some r) (hp : putD n s o.dst r = some s') (h : Ao P ops rest ⟨n,s',bx,ob⟩ K) :
  Ao P ops (o :: rest) ⟨n,s,bx,ob⟩ K := rf hg (detS_loadO hT ho hti hx hob hei hk hr hc) hp h
theorem sY (hT : T.Ok P) (ho : ops[k]? = some o) (hro : rb.o o = true) (hg : aQ ops s o = some true) {t : TypeId} {x : Operand} (hop : o.op = .load t x) {ti : TInfo} (hti : T.get t = some ti) {tag : Nat} {g : OwnRef} {kz row off : Nat} (hx : evS s x = .optr tag g kz row off)
  {e : TypeId} {rows : List (List PV)} {wr : Bool} (hob : ob tag = some ⟨g,e,rows,wr⟩) {ei : TInfo} (hei : T.get e = some ei) (hk : kz = ei.size) {cells : List PV} (hr : rows[row]? = some cells) {r : PV} (hc : fW ti off cells = some r) (hp : putD n s o.dst r = some s') (h : Do P T rb ops L ⟨n,s',bx,ob⟩ K) :
  Do P T rb ops (k :: L) ⟨n,s,bx,ob⟩ K := by
 refine qZ ho hg (by rw [hop]; rfl) (fun bx'=>?_) hp h
 have : (rb.o o && lj o.op) = true := by rw [hro,hop]; rfl
 rw [this]
 exact detS_loadO hT hop hti hx hob hei hk hr hc
theorem eK {t : TypeId} {x : Operand} {ti : TInfo} {tag : Nat} {g : OwnRef} {kz row off : Nat} {e : TypeId} {rows : List (List PV)} {wr : Bool} {ei : TInfo} {cells : List PV} {r : PV} (hT : T.Ok P) (hr : rows[row]? = some cells) (h : Do P T rb ops L ⟨n,s',bx,ob⟩ K) (ho : ops[k]? = some o := by exact rfl) (hro : rb.o o = true := by exact rfl) (hg : aQ ops s o = some true := by exact rfl) (hop : o.op = .load t x := by exact rfl) (hti : T.get t = some ti := by exact rfl) (hx : evS s x = .optr tag g kz row off := by exact rfl) (hob : ob tag = some ⟨g,e,rows,wr⟩ := by exact rfl) (hei : T.get e = some ei := by exact rfl) (hk : kz = ei.size := by exact rfl) (hc : fW ti off cells = some r := by exact rfl) (hp : putD n s o.dst r = some s' := by exact rfl) : Do P T rb ops (k :: L) ⟨n,s,bx,ob⟩ K := sY hT ho hro hg hop hti hx hob hei hk hr hc hp h
theorem iu (hT : T.Ok P) (hg : aQ ops s o = some true) {t : TypeId} {x y : Operand} (ho : o.op = .store t x y) (hdst : o.dst = none) {ti : TInfo} (hti : T.get t = some ti) {tag : Nat} {g : OwnRef} {kz row off : Nat} (hx : evS s x = .optr tag g kz row off)
  {e : TypeId} {rows rows' : List (List PV)} (hob : ob tag = some ⟨g,e,rows,true⟩) {ei : TInfo} (hei : T.get e = some ei) (hk : kz = ei.size) (hrow : row < rows.length) {py : PV} (hy : PLe P (evS s y) py) {cs : List PV} (hc : da py = some cs) (hf : PV.frozL cs = true) (h1 : cs.all PV.one = true) (hl : cs.length = ti.size) (hle : off + ti.size ≤ ei.size)
  (hr : setRow rows row off cs = rows') (h : Ao P ops rest ⟨n,s,bx,upd ob tag (some ⟨g,e,rows',true⟩)⟩ K) : Ao P ops (o :: rest) ⟨n,s,bx,ob⟩ K := by
 subst hr
 exact er hg (eff_storeO hT ho hti hx hob hei hk hrow hy hc hf h1 hl hle ⟨s,by simp [hdst,putD],h⟩)
theorem Ao.storeOQ {t : TypeId} {x y : Operand} {ti : TInfo} {tag : Nat} {g : OwnRef} {kz row off : Nat} {e : TypeId} {rows rows' : List (List PV)} {ei : TInfo} {py : PV} {cs : List PV} (hT : T.Ok P) (hrow : row < rows.length) (hy : PLe P (evS s y) py) (hle : off + ti.size ≤ ei.size) (hr : setRow rows row off cs = rows') (h : Ao P ops rest ⟨n,s,bx,upd ob tag (some ⟨g,e,rows',true⟩)⟩ K) (hg : aQ ops s o = some true := by exact rfl) (ho : o.op = .store t x y := by exact rfl) (hdst : o.dst = none := by exact rfl) (hti : T.get t = some ti := by exact rfl) (hx : evS s x = .optr tag g kz row off := by exact rfl) (hob : ob tag = some ⟨g,e,rows,true⟩ := by exact rfl) (hei : T.get e = some ei := by exact rfl) (hk : kz = ei.size := by exact rfl) (hc : da py = some cs := by exact rfl) (hf : PV.frozL cs = true := by exact rfl) (h1 : cs.all PV.one = true := by exact rfl) (hl : cs.length = ti.size := by exact rfl) : Ao P ops (o :: rest) ⟨n,s,bx,ob⟩ K := iu hT hg ho hdst hti hx hob hei hk hrow hy hc hf h1 hl hle hr h
theorem iX (hT : T.Ok P) (ho : ops[k]? = some o) (hg : aQ ops s o = some true) {t : TypeId} {x y : Operand} (hop : o.op = .store t x y) (hdst : o.dst = none) {ti : TInfo} (hti : T.get t = some ti) {tag : Nat} {g : OwnRef} {kz row off : Nat} (hx : evS s x = .optr tag g kz row off)
  {e : TypeId} {rows rows' : List (List PV)} (hob : ob tag = some ⟨g,e,rows,true⟩) {ei : TInfo} (hei : T.get e = some ei) (hk : kz = ei.size) (hrow : row < rows.length) {py : PV} (hy : PLe P (evS s y) py) {cs : List PV} (hc : da py = some cs) (hf : PV.frozL cs = true) (h1 : cs.all PV.one = true) (hl : cs.length = ti.size) (hle : off + ti.size ≤ ei.size)
  (hr : setRow rows row off cs = rows') (h : Do P T rb ops L ⟨n,s,bx,upd ob tag (some ⟨g,e,rows',true⟩)⟩ K) : Do P T rb ops (k :: L) ⟨n,s,bx,ob⟩ K := by
 subst hr
 refine ⟨o,ho,true,hg,?_⟩
 simp only [if_true,hop,dE]
 exact ⟨hdst,.inr fun bx'=>eff_storeO hT hop hti hx hob hei hk hrow hy hc hf h1 hl hle ⟨rfl,h⟩⟩
theorem Do.storeOQ {t : TypeId} {x y : Operand} {ti : TInfo} {tag : Nat} {g : OwnRef} {kz row off : Nat} {e : TypeId} {rows rows' : List (List PV)} {ei : TInfo} {py : PV} {cs : List PV} (hT : T.Ok P) (hrow : row < rows.length) (hy : PLe P (evS s y) py) (hle : off + ti.size ≤ ei.size) (hr : setRow rows row off cs = rows') (h : Do P T rb ops L ⟨n,s,bx,upd ob tag (some ⟨g,e,rows',true⟩)⟩ K) (ho : ops[k]? = some o := by exact rfl) (hg : aQ ops s o = some true := by exact rfl) (hop : o.op = .store t x y := by exact rfl) (hdst : o.dst = none := by exact rfl) (hti : T.get t = some ti := by exact rfl) (hx : evS s x = .optr tag g kz row off := by exact rfl) (hob : ob tag = some ⟨g,e,rows,true⟩ := by exact rfl) (hei : T.get e = some ei := by exact rfl) (hk : kz = ei.size := by exact rfl) (hc : da py = some cs := by exact rfl) (hf : PV.frozL cs = true := by exact rfl) (h1 : cs.all PV.one = true := by exact rfl) (hl : cs.length = ti.size := by exact rfl) : Do P T rb ops (k :: L) ⟨n,s,bx,ob⟩ K := iX hT ho hg hop hdst hti hx hob hei hk hrow hy hc hf h1 hl hle hr h
theorem cE {α β : Type} {f : α → β} {xs : List α} {j : Nat} {x : α} (h : xs[j]? = some x) : j < (xs.map f).length := by
 have := (zg.1 h).1
 simpa using this
theorem re {α β : Type} {f : α → β} {xs : List α} {j : Nat} {x : α} {l : Nat} (hl : l = (xs.map f).length) (h : xs[j]? = some x) : j < l := hl ▸ cE h
theorem cN {α : Type} {f : α → List PV} {xs : List α} {j : Nat} {x : α} {g : OwnRef} (ho : xs.map f ≠ [] → ∃ b,g.blk = some b) (h : xs[j]? = some x) : ∃ b,g.blk = some b := by
 refine ho fun e=>?_
 have := (zg.1 h).1
 rw [List.map_eq_nil_iff] at e
 rw [e] at this
 simp at this
theorem dC {α : Type} {f f' : α → List PV} (hE : ∀ x,f' x = f x) {xs ys : List α} {j off : Nat} {x v : α} {cs : List PV} (h : xs[j]? = some x) (hs : fw (f x) off cs = f v) (hy : xs.set j v = ys) : setRow (xs.map f') j off cs = ys.map f' := by
 subst hy
 have hlt := (zg.1 h).1
 unfold setRow
 have e : (xs.map f').getD j [] = f x := by simp [h,hE]
 rw [e,hs,← hE v,List.map_set]
theorem dz {α β : Type} {f : α → β} {xs ys : List α} {j : Nat} {v : α} (hy : xs.set j v = ys) : (xs.map f).length = (ys.map f).length := by subst hy; simp
theorem jA {fn : Func} {R : PV → Heap → Prop} {ks : List KI} {tag : Nat} {g : OwnRef} {e : TypeId} {rows : List (List PV)} {wr : Bool} (hob : ob tag = some ⟨g,e,rows,wr⟩) (h : (rows ≠ [] → ∃ b,g.blk = some b) → V P fn R ks ⟨n,s,bx,ob⟩) : V P fn R ks ⟨n,s,bx,ob⟩ := fun C M a w hi=>by
 refine h (fun hne=>?_) C M a w hi
 obtain ⟨_,_,_,_,h4⟩ := hi.2.objs tag _ hob
 rcases h4 with ⟨_,h5,_⟩ | ⟨b,_,h5,_⟩
 ·exact absurd h5 hne
 ·exact ⟨b,h5⟩
end
def nw (bx : Nat → Option Box) (m : List (Nat × Nat)) : Nat → Option Box := fun t=>match m.find? (fun p=>Nat.beq p.2 t) with
 | some p=>bx p.1
 | none=>none
def nE (ob : Nat → Option Obj) (m : List (Nat × Nat)) : Nat → Option Obj := fun t=>match m.find? (fun p=>Nat.beq p.2 t) with
 | some p=>ob p.1
 | none=>none
theorem beqC (a b : Nat) : Nat.beq a b = Nat.beq b a := by
 cases h : Nat.beq a b with
 | true=>rw [Nat.eq_of_beq_eq_true h]; exact (Nat.beq_refl b).symm
 | false =>
  cases h' : Nat.beq b a with
  | true=>rw [Nat.eq_of_beq_eq_true h'] at h; rw [show Nat.beq a a = true from Nat.beq_refl a] at h; cases h
  | false=>rfl
theorem cX (bx : Nat → Option Box) : nw bx [] = fun _=>none := rfl
theorem cZ (ob : Nat → Option Obj) : nE ob [] = fun _=>none := rfl
theorem gp (bx : Nat → Option Box) (c k : Nat) (m : List (Nat × Nat)) : nw bx ((c,k) :: m) = upd (nw bx m) k (bx c) := by
 funext t
 simp only [nw,upd,List.find?_cons]
 rw [beqC t k]
 cases Nat.beq k t <;> rfl
theorem cl (ob : Nat → Option Obj) (c k : Nat) (m : List (Nat × Nat)) : nE ob ((c,k) :: m) = upd (nE ob m) k (ob c) := by
 funext t
 simp only [nE,upd,List.find?_cons]
 rw [beqC t k]
 cases Nat.beq k t <;> rfl
def backB (bx : Nat → Option Box) (m : List (Nat × Nat)) (bx' : Nat → Option Box) : Nat → Option Box := fun t=>match m.find? (fun p=>Nat.beq p.1 t) with
 | some p=>bx' p.2
 | none=>bx t
def ny (ob : Nat → Option Obj) (m : List (Nat × Nat)) (ob' : Nat → Option Obj) : Nat → Option Obj := fun t=>match m.find? (fun p=>Nat.beq p.1 t) with
 | some p=>ob' p.2
 | none=>ob t
def dV : List Nat → Bool
 | []=>true
 | a :: l=>l.all (fun b=>!Nat.beq a b) && dV l
theorem jc {f : Nat × Nat → Nat} : ∀ {m : List (Nat × Nat)} {p : Nat × Nat},dV (m.map f) = true → p ∈ m → m.find? (fun q=>Nat.beq (f q) (f p)) = some p
 | [],_,_,h=>by simp at h
 | q :: m,p,hd,h=>by
  simp only [List.map_cons,dV,Bool.and_eq_true] at hd
  rw [List.find?_cons]
  rcases List.mem_cons.1 h with rfl | h
  ·rw [show Nat.beq (f p) (f p) = true from Nat.beq_refl _]
  ·have hne : Nat.beq (f q) (f p) = false := by
    have := (List.all_eq_true.1 hd.1) (f p) (List.mem_map.2 ⟨p,h,rfl⟩)
    simpa using this
   rw [hne]
   exact jc hd.2 h
theorem pJ {f : Nat × Nat → Nat} {m : List (Nat × Nat)} {t : Nat} {p : Nat × Nat} (h : m.find? (fun q=>Nat.beq (f q) t) = some p) : p ∈ m ∧ f p = t :=
 ⟨List.mem_of_find?_eq_some h,by
  have := List.find?_some h
  exact Nat.eq_of_beq_eq_true this⟩
def iS (H : Heap) (mb mo : List (Nat × Nat)) : List Nat := mb.filterMap (fun p=>(H.bx p.1).map Box.b) ++ mo.filterMap (fun p=>(H.ob p.1).bind fun x=>x.g.blk)
theorem oP {H : Heap} {mb mo : List (Nat × Nat)} {b : Nat} (h : b ∈ iS H mb mo) : (∃ p x,p ∈ mb ∧ H.bx p.1 = some x ∧ x.b = b) ∨ ∃ p x,p ∈ mo ∧ H.ob p.1 = some x ∧ x.g.blk = some b := by
 simp only [iS,List.mem_append,List.mem_filterMap] at h
 rcases h with ⟨p,hp,h⟩ | ⟨p,hp,h⟩
 ·rw [Option.map_eq_some_iff] at h
  obtain ⟨x,hx,rfl⟩ := h
  exact .inl ⟨p,x,hp,hx,rfl⟩
 ·rw [Option.bind_eq_some_iff] at h
  obtain ⟨x,hx,h⟩ := h
  exact .inr ⟨p,x,hp,hx,h⟩
theorem ownOf_box {H : Heap} {mb mo : List (Nat × Nat)} {p : Nat × Nat} {x : Box} (hp : p ∈ mb) (hx : H.bx p.1 = some x) : x.b ∈ iS H mb mo := by
 simp only [iS,List.mem_append,List.mem_filterMap]
 exact .inl ⟨p,hp,by rw [hx]; rfl⟩
theorem ownOf_obj {H : Heap} {mb mo : List (Nat × Nat)} {p : Nat × Nat} {x : Obj} {b : Nat} (hp : p ∈ mo) (hx : H.ob p.1 = some x) (hb : x.g.blk = some b) : b ∈ iS H mb mo := by
 simp only [iS,List.mem_append,List.mem_filterMap]
 exact .inr ⟨p,hp,by rw [hx]; exact hb⟩
section
variable {P : Program} {C : Ctx} {M : Mem} {H : Heap} {w : World} {mb mo : List (Nat × Nat)}
theorem nK {bx : Nat → Option Box} {m : List (Nat × Nat)} {t : Nat} {x : Box} (h : nw bx m t = some x) : ∃ p,p ∈ m ∧ p.2 = t ∧ bx p.1 = some x := by
 unfold nw at h
 split at h
 ·rename_i p hp
  obtain ⟨h1,h2⟩ := pJ (f := Prod.snd) hp
  exact ⟨p,h1,h2,h⟩
 ·cases h
theorem nr {ob : Nat → Option Obj} {m : List (Nat × Nat)} {t : Nat} {x : Obj} (h : nE ob m t = some x) : ∃ p,p ∈ m ∧ p.2 = t ∧ ob p.1 = some x := by
 unfold nE at h
 split at h
 ·rename_i p hp
  obtain ⟨h1,h2⟩ := pJ (f := Prod.snd) hp
  exact ⟨p,h1,h2,h⟩
 ·cases h
theorem fst_inj {m : List (Nat × Nat)} (hd : dV (m.map Prod.fst) = true) {p q : Nat × Nat} (hp : p ∈ m) (hq : q ∈ m) (h : p.1 = q.1) : p = q := by
 have h1 := jc (f := Prod.fst) hd hp
 have h2 := jc (f := Prod.fst) hd hq
 rw [h] at h1
 rw [h1] at h2
 exact Option.some.inj h2
theorem InvH.ownMine (h : InvH P C M H w) : ∀ b ∈ iS H mb mo,C.mine b := by
 intro b hb
 rcases oP hb with ⟨p,x,_,hx,rfl⟩ | ⟨p,x,_,hx,hb⟩
 ·exact (h.boxes _ _ hx).1
 ·obtain ⟨_,_,_,_,h4⟩ := h.objs _ _ hx
  rcases h4 with ⟨h5,_⟩ | ⟨b',_,h5,h6,_⟩
  ·rw [h5] at hb; cases hb
  ·rw [h5] at hb; cases hb; exact h6
theorem InvH.enterH (h : InvH P C M H w) (hb1 : dV (mb.map Prod.fst) = true) (ho1 : dV (mo.map Prod.fst) = true) : InvH P ⟨w,iS H mb mo,M,h.gl h.ownMine⟩ M ⟨nw H.bx mb,nE H.ob mo⟩ w := by
 refine ⟨h.mem,Mem.le_refl M,fun _ _ _ hm=>.inl hm,rfl,rfl,rfl,Nat.le_refl _,fun _ _ _=>rfl,?_,?_,?_,?_,?_⟩
 ·intro t x hx
  obtain ⟨p,hp,_,hx⟩ := nK hx
  obtain ⟨_,h2,h3⟩ := h.boxes _ _ hx
  exact ⟨.inr (ownOf_box hp hx),h2,h3⟩
 ·intro t x hx
  obtain ⟨p,hp,_,hx⟩ := nr hx
  obtain ⟨i,h1,h2,h3,h4⟩ := h.objs _ _ hx
  refine ⟨i,h1,h2,h3,?_⟩
  rcases h4 with h4 | ⟨b,cur,hb,_,h5⟩
  ·exact .inl h4
  ·exact .inr ⟨b,cur,hb,.inr (ownOf_obj hp hx hb),h5⟩
 ·intro t t' x x' hx hx' hb
  obtain ⟨p,hp,e1,hy⟩ := nK hx
  obtain ⟨q,hq,e2,hy'⟩ := nK hx'
  rw [← e1,← e2,fst_inj hb1 hp hq (h.dbox _ _ x x' hy hy' hb)]
 ·intro t t' x x' b hx hx' hb hb'
  obtain ⟨p,hp,e1,hy⟩ := nr hx
  obtain ⟨q,hq,e2,hy'⟩ := nr hx'
  rw [← e1,← e2,fst_inj ho1 hp hq (h.dobj _ _ x x' b hy hy' hb hb')]
 ·intro t t' x x' hx hx' hb
  obtain ⟨p,hp,_,hy⟩ := nK hx
  obtain ⟨q,hq,_,hy'⟩ := nr hx'
  exact h.dmix _ _ x x' hy hy' hb
theorem InvH.afterH {M' : Mem} {H' : Heap} {w' : World} (h : InvH P C M H w) (_hb1 : dV (mb.map Prod.fst) = true) (hb2 : dV (mb.map Prod.snd) = true) (_ho1 : dV (mo.map Prod.fst) = true) (ho2 : dV (mo.map Prod.snd) = true)
  {hg : Gl w (iS H mb mo)} (h' : InvH P ⟨w,iS H mb mo,M,hg⟩ M' H' w') : InvH P C M' ⟨backB H.bx mb H'.bx,ny H.ob mo H'.ob⟩ w' := by
 have hown : ∀ b,b ∈ iS H mb mo → C.mine b := by
  intro b hb
  rcases oP hb with ⟨p,x,_,hx,rfl⟩ | ⟨p,x,_,hx,hb⟩
  ·exact (h.boxes _ _ hx).1
  ·obtain ⟨_,_,_,_,h4⟩ := h.objs _ _ hx
   rcases h4 with ⟨h5,_⟩ | ⟨b',_,h5,h6,_⟩
   ·rw [h5] at hb; cases hb
   ·rw [h5] at hb; cases hb; exact h6
 have hup : ∀ b,(⟨w,iS H mb mo,M,hg⟩ : Ctx).mine b → C.mine b := fun b hb=>by
  rcases hb with hb | hb
  ·exact .inl (Nat.le_trans h.size hb)
  ·exact hown b hb
 have hnone : ∀ b o,b < w.heap.size → b ∉ iS H mb mo → M b o = none → M' b o = none := by
  intro b o hb hno hn
  cases hm : M' b o with
  | none=>rfl
  | some v =>
   rcases h'.new b o v hm with h1 | h1 | h1
   ·rw [show M b o = some v from h1] at hn; cases hn
   ·exact absurd hb (Nat.not_lt.2 h1)
   ·exact absurd h1 hno
 have kb : ∀ t x,backB H.bx mb H'.bx t = some x → (∃ p,p ∈ mb ∧ p.1 = t ∧ H'.bx p.2 = some x) ∨ ((∀ p ∈ mb,p.1 ≠ t) ∧ H.bx t = some x) := by
  intro t x hx
  unfold backB at hx
  split at hx
  ·rename_i p hp
   obtain ⟨h1,h2⟩ := pJ (f := Prod.fst) hp
   exact .inl ⟨p,h1,h2,hx⟩
  ·rename_i hp
   rw [List.find?_eq_none] at hp
   exact .inr ⟨fun p hp' e=>hp p hp' (by rw [e]; exact Nat.beq_refl _),hx⟩
 have ko : ∀ t x,ny H.ob mo H'.ob t = some x → (∃ p,p ∈ mo ∧ p.1 = t ∧ H'.ob p.2 = some x) ∨ ((∀ p ∈ mo,p.1 ≠ t) ∧ H.ob t = some x) := by
  intro t x hx
  unfold ny at hx
  split at hx
  ·rename_i p hp
   obtain ⟨h1,h2⟩ := pJ (f := Prod.fst) hp
   exact .inl ⟨p,h1,h2,hx⟩
  ·rename_i hp
   rw [List.find?_eq_none] at hp
   exact .inr ⟨fun p hp' e=>hp p hp' (by rw [e]; exact Nat.beq_refl _),hx⟩
 -- what was kept is not among what was handed over
 have nb : ∀ t x,(∀ p ∈ mb,p.1 ≠ t) → H.bx t = some x → x.b ∉ iS H mb mo := by
  intro t x hn hx hm
  rcases oP hm with ⟨p,y,hp,hy,e⟩ | ⟨p,y,hp,hy,e⟩
  ·exact hn p hp (h.dbox _ _ y x hy hx e)
  ·exact h.dmix _ _ x y hx hy e
 have no : ∀ t x b,(∀ p ∈ mo,p.1 ≠ t) → H.ob t = some x → x.g.blk = some b → b ∉ iS H mb mo := by
  intro t x b hn hx hb hm
  rcases oP hm with ⟨p,y,hp,hy,e⟩ | ⟨p,y,hp,hy,e⟩
  ·exact h.dmix _ _ y x hy hx (by rw [hb,e])
  ·exact hn p hp (h.dobj _ _ y x b hy hx e hb)
 have mb' : ∀ t x,H'.bx t = some x → w.heap.size ≤ x.b ∨ x.b ∈ iS H mb mo := fun t x hx=>(h'.boxes t x hx).1
 have mo' : ∀ t x b,H'.ob t = some x → x.g.blk = some b → w.heap.size ≤ b ∨ b ∈ iS H mb mo := by
  intro t x b hx hb
  obtain ⟨_,_,_,_,h4⟩ := h'.objs t x hx
  rcases h4 with ⟨h5,_⟩ | ⟨b',_,h5,h6,_⟩
  ·rw [h5] at hb; cases hb
  ·rw [h5] at hb; cases hb; exact h6
 have bz : ∀ t x b,H.ob t = some x → x.g.blk = some b → b < w.heap.size := fun t x b hx hb=>h.obj_lt hx hb
 have snd_eq : ∀ {m : List (Nat × Nat)},dV (m.map Prod.snd) = true → ∀ {p q : Nat × Nat},p ∈ m → q ∈ m → p.2 = q.2 → p = q := by
  intro m hd p q hp hq e
  have h1 := jc (f := Prod.snd) hd hp
  have h2 := jc (f := Prod.snd) hd hq
  rw [e] at h1
  rw [h1] at h2
  exact Option.some.inj h2
 refine ⟨h'.mem,Mem.le_trans h.ext h'.ext,?_,h'.os.trans h.os,h'.tape.trans h.tape,h'.output.trans h.output,Nat.le_trans h.size h'.size,?_,?_,?_,?_,?_,?_⟩
 ·intro b o v hm
  rcases h'.new b o v hm with h1 | h1
  ·exact h.new b o v h1
  ·exact .inr (hup b h1)
 ·intro b hb hn
  have hno : b ∉ iS H mb mo := fun hm=>by
   rcases hown b hm with h1 | h1
   ·omega
   ·exact hn h1
  exact (h'.frame b (Nat.lt_of_lt_of_le hb h.size) hno).trans (h.frame b hb hn)
 ·intro t x hx
  rcases kb t x hx with ⟨p,hp,_,hx⟩ | ⟨hn,hx⟩
  ·obtain ⟨h1,h2,h3⟩ := h'.boxes _ _ hx
   exact ⟨hup _ h1,h2,h3⟩
  ·have hno := nb t x hn hx
   exact (h.boxes t x hx).keep h'.ext (fun o ho=>hnone _ o (h.box_lt hx) hno ho) (h'.frame _ (h.box_lt hx) hno)
 ·intro t x hx
  rcases ko t x hx with ⟨p,hp,_,hx⟩ | ⟨hn,hx⟩
  ·obtain ⟨i,h1,h2,h3,h4⟩ := h'.objs _ _ hx
   refine ⟨i,h1,h2,h3,?_⟩
   rcases h4 with h4 | ⟨b,cur,h5,h6,h7⟩
   ·exact .inl h4
   ·exact .inr ⟨b,cur,h5,hup _ h6,h7⟩
  ·exact (h.objs t x hx).keep h'.ext (fun b o hb ho=>hnone _ o (h.obj_lt hx hb) (no t x b hn hx hb) ho) (fun b hb=>h'.frame _ (h.obj_lt hx hb) (no t x b hn hx hb))
 ·intro t t' x x' hx hx' hb
  rcases kb t x hx with ⟨p,hp,e,hx⟩ | ⟨hn,hx⟩ <;> rcases kb t' x' hx' with ⟨q,hq,e',hx'⟩ | ⟨hn',hx'⟩
  ·have := snd_eq hb2 hp hq (h'.dbox _ _ x x' hx hx' hb)
   rw [← e,← e',this]
  ·rcases mb' _ _ hx with h1 | h1
   ·have := h.box_lt hx'; omega
   ·exact absurd (hb ▸ h1) (nb t' x' hn' hx')
  ·rcases mb' _ _ hx' with h1 | h1
   ·have := h.box_lt hx; omega
   ·exact absurd (hb ▸ h1) (nb t x hn hx)
  ·exact h.dbox t t' x x' hx hx' hb
 ·intro t t' x x' b hx hx' hb hb'
  rcases ko t x hx with ⟨p,hp,e,hx⟩ | ⟨hn,hx⟩ <;> rcases ko t' x' hx' with ⟨q,hq,e',hx'⟩ | ⟨hn',hx'⟩
  ·have := snd_eq ho2 hp hq (h'.dobj _ _ x x' b hx hx' hb hb')
   rw [← e,← e',this]
  ·rcases mo' _ _ b hx hb with h1 | h1
   ·have := h.obj_lt hx' hb'; omega
   ·exact absurd h1 (no t' x' b hn' hx' hb')
  ·rcases mo' _ _ b hx' hb' with h1 | h1
   ·have := h.obj_lt hx hb; omega
   ·exact absurd h1 (no t x b hn hx hb)
  ·exact h.dobj t t' x x' b hx hx' hb hb'
 ·intro t t' x x' hx hx' hb
  rcases kb t x hx with ⟨p,hp,e,hx⟩ | ⟨hn,hx⟩ <;> rcases ko t' x' hx' with ⟨q,hq,e',hx'⟩ | ⟨hn',hx'⟩
  ·exact h'.dmix _ _ x x' hx hx' hb
  ·rcases mb' _ _ hx with h1 | h1
   ·have := h.obj_lt hx' hb; omega
   ·exact no t' x' _ hn' hx' hb h1
  ·rcases mo' _ _ _ hx' hb with h1 | h1
   ·have := h.box_lt hx; omega
   ·exact nb t x hn hx h1
  ·exact h.dmix t t' x x' hx hx' hb
theorem eff_callH {o : Oper} {ev : Operand → PV} {H : Heap} {fx : Operand} {av0 : Array Operand} {ts : Array TypeId} (ho : o.op = .call { callee := .value fx,args := av0,argTypes := ts }) {g : FuncId} {caps : List PV}
  (hf : ev fx = .fn g caps) (hcall : ∀ vs w,(callFunc g vs).run P w = .ok (.enter g vs) w) (mb mo : List (Nat × Nat)) (hb1 : dV (mb.map Prod.fst) = true) (hb2 : dV (mb.map Prod.snd) = true) (ho1 : dV (mo.map Prod.fst) = true) (ho2 : dV (mo.map Prod.snd) = true)
  {args : List PV} (hle : gK P (av0.toList.map ev ++ caps) args) {R : PV → Heap → Prop} (hc : PH P g args ⟨nw H.bx mb,nE H.ob mo⟩ R)
  {K : PV → Heap → Prop} (hk : ∀ u H',R u H' → K u ⟨backB H.bx mb H'.bx,ny H.ob mo H'.ob⟩) : Eff P o ev H K := by
 intro C M a w next Q hi he hn
 have hfr := he fx (by rw [ho]; simp [Op.operands,Call.operands])
 rw [hf] at hfr
 simp only [Rep] at hfr
 obtain ⟨cs,hv,hcaps⟩ := hfr
 have hargs : aB P M true (av0.toList.map ev) (av0.map a.eval).toList := by
  simpa using nI av0.toList fun x hx=>he x (by rw [ho]; simp_all [Op.operands,Call.operands])
 have hrep := hle M _ (hargs.append hcaps)
 have hrun : (execOp a.eval o).run P w = .ok (.enter g (av0.map a.eval ++ cs)) w := by
  simp [execOp,ho,resolve,hv,Deferred.ofValue,invoke,hcall]
 unfold Oper.wp
 rw [hrun]
 simp only [Oper.upon]
 refine (hc w M (iS H mb mo) (hi.gl hi.ownMine) _ (hi.enterH hb1 ho1) (by simpa using hrep)).mono ?_
 rintro e w' ⟨v,u,H',M',rfl,hR,hi',hr⟩
 exact hn v u _ M' w' (hk u H' hR) hi'.ext (hi.afterH hb1 hb2 ho1 ho2 hi') hr
end
section
variable {P : Program} {ops : Array Oper} {rest : List Oper} {o : Oper} {n : Nat} {s s' : Nat → PV} {bx bx1 : Nat → Option Box} {ob ob1 : Nat → Option Obj} {K : PState → Prop} {T : TT} {rb : RB} {k : Nat} {L : List Nat}
theorem dD (hg : aQ ops s o = some true) {fx : Operand} {av0 : Array Operand} {ts : Array TypeId} (ho : o.op = .call { callee := .value fx,args := av0,argTypes := ts }) {g : FuncId} {caps : List PV}
  (hf : evS s fx = .fn g caps) (hcall : ∀ vs w,(callFunc g vs).run P w = .ok (.enter g vs) w) (mb mo : List (Nat × Nat)) (hb1 : dV (mb.map Prod.fst) = true) (hb2 : dV (mb.map Prod.snd) = true) (ho1 : dV (mo.map Prod.fst) = true) (ho2 : dV (mo.map Prod.snd) = true)
  {args : List PV} (hle : gK P (av0.toList.map (evS s) ++ caps) args) {Hin : Heap} (hin : Hin = ⟨nw bx mb,nE ob mo⟩) {R : PV → Heap → Prop} (hc : PH P g args Hin R)
  (h : ∀ u H',R u H' → ∃ s',putD n s o.dst u = some s' ∧ Ao P ops rest ⟨n,s',backB bx mb H'.bx,ny ob mo H'.ob⟩ K) : Ao P ops (o :: rest) ⟨n,s,bx,ob⟩ K :=
 er hg (eff_callH ho hf hcall mb mo hb1 hb2 ho1 ho2 hle (hin ▸ hc) h)
theorem lA.own {t t' : Nat} {g : OwnRef} {l l' : Nat} (h : l = l') : lA P (.own t g l) (.own t' g l') := by
 subst h
 intro M s x hx
 simpa only [Rep] using hx
theorem lA.boxT {t t' b o : Nat} : lA P (.box t b o) (.box t' b o) := by
 intro M s x hx
 simpa only [Rep] using hx
theorem fD {fn : Func} {R : PV → Heap → Prop} {ks : List KI} {T : TT} (hT : T.Ok P) {rs : Array ResultVar} (hres : fn.results = rs) {ps : List PV} (h : ln T ⟨n,s,bx,ob⟩ rs.toList ps) {u : PV} (hu : PLe P (me ps) u) (hR : R u ⟨bx,ob⟩) :
  V P fn R (.code .ret :: ks) ⟨n,s,bx,ob⟩ := sE hT hres h hu ⟨fun _ _ hx=>hx,fun _ _ hx=>hx⟩ hR
theorem mh {fn : Func} {R : PV → Heap → Prop} (hres : fn.results = #[]) {u : PV} (hu : PLe P (.tup []) u) (hR : R u ⟨bx,ob⟩) : V P fn R [] ⟨n,s,bx,ob⟩ := by
 intro C M a w hi
 have hr : (results fn a.tmps).run P w = .ok (.tuple #[]) w := by
  rw [results_eq hres]
  simp
 exact ⟨hi.1.2.1,.tuple #[],hr,.tuple #[],u,⟨bx,ob⟩,M,rfl,hR,hi.2,hu M _ (by simp [Rep,aB])⟩
end
end
end Go.Ab

namespace Go.Ab
noncomputable section
open Classical in
def ik {β : Type} (F : Nat → Option β) : Option β :=
 if h : ∃ r,∃ n,∀ m,n ≤ m → F m = some r then some h.choose else none
theorem gX {β : Type} {F : Nat → Option β} {r : β} (h : ik F = some r) : ∃ n,F n = some r := by
 unfold ik at h
 split at h
 ·next hx =>
  obtain ⟨n,hn⟩ := hx.choose_spec
  exact ⟨n,by rw [hn n (Nat.le_refl n)]; exact h⟩
 ·cases h
theorem kR {β : Type} {F : Nat → Option β} {r : β} (n : Nat) (h : ∀ m,n ≤ m → F m = some r) : ik F = some r := by
 have hx : ∃ r,∃ n,∀ m,n ≤ m → F m = some r := ⟨r,n,h⟩
 unfold ik
 rw [dif_pos hx]
 obtain ⟨k,hk⟩ := hx.choose_spec
 have e1 := hk (max n k) (Nat.le_max_right n k)
 have e2 := h (max n k) (Nat.le_max_left n k)
 rw [← e1,e2]
theorem limN_ev {β : Type} {F : Nat → Option β} {r : β} (h : ik F = some r) : ∃ n,∀ m,n ≤ m → F m = some r := by
 unfold ik at h
 split at h
 ·next hx =>
  obtain ⟨n,hn⟩ := hx.choose_spec
  exact ⟨n,fun m hm=>by rw [hn m hm]; exact h⟩
 ·cases h
end
end Go.Ab

namespace Go.Ab
noncomputable section
def cutI {α : Type} (xs : List α) (m : Int) : Option (List α) := if 0 ≤ m ∧ m.toNat ≤ xs.length then some (xs.take m.toNat) else none
theorem cutI_some {α : Type} {xs ys : List α} {m : Int} (h : cutI xs m = some ys) : 0 ≤ m ∧ m.toNat ≤ xs.length ∧ ys = xs.take m.toNat := by
 unfold cutI at h
 split at h
 ·rename_i h0; exact ⟨h0.1,h0.2,(Option.some.inj h).symm⟩
 ·cases h
theorem qW {α : Type} {f : α → List PV} {xs ys : List α} {j : Nat} {x : α} {g : OwnRef} (ho : xs.map f ≠ [] → ∃ b,g.blk = some b) (hl : (xs.map f).length = (ys.map f).length) (h : ys[j]? = some x) : ∃ b,g.blk = some b := by
 refine ho fun e=>?_
 have := (zg.1 h).1
 have h0 : ys.length = 0 := by
  rw [e] at hl
  simpa using hl.symm
 omega
def delI {α : Type} (xs : List α) (i j : Int) : Option (List α) := if 0 ≤ i ∧ i ≤ j ∧ j.toNat ≤ xs.length then some (xs.take i.toNat ++ xs.drop j.toNat) else none
theorem delI_some {α : Type} {xs ys : List α} {i j : Int} (h : delI xs i j = some ys) : 0 ≤ i ∧ i ≤ j ∧ j.toNat ≤ xs.length ∧ ys = xs.take i.toNat ++ xs.drop j.toNat := by
 unfold delI at h
 split at h
 ·rename_i h0; exact ⟨h0.1,h0.2.1,h0.2.2,(Option.some.inj h).symm⟩
 ·cases h
def OwnRef.sub (g : OwnRef) (k lo hi mx : Nat) : Value := .slice (if mx = lo then g.blk.map (fun b=>⟨b,0,none⟩) else (g.blk.map fun b=>(⟨b,0,none⟩ : Addr)).map (·.add (lo * k))) (hi - lo) (mx - lo)
section
variable {P : Program} {T : TT}
def mL (ev : Operand → PV) (o : Option Operand) (dflt n : Nat) : Prop := match o with
 | none=>n = dflt
 | some x=>∃ kk z,ev x = .val (.int kk z) ∧ z = (n : Int)
theorem detS_subV (hT : T.Ok P) {o : Oper} {ev : Operand → PV} {H : Heap} {t : TypeId} {x : Operand} {lo hi mx : Option Operand} (ho : o.op = .slice t x lo hi mx) {ti ei : TInfo} {e : TypeId} (hti : T.get t = some ti) (hd : ti.desc = .slice e) (hei : T.get e = some ei)
  {tag : Nat} {g : OwnRef} {len : Nat} (hx : ev x = .own tag g len) {l h m : Nat} (hl : mL ev lo 0 l) (hh : mL ev hi len h) (hm : mL ev mx g.cap m) (hs : mx.isSome = true → hi.isSome = true) (h1 : l ≤ h) (h2 : h ≤ m) (h3 : m ≤ g.cap) :
  DetS P o ev H (.val (g.sub ei.size l h m)) := by
 intro C M a w _ he
 have hxr := he x (by rw [ho]; cases lo <;> cases hi <;> cases mx <;> simp [Op.operands])
 rw [hx] at hxr
 simp only [Rep] at hxr
 have hu := (hT.get hti).und
 rw [hd] at hu
 refine ⟨g.sub ei.size l h m,?_,by simp only [Rep]⟩
 have hbnd : ∀ (z y : Nat) (kk : IntKind) (c : BoundsCode),z ≤ y → (Instr.sliceBound (.int kk (z : Int)) y c).run P w = .ok z w := by
  intro z y kk c hzy
  have : (0 : Int) ≤ (z : Int) ∧ (z : Int) ≤ (y : Int) := ⟨by omega,by omega⟩
  simp [Instr.sliceBound,asIntOf,hzy]
 have get : ∀ y,y ∈ lo ∨ y ∈ hi ∨ y ∈ mx → Rep P M true (ev y) (a.eval y) := by
  intro y hy
  refine he y ?_
  rw [ho]
  clear he hl hh hm hs ho
  cases lo <;> cases hi <;> cases mx <;> simp [Op.operands] at hy ⊢ <;> (first | exact .inr (hy.imp Eq.symm Eq.symm) | exact .inr (hy.imp Eq.symm (Or.imp Eq.symm Eq.symm)) | exact .inr hy.symm | (rcases hy with h | h | h <;> simp [h]) | (rcases hy with h | h <;> simp [h]))
 have hsz := (hT.get hei).rsize w
 have key : ∀ (lv hv mv : Option Value),(match lv with | none=>l = 0 | some v=>∃ kk,v = .int kk (l : Int)) → (match hv with | none=>h = len | some v=>∃ kk,v = .int kk (h : Int)) →
   (match mv with | none=>m = g.cap | some v=>∃ kk,v = .int kk (m : Int)) → (mv.isSome = true → hv.isSome = true) → (Instr.slice t (g.val len) lv hv mv).run P w = .ok (g.sub ei.size l h m) w := by
  intro lv hv mv p1 p2 p3 p4
  have b : (Instr.sliceBounds true len g.cap lv hv mv).run P w = .ok (l,h,m) w := by
   cases mv with
   | none =>
    simp only at p3
    subst p3
    cases hv with
    | none =>
     simp only at p2
     subst p2
     cases lv with
     | none=>simp only at p1; subst p1; simp [Instr.sliceBounds]
     | some v=>obtain ⟨kk,rfl⟩ := p1; simp [Instr.sliceBounds,hbnd _ _ _ _ h1]
    | some v' =>
     obtain ⟨kk',rfl⟩ := p2
     cases lv with
     | none=>simp only at p1; subst p1; simp [Instr.sliceBounds,hbnd _ _ _ _ h2]
     | some v=>obtain ⟨kk,rfl⟩ := p1; simp [Instr.sliceBounds,hbnd _ _ _ _ h1,hbnd _ _ _ _ h2]
   | some v2 =>
    obtain ⟨k2,rfl⟩ := p3
    cases hv with
    | none=>exact absurd (p4 rfl) (by simp)
    | some v' =>
     obtain ⟨kk',rfl⟩ := p2
     cases lv with
     | none=>simp only at p1; subst p1; simp [Instr.sliceBounds,hbnd _ _ _ _ h2,hbnd _ _ _ _ h3]
     | some v=>obtain ⟨kk,rfl⟩ := p1; simp [Instr.sliceBounds,hbnd _ _ _ _ h1,hbnd _ _ _ _ h2,hbnd _ _ _ _ h3]
  simp only [Instr.slice,OwnRef.val,run_underlying hu,Sem.run_bind,Result.andThen_ok,b,hsz]
  rfl
 have gl : ∀ (oo : Option Operand) (df n : Nat),(∀ y,y ∈ oo → Rep P M true (ev y) (a.eval y)) → mL ev oo df n → (match oo.map a.eval with | none=>n = df | some v=>∃ kk,v = .int kk (n : Int)) := by
  intro oo df n hr ha
  cases oo with
  | none=>exact ha
  | some y =>
   obtain ⟨kk,z,e1,rfl⟩ := ha
   have := hr y rfl
   rw [e1] at this
   simp only [Rep] at this
   exact ⟨kk,this⟩
 have := key (lo.map a.eval) (hi.map a.eval) (mx.map a.eval) (gl lo 0 l (fun y hy=>get y (.inl hy)) hl) (gl hi len h (fun y hy=>get y (.inr (.inl hy))) hh) (gl mx g.cap m (fun y hy=>get y (.inr (.inr hy))) hm) (by simpa using hs)
 simp only [execOp,ho,Instr.sliceAt,hxr.2]
 rw [Sem.run_bind,Sem.run_bind,run_underlying hu]
 simp only [Result.andThen_ok]
 rw [this]
 rfl
theorem eff_appendIn (hT : T.Ok P) {o : Oper} {ev : Operand → PV} {H : Heap} {x y : Operand} {t : TypeId} (ho : o.op = .call { callee := .builtin .append,args := #[x,y],argTypes := #[t,t] }) {ti ei : TInfo} {e : TypeId} (hti : T.get t = some ti) (hd : ti.desc = .slice e) (hei : T.get e = some ei)
  {tag : Nat} {g : OwnRef} {rows : List (List PV)} (hob : H.ob tag = some ⟨g,e,rows,true⟩) {p q : Nat} (hpq : p ≤ q) (hq : q ≤ rows.length) (hx : ev x = .val (g.sub ei.size 0 p g.cap)) (hy : ev y = .val (g.sub ei.size q rows.length g.cap))
  {K : PV → Heap → Prop} (hk : K (.own tag g (rows.take p ++ rows.drop q).length) ⟨H.bx,upd H.ob tag (some ⟨g,e,rows.take p ++ rows.drop q,true⟩)⟩) : Eff P o ev H K := by
 intro C M a w next Q hi he hn
 have hxr := he x (by rw [ho]; simp [Op.operands,Call.operands])
 have hyr := he y (by rw [ho]; simp [Op.operands,Call.operands])
 rw [hx] at hxr
 rw [hy] at hyr
 simp only [Rep] at hxr hyr
 obtain ⟨i,g1,g2,g3,g4⟩ := hi.objs tag _ hob
 obtain ⟨i',g5,g6,_,_⟩ := (hT.get hei).info
 simp only at g1 g2 g3 g4
 rw [g1] at g5
 cases g5
 have hu := (hT.get hti).und
 rw [hd] at hu
 have hbase : (if g.cap = 0 then g.blk.map (fun b=>(⟨b,0,none⟩ : Addr)) else (g.blk.map fun b=>(⟨b,0,none⟩ : Addr)).map (·.add (0 * ei.size))) = g.blk.map fun b=>⟨b,0,none⟩ := by
  split
  ·rfl
  ·rw [Nat.zero_mul]
   cases g.blk <;> simp [Addr.add]
 have hlen : (rows.take p ++ rows.drop q).length = p + (rows.length - q) := by simp; omega
 have fin : ∀ w',(Builtin.append_ #[t,t] o.type #[g.sub ei.size 0 p g.cap,g.sub ei.size q rows.length g.cap]).run P w = .ok (g.val (p + (rows.length - q))) w' →
   InvH P C M ⟨H.bx,upd H.ob tag (some ⟨g,e,rows.take p ++ rows.drop q,true⟩)⟩ w' → Oper.wp P o a w next Q := by
  intro w' hr hi'
  have hrun' : (execOp a.eval o).run P w = .ok (.value (g.val (rows.take p ++ rows.drop q).length)) w' := by
   rw [hlen]
   simp only [execOp,ho,resolve,Sem.run_bind,Sem.run_pure,Result.andThen_ok,invoke,builtin,List.map_toArray,List.map_cons,List.map_nil,hxr,hyr]
   rw [hr]
   rfl
  unfold Oper.wp
  rw [hrun']
  exact hn _ _ _ M w' hk (Mem.le_refl M) hi' (by simp [Rep])
 have hcap : rows.length ≤ g.cap := by
  rcases g4 with ⟨_,b,_⟩ | ⟨_,_,_,_,_,_,h9,_⟩
  ·rw [b]; simp
  ·exact h9
 by_cases h0 : rows.length - q = 0
 ·refine fin w ?_ ?_
  ·have e1 : g.sub ei.size 0 p g.cap = .slice (g.blk.map fun b=>⟨b,0,none⟩) p g.cap := by unfold OwnRef.sub; rw [hbase]; simp
   have e2 : g.sub ei.size q rows.length g.cap = .slice (if g.cap = q then g.blk.map (fun b=>⟨b,0,none⟩) else (g.blk.map fun b=>(⟨b,0,none⟩ : Addr)).map (·.add (q * ei.size))) 0 (g.cap - q) := by unfold OwnRef.sub; rw [h0]
   rw [e1,e2,oD (w := w) t o.type e i hu g1 _ _ p g.cap _ (by omega),h0]
   rfl
  ·have e1 : rows.take p ++ rows.drop q = rows.take p := by rw [List.drop_of_length_le (by omega)]; simp
   rw [e1]
   exact hi.cutO hob p
 ·rcases g4 with ⟨_,hn',_⟩ | ⟨b,cur,hb,hm,hcur,hcs,hlc,hcm,hcr,h1c,hw1,hw2⟩
  ·rw [hn'] at h0; simp at h0
  ·have hqc : ¬ g.cap = q := by omega
   have hcs2 : cur.toList.length = g.cap * i.size := by rw [Array.length_toList]; exact hcs
   have e1 : g.sub ei.size 0 p g.cap = .slice (some ⟨b,0,none⟩) p g.cap := by unfold OwnRef.sub; rw [hbase,hb]; simp
   have e2 : g.sub ei.size q rows.length g.cap = .slice (some ⟨b,q * i.size,none⟩) (rows.length - q) (g.cap - q) := by unfold OwnRef.sub; rw [zy hqc,hb,g6]; simp [gB]
   have hflat : ∀ l : List (List PV),(∀ r ∈ l,r.length = i.size) → l.flatten.length = l.length * i.size := by
    intro l
    induction l with
    | nil=>simp
    | cons r l ih=>intro hl; simp [ih fun r hr=>hl r (by simp [hr]),hl r (by simp),Nat.add_mul]; omega
   have hold : (cur.toList.take (rows.length * i.size)).length = rows.length * i.size := by rw [hcr.length,hflat rows g3]
   have hcl : rows.length * i.size ≤ cur.size := by rw [hcs]; exact Nat.mul_le_mul_right _ hlc
   have hmulq : q * i.size ≤ rows.length * i.size := Nat.mul_le_mul_right _ hq
   have hmulp : p * i.size ≤ q * i.size := Nat.mul_le_mul_right _ hpq
   obtain ⟨news,hnews⟩ : ∃ news,news = (cur.toList.take (rows.length * i.size)).drop (q * i.size) := ⟨_,rfl⟩
   have hnl : news.length = (rows.length - q) * i.size := by rw [hnews,List.length_drop,hold,Nat.sub_mul]
   have hac : ∀ j u,news[j]? = some u → w.cell? ((⟨b,q * i.size,none⟩ : Addr).add j) = some u := by
    intro j u hj
    rw [gB,cell_of_row w b (q * i.size + j) cur e (0,0) hcur]
    rw [hnews,List.getElem?_drop,List.getElem?_take] at hj
    split at hj
    ·simpa using hj
    ·cases hj
   have hone : ∀ u ∈ news,u.oneCell' = true := fun u hu'=>h1c u (by rw [hnews] at hu'; exact List.mem_of_mem_drop hu')
   have hsum : (p + (rows.length - q)) * i.size = p * i.size + (rows.length - q) * i.size := Nat.add_mul _ _ _
   have hsub : (rows.length - q) * i.size = rows.length * i.size - q * i.size := Nat.sub_mul _ _ _
   have hfit : p * i.size + news.length ≤ cur.size := by rw [hnl]; omega
   have hr := run_append_room (P := P) w t o.type e i hu g1 b p g.cap cur hcur ⟨b,q * i.size,none⟩ (rows.length - q) (g.cap - q) news hnl hac hone (by omega) hfit
   have htk : (rows.take p).flatten = rows.flatten.take (p * i.size) := by
    have e3 : rows.flatten = (rows.take p).flatten ++ (rows.drop p).flatten := by rw [← List.flatten_append,List.take_append_drop]
    have e4 : (rows.take p).flatten.length = p * i.size := by rw [hflat _ fun r hr=>g3 r (List.mem_of_mem_take hr),List.length_take,Nat.min_eq_left (by omega)]
    rw [e3,← e4,List.take_left]
   have hdk : (rows.drop q).flatten = rows.flatten.drop (q * i.size) := by
    have e3 : rows.flatten = (rows.take q).flatten ++ (rows.drop q).flatten := by rw [← List.flatten_append,List.take_append_drop]
    have e4 : (rows.take q).flatten.length = q * i.size := by rw [hflat _ fun r hr=>g3 r (List.mem_of_mem_take hr),List.length_take,Nat.min_eq_left (by omega)]
    rw [e3,← e4,List.drop_left]
   have hcp : cur.toList.take (p * i.size) = (cur.toList.take (rows.length * i.size)).take (p * i.size) := by rw [List.take_take,Nat.min_eq_left (by omega)]
   have hlist : (cur.toList.take (p * i.size) ++ news ++ cur.toList.drop (p * i.size + news.length)).take ((p + (rows.length - q)) * i.size) = cur.toList.take (p * i.size) ++ news := by
    rw [show (p + (rows.length - q)) * i.size = (cur.toList.take (p * i.size) ++ news).length from by
     rw [List.length_append,List.length_take,hnl,hsum,Array.length_toList,Nat.min_eq_left (by omega)]]
    exact List.take_left
   refine fin (w.setRow b (cur.toList.take (p * i.size) ++ news ++ cur.toList.drop (p * i.size + news.length)).toArray) (by rw [e1,e2,hr]; simp [OwnRef.val,hb]) (hi.set_obj tag _ hob b hb (rows.take p ++ rows.drop q) true (cur.toList.take (p * i.size) ++ news ++ cur.toList.drop (p * i.size + news.length)).toArray i g1 ?_ ?_ ?_ ?_ hcm ?_ ?_ ?_ (fun _=>hw1 trivial) (fun o' _=>hw1 trivial o'))
   ·rw [hlen]
    exact Nat.le_trans (Nat.mul_le_mul_right _ (by omega)) g2
   ·intro r hr'
    rcases List.mem_append.1 hr' with h | h
    ·exact g3 r (List.mem_of_mem_take h)
    ·exact g3 r (List.mem_of_mem_drop h)
   ·have e9 : (cur.toList.take (p * i.size) ++ news ++ cur.toList.drop (p * i.size + news.length)).length = g.cap * i.size := by
     rw [List.length_append,List.length_append,List.length_take,List.length_drop,hcs2]
     have : p * i.size + news.length ≤ g.cap * i.size := by rw [← hcs]; exact hfit
     omega
    simpa using e9
   ·rw [hlen]; exact (by omega : p + (rows.length - q) ≤ g.cap)
   ·rw [hlen]
    simp only
    rw [hlist,List.flatten_append,htk,hdk,hcp,hnews]
    exact (hcr.take _).append (hcr.drop _)
   ·rw [hlen]
    simp only
    rw [hlist]
    intro v hv
    rcases List.mem_append.1 hv with h | h
    ·rw [hcp] at h; exact h1c v (List.mem_of_mem_take h)
    ·exact hone v h
   ·intro o' v' hm'
    rw [hw1 trivial o'] at hm'
    cases hm'
theorem eff_clearB (hT : T.Ok P) {o : Oper} {ev : Operand → PV} {H : Heap} {x : Operand} {t : TypeId} (ho : o.op = .call { callee := .builtin .clear,args := #[x],argTypes := #[t] }) {ti ei : TInfo} {e : TypeId} (hti : T.get t = some ti) (hd : ti.desc = .slice e) (hei : T.get e = some ei)
  (hz : Nat.beq ei.zero.cells.size ei.size = true) (h1 : (cU ei).all PV.one = true) {tag : Nat} {g : OwnRef} {rows : List (List PV)} (hob : H.ob tag = some ⟨g,e,rows,true⟩) {p q m : Nat} (hp : rows.length ≤ p) (hpq : p ≤ q) (hq : q ≤ m) (hm : m ≤ g.cap)
  (hx : ev x = .val (g.sub ei.size p q m)) {K : PV → Heap → Prop} (hk : K (.tup []) H) : Eff P o ev H K := by
 intro C M a w next Q hi he hn
 have hxr := he x (by rw [ho]; simp [Op.operands,Call.operands])
 rw [hx] at hxr
 simp only [Rep] at hxr
 obtain ⟨i,g1,g2,g3,g4⟩ := hi.objs tag _ hob
 obtain ⟨i',g5,g6,_,hzero⟩ := (hT.get hei).info
 simp only at g1 g2 g3 g4
 rw [g1] at g5
 cases g5
 have hu := (hT.get hti).und
 rw [hd] at hu
 have hself : upd H.ob tag (some ⟨g,e,rows,true⟩) = H.ob := qc _ _ _ hob
 have fin : ∀ w',(Builtin.clear_ #[t] o.type #[g.sub ei.size p q m]).run P w = .ok (.tuple #[]) w' → InvH P C M ⟨H.bx,upd H.ob tag (some ⟨g,e,rows,true⟩)⟩ w' → Oper.wp P o a w next Q := by
  intro w' hr hi'
  have hrun' : (execOp a.eval o).run P w = .ok (.value (.tuple #[])) w' := by
   simp only [execOp,ho,resolve,Sem.run_bind,Sem.run_pure,Result.andThen_ok,invoke,builtin,List.map_toArray,List.map_cons,List.map_nil,hxr]
   rw [hr]
   rfl
  unfold Oper.wp
  rw [hrun']
  rw [hself] at hi'
  exact hn _ _ _ M w' hk (Mem.le_refl M) hi' (by simp [Rep,aB])
 by_cases h0 : q - p = 0
 ·refine fin w ?_ (by rw [hself]; exact hi)
  unfold OwnRef.sub
  rw [h0]
  split <;> (cases g.blk <;> simp [Builtin.clear_,run_underlying hu])
 ·rcases g4 with ⟨_,hn',hc0⟩ | ⟨b,cur,hb,hmn,hcur,hcs,hlc,hcm,hcr,h1c,hw1,hw2⟩
  ·omega
  ·have hz1 := Nat.eq_of_beq_eq_true hz
   have hcs' : cur.size = g.cap * i.size := hcs
   have hcs2 : cur.toList.length = g.cap * i.size := by rw [Array.length_toList]; exact hcs
   have e1 : g.sub ei.size p q m = .slice (some ⟨b,p * i.size,none⟩) (q - p) (m - p) := by unfold OwnRef.sub; rw [zy (by omega),hb,g6]; simp [gB]
   have hzl : (cU ei).length = i.size := by simp [cU,hz1,g6]
   have hzc : (Builtin.zeroCells ei.zero.cells (q - p)).toList = (List.replicate (q - p) ei.zero.cells.toList).flatten := by
    unfold Builtin.zeroCells
    exact oa ei.zero.cells (q - p)
   have hzs : (Builtin.zeroCells ei.zero.cells (q - p)).toList.length = (q - p) * i.size := by rw [hzc]; simp [hz1,g6]
   have hrep : aB P M false (List.replicate (q - p) (cU ei)).flatten (List.replicate (q - p) ei.zero.cells.toList).flatten := lg (ke _) (q - p)
   have hone : ∀ v ∈ (Builtin.zeroCells ei.zero.cells (q - p)).toList,v.oneCell' = true := by
    rw [hzc]
    refine aB.oneCell ?_ hrep
    rw [List.all_eq_true]
    intro x hx
    rw [List.mem_flatten] at hx
    obtain ⟨l,hl,hx⟩ := hx
    rw [List.eq_of_mem_replicate hl] at hx
    exact List.all_eq_true.1 h1 x hx
   have hmq : q * i.size ≤ g.cap * i.size := Nat.mul_le_mul_right _ (by omega)
   have hmp : rows.length * i.size ≤ p * i.size := Nat.mul_le_mul_right _ hp
   have hsub : (q - p) * i.size = q * i.size - p * i.size := Nat.sub_mul _ _ _
   have hpq' : p * i.size ≤ q * i.size := Nat.mul_le_mul_right _ hpq
   have hst := run_storeCells_at P b (p * i.size) e (Builtin.zeroCells ei.zero.cells (q - p)).toList 0 cur w hcur (by rw [hzs]; omega) hone
   simp only [Nat.add_zero] at hst
   obtain ⟨k,hk1⟩ : ∃ k,q - p = k + 1 := ⟨q - p - 1,by omega⟩
   have htake : (cur.toList.take (p * i.size) ++ (Builtin.zeroCells ei.zero.cells (q - p)).toList ++ cur.toList.drop (p * i.size + (Builtin.zeroCells ei.zero.cells (q - p)).toList.length)).take (rows.length * i.size) = cur.toList.take (rows.length * i.size) := by
    rw [List.append_assoc,List.take_append_of_le_length (by rw [List.length_take,hcs2]; omega),List.take_take,Nat.min_eq_left hmp]
   refine fin _ ?_ (hi.set_obj tag _ hob b hb rows true (cur.toList.take (p * i.size) ++ (Builtin.zeroCells ei.zero.cells (q - p)).toList ++ cur.toList.drop (p * i.size + (Builtin.zeroCells ei.zero.cells (q - p)).toList.length)).toArray i g1 g2 g3 ?_ hlc hcm ?_ ?_ ?_ (fun _=>hw1 trivial) (fun o' _=>hw1 trivial o'))
   ·rw [e1]
    have hzv : (zeroValue e).run P w = .ok ei.zero w := by simp [zeroValue,typeInfo,g1,hzero]
    rw [hk1] at hst ⊢
    simp [Builtin.clear_,run_underlying hu,hzv]
    rw [hst]
    simp
   ·have e9 : (cur.toList.take (p * i.size) ++ (Builtin.zeroCells ei.zero.cells (q - p)).toList ++ cur.toList.drop (p * i.size + (Builtin.zeroCells ei.zero.cells (q - p)).toList.length)).length = g.cap * i.size := by
     rw [List.length_append,List.length_append,List.length_take,List.length_drop,hcs2,hzs]
     omega
    simpa using e9
   ·simp only
    rw [htake]
    exact hcr
   ·simp only
    rw [htake]
    exact h1c
   ·intro o' v' hm'
    rw [hw1 trivial o'] at hm'
    cases hm'
end
section
variable {P : Program} {ops : Array Oper} {rest : List Oper} {o : Oper} {n : Nat} {s s' : Nat → PV} {bx : Nat → Option Box} {ob : Nat → Option Obj} {K : PState → Prop} {T : TT} {rb : RB} {k : Nat} {L : List Nat}
theorem sk (hT : T.Ok P) (hg : aQ ops s o = some true) {t : TypeId} {x : Operand} {lo hi mx : Option Operand} (ho : o.op = .slice t x lo hi mx) {ti ei : TInfo} {e : TypeId} (hti : T.get t = some ti) (hd : ti.desc = .slice e) (hei : T.get e = some ei)
  {tag : Nat} {g : OwnRef} {len : Nat} (hx : evS s x = .own tag g len) {l h m : Nat} (hl : mL (evS s) lo 0 l) (hh : mL (evS s) hi len h) (hm : mL (evS s) mx g.cap m) (hs : mx.isSome = true → hi.isSome = true) (h1 : l ≤ h) (h2 : h ≤ m) (h3 : m ≤ g.cap)
  (hp : putD n s o.dst (.val (g.sub ei.size l h m)) = some s') (hr : Ao P ops rest ⟨n,s',bx,ob⟩ K) : Ao P ops (o :: rest) ⟨n,s,bx,ob⟩ K :=
 rf hg (detS_subV hT ho hti hd hei hx hl hh hm hs h1 h2 h3) hp hr
theorem sC (hT : T.Ok P) (ho : ops[k]? = some o) (hg : aQ ops s o = some true) {t : TypeId} {x : Operand} {lo hi mx : Option Operand} (hop : o.op = .slice t x lo hi mx) {ti ei : TInfo} {e : TypeId} (hti : T.get t = some ti) (hd : ti.desc = .slice e) (hei : T.get e = some ei)
  {tag : Nat} {g : OwnRef} {len : Nat} (hx : evS s x = .own tag g len) {l h m : Nat} (hl : mL (evS s) lo 0 l) (hh : mL (evS s) hi len h) (hm : mL (evS s) mx g.cap m) (hs : mx.isSome = true → hi.isSome = true) (h1 : l ≤ h) (h2 : h ≤ m) (h3 : m ≤ g.cap)
  (hp : putD n s o.dst (.val (g.sub ei.size l h m)) = some s') (hr : Do P T rb ops L ⟨n,s',bx,ob⟩ K) : Do P T rb ops (k :: L) ⟨n,s,bx,ob⟩ K :=
 qZ ho hg (by rw [hop]; rfl) (fun _=>detS_subV hT hop hti hd hei hx hl hh hm hs h1 h2 h3) hp hr
theorem sn (hT : T.Ok P) (hg : aQ ops s o = some true) {x : Operand} {t : TypeId} (ho : o.op = .call { callee := .builtin .clear,args := #[x],argTypes := #[t] }) (hdst : o.dst = none) {ti ei : TInfo} {e : TypeId} (hti : T.get t = some ti) (hd : ti.desc = .slice e) (hei : T.get e = some ei)
  (hz : Nat.beq ei.zero.cells.size ei.size = true) (h1 : (cU ei).all PV.one = true) {tag : Nat} {g : OwnRef} {rows : List (List PV)} (hob : ob tag = some ⟨g,e,rows,true⟩) {p q m : Nat} (hp : rows.length ≤ p) (hpq : p ≤ q) (hq : q ≤ m) (hm : m ≤ g.cap)
  (hx : evS s x = .val (g.sub ei.size p q m)) (h : Ao P ops rest ⟨n,s,bx,ob⟩ K) : Ao P ops (o :: rest) ⟨n,s,bx,ob⟩ K :=
 er hg (eff_clearB hT ho hti hd hei hz h1 hob hp hpq hq hm hx ⟨s,by simp [hdst,putD],h⟩)
theorem sf (hg : aQ ops s o = some true) {t t' : TypeId} {x y : Operand} (ho : o.op = .binOp .shr t x y t') {kk k2 : IntKind} {a b : Int} (hx : evS s x = .val (.int kk a)) (hy : evS s y = .val (.int k2 b)) (hb : 0 ≤ b) {m : Nat} (hm : min b.toNat kk.bits = m)
  (hp : putD n s o.dst (.val (.int kk (a.fdiv (2 ^ m)))) = some s') (h : Ao P ops rest ⟨n,s',bx,ob⟩ K) : Ao P ops (o :: rest) ⟨n,s,bx,ob⟩ K := by
 refine er hg (fun C M a' w next Q hi he hn=>?_)
 have hxr := he x (by rw [ho]; simp [Op.operands])
 have hyr := he y (by rw [ho]; simp [Op.operands])
 rw [show (⟨n,s,bx,ob⟩ : PState).s = s from rfl,hx] at hxr
 rw [show (⟨n,s,bx,ob⟩ : PState).s = s from rfl,hy] at hyr
 simp only [Rep] at hxr hyr
 subst hm
 have hrun : (execOp a'.eval o).run P w = .ok (.value (.int kk (a.fdiv (2 ^ (min b.toNat kk.bits))))) w := by
  have h2 : (eqGuard .shr t x y (.int kk a) (.int k2 b)).run P w = .ok () w := by simp [eqGuard]
  have hb' : ¬ b < 0 := by omega
  simp only [execOp,ho,hxr,hyr,Sem.run_bind,h2,Result.andThen_ok,binOp,Op.shift,zy hb']
  rfl
 unfold Oper.wp
 rw [hrun]
 exact hn _ _ ⟨bx,ob⟩ M w ⟨s',hp,h⟩ (Mem.le_refl M) hi (by simp only [Rep])
theorem gA {tag : Nat} {g : OwnRef} {e : TypeId} {rows : List (List PV)} {wr : Bool} (hob : ob tag = some ⟨g,e,rows,wr⟩) (h : (rows ≠ [] → ∃ b,g.blk = some b) → Ao P ops rest ⟨n,s,bx,ob⟩ K) : Ao P ops rest ⟨n,s,bx,ob⟩ K := fun C M a w Q hi hq=>by
 refine h (fun hne=>?_) C M a w Q hi hq
 obtain ⟨_,_,_,_,h4⟩ := hi.2.objs tag _ hob
 rcases h4 with ⟨_,h5,_⟩ | ⟨b,_,h5,_⟩
 ·exact absurd h5 hne
 ·exact ⟨b,h5⟩
theorem V.ownC {fn : Func} {R : PV → Heap → Prop} {ks : List KI} {tag : Nat} {g : OwnRef} {e : TypeId} {rows : List (List PV)} {wr : Bool} (hob : ob tag = some ⟨g,e,rows,wr⟩) (h : rows.length ≤ g.cap → V P fn R ks ⟨n,s,bx,ob⟩) : V P fn R ks ⟨n,s,bx,ob⟩ := fun C M a w hi=>by
 refine h ?_ C M a w hi
 obtain ⟨_,_,_,_,h4⟩ := hi.2.objs tag _ hob
 rcases h4 with ⟨_,h5,h6⟩ | ⟨b,_,h5,_,_,_,h6,h7,_⟩
 ·simp only at h5; rw [h5]; simp
 ·exact h6
theorem Ao.ownC {tag : Nat} {g : OwnRef} {e : TypeId} {rows : List (List PV)} {wr : Bool} (hob : ob tag = some ⟨g,e,rows,wr⟩) (h : rows.length ≤ g.cap → Ao P ops rest ⟨n,s,bx,ob⟩ K) : Ao P ops rest ⟨n,s,bx,ob⟩ K := fun C M a w Q hi hq=>by
 refine h ?_ C M a w Q hi hq
 obtain ⟨_,_,_,_,h4⟩ := hi.2.objs tag _ hob
 rcases h4 with ⟨_,h5,h6⟩ | ⟨b,_,h5,_,_,_,h6,h7,_⟩
 ·simp only at h5; rw [h5]; simp
 ·exact h6
theorem Gh.cutO {st : PState} {tag : Nat} {g : OwnRef} {e : TypeId} {rows rows' : List (List PV)} (hob : st.ob tag = some ⟨g,e,rows,true⟩) (m : Nat) (hr : rows.take m = rows') : Gh P st ⟨st.n,st.s,st.bx,upd st.ob tag (some ⟨g,e,rows',true⟩)⟩ := by
 subst hr
 intro C M a w hi
 exact ⟨M,hi.1,hi.2.cutO hob m⟩
theorem sw (hT : T.Ok P) (ho : ops[k]? = some o) (hg : aQ ops s o = some true) {x y : Operand} {t : TypeId} (hop : o.op = .call { callee := .builtin .append,args := #[x,y],argTypes := #[t,t] }) {ti ei : TInfo} {e : TypeId} (hti : T.get t = some ti) (hd : ti.desc = .slice e) (hei : T.get e = some ei)
  {tag : Nat} {g : OwnRef} {rows rows' : List (List PV)} (hob : ob tag = some ⟨g,e,rows,true⟩) {p q : Nat} (hpq : p ≤ q) (hq : q ≤ rows.length) (hx : evS s x = .val (g.sub ei.size 0 p g.cap)) (hy : evS s y = .val (g.sub ei.size q rows.length g.cap)) (hr : rows.take p ++ rows.drop q = rows')
  (hp : putD n s o.dst (.own tag g rows'.length) = some s') (h : Do P T rb ops L ⟨n,s',bx,upd ob tag (some ⟨g,e,rows',true⟩)⟩ K) : Do P T rb ops (k :: L) ⟨n,s,bx,ob⟩ K := by
 subst hr
 refine ⟨o,ho,true,hg,?_⟩
 simp only [if_true,hop,dE]
 exact fun bx'=>eff_appendIn hT hop hti hd hei hob hpq hq hx hy ⟨rfl,fun hx=>by simp [nN] at hx,s',hp,h⟩
theorem Ao.cutP (hT : T.Ok P) (hg : aQ ops s o = some true) {t : TypeId} {x y : Operand} (ho : o.op = .slice t x none (some y) none) {ti : TInfo} {e : TypeId} (hti : T.get t = some ti) (hd : ti.desc = .slice e) {ei : TInfo} (hei : T.get e = some ei)
  {tag : Nat} {g : OwnRef} {len : Nat} {rows rows' : List (List PV)} (hx : evS s x = .own tag g len) (hob : ob tag = some ⟨g,e,rows,true⟩) {kk : IntKind} {m : Int} (hy : evS s y = .val (.int kk m)) (hm : 0 ≤ m ∧ m.toNat ≤ rows.length) (hr : rows.take m.toNat = rows') {d : Nat} (hdst : o.dst = some d) (hlt : Nat.blt d n = true)
  (h : Ao P ops rest ⟨n,upd s d (.own tag g rows'.length),bx,upd ob tag (some ⟨g,e,rows',true⟩)⟩ K) : Ao P ops (o :: rest) ⟨n,s,bx,ob⟩ K := by
 subst hr
 refine er hg (fun C M a w next Q hi he hn=>?_)
 have hxr := he x (by rw [ho]; simp [Op.operands])
 have hyr := he y (by rw [ho]; simp [Op.operands])
 rw [show (⟨n,s,bx,ob⟩ : PState).s = s from rfl,hx] at hxr
 rw [show (⟨n,s,bx,ob⟩ : PState).s = s from rfl,hy] at hyr
 simp only [Rep] at hxr hyr
 have hu := (hT.get hti).und
 rw [hd] at hu
 have hcap : rows.length ≤ g.cap := by
  obtain ⟨i,_,_,_,h4⟩ := hi.objs tag _ hob
  rcases h4 with ⟨_,b,_⟩ | ⟨_,_,_,_,_,_,h9,_⟩
  ·simp only at b; rw [b]; simp
  ·exact h9
 have hmc : m ≤ (g.cap : Int) := by omega
 have hl2 : (rows.take m.toNat).length = m.toNat := by simp; omega
 have hrun : (execOp a.eval o).run P w = .ok (.value (g.val (rows.take m.toNat).length)) w := by
  rw [hl2]
  simp only [execOp,ho,Sem.run_bind,Sem.run_pure,Option.map_some,Option.map_none,hxr.2,hyr,OwnRef.val]
  cases hb : g.blk with
  | none=>simp [Instr.sliceAt,Instr.slice,run_underlying hu,Instr.sliceBounds,Instr.sliceBound,asIntOf,(hT.get hei).rsize w,hm.1,hmc]
  | some b =>
   have e0 : (⟨b,0,none⟩ : Addr).add 0 = ⟨b,0,none⟩ := by rw [gB]
   simp [Instr.sliceAt,Instr.slice,run_underlying hu,Instr.sliceBounds,Instr.sliceBound,asIntOf,(hT.get hei).rsize w,hm.1,hmc,e0]
 unfold Oper.wp
 rw [hrun]
 exact hn _ (.own tag g (rows.take m.toNat).length) ⟨bx,upd ob tag (some ⟨g,e,rows.take m.toNat,true⟩)⟩ M w ⟨_,by simp [hdst,putD,hlt],h⟩ (Mem.le_refl M) (hi.cutO hob m.toNat) (by simp [Rep])
end
def mw (T : TT) : List (Nat × Nat) → List PV → List PV → Option Bool
 | [],_,_=>some true
 | (t,off) :: r,xs,ys=>match T.get t with
  | some ti=>match (bif ti.eqf.isEmpty then (match xs[off]?,ys[off]? with | some p,some q=>pI ti.desc p q | _,_=>none) else kQ T ti.eqf ((xs.drop off).take ti.size) ((ys.drop off).take ti.size)),mw T r xs ys with
   | some b,some c=>some (b && c)
   | _,_=>none
  | none=>none
section
variable {P : Program} {T : TT}
theorem pd (hT : T.Ok P) (w : World) {M : Mem} {d : Nat} {xs ys : List PV} {cs ds : Array Value} (hx : aB P M true xs cs.toList) (hy : aB P M true ys ds.toList) :
  ∀ (fs : List Field) (eqf : List (Nat × Nat)) (b : Bool),eu fs eqf → mw T eqf xs ys = some b → (Op.eqFields (d + 2) cs ds fs).run P w = .ok b w
 | [],[],b,_,h=>by simp only [mw,zo] at h; subst h; simp [Op.eqFields]
 | f :: fs,(t,o) :: r,b,hm,h=>by
  simp only [eu] at hm
  obtain ⟨hn,rfl,rfl,hm⟩ := hm
  simp only [mw] at h
  split at h
  ·rename_i ti hti
   split at h
   ·rename_i b1 b2 h1 h2
    simp only [zo] at h
    subst h
    have ih := pd hT w (d := d) hx hy fs r b2 hm h2
    cases he : ti.eqf.isEmpty with
    | true =>
     simp only [he,zc] at h1
     split at h1
     ·rename_i p q hp hq
      obtain ⟨x,hx1,hx2⟩ := hx.get _ _ hp
      obtain ⟨y,hy1,hy2⟩ := hy.get _ _ hq
      obtain ⟨hag,heq⟩ := pg w (d := d + 1) (hT.get hti) hx2 hy2 h1
      have hpx : ∀ (c : Array Value) (z : Value),c.toList[f.offset]? = some z → (part f.type c f.offset).run P w = .ok z w := by
       intro c z hz
       rw [Array.getElem?_toList] at hz
       simp [part,(hT.get hti).ragg w,hag,hz]
      simp only [Op.eqFields, zp (show f.name ≠ "_" from hn), Sem.run_bind, hpx _ _ hx1, hpx _ _ hy1, Result.andThen_ok, heq]
      cases b1 <;> simp [ih]
     ·cases h1
    | false =>
     simp only [he,zd] at h1
     obtain ⟨k1,k2,k3,k4⟩ := (hT.get hti).eqs (by intro h0; simp [h0] at he)
     have hag : ng ti.desc = true := by
      have hu := (hT.get hti).und
      rw [k4] at hu
      rw [← Option.some.inj hu]
      rfl
     have hpx : ∀ (c : Array Value),(part f.type c f.offset).run P w = .ok (.agg (c.extract f.offset (f.offset + ti.size))) w := by
      intro c
      simp [part,(hT.get hti).ragg w,hag,(hT.get hti).rsize w]
     have hsub : ∀ (zs : List PV) (c : Array Value),aB P M true zs c.toList → aB P M true ((zs.drop f.offset).take ti.size) (c.extract f.offset (f.offset + ti.size)).toList := by
      intro zs c hz
      have e : (c.extract f.offset (f.offset + ti.size)).toList = (c.toList.drop f.offset).take ti.size := by
       rw [Array.toList_extract]
       simp [List.extract_eq_take_drop]
      rw [e]
      exact (hz.drop _).take _
     have heq : (Op.equalIn (d + 2) f.type (.agg (cs.extract f.offset (f.offset + ti.size))) (.agg (ds.extract f.offset (f.offset + ti.size)))).run P w = .ok b1 w := by
      rw [run_equalIn_agg w (d + 1) f.type _ _ k4 k1]
      exact lu hT w (d := d) (hsub _ _ hx) (hsub _ _ hy) _ _ b1 k3 h1
     simp only [Op.eqFields, zp (show f.name ≠ "_" from hn), Sem.run_bind, hpx, Result.andThen_ok, heq]
     cases b1 <;> simp [ih]
   ·cases h
  ·cases h
 | [],_ :: _,b,hm,_=>by simp [eu] at hm
 | _ :: _,[],b,hm,_=>by simp [eu] at hm
theorem detS_eqNest (hT : T.Ok P) {o : Oper} {ev : Operand → PV} {H : Heap} {t t' : TypeId} {x y : Operand} (ho : o.op = .binOp .eql t x y t') {xs ys : List PV} (hx : ev x = .agg xs) (hy : ev y = .agg ys) (h1 : P.stoodInHeld t = false) (h2 : P.eqGuardType P.depth t = false)
  {eqf : List (Nat × Nat)} (h3 : eu (P.fieldsOf t).toList eqf) (h4 : P.underlying t = some (.struct (P.fieldsOf t))) {b : Bool} (hb : mw T eqf xs ys = some b) : DetS P o ev H (.val (.bool b)) := by
 intro C M a w _ he
 have hxr := he x (by rw [ho]; simp [Op.operands])
 have hyr := he y (by rw [ho]; simp [Op.operands])
 rw [hx] at hxr
 rw [hy] at hyr
 simp only [Rep] at hxr hyr
 obtain ⟨cs,ex,hc⟩ := hxr
 obtain ⟨ds,ey,hd⟩ := hyr
 refine ⟨.bool b,?_,by simp only [Rep]⟩
 have key : (binOp .eql t (.agg cs) (.agg ds)).run P w = .ok (.bool b) w := by
  rw [run_eql_struct w t cs ds,show (10000 : Nat) = 9997 + 2 + 1 from rfl,run_equalIn_agg w (9997 + 2) t cs ds h4 h1,pd hT w (d := 9997) hc hd _ _ b h3 hb]
  rfl
 have hg := run_eqGuard_agg (P := P) w .eql t x y cs ds h2
 simp only [execOp,ho,ex,ey]
 simp only [Sem.run_bind,hg,Result.andThen_ok,key]
 rfl
end
section
variable {P : Program} {ops : Array Oper} {rest : List Oper} {o : Oper} {n : Nat} {s s' : Nat → PV} {bx : Nat → Option Box} {ob : Nat → Option Obj} {K : PState → Prop} {T : TT} {rb : RB} {k : Nat} {L : List Nat}
theorem sS (hT : T.Ok P) (ho : ops[k]? = some o) (hg : aQ ops s o = some true) {t t' : TypeId} {x y : Operand} (hop : o.op = .binOp .eql t x y t') {xs ys : List PV} (hx : evS s x = .agg xs) (hy : evS s y = .agg ys) (h1 : P.stoodInHeld t = false) (h2 : P.eqGuardType P.depth t = false)
  {eqf : List (Nat × Nat)} (h3 : eu (P.fieldsOf t).toList eqf) (h4 : P.underlying t = some (.struct (P.fieldsOf t))) {b : Bool} (hb : mw T eqf xs ys = some b) (hp : putD n s o.dst (.val (.bool b)) = some s') (h : Do P T rb ops L ⟨n,s',bx,ob⟩ K) : Do P T rb ops (k :: L) ⟨n,s,bx,ob⟩ K :=
 qZ ho hg (by rw [hop]; rfl) (fun _=>detS_eqNest hT hop hx hy h1 h2 h3 h4 hb) hp h
end
section
variable {P : Program} {C : Ctx} {M : Mem} {H : Heap} {w : World}
theorem InvH.alloc_part (h : InvH P C M H w) (pre cs : Array Value) (e : TypeId) (fz : Nat × Nat) (hp : ∀ (o : Nat) (v : Value),pre[o]? = some v → cs[o]? = some v) : InvH P C (M.add w.heap.size pre) H (w.alloc (.cells cs e fz)) := by
 have hle := h.add_le pre
 refine ⟨?_,Mem.le_trans h.ext hle,?_,h.os,h.tape,h.output,?_,?_,?_,?_,h.dbox,h.dobj,h.dmix⟩
 ·intro b o v hm
  by_cases hb : b = w.heap.size
  ·subst hb
   rw [cell_of_row (w.alloc (.cells cs e fz)) w.heap.size o cs e fz (heap_alloc_new w _)]
   exact hp o v (by simpa [Mem.add] using hm)
  ·simp only [Mem.add,hb,if_false] at hm
   rw [mH w _ (h.mem_lt hm)]
   exact h.mem b o v hm
 ·intro b o v hm
  by_cases hb : b = w.heap.size
  ·exact .inr (.inl (hb ▸ h.size))
  ·simp only [Mem.add,hb,if_false] at hm
   exact h.new b o v hm
 ·rw [pT]; exact Nat.le_succ_of_le h.size
 ·intro b hb hn
  rw [heap_alloc_old w _ (Nat.lt_of_lt_of_le hb h.size)]
  exact h.frame b hb hn
 ·intro t x hx
  have hlt := h.box_lt hx
  exact (h.boxes t x hx).keep hle (fun o ho=>by simp [Mem.add,Nat.ne_of_lt hlt,ho]) (heap_alloc_old w _ hlt)
 ·intro t x hx
  exact (h.objs t x hx).keep hle (fun b o hb ho=>by simp [Mem.add,Nat.ne_of_lt (h.obj_lt hx hb),ho]) (fun b hb=>heap_alloc_old w _ (h.obj_lt hx hb))
theorem freeze_new (w : World) (cs : Array Value) (e : TypeId) (n : Nat) : (w.alloc (.cells cs e)).freeze ⟨w.heap.size,n,none⟩ 1 = w.alloc (.cells cs e (n,n + 1)) := by
 unfold World.freeze World.alloc
 simp only [Nat.one_ne_zero,if_false]
 congr 1
 apply Array.ext
 ·simp
 ·intro i h1 h2
  rw [Array.getElem_modify]
  split
  ·rename_i hi
   subst hi
   simp
  ·rename_i hi
   have : i < w.heap.size := by simp at h2; omega
   simp [Array.getElem_push,this]
end
section
variable {P : Program} {ops : Array Oper} {rest : List Oper} {o : Oper} {n : Nat} {s s' : Nat → PV} {bx : Nat → Option Box} {ob : Nat → Option Obj} {K : PState → Prop} {T : TT} {rb : RB} {k : Nat} {L : List Nat}
theorem byteRows_rep (M : Mem) (xs : List UInt8) : aB P M false (kP xs).flatten (xs.map fun c=>Value.int .u8 c.toNat) := by
 induction xs with
 | nil=>simp [kP,aB]
 | cons c xs ih=>simp only [kP,List.map_cons,List.flatten_cons,List.cons_append,List.nil_append,aB,Rep]; exact ⟨_,_,rfl,rfl,ih⟩
theorem Ao.s2b (hT : T.Ok P) (hg : aQ ops s o = some true) {src dst e : TypeId} {x : Operand} (ho : o.op = .convert src dst x) {si di ei : TInfo} (hsi : T.get src = some si) (hsd : si.desc = .string) (hdi : T.get dst = some di) (hdd : di.desc = .slice e) (hei : T.get e = some ei) (hed : ei.desc = .int .u8) (hes : ei.size = 1) (heb : ei.bytes = 1)
  {xs : List UInt8} (hx : evS s x = .str xs) (hl : xs.length ≤ 2 ^ 47) (hp : putD n s o.dst (.list e (kP xs)) = some s') (h : Ao P ops rest ⟨n,s',bx,ob⟩ K) : Ao P ops (o :: rest) ⟨n,s,bx,ob⟩ K := by
 refine er hg (fun C M a w next Q hi he hn=>?_)
 have hxr := he x (by rw [ho]; simp [Op.operands])
 rw [show (⟨n,s,bx,ob⟩ : PState).s = s from rfl,hx] at hxr
 simp only [Rep] at hxr
 have hs := (hT.get hsi).und
 have hd := (hT.get hdi).und
 have hee := (hT.get hei).und
 rw [hsd] at hs
 rw [hdd] at hd
 rw [hed] at hee
 obtain ⟨i,hinf,hsz,hby,_⟩ := (hT.get hei).info
 have hge := grownCap_ge w xs.length 0 e
 have hml : xs.length ≤ maxLen := by unfold maxLen; omega
 have hgm : grownCap w xs.length 0 e ≤ maxLen := grownCap_le_maxLen w xs.length 0 e hml
 obtain ⟨pre,hpre⟩ : ∃ pre : Array Value,pre = xs.toArray.map fun b=>Value.int .u8 b.toNat := ⟨_,rfl⟩
 obtain ⟨cs,hcs⟩ : ∃ cs : Array Value,cs = pre ++ Array.replicate (grownCap w xs.length 0 e - xs.length) (.int .u8 0) := ⟨_,rfl⟩
 have hrun : (execOp a.eval o).run P w = .ok (.value (.slice (some ⟨w.heap.size,0,none⟩) xs.length (grownCap w xs.length 0 e))) (w.drew.alloc (.cells cs e (cs.size,cs.size + 1))) := by
  have hz : (ByteArray.mk xs.toArray).size = xs.length := by simp [ByteArray.size]
  have key : (Conv.stringToBytes e ⟨xs.toArray⟩).run P w = .ok (.slice (some ⟨w.heap.size,0,none⟩) xs.length (grownCap w xs.length 0 e)) (w.drew.alloc (.cells cs e (cs.size,cs.size + 1))) := by
   have hmk : ∀ w0 : World,(markStringish ⟨w0.heap.size,0,none⟩).run P (w0.alloc (.cells cs e)) = .ok () (w0.alloc (.cells cs e (cs.size,cs.size + 1))) := by
    intro w0
    have hsh : (w0.alloc (.cells cs e)).shape? w0.heap.size = some (e,cs.size) := by unfold World.shape?; rw [heap_alloc_new]
    unfold markStringish
    simp only [Sem.run_bind,run_shape,Result.andThen_ok,hsh]
    rw [run_freeze,freeze_new]
   have hm0 := hmk w.drew
   subst hcs
   subst hpre
   unfold Conv.stringToBytes
   simp only [Sem.run_bind,hz,run_choose,Question.forced]
   simp [newRow]
   simp [grownCap] at hm0 ⊢
   rw [hm0]
   simp
  simp only [execOp,ho,hxr.1,convert,Sem.run_bind,run_underlying hs,run_underlying hd,run_underlying hee,Result.andThen_ok,key]
  rfl
 unfold Oper.wp
 rw [hrun]
 have hle := (show InvH P C M ⟨bx,ob⟩ w.drew from hi.drew).add_le pre
 have hi' := (show InvH P C M ⟨bx,ob⟩ w.drew from hi.drew).alloc_part pre cs e (cs.size,cs.size + 1) (fun o v hv=>by rw [hcs,Array.getElem?_append_left (Array.getElem?_eq_some_iff.1 hv).1]; exact hv)
 refine hn _ (.list e (kP xs)) ⟨bx,ob⟩ (M.add w.drew.heap.size pre) _ ⟨s',hp,h⟩ hle hi' ?_
 simp only [Rep]
 have hbl : (kP xs).length = xs.length := by simp [kP]
 refine ⟨_,grownCap w xs.length 0 e,i,by rw [hbl],by rw [hbl]; exact hge,hgm,hinf,by rw [hbl,hby,heb]; omega,fun _=>⟨_,_,rfl,?_⟩⟩
 refine dd.of_flat (fun r hr=>?_) (qC (show InvH P C M ⟨bx,ob⟩ w.drew from hi.drew) (kP xs).flatten pre ?_ ?_)
 ·obtain ⟨c,_,rfl⟩ := List.mem_map.1 hr
  rw [hsz,hes]; rfl
 ·rw [hpre]
  intro v hv
  simp at hv
  obtain ⟨c,_,rfl⟩ := hv
  rfl
 ·rw [hpre]
  simpa using byteRows_rep M xs
theorem sV (hT : T.Ok P) (hg : aQ ops s o = some true) {x : Operand} {t : TypeId} (ho : o.op = .makeSlice t x x) {d : Nat} (hdst : o.dst = some d) (hlt : Nat.blt d n = true) {ti ei : TInfo} {e : TypeId} (hti : T.get t = some ti) (hd : ti.desc = .slice e) (hei : T.get e = some ei)
  (hz : Nat.beq ei.zero.cells.size ei.size = true) (h1 : (cU ei).all PV.one = true) {kk : IntKind} {m : Int} (hx : evS s x = .val (.int kk m)) (hm : 0 ≤ m) (hby : m.toNat * ei.bytes ≤ 2 ^ 47) (hmx : m.toNat ≤ maxLen) {rows : List (List PV)} (hr : List.replicate m.toNat (cU ei) = rows)
  (h : ∀ g,Ao P ops rest ⟨n,upd s d (.own d g rows.length),bx,upd ob d (some ⟨g,e,rows,true⟩)⟩ K) : Ao P ops (o :: rest) ⟨n,s,bx,ob⟩ K := by
 subst hr
 refine er hg (fun C M a w next Q hi he hn=>?_)
 have hxr := he x (by rw [ho]; simp [Op.operands])
 rw [show (⟨n,s,bx,ob⟩ : PState).s = s from rfl,hx] at hxr
 simp only [Rep] at hxr
 have hu := (hT.get hti).und
 rw [hd] at hu
 obtain ⟨i,hinf,hs,hbs,hzero⟩ := (hT.get hei).info
 have hz1 := Nat.eq_of_beq_eq_true hz
 obtain ⟨k,hk⟩ : ∃ k : Nat,k = m.toNat := ⟨_,rfl⟩
 rw [← hk] at hby hmx h
 have hkm : m = (k : Int) := by omega
 subst hkm
 have hby2 : k * i.bytes ≤ 2 ^ 47 := by rw [hbs]; exact hby
 have hbi : (i.bytes : Int) * (k : Int) ≤ 281474976710656 := by
  have : ((k * i.bytes : Nat) : Int) ≤ ((2 ^ 47 : Nat) : Int) := Int.ofNat_le.2 hby2
  rw [Int.natCast_mul] at this
  rw [Int.mul_comm]
  omega
 have hrun : (execOp a.eval o).run P w = .ok (.value (.slice (some ⟨w.heap.size,0,none⟩) k k)) (w.alloc (.cells (madeCells ei.zero.cells (k * i.size)) e)) := by
  have := run_make w t e i ei.zero hu hinf hzero kk kk (k : Int) (k : Int) (by omega) (by omega) hbi (by unfold maxLen at hmx; omega)
  simp only [Int.toNat_natCast] at this
  simp only [execOp,ho,hxr,Sem.run_bind,this]
  rfl
 unfold Oper.wp
 rw [hrun]
 have hzl : (cU ei).length = i.size := by simp [cU,hz1,hs]
 have hmc : (madeCells ei.zero.cells (k * i.size)).toList = (List.replicate k ei.zero.cells.toList).flatten := by
  rw [hs,← hz1]
  exact oa ei.zero.cells k
 have hrep : aB P M false (List.replicate k (cU ei)).flatten (List.replicate k ei.zero.cells.toList).flatten := lg (ke _) k
 have htake : (madeCells ei.zero.cells (k * i.size)).toList.take ((List.replicate k (cU ei)).length * i.size) = (List.replicate k ei.zero.cells.toList).flatten := by
  rw [List.length_replicate,List.take_of_length_le (by simp [size_madeCells]),hmc]
 refine hn _ (.own d ⟨some w.heap.size,k⟩ (List.replicate k (cU ei)).length) _ M _ ⟨_,by simp [hdst,putD,hlt],h ⟨some w.heap.size,k⟩⟩ (Mem.le_refl M)
  ((show InvH P C M ⟨bx,ob⟩ w from hi).alloc_obj d e (List.replicate k (cU ei)) true _ _ i hinf ?_ ?_ ?_ ?_ hmx ?_ ?_) ?_
 ·rw [List.length_replicate]; exact hby2
 ·intro r hr
  rw [List.eq_of_mem_replicate hr]
  exact hzl
 ·rw [size_madeCells]
 ·rw [List.length_replicate]; exact Nat.le_refl _
 ·rw [htake]; exact hrep
 ·rw [htake]
  refine aB.oneCell ?_ hrep
  rw [List.all_flatten]
  rw [List.all_eq_true]
  intro r hr
  rw [List.eq_of_mem_replicate hr]
  exact h1
 ·simp [Rep,OwnRef.val]
theorem Ao.ext (hg : aQ ops s o = some true) {fx : Operand} {av0 : Array Operand} {ts : Array TypeId} (ho : o.op = .call { callee := .value fx,args := av0,argTypes := ts }) {g : FuncId} (hf : evS s fx = .fn g []) {r : PV}
  (hcall : ∀ (M : Mem) (vs : Array Value) (w : World),aB P M true (av0.toList.map (evS s)) vs.toList → ∃ v,(callFunc g vs).run P w = .ok (.value v) w ∧ Rep P M true r v)
  (hp : putD n s o.dst r = some s') (h : Ao P ops rest ⟨n,s',bx,ob⟩ K) : Ao P ops (o :: rest) ⟨n,s,bx,ob⟩ K := by
 refine er hg (fun C M a w next Q hi he hn=>?_)
 have hfr := he fx (by rw [ho]; simp [Op.operands,Call.operands])
 rw [show (⟨n,s,bx,ob⟩ : PState).s = s from rfl,hf] at hfr
 simp only [Rep] at hfr
 obtain ⟨cs,hv,hcaps⟩ := hfr
 have hargs : aB P M true (av0.toList.map (evS s)) (av0.map a.eval).toList := by
  simpa using nI av0.toList fun x hx=>he x (by rw [ho]; simp_all [Op.operands,Call.operands])
 have hc0 : cs = #[] := by
  simp only [aB] at hcaps
  exact Array.toList_eq_nil_iff.1 hcaps
 subst hc0
 obtain ⟨v,hrun,hr⟩ := hcall M (av0.map a.eval) w hargs
 have hrun' : (execOp a.eval o).run P w = .ok (.value v) w := by
  simp [execOp,ho,resolve,hv,Deferred.ofValue,invoke,hrun]
 unfold Oper.wp
 rw [hrun']
 exact hn v r ⟨bx,ob⟩ M w ⟨s',hp,h⟩ (Mem.le_refl M) hi hr
theorem Ao.cmpS (hg : aQ ops s o = some true) {fx x y : Operand} {ts : Array TypeId} (ho : o.op = .call { callee := .value fx, args := #[x, y], argTypes := ts }) {g : FuncId} (hf : evS s fx = .fn g []) {fn : Func} (h1 : P.funcs[g]? = some fn) (h2 : (fn.name == "runtime.NumGoroutine") = false) (h3 : fn.body.isNone = true) (h4 : Extern.findNext fn = none) (h5 : Extern.find fn = some Extern.BytealgCompare.compare)
  {a b : List UInt8} (hx : evS s x = .str a) (hy : evS s y = .str b) (hp : putD n s o.dst (.val (.int .i64 (Lib.compareBytes a b))) = some s') (h : Ao P ops rest ⟨n,s',bx,ob⟩ K) : Ao P ops (o :: rest) ⟨n,s,bx,ob⟩ K := by
 refine Ao.ext hg ho hf (fun M vs w hr=>?_) hp h
 simp only [List.map_cons,List.map_nil,hx,hy,aB,Rep] at hr
 obtain ⟨v1,l1,e1,⟨r1,_⟩,v2,l2,e2,⟨r2,_⟩,e3⟩ := hr
 subst e3 e2 r1 r2
 have hvs : vs = #[.string ⟨a.toArray⟩,.string ⟨b.toArray⟩] := by
  apply Array.toList_inj.1
  rw [e1]
 subst hvs
 refine ⟨.int .i64 (Lib.compareBytes a b),?_,by simp only [Rep]⟩
 rw [run_callFunc_extern h1 h2 h3 h4 h5,Lib.run_compareString]
 rfl
end
def arrI {α : Type} (n : Nat) (xs : List α) (i : Int) : Option α := if 0 ≤ i ∧ i < n then xs[i.toNat]? else none
theorem arrI_some {α : Type} {n : Nat} {xs : List α} {i : Int} {x : α} (h : arrI n xs i = some x) : (0 ≤ i ∧ i < n) ∧ xs[i.toNat]? = some x := by
 unfold arrI at h
 split at h
 ·rename_i h0; exact ⟨h0,h⟩
 ·cases h
theorem arrI_eq {α : Type} {n : Nat} {xs : List α} {i : Int} {x : α} (h0 : 0 ≤ i ∧ i < n) (h : xs[i.toNat]? = some x) : arrI n xs i = some x := by
 unfold arrI
 rw [zp h0,h]
theorem splice_map {α : Type} (f : α → PV) (xs : List α) (k : Nat) (v : α) {ys : List α} (hk : k < xs.length) (hy : xs.set k v = ys) : fw (xs.map f) k [f v] = ys.map f := by
 subst hy
 unfold fw
 rw [List.map_set,List.length_singleton]
 have hk' : k < (xs.map f).length := by simpa using hk
 rw [List.set_eq_take_append_cons_drop,zp hk',List.append_assoc]
 rfl
section
variable {P : Program} {ops : Array Oper} {rest : List Oper} {o : Oper} {n : Nat} {s s' : Nat → PV} {bx : Nat → Option Box} {ob : Nat → Option Obj} {K : PState → Prop} {T : TT} {rb : RB} {k : Nat} {L : List Nat}
theorem pK (p : PV) (l : List PV) : okS (p :: l) = false ↔ ∃ a g b,p = .optr a g 99 77 b := by
 constructor
 ·intro h
  unfold okS at h
  split at h
  ·rename_i a g b _ e
   simp only [List.cons.injEq] at e
   exact ⟨a,g,b,e.1⟩
  ·cases h
 ·rintro ⟨a,g,b,rfl⟩
  rfl
theorem okS_head {p : PV} {l : List PV} : okS (p :: l) = okS [p] := by
 cases h : okS [p] with
 | false=>exact (pK p l).2 ((pK p []).1 h)
 | true =>
  cases h' : okS (p :: l) with
  | true=>rfl
  | false=>rw [(pK p []).2 ((pK p l).1 h')] at h; cases h
theorem okS_map {α : Type} {f : α → PV} (hf : ∀ x,okS [f x] = true) : ∀ l : List α,okS (l.map f) = true
 | []=>rfl
 | x :: l=>by rw [List.map_cons,okS_head]; exact hf x
theorem ra (l : List Int) : okS (l.map fun x=>PV.val (.int .i64 x)) = true := okS_map (fun _=>rfl) l
theorem pV (l : List Bool) : okS (l.map fun x=>PV.val (.bool x)) = true := okS_map (fun _=>rfl) l
theorem rc (l : List (List UInt8)) : okS (l.map PV.str) = true := okS_map (fun _=>rfl) l
theorem sy (ho : ops[k]? = some o) (hg : aQ ops s o = some true) {t : TypeId} {x i : Operand} (hop : o.op = .indexAddr t x i) {ti ei : TInfo} {e : TypeId} {len : Nat} (hti : T.get t = some ti) (hd : ti.desc = .array len e) (hei : T.get e = some ei) (hes : ei.size = 1)
  {tag b : Nat} (hx : evS s x = .box tag b 0) {kk : IntKind} {j : Int} (hi : evS s i = .val (.int kk j)) (hj : 0 ≤ j ∧ j < len) (hp : putD n s o.dst (.box tag b j.toNat) = some s') (h : Do P T rb ops L ⟨n,s',bx,ob⟩ K) : Do P T rb ops (k :: L) ⟨n,s,bx,ob⟩ K := by
 refine sc ho hg (by rw [hop]; rfl) (r := .box tag b j.toNat) ?_ hp h
 rw [hop]
 simp [gS,ix,hti,hx,hi,hd,hei,hj,hes]
theorem sX (hT : T.Ok P) (hg : aQ ops s o = some true) {t : TypeId} {x : Operand} (ho : o.op = .load t x) {ti : TInfo} (hti : T.get t = some ti) (hta : ng ti.desc = false) {tag b off : Nat} {cells : List PV}
  (hx : evS s x = .box tag b off) (hb : bx tag = some ⟨b,cells⟩) {r : PV} (hr : cells[off]? = some r) (hp : putD n s o.dst r = some s') (h : Ao P ops rest ⟨n,s',bx,ob⟩ K) (hok : okS cells = true := by first | rfl | exact ra _ | exact pV _ | exact rc _) : Ao P ops (o :: rest) ⟨n,s,bx,ob⟩ K :=
 Ao.lB hT hg ho hti hx hb (by simp [eo,hok,fW,hta,hr,iF]) hp h
theorem tc (ho : ops[k]? = some o) (hrb : rb.b o = true) (hg : aQ ops s o = some true) {t : TypeId} {x : Operand} (hop : o.op = .load t x) {ti : TInfo} (hti : T.get t = some ti) (hta : ng ti.desc = false) {tag b off : Nat} {cells : List PV}
  (hx : evS s x = .box tag b off) (hb : bx tag = some ⟨b,cells⟩) {r : PV} (hr : cells[off]? = some r) (hp : putD n s o.dst r = some s') (h : Do P T rb ops L ⟨n,s',bx,ob⟩ K) (hok : okS cells = true := by first | rfl | exact ra _ | exact pV _ | exact rc _) : Do P T rb ops (k :: L) ⟨n,s,bx,ob⟩ K :=
 Do.lB ho hrb hg hop hti hx hb (by simp [eo,hok,fW,hta,hr,iF]) hp h
theorem sM (hT : T.Ok P) (hg : aQ ops s o = some true) {t : TypeId} {x y : Operand} (ho : o.op = .store t x y) (hd : o.dst = none) {ti : TInfo} (hti : T.get t = some ti) (hts : ti.size = 1) {tag b off : Nat} {cells cells' : List PV} (hx : evS s x = .box tag b off) (hb : bx tag = some ⟨b,cells⟩)
  {p : PV} (hc : da (evS s y) = some [p]) (h1 : PV.one p = true) (hk : off < cells.length) (hs : fw cells off [p] = cells') (h : Ao P ops rest ⟨n,s,upd bx tag (some ⟨b,cells'⟩),ob⟩ K) (hok : okS cells = true := by first | rfl | exact ra _ | exact pV _ | exact rc _) : Ao P ops (o :: rest) ⟨n,s,bx,ob⟩ K :=
 Ao.sB hT hg ho hd hti hx hb (cs := [p]) (by simp [hc,dP]) (by simp [h1]) (by rw [hts]; rfl) (by rw [hts,hok,Bool.true_and]; exact Nat.ble_eq.mpr hk) (by rw [dP,hs]) h
theorem sJ (ho : ops[k]? = some o) (hg : aQ ops s o = some true) {t : TypeId} {x y : Operand} (hop : o.op = .store t x y) (hd : o.dst = none) {ti : TInfo} (hti : T.get t = some ti) (hts : ti.size = 1) {tag b off : Nat} {cells cells' : List PV} (hx : evS s x = .box tag b off) (hb : bx tag = some ⟨b,cells⟩)
  {p : PV} (hc : da (evS s y) = some [p]) (h1 : PV.one p = true) (hk : off < cells.length) (hs : fw cells off [p] = cells') (h : Do P T rb ops L ⟨n,s,upd bx tag (some ⟨b,cells'⟩),ob⟩ K) (hok : okS cells = true := by first | rfl | exact ra _ | exact pV _ | exact rc _) : Do P T rb ops (k :: L) ⟨n,s,bx,ob⟩ K :=
 Do.sB ho hg hop hd hti hx hb (cs := [p]) (by simp [hc,dP]) (by simp [h1]) (by rw [hts]; rfl) (by rw [hts,hok,Bool.true_and]; exact Nat.ble_eq.mpr hk) (by rw [dP,hs]) h
end
def bF : Nat := 100000
def cC (n c : Nat) : Nat := max n (min c maxLen)
def iP (b n c : Nat) : Value := bif Nat.beq (cC n c) 0 then .slice none 0 0 else .slice (some ⟨b,0,none⟩) n (cC n c)
def eT (gf : Nat → OwnRef) (rss : List (List (List PV))) (c : Nat) : List PV := rss.mapIdx (fun i rs=>PV.own (bF + i) (gf i) rs.length) ++ List.replicate (cC rss.length c - rss.length) (.val (.slice none 0 0))
def iG (b : Nat) (gf : Nat → OwnRef) (rss : List (List (List PV))) (c : Nat) : Option Box := bif Nat.beq (cC rss.length c) 0 then none else some ⟨b,eT gf rss c⟩
def eE (e : TypeId) (gf : Nat → OwnRef) (rss : List (List (List PV))) (ob : Nat → Option Obj) : Nat → Option Obj := fun t =>
 bif Nat.ble bF t then (rss[t - bF]?).map (fun rs=>⟨gf (t - bF),e,rs,true⟩) else ob t
theorem okS_of {l : List PV} (h : ∀ p ∈ l,∀ a g b,p ≠ .optr a g 99 77 b) : okS l = true := by
 unfold okS
 split
 ·rename_i a g b _; exact absurd rfl (h _ (by simp) a g b)
 ·rfl
theorem pf (gf : Nat → OwnRef) (rss : List (List (List PV))) (c : Nat) : okS (eT gf rss c) = true := okS_of fun p hp a g b e=>by
 subst e
 unfold eT at hp
 rcases List.mem_append.1 hp with hp | hp
 ·obtain ⟨i,hi,h⟩ := List.mem_mapIdx.1 hp
  cases h
 ·cases (List.mem_replicate.1 hp).2
theorem jw (n c : Nat) : n ≤ cC n c := Nat.le_max_left _ _
theorem famCap_le {n : Nat} (c : Nat) (h : n ≤ maxLen) : cC n c ≤ maxLen := Nat.max_le.2 ⟨h,Nat.min_le_right _ _⟩
theorem jZ {n c : Nat} (h : n ≤ c) (h' : c ≤ maxLen) : cC n c = c := by unfold cC; rw [Nat.min_eq_left h',Nat.max_eq_right h]
theorem beq_pos {n : Nat} (h : 0 < n) : Nat.beq n 0 = false := by
 cases n with
 | zero=>omega
 | succ n=>rfl
theorem lz {b n c : Nat} (h : 0 < cC n c) : iP b n c = .slice (some ⟨b,0,none⟩) n (cC n c) := by simp [iP,beq_pos h]
theorem famV_zero {b n c : Nat} (h : cC n c = 0) : iP b n c = .slice none 0 0 := by simp [iP,h]
theorem pB {b : Nat} {gf : Nat → OwnRef} {rss : List (List (List PV))} {c : Nat} (h : 0 < cC rss.length c) : iG b gf rss c = some ⟨b,eT gf rss c⟩ := by simp [iG,beq_pos h]
theorem famB_zero {b : Nat} {gf : Nat → OwnRef} {rss : List (List (List PV))} {c : Nat} (h : cC rss.length c = 0) : iG b gf rss c = none := by simp [iG,h]
theorem ek {e : TypeId} {gf : Nat → OwnRef} {rss : List (List (List PV))} {ob : Nat → Option Obj} {i : Nat} {rs : List (List PV)} (h : rss[i]? = some rs) : eE e gf rss ob (bF + i) = some ⟨gf i,e,rs,true⟩ := by
 have : Nat.ble bF (bF + i) = true := by rw [Nat.ble_eq]; exact Nat.le_add_right _ _
 simp [eE,this,h]
theorem qH {b : Nat} {gf : Nat → OwnRef} {rss : List (List (List PV))} {c i : Nat} {rs : List (List PV)} (h : rss[i]? = some rs) : iG b gf rss c = some ⟨b,eT gf rss c⟩ := by
 have hl := (zg.1 h).1
 exact pB (Nat.lt_of_lt_of_le (by omega) (jw _ _))
theorem famCells_get {gf : Nat → OwnRef} {rss : List (List (List PV))} {c i : Nat} {rs : List (List PV)} (h : rss[i]? = some rs) : (eT gf rss c)[i]? = some (.own (bF + i) (gf i) rs.length) := by
 have hl := (zg.1 h).1
 unfold eT
 rw [List.getElem?_append_left (by simpa using hl)]
 simp [h]
theorem nR {gf : Nat → OwnRef} {rss : List (List (List PV))} {c : Nat} : (eT gf rss c).length = cC rss.length c := by
 have := jw rss.length c
 simp [eT]; omega
theorem flat_single {α β : Type} (f : α → β) (l : List α) : (l.map fun r=>[f r]).flatten = l.map f := by
 induction l with
 | nil=>rfl
 | cons a l ih=>simp [ih]
theorem splice_one (cells : List PV) (k : Nat) (v : PV) (hk : k < cells.length) : fw cells k [v] = cells.set k v := by
 unfold fw
 rw [List.length_singleton,List.set_eq_take_append_cons_drop,zp hk,List.append_assoc]
 rfl
theorem famCells_set {gf : Nat → OwnRef} {rss : List (List (List PV))} {c i : Nat} {rs rs' : List (List PV)} (h : rss[i]? = some rs) (g : OwnRef) :
  fw (eT gf rss c) i [.own (bF + i) g rs'.length] = eT (upd gf i g) (rss.set i rs') c := by
 have hl := (zg.1 h).1
 rw [splice_one _ _ _ (by rw [nR]; exact Nat.lt_of_lt_of_le hl (jw _ _))]
 unfold eT
 rw [List.set_append_left _ _ (by simpa using hl),List.length_set]
 congr 1
 apply List.ext_getElem?
 intro j
 simp only [List.getElem?_set,List.length_mapIdx,List.getElem?_mapIdx]
 by_cases hj : i = j
 ·subst hj; simp [hl,eC]
 ·have : j ≠ i := fun h=>hj h.symm
  simp [hj,eY _ _ this]
theorem lP {α : Type} {f : Nat → α} {t : Nat} {v : α} {i : Nat} (h : t < 100000) : upd f t v (bF + i) = f (bF + i) := eY _ _ (by unfold bF; omega)
theorem famO_low {e : TypeId} {gf : Nat → OwnRef} {rss : List (List (List PV))} {ob : Nat → Option Obj} {t : Nat} (h : t < bF) : eE e gf rss ob t = ob t := by
 have : Nat.ble bF t = false := by
  cases hb : Nat.ble bF t with
  | false=>rfl
  | true=>have := Nat.le_of_ble_eq_true hb; omega
 simp [eE,this]
theorem famO_set {e : TypeId} {gf : Nat → OwnRef} {rss : List (List (List PV))} {ob : Nat → Option Obj} {i : Nat} {rs' : List (List PV)} {g : OwnRef} (hl : i < rss.length) :
  ∀ j rs,(rss.set i rs')[j]? = some rs → upd (eE e gf rss ob) (bF + i) (some ⟨g,e,rs',true⟩) (bF + j) = some ⟨upd gf i g j,e,rs,true⟩ := by
 intro j rs h
 rw [List.getElem?_set] at h
 by_cases hj : i = j
 ·subst hj
  simp only [if_true,hl] at h
  cases h
  rw [eC,eC]
 ·have h1 : bF + j ≠ bF + i := by omega
  rw [zy hj] at h
  rw [eY _ _ h1,ek h,eY _ _ (fun h=>hj h.symm)]
theorem famB_put {b c i : Nat} {gf2 : Nat → OwnRef} {rss rss2 : List (List (List PV))} {rs rs' : List (List PV)} (h : rss[i]? = some rs) (hz : rss2 = rss.set i rs') : (some ⟨b,eT gf2 (rss.set i rs') c⟩ : Option Box) = iG b gf2 rss2 c := by
 subst hz
 exact (qH (i := i) (rs := rs') (by rw [List.getElem?_set]; simp [(zg.1 h).1])).symm
theorem famO_put {e : TypeId} {gf : Nat → OwnRef} {rss rss2 : List (List (List PV))} {ob : Nat → Option Obj} {i : Nat} {rs0 rs' : List (List PV)} {g : OwnRef} (h : rss[i]? = some rs0) (hz : rss2 = rss.set i rs') :
  ∀ j rs,rss2[j]? = some rs → upd (eE e gf rss ob) (bF + i) (some ⟨g,e,rs',true⟩) (bF + j) = some ⟨upd gf i g j,e,rs,true⟩ := by
 subst hz
 exact famO_set (zg.1 h).1
theorem hJ (ob ob' : Nat → Option Obj) (t : Nat) : ny ob [] ob' t = ob t := rfl
theorem gD {ob ob' : Nat → Option Obj} {a k i : Nat} {m : List (Nat × Nat)} (h : a < 100000) : ny ob ((a,k) :: m) ob' (bF + i) = ny ob m ob' (bF + i) := by
 unfold ny
 rw [List.find?_cons]
 have : Nat.beq a (bF + i) = false := by
  cases hb : Nat.beq a (bF + i) with
  | false=>rfl
  | true=>have := Nat.eq_of_beq_eq_true hb; unfold bF at this; omega
 simp only [this]
section
variable {P : Program} {bx bx' : Nat → Option Box} {ob ob' : Nat → Option Obj}
theorem sF {e : TypeId} {gf : Nat → OwnRef} (h : OLe ob ob') : OLe ob (eE e gf [] ob') := fun t x hx=>by
 unfold eE at hx
 cases hq : Nat.ble bF t with
 | true=>rw [hq] at hx; simp at hx
 | false=>rw [hq] at hx; exact h t x hx
theorem jU {e : TypeId} {gf : Nat → OwnRef} {rss : List (List (List PV))} (h : ∀ i rs,rss[i]? = some rs → ob (bF + i) = some ⟨gf i,e,rs,true⟩) (h' : OLe ob ob') : OLe ob (eE e gf rss ob') := by
 intro t x hx
 unfold eE at hx
 cases hb : Nat.ble bF t with
 | false=>rw [hb] at hx; exact h' t x hx
 | true =>
  rw [hb] at hx
  have hle := Nat.le_of_ble_eq_true hb
  simp only [zc,Option.map_eq_some_iff] at hx
  obtain ⟨rs,h1,rfl⟩ := hx
  have := h _ _ h1
  rwa [show bF + (t - bF) = t from by omega] at this
theorem famNil_le (e : TypeId) (gf : Nat → OwnRef) (ob : Nat → Option Obj) : ∀ t x,eE e gf [] ob t = some x → ob t = some x := jU (fun i rs h=>by simp at h) (sW ob)
theorem kv {t b c : Nat} {gf : Nat → OwnRef} {rss : List (List (List PV))} (h : bx t = iG b gf rss c) (h' : BLe P bx bx') : BLe P bx (upd bx' t (iG b gf rss c)) := fun u x hx=>by
 rw [dJ] at hx
 split at hx
 ·rename_i e; subst e; rw [← h] at hx; exact ⟨x,hx,rfl,gK.refl P _,.inr rfl⟩
 ·exact h' u x hx
theorem sI {t b : Nat} {gf : Nat → OwnRef} (h' : BLe P bx bx') : BLe P bx (upd bx' t (iG b gf [] 0)) := fun u x hx=>by
 rw [dJ] at hx
 split at hx
 ·rw [famB_zero (by simp [cC])] at hx; cases hx
 ·exact h' u x hx
end
theorem InvH.famNil {P : Program} {C : Ctx} {M : Mem} {w : World} {bx : Nat → Option Box} {ob : Nat → Option Obj} (e : TypeId) (gf : Nat → OwnRef) (h : InvH P C M ⟨bx,ob⟩ w) : InvH P C M ⟨bx,eE e gf [] ob⟩ w :=
 h.less (fun _ _ hx=>hx) (famNil_le e gf ob)
section
variable {P : Program} {C : Ctx} {M : Mem} {H : Heap} {w : World}
theorem InvH.freezeAll {bx : Nat → Option Box} {ob : Nat → Option Obj} {e : TypeId} {gf : Nat → OwnRef} {rss : List (List (List PV))} (h : InvH P C M ⟨bx,eE e gf rss ob⟩ w) : ∀ n,n ≤ rss.length →
  ∃ M' ob',M.le M' ∧ InvH P C M' ⟨bx,ob'⟩ w ∧ (∀ t,t < bF → ob' t = ob t) ∧ (∀ i,n ≤ i → ob' (bF + i) = eE e gf rss ob (bF + i)) ∧
   ∀ i rs,i < n → rss[i]? = some rs → Rep P M' true (.list e rs) ((gf i).val rs.length)
 | 0,_=>⟨M,_,Mem.le_refl M,h,fun t ht=>famO_low ht,fun i _=>rfl,fun i rs hi=>by omega⟩
 | n + 1,hn=>by
  obtain ⟨M1,ob1,hle1,h1,ha,hb,hc⟩ := InvH.freezeAll h n (by omega)
  obtain ⟨rs,hrs⟩ : ∃ rs,rss[n]? = some rs := ⟨rss[n],ze (by omega)⟩
  have hx := hb n (Nat.le_refl n)
  rw [ek hrs] at hx
  obtain ⟨M2,hle2,h2,hr⟩ := h1.freezeO (tag := bF + n) (x := ⟨gf n,e,rs,true⟩) hx
  refine ⟨M2,_,Mem.le_trans hle1 hle2,h2,fun t ht=>?_,fun i hi=>?_,fun i rs' hi hrs'=>?_⟩
  ·rw [eY _ _ (by omega)]; exact ha t ht
  ·rw [eY _ _ (by omega)]; exact hb i (by omega)
  ·by_cases hin : i = n
   ·subst hin
    rw [hrs] at hrs'
    cases hrs'
    exact hr
   ·exact Rep.mono hle2 (hc i rs' (by omega) hrs')
theorem InvH.freezeFam {bx : Nat → Option Box} {ob : Nat → Option Obj} {t e e' b c : Nat} {gf : Nat → OwnRef} {rss : List (List (List PV))} (h : InvH P C M ⟨bx,eE e gf rss ob⟩ w) (hb : bx t = iG b gf rss c)
  {T : TT} (hT : T.Ok P) {ei : TInfo} (hei : T.get e' = some ei) (hsz : ei.size = 1) (hby : rss.length * ei.bytes ≤ 2 ^ 47) (hmx : rss.length ≤ maxLen) :
  ∃ M',M.le M' ∧ InvH P C M' ⟨upd bx t none,eE e gf [] ob⟩ w ∧ Rep P M' true (.list e' (rss.map fun rs=>[.list e rs])) (iP b rss.length c) := by
 obtain ⟨M1,ob1,hle1,h1,ha,_,hc⟩ := h.freezeAll rss.length (Nat.le_refl _)
 obtain ⟨i,hi,hs,hbs,_⟩ := (hT.get hei).info
 have hless : ∀ {M : Mem} {bx : Nat → Option Box},InvH P C M ⟨bx,ob1⟩ w → InvH P C M ⟨bx,eE e gf [] ob⟩ w := fun h=>h.less (fun _ _ hx=>hx) (fun u x hx=>by
  have hx : eE e gf [] ob u = some x := hx
  unfold eE at hx
  cases hq : Nat.ble bF u with
  | true=>rw [hq] at hx; simp at hx
  | false =>
   rw [hq] at hx
   have : u < bF := by
    rcases Nat.lt_or_ge u bF with h | h
    ·exact h
    ·rw [show Nat.ble bF u = true from by rw [Nat.ble_eq]; exact h] at hq; cases hq
   show ob1 u = some x
   rw [ha u this]
   exact hx)
 rcases Nat.eq_zero_or_pos (cC rss.length c) with h0 | h0
 ·have hnil : rss = [] := List.length_eq_zero_iff.1 (by have := jw rss.length c; omega)
  subst hnil
  refine ⟨M1,hle1,(hless h1).less (fun u x hx=>?_) (fun _ _ hx=>hx),?_⟩
  ·simp only [dJ] at hx
   split at hx
   ·cases hx
   ·exact hx
  ·rw [famV_zero h0]
   simp only [Rep]
   exact ⟨none,0,i,by simp,by simp,by simp,hi,by simp,by simp⟩
 ·rw [pB h0] at hb
  -- the box,its slices frozen
  obtain ⟨hmine,⟨cs,e0,hcs,hr⟩,hnone⟩ := (h1.boxes t _ hb).cells (pf _ _ _)
  let cells' : List PV := rss.map (fun rs=>PV.list e rs) ++ List.replicate (cC rss.length c - rss.length) (.val (.slice none 0 0))
  have hr' : aB P M1 true cells' cs.toList := by
   have key : ∀ (l : List (List (List PV))) (k : Nat) (r : List PV) (xs : List Value),(∀ j rs,l[j]? = some rs → Rep P M1 true (.list e rs) ((gf (k + j)).val rs.length)) →
     aB P M1 true (l.mapIdx (fun j rs=>PV.own (bF + (k + j)) (gf (k + j)) rs.length) ++ r) xs → aB P M1 true (l.map (fun rs=>PV.list e rs) ++ r) xs := by
    intro l
    induction l with
    | nil=>intro k r xs _ h; simpa using h
    | cons a l ih =>
     intro k r xs hl h
     simp only [List.mapIdx_cons,List.cons_append,aB,List.map_cons] at h ⊢
     obtain ⟨x,ys,rfl,hx,hy⟩ := h
     refine ⟨x,ys,rfl,?_,ih (k + 1) r ys (fun j rs hj=>?_) ?_⟩
     ·simp only [Rep,Nat.add_zero] at hx
      rw [hx.2]
      exact hl 0 a rfl
     ·have := hl (j + 1) rs (by simpa using hj)
      rwa [show k + (j + 1) = k + 1 + j from by omega] at this
     ·have e : (fun (j : Nat) (rs : List (List PV))=>PV.own (bF + (k + (j + 1))) (gf (k + (j + 1))) rs.length) = fun j rs=>PV.own (bF + (k + 1 + j)) (gf (k + 1 + j)) rs.length := by
       funext j rs
       rw [show k + (j + 1) = k + 1 + j from by omega]
      rw [← e]
      exact hy
   refine key rss 0 _ _ (fun j rs hj=>?_) ?_
   ·rw [Nat.zero_add]
    exact hc j rs (zg.1 hj).1 hj
   ·simpa [eT] using hr
  have h2 : InvH P C M1 ⟨upd bx t (some ⟨b,cells'⟩),ob1⟩ w := by
   have key : ∀ u x,upd bx t (some ⟨b,cells'⟩) u = some x → (u = t ∧ x = ⟨b,cells'⟩) ∨ (u ≠ t ∧ bx u = some x) := by
    intro u x hx
    rw [dJ] at hx
    split at hx
    ·rename_i e; exact .inl ⟨e,(Option.some.inj hx).symm⟩
    ·rename_i e; exact .inr ⟨e,hx⟩
   refine ⟨h1.mem,h1.ext,h1.new,h1.os,h1.tape,h1.output,h1.size,h1.frame,fun u x hx=>?_,h1.objs,fun u u' x x' hx hx' hbb=>?_,h1.dobj,fun u u' x x' hx hx' hbb=>?_⟩
   ·rcases key u x hx with ⟨_,rfl⟩ | ⟨_,hx⟩
    ·exact ⟨hmine,⟨_,hcs,hr'⟩,hnone⟩
    ·exact h1.boxes u x hx
   ·rcases key u x hx with ⟨q1,q2⟩ | ⟨_,hy⟩ <;> rcases key u' x' hx' with ⟨q3,q4⟩ | ⟨_,hy'⟩
    ·rw [q1,q3]
    ·subst q1; subst q2; exact h1.dbox _ u' _ x' hb hy' hbb
    ·subst q3; subst q4; exact h1.dbox u _ x _ hy hb hbb
    ·exact h1.dbox u u' x x' hy hy' hbb
   ·rcases key u x hx with ⟨q1,q2⟩ | ⟨_,hy⟩
    ·subst q1; subst q2; exact h1.dmix _ u' _ x' hb hx' hbb
    ·exact h1.dmix u u' x x' hy hx' hbb
  have hfl : ∀ l : List PV,(∀ p ∈ l,p.froz = true) → PV.frozL l = true := by
   intro l
   induction l with
   | nil=>intro _; rfl
   | cons a l ih=>intro h; simp [PV.frozL,h a (by simp),ih fun p hp=>h p (by simp [hp])]
  obtain ⟨M2,hle2,h3,hra⟩ := h2.freezeB (tag := t) (x := ⟨b,cells'⟩) (eC _ _ _) (hfl _ (fun p hp=>by
    rcases List.mem_append.1 hp with hp | hp
    ·obtain ⟨rs,_,rfl⟩ := List.mem_map.1 hp; rfl
    ·rw [List.eq_of_mem_replicate hp]; rfl)) (List.all_eq_true.2 fun p hp=>by
    rcases List.mem_append.1 hp with hp | hp
    ·obtain ⟨rs,_,rfl⟩ := List.mem_map.1 hp; rfl
    ·rw [List.eq_of_mem_replicate hp]; rfl)
  refine ⟨M2,Mem.le_trans hle1 hle2,(hless h3).less (fun u x hx=>?_) (fun _ _ hx=>hx),?_⟩
  ·simp only [dJ] at hx ⊢
   split at hx
   ·cases hx
   ·rename_i q; simp only [zy q]; exact hx
  ·rw [lz h0]
   simp only [Rep]
   refine ⟨some ⟨b,0,none⟩,cC rss.length c,i,by simp,by simpa using jw _ _,famCap_le _ hmx,hi,by rw [zl,hbs]; exact hby,fun _=>⟨b,0,rfl,?_⟩⟩
   have hs1 : i.size = 1 := by rw [hs]; exact hsz
   rw [hs1]
   refine dd.of_flat (fun r hr=>?_) ?_
   ·obtain ⟨rs,_,rfl⟩ := List.mem_map.1 hr; rfl
   ·rw [flat_single]
    have := dm.take rss.length hra
    have e2 : (cells').take rss.length = rss.map (fun rs=>PV.list e rs) := by
     show (rss.map (fun rs=>PV.list e rs) ++ _).take rss.length = _
     rw [List.take_append_of_le_length (by simp)]
     exact List.take_of_length_le (by simp)
    rw [e2] at this
    exact this
end
section
variable {P : Program} {T : TT} {w : World} {C : Ctx} {M : Mem}
theorem rR (t ty e e0 : TypeId) (i : TypeInfo) (ht : P.underlying t = some (.slice e)) (hi : P.info? e = some i)
  (g sLen sCap : Nat) (cur : Array Value) (hg : w.heap[g]? = some (.cells cur e0 (0,0)))
  (a : Addr) (m c : Nat) (news : List Value) (hl : news.length = m * i.size) (hnews : ∀ j u,news[j]? = some u → w.cell? (a.add j) = some u) (h1 : ∀ u ∈ news,u.oneCell' = true)
  (hroom : sLen + m ≤ sCap) (hfit : sLen * i.size + news.length ≤ cur.size) :
  (Builtin.append_ #[t,t] ty #[.slice (some ⟨g,0,none⟩) sLen sCap,.slice (some a) m c]).run P w =
   .ok (.slice (some ⟨g,0,none⟩) (sLen + m) sCap) (w.setRow g (cur.toList.take (sLen * i.size) ++ news ++ cur.toList.drop (sLen * i.size + news.length)).toArray) := by
 have hf := run_firstCells_some (P := P) w i.size m a m c news hl hnews
 have hst := run_storeCells_at P g (sLen * i.size) e0 news 0 cur w hg (by simpa using hfit) h1
 simp only [Nat.add_zero] at hst
 simp [Builtin.append_,run_underlying ht,sizeOf,typeInfo,hi,Builtin.lenOf,hroom,hf,Addr.add_lit,hst]
theorem repNils {k : Nat} {P : Program} {M : Mem} : aB P M true (List.replicate k (.val (.slice none 0 0))) (List.replicate k (Value.slice none 0 0)) := by
 induction k with
 | zero=>simp [aB]
 | succ k ih=>simp only [List.replicate_succ,aB]; exact ⟨_,_,rfl,by simp [Rep],ih⟩
theorem zeroNils (k : Nat) : (Builtin.zeroCells #[Value.slice none 0 0] k).toList = List.replicate k (Value.slice none 0 0) := by
 unfold Builtin.zeroCells
 rw [oa]
 induction k with
 | zero=>rfl
 | succ k ih=>rw [List.replicate_succ,List.flatten_cons,ih]; rfl
def kN (gf : Nat → OwnRef) (rss : List (List (List PV))) : List PV := rss.mapIdx fun i rs=>PV.own (bF + i) (gf i) rs.length
theorem nM {gf : Nat → OwnRef} {rss : List (List (List PV))} : (kN gf rss).length = rss.length := by simp [kN]
theorem oV {gf : Nat → OwnRef} {rss : List (List (List PV))} {c : Nat} : eT gf rss c = kN gf rss ++ List.replicate (cC rss.length c - rss.length) (.val (.slice none 0 0)) := rfl
theorem lT {gf : Nat → OwnRef} {rss : List (List (List PV))} {c : Nat} {g : OwnRef} : eT (upd gf rss.length g) (rss ++ [[]]) c =
  kN gf rss ++ (.own (bF + rss.length) g 0 :: List.replicate (cC (rss.length + 1) c - (rss.length + 1)) (.val (.slice none 0 0))) := by
 have h : kN (upd gf rss.length g) (rss ++ [[]]) = kN gf rss ++ [.own (bF + rss.length) g 0] := by
  unfold kN
  rw [List.mapIdx_append]
  congr 1
  ·apply List.ext_getElem?
   intro j
   simp only [List.getElem?_mapIdx]
   by_cases hj : j < rss.length
   ·rw [eY _ _ (by omega)]
   ·rw [List.getElem?_eq_none (by omega)]; rfl
  ·simp [eC]
 rw [oV,h]
 simp
theorem pH {bx : Nat → Option Box} {ob : Nat → Option Obj} {t0 b e c : Nat} {gf : Nat → OwnRef} {rss : List (List (List PV))} (hT : T.Ok P) {ei2 : TInfo} (hei2 : T.get e = some ei2)
  (h : InvH P C M ⟨upd bx t0 (some ⟨b,eT (upd gf rss.length ⟨none,0⟩) (rss ++ [[]]) c⟩),eE e gf rss ob⟩ w) :
  InvH P C M ⟨upd bx t0 (iG b (upd gf rss.length ⟨none,0⟩) (rss ++ [[]]) c),eE e (upd gf rss.length ⟨none,0⟩) (rss ++ [[]]) ob⟩ w := by
 rw [pB (Nat.lt_of_lt_of_le (by simp) (jw _ _))]
 refine (h.nilobj hT (bF + rss.length) hei2).less (fun _ _ hx=>hx) (fun t x hx=>?_)
 have hx : eE e (upd gf rss.length ⟨none,0⟩) (rss ++ [[]]) ob t = some x := hx
 unfold eE at hx
 cases hq : Nat.ble bF t with
 | false =>
  rw [hq] at hx
  have ht : t < bF := by
   rcases Nat.lt_or_ge t bF with h | h
   ·exact h
   ·rw [show Nat.ble bF t = true from by rw [Nat.ble_eq]; exact h] at hq; cases hq
  show upd (eE e gf rss ob) _ _ t = some x
  rw [eY _ _ (by omega),famO_low ht]
  exact hx
 | true =>
  rw [hq] at hx
  have hle := Nat.le_of_ble_eq_true hq
  simp only [zc,Option.map_eq_some_iff] at hx
  obtain ⟨rs,h1,rfl⟩ := hx
  show upd (eE e gf rss ob) _ _ t = _
  by_cases hj : t = bF + rss.length
  ·subst hj
   rw [eC]
   rw [show bF + rss.length - bF = rss.length from by omega] at h1 ⊢
   simp at h1
   rw [eC,← h1]
  ·rw [eY _ _ hj]
   have h2 := (zg.1 h1).1
   simp at h2
   have h3 : t - bF < rss.length := by omega
   rw [List.getElem?_append_left h3] at h1
   have := ek (e := e) (gf := gf) (ob := ob) h1
   rw [show bF + (t - bF) = t from by omega] at this
   rw [this,eY _ _ (by omega)]
theorem appendFam_core {bx : Nat → Option Box} {ob : Nat → Option Obj} {t0 b e e' c : Nat} {gf : Nat → OwnRef} {rss : List (List (List PV))} (hi : InvH P C M ⟨bx,eE e gf rss ob⟩ w) (hb : bx t0 = iG b gf rss c) (hT : T.Ok P)
  {t ty : TypeId} {ti ei ei2 : TInfo} (hti : T.get t = some ti) (hd : ti.desc = .slice e') (hei : T.get e' = some ei) (hsz : ei.size = 1) (hz : ei.zero.cells = #[.slice none 0 0]) (hei2 : T.get e = some ei2)
  {v : Value} (hv : Rep P M true (.list e' [[.val (.slice none 0 0)]]) v) (hby : (rss.length + 1) * ei.bytes ≤ 2 ^ 47) (hmx : rss.length + 1 ≤ maxLen) :
  ∃ b' c' w',(Builtin.append_ #[t,t] ty #[iP b rss.length c,v]).run P w = .ok (iP b' (rss.length + 1) c') w' ∧
   InvH P C M ⟨upd bx t0 (iG b' (upd gf rss.length ⟨none,0⟩) (rss ++ [[]]) c'),eE e (upd gf rss.length ⟨none,0⟩) (rss ++ [[]]) ob⟩ w' := by
 obtain ⟨i,sa,c0,news,hinf,rfl,_,hnl,_,hcells,hrep,hone⟩ := list_src hi hv
 obtain ⟨i',hinf',hs,hbs,hzero⟩ := (hT.get hei).info
 rw [hinf] at hinf'
 cases hinf'
 have hs1 : i.size = 1 := by rw [hs]; exact hsz
 have hnews : news = [.slice none 0 0] := by
  simp only [List.flatten_cons,List.flatten_nil,List.append_nil,aB,Rep] at hrep
  obtain ⟨x,xs,rfl,rfl,rfl⟩ := hrep
  rfl
 subst hnews
 have hu := (hT.get hti).und
 rw [hd] at hu
 obtain ⟨a,rfl,hac⟩ := hcells (by simp)
 have h63 : ((rss.length + 1 : Nat) : Int) ≤ 9223372036854775807 := by unfold maxLen at hmx; omega
 have hby' : (rss.length + 1) * i.bytes ≤ 140737488355328 := by rw [hbs]; exact hby
 have hcap := jw rss.length c
 rcases Nat.eq_zero_or_pos (cC rss.length c) with h0 | h0
 ·have hnil : rss = [] := List.length_eq_zero_iff.1 (by omega)
  subst hnil
  have hg := run_append_nil (P := P) w t ty e' i ei.zero hu hinf hzero a 1 c0 [.slice none 0 0] hnl hac (by omega) (by simp) (by simp at hby'; omega)
  have hge := grownCap_ge w 1 0 e'
  have hgm : grownCap w 1 0 e' ≤ maxLen := grownCap_le_maxLen w 1 0 e' (by simpa using hmx)
  refine ⟨w.heap.size,grownCap w 1 0 e',_,?_,pH hT hei2 ((show InvH P C M _ w.drew from hi.drew).alloc_box t0 _ (#[.slice none 0 0] ++ Builtin.zeroCells ei.zero.cells (grownCap w 1 0 e' - 1)) e' ?_)⟩
  ·rw [famV_zero h0]
   simp only [List.length_singleton]
   rw [hg,lz (by show 0 < cC 1 _; rw [jZ hge hgm]; omega)]
   show _ = Result.ok (Value.slice _ 1 (cC 1 _)) _
   rw [jZ hge hgm]
  ·rw [lT]
   simp only [List.length_nil,kN,List.mapIdx_nil,List.nil_append,aB]
   refine ⟨.slice none 0 0,(Builtin.zeroCells ei.zero.cells (grownCap w 1 0 e' - 1)).toList,by rw [Array.toList_append]; rfl,by simp [Rep,OwnRef.val],?_⟩
   rw [hz,zeroNils]
   show aB P M true (List.replicate (cC 1 _ - 1) _) _
   rw [jZ hge hgm]
   exact repNils
 ·rw [pB h0] at hb
  obtain ⟨hmine,⟨cur,e0,hcur,hr⟩,hnone⟩ := (hi.boxes t0 _ hb).cells (pf _ _ _)
  have hsize : cur.size = cC rss.length c := by
   have := hr.length
   rw [nR] at this
   simpa using this
  have hl2 : kN gf rss = (eT gf rss c).take rss.length := by
   rw [oV,List.take_append_of_le_length (by rw [nM]; exact Nat.le_refl _),← nM (gf := gf) (rss := rss),List.take_length]
  have hrt : aB P M true (kN gf rss) (cur.toList.take rss.length) := by rw [hl2]; exact hr.take _
  by_cases hroom : rss.length + 1 ≤ cC rss.length c
  ·have hr2 := rR (P := P) (w := w) t ty e' e0 i hu hinf b rss.length (cC rss.length c) cur hcur a 1 c0 [.slice none 0 0] hnl hac hone hroom (by rw [hs1]; simp; omega)
   have hce : cC (rss.length + 1) (cC rss.length c) = cC rss.length c := jZ hroom (famCap_le _ (by omega))
   refine ⟨b,cC rss.length c,_,?_,pH hT hei2 (hi.set_box t0 _ hb (pf _ _ _) _ (cur.toList.take (rss.length * i.size) ++ [Value.slice none 0 0] ++ cur.toList.drop (rss.length * i.size + [Value.slice none 0 0].length)).toArray ?_)⟩
   ·rw [lz h0]
    simp only [List.length_singleton]
    rw [hr2,lz (by rw [hce]; exact h0),hce]
    rfl
   ·rw [lT,hce]
    simp only [hs1,Nat.mul_one,List.append_assoc]
    refine hrt.append ?_
    simp only [List.singleton_append,aB,List.length_singleton]
    refine ⟨_,_,rfl,by simp [Rep,OwnRef.val],?_⟩
    have := hr.drop (rss.length + 1)
    rw [oV,List.drop_append,nM,List.drop_of_length_le (by rw [nM]; omega),List.nil_append,List.drop_replicate] at this
    rwa [show cC rss.length c - rss.length - (rss.length + 1 - rss.length) = cC rss.length c - (rss.length + 1) from by omega] at this
  ·have holdlen : (cur.toList.take rss.length).length = rss.length * i.size := by rw [hs1]; simp; omega
   have holds : ∀ (j : Nat) (v : Value),(cur.toList.take rss.length)[j]? = some v → w.cell? ((⟨b,0,none⟩ : Addr).add j) = some v := by
    intro j v hj
    rw [gB,cell_of_row w b (0 + j) cur e0 (0,0) hcur]
    rw [List.getElem?_take] at hj
    split at hj
    ·simpa using hj
    ·cases hj
   have hr2 := run_append_grow (P := P) w t ty e' i ei.zero hu hinf hzero ⟨b,0,none⟩ rss.length (cC rss.length c) _ holdlen holds a 1 c0 [.slice none 0 0] hnl hac (by omega) h63 (growslice_fits (by omega) hby')
   have hge := grownCap_ge w (rss.length + 1) (cC rss.length c) e'
   have hgm : grownCap w (rss.length + 1) (cC rss.length c) e' ≤ maxLen := grownCap_le_maxLen w _ _ e' hmx
   refine ⟨w.heap.size,grownCap w (rss.length + 1) (cC rss.length c) e',_,?_,pH hT hei2 ((show InvH P C M _ w.drew from hi.drew).alloc_box t0 _ ((cur.toList.take rss.length).toArray ++ #[.slice none 0 0] ++ Builtin.zeroCells ei.zero.cells (grownCap w (rss.length + 1) (cC rss.length c) e' - (rss.length + 1))) e' ?_)⟩
   ·rw [lz h0]
    simp only [List.length_singleton]
    rw [hr2,lz (by rw [jZ hge hgm]; omega),jZ hge hgm]
   ·rw [lT]
    simp only [Array.toList_append,List.append_assoc]
    refine hrt.append ?_
    simp only [List.singleton_append,aB]
    refine ⟨_,_,rfl,by simp [Rep,OwnRef.val],?_⟩
    rw [hz,zeroNils,jZ hge hgm]
    exact repNils
end
section
variable {P : Program} {T : TT} {ops : Array Oper} {rest : List Oper} {o : Oper} {n : Nat} {s s' : Nat → PV} {bx : Nat → Option Box} {ob : Nat → Option Obj} {K : PState → Prop}
theorem sP (t0 e : Nat) (hT : T.Ok P) (hg : aQ ops s o = some true) {x y : Operand} {t : TypeId} (ho : o.op = .call { callee := .builtin .append,args := #[x,y],argTypes := #[t,t] }) {d : Nat} (hdst : o.dst = some d) (hlt : Nat.blt d n = true) {ti ei ei2 : TInfo} {e' : TypeId}
  (hti : T.get t = some ti) (hd : ti.desc = .slice e') (hei : T.get e' = some ei) (hsz : ei.size = 1) (hz : ei.zero.cells = #[.slice none 0 0]) (hei2 : T.get e = some ei2) {b c m : Nat} {gf : Nat → OwnRef} {rss : List (List (List PV))} (hx : evS s x = .val (iP b m c)) (hm : m = rss.length)
  (hy : evS s y = .list e' [[.val (.slice none 0 0)]]) (hb : bx t0 = iG b gf rss c) (hby : (rss.length + 1) * ei.bytes ≤ 2 ^ 47) (hmx : rss.length + 1 ≤ maxLen)
  (h : ∀ b' c',Ao P ops rest ⟨n,upd s d (.val (iP b' (m + 1) c')),upd bx t0 (iG b' (upd gf m ⟨none,0⟩) (rss ++ [[]]) c'),eE e (upd gf m ⟨none,0⟩) (rss ++ [[]]) ob⟩ K) :
  Ao P ops (o :: rest) ⟨n,s,bx,eE e gf rss ob⟩ K := by
 subst hm
 refine er hg (K := K) ?_
 intro C M a w next Q hi he hn
 have hxr := he x (by rw [ho]; simp [Op.operands,Call.operands])
 have hyr := he y (by rw [ho]; simp [Op.operands,Call.operands])
 rw [hx] at hxr
 rw [hy] at hyr
 simp only [Rep] at hxr
 obtain ⟨b',c',w',hrun,hi'⟩ := appendFam_core (ty := o.type) hi hb hT hti hd hei hsz hz hei2 hyr hby hmx
 have hrun' : (execOp a.eval o).run P w = .ok (.value (iP b' (rss.length + 1) c')) w' := by
  simp only [execOp,ho,resolve,Sem.run_bind,Sem.run_pure,Result.andThen_ok,invoke,builtin,List.map_toArray,List.map_cons,List.map_nil,hxr]
  rw [hrun]
  rfl
 unfold Oper.wp
 rw [hrun']
 exact hn _ (.val (iP b' (rss.length + 1) c')) _ M w' ⟨_,by simp [hdst,putD,hlt],h b' c'⟩ (Mem.le_refl M) hi' (by simp [Rep])
theorem so (t0 : Nat) (hT : T.Ok P) (hg : aQ ops s o = some true) {t : TypeId} {x i : Operand} (ho : o.op = .indexAddr t x i) {ti ei : TInfo} {e' : TypeId} (hti : T.get t = some ti) (hd : ti.desc = .slice e') (hei : T.get e' = some ei) (hes : ei.size = 1)
  {b c m : Nat} (hx : evS s x = .val (iP b m c)) {kk : IntKind} {j : Int} (hi : evS s i = .val (.int kk j)) (hj : 0 ≤ j ∧ j.toNat < m) (hp : putD n s o.dst (.box t0 b j.toNat) = some s') (h : Ao P ops rest ⟨n,s',bx,ob⟩ K) : Ao P ops (o :: rest) ⟨n,s,bx,ob⟩ K := by
 have hpos : 0 < cC m c := Nat.lt_of_lt_of_le (by omega) (jw _ _)
 rw [lz hpos] at hx
 refine rf hg ?_ hp h
 intro C M a w hiv he
 have hxr := he x (by rw [ho]; simp [Op.operands])
 have hir := he i (by rw [ho]; simp [Op.operands])
 rw [hx] at hxr
 rw [hi] at hir
 simp only [Rep] at hxr hir
 have hu := (hT.get hti).rund w
 rw [hd] at hu
 have hsz := (hT.get hei).rsize w
 refine ⟨.pointer (some ⟨b,j.toNat,none⟩),?_,by simp [Rep]⟩
 have h2 : j < (m : Int) := by omega
 simp [execOp,ho,Instr.indexAt,hir,hxr,asIntOf,hu,hj.1,h2,hsz,hes,gB]
theorem sQ (t0 e : Nat) (hT : T.Ok P) (hg : aQ ops s o = some true) {t e' : TypeId} {ps : Array (Nat × Operand)} (ho : o.op = .buildSlice t 1 ps) {d : Nat} (hdst : o.dst = some d) (hlt : Nat.blt d n = true) {ti ei2 : TInfo} (hti : T.get t = some ti) (hd : ti.desc = .slice e')
  (hr : kt T e' 1 (gE (evS s) ps) = some [[.val (.slice none 0 0)]]) (hei2 : T.get e = some ei2)
  (h : ∀ b' c',Ao P ops rest ⟨n,upd s d (.val (iP b' 1 c')),upd bx t0 (iG b' (fun _=>⟨none,0⟩) [[]] c'),eE e (fun _=>⟨none,0⟩) [[]] ob⟩ K) :
  Ao P ops (o :: rest) ⟨n,s,bx,ob⟩ K := by
 refine er hg (K := K) ?_
 intro C M a w next Q hi he hn
 obtain ⟨i,cs,hinf,hrun,hrep,hone,hlen,hrl,hcs,hby,hn16⟩ := bs_run hT hti hd hr w (fun x hx=>he x (by rw [ho]; simpa [Op.operands] using hx))
 unfold Oper.wp
 have hrun' : (execOp a.eval o).run P w = .ok (.value (iP w.heap.size 1 1)) (w.alloc (.cells cs e')) := by
  simp only [execOp,ho,Sem.run_bind,hrun]
  rfl
 rw [hrun']
 simp only [List.flatten_cons,List.flatten_nil,List.append_nil,aB,Rep] at hrep
 obtain ⟨x,xs,hcc,rfl,rfl⟩ := hrep
 have h0 : InvH P C M ⟨bx,eE e (fun _=>⟨none,0⟩) [] ob⟩ w := InvH.famNil e _ hi
 have hg0 : upd (fun _=>(⟨none,0⟩ : OwnRef)) 0 ⟨none,0⟩ = fun _=>⟨none,0⟩ := by funext t; rw [dJ]; split <;> rfl
 have hrc : aB P M true (eT (upd (fun _=>(⟨none,0⟩ : OwnRef)) ([] : List (List (List PV))).length ⟨none,0⟩) ([] ++ [[]]) 1) cs.toList := by
  rw [lT,hcc]
  simp only [List.length_nil,kN,List.mapIdx_nil,List.nil_append,aB]
  have e1 : cC (0 + 1) 1 = 1 := jZ (Nat.le_refl _) (by unfold maxLen; omega)
  rw [e1]
  exact ⟨_,_,rfl,by simp [Rep,OwnRef.val],by simp [aB]⟩
 have h2 := h0.alloc_box t0 _ cs e' hrc
 have h1 := pH (b := w.heap.size) (c := 1) (t0 := t0) (gf := fun _=>(⟨none,0⟩ : OwnRef)) (rss := []) hT hei2 h2
 simp only [List.length_nil,hg0,List.nil_append] at h1
 exact hn _ (.val (iP w.heap.size 1 1)) _ M _ ⟨_,by simp [hdst,putD,hlt],h w.heap.size 1⟩ (Mem.le_refl M) h1 (by simp [Rep])
theorem sx {fn : Func} {R : PV → Heap → Prop} {ks : List KI} (d t0 : Nat) (hT : T.Ok P) {e e' b c m : Nat} {ei : TInfo} (hei : T.get e' = some ei) (hes : ei.size = 1) {gf : Nat → OwnRef} {rss : List (List (List PV))} {rows : List (List PV)} (hs : s d = .val (iP b m c)) (hm : m = rss.length)
  (hb : bx t0 = iG b gf rss c) (hby : rss.length * ei.bytes ≤ 2 ^ 47) (hmx : rss.length ≤ maxLen) (hrows : rows = rss.map fun rs=>[.list e rs]) (h : V P fn R ks ⟨n,upd s d (.list e' rows),upd bx t0 none,eE e gf [] ob⟩) : V P fn R ks ⟨n,s,bx,eE e gf rss ob⟩ := by
 subst hm
 subst hrows
 refine eh ?_ h
 intro C M a w hi
 obtain ⟨M',hle,hi',hr⟩ := hi.2.freezeFam hb hT hei hes hby hmx
 refine ⟨M',⟨hi.1.1,hi.1.2.1,fun t=>?_⟩,hi'⟩
 have := hi.1.2.2 t
 simp only at this
 simp only [dJ]
 split
 ·rename_i e; subst e; rw [hs] at this; simp only [Rep] at this; rw [this]; exact hr
 ·exact Rep.mono hle this
end
section
variable {P : Program} {T : TT} {ops : Array Oper} {rest : List Oper} {o : Oper} {n : Nat} {s : Nat → PV} {bx : Nat → Option Box} {ob : Nat → Option Obj} {K : PState → Prop} {fn : Func} {R : PV → Heap → Prop} {k : List KI} {st : PState} {rb : RB} {L : List Nat} {kk : Nat}
end
section
variable {P : Program} {n : Nat} {s : Nat → PV} {bx : Nat → Option Box} {ob : Nat → Option Obj} {T : TT}
theorem HSub.updB {tag : Nat} {v : Option Box} (h : bx tag = none) : HSub ⟨bx,ob⟩ ⟨upd bx tag v,ob⟩ := by
 refine ⟨fun t x hx=>?_,fun _ _ hx=>hx⟩
 show upd bx tag v t = some x
 rw [dJ]
 split
 ·rename_i e; subst e; rw [show bx t = some x from hx] at h; cases h
 ·exact hx
end
def OwnG2 (m1 m2 : Nat) (e1 e2 : TypeId) (rows1 rows2 : List (List PV)) (f : OwnRef → OwnRef → PV) (u : PV) (H : Heap) : Prop :=
 ∃ g1 g2,u = f g1 g2 ∧ H = ⟨fun _=>none,upd (upd (fun _=>none) m2 (some ⟨g2,e2,rows2,true⟩)) m1 (some ⟨g1,e1,rows1,true⟩)⟩
section
variable {P : Program}
theorem upd2_key {α : Type} {m1 m2 : Nat} {x1 x2 y : α} {t : Nat} (h : upd (upd (fun _=>none) m2 (some x2)) m1 (some x1) t = some y) : (t = m1 ∧ y = x1) ∨ (t ≠ m1 ∧ t = m2 ∧ y = x2) := by
 simp only [dJ] at h
 split at h
 ·rename_i e; exact .inl ⟨e,(Option.some.inj h).symm⟩
 ·rename_i e
  split at h
  ·rename_i e2; exact .inr ⟨e,e2,(Option.some.inj h).symm⟩
  ·cases h
theorem InvH.pick2 {C : Ctx} {M : Mem} {H : Heap} {w : World} (h : InvH P C M H w) {t1 t2 : Nat} {x1 x2 : Obj} (h1 : H.ob t1 = some x1) (h2 : H.ob t2 = some x2) (ht : t1 ≠ t2) (m1 m2 : Nat) : InvH P C M ⟨fun _=>none,upd (upd (fun _=>none) m2 (some x2)) m1 (some x1)⟩ w :=
 ⟨h.mem,h.ext,h.new,h.os,h.tape,h.output,h.size,h.frame,fun _ _ hy=>by simp at hy,
  fun t y hy=>(by
   rcases upd2_key hy with ⟨_,rfl⟩ | ⟨_,_,rfl⟩
   ·exact h.objs t1 _ h1
   ·exact h.objs t2 _ h2),fun _ _ _ _ hy=>by simp at hy,
  fun t t' y y' b hy hy' hb hb'=>by
   rcases upd2_key hy with ⟨e1,rfl⟩ | ⟨_,e1,rfl⟩ <;> rcases upd2_key hy' with ⟨e2,rfl⟩ | ⟨_,e2,rfl⟩
   ·rw [e1,e2]
   ·exact absurd (h.dobj t1 t2 _ _ b h1 h2 hb hb') ht
   ·exact absurd (h.dobj t1 t2 _ _ b h1 h2 hb' hb) ht
   ·rw [e1,e2],fun _ _ _ _ hy=>by simp at hy⟩
theorem Heap.over_two (H : Heap) (m1 m2 : Nat) (x1 x2 : Obj) : H.over ⟨fun _=>none,upd (upd (fun _=>none) m2 (some x2)) m1 (some x1)⟩ = ⟨H.bx,upd (upd H.ob m2 (some x2)) m1 (some x1)⟩ := by
 unfold Heap.over
 congr 1
 funext t
 simp only [dJ]
 by_cases h : t = m1
 ·rw [zp h,zp h]
 ·rw [zy h,zy h]
  by_cases h' : t = m2
  ·rw [zp h',zp h']
  ·rw [zy h',zy h']
end
section
variable {P : Program} {T : TT} {ops : Array Oper} {rest : List Oper} {o : Oper} {n : Nat} {s : Nat → PV} {bx : Nat → Option Box} {ob : Nat → Option Obj} {K : PState → Prop} {fn : Func} {k : List KI}
theorem sG (hg : aQ ops s o = some true) {fx : Operand} {av0 : Array Operand} {ts : Array TypeId} (ho : o.op = .call { callee := .value fx,args := av0,argTypes := ts }) {g : FuncId} {caps : List PV}
  (hf : evS s fx = .fn g caps) (hcall : ∀ vs w,(callFunc g vs).run P w = .ok (.enter g vs) w) {args : List PV} (hle : gK P (av0.toList.map (evS s) ++ caps) args) {d : Nat} (hd : o.dst = some d) (hlt : Nat.blt d n = true) {m1 m2 : Nat} {e1 e2 : TypeId} {rows1 rows2 : List (List PV)} {f : OwnRef → OwnRef → PV} (hc : ig P g args (OwnG2 m1 m2 e1 e2 rows1 rows2 f))
  (h : ∀ q1 q2,Ao P ops rest ⟨n,upd s d (f q1 q2),bx,upd (upd ob m2 (some ⟨q2,e2,rows2,true⟩)) m1 (some ⟨q1,e1,rows1,true⟩)⟩ K) : Ao P ops (o :: rest) ⟨n,s,bx,ob⟩ K :=
 er hg (pE ho hf hcall hle hc fun u H' ⟨q1,q2,hu,hH⟩=>by
  subst hu
  subst hH
  rw [Heap.over_two]
  exact ⟨_,by simp [hd,putD,hlt],h q1 q2⟩)
theorem sU (hT : T.Ok P) {rs : Array ResultVar} (hres : fn.results = rs) {ps : List PV} (h : ln T ⟨n,s,bx,ob⟩ rs.toList ps) {m1 m2 t1 t2 : Nat} (ht : Nat.beq t1 t2 = false) {f : OwnRef → OwnRef → PV} {g1 g2 : OwnRef} {e1 e2 : TypeId} {rows1 rows2 rows1' rows2' : List (List PV)}
  (h1 : ob t1 = some ⟨g1,e1,rows1',true⟩) (h2 : ob t2 = some ⟨g2,e2,rows2',true⟩) (hr1 : rows1' = rows1) (hr2 : rows2' = rows2) (hu : PLe P (me ps) (f g1 g2)) :
  V P fn (OwnG2 m1 m2 e1 e2 rows1 rows2 f) (.code .ret :: k) ⟨n,s,bx,ob⟩ := by
 subst hr1
 subst hr2
 intro C M a w hi
 refine wp_ret (lN ?_)
 obtain ⟨v,hv,hx⟩ := oU hT hres h hi
 have hne : t1 ≠ t2 := fun e=>by rw [e] at ht; rw [Nat.beq_refl] at ht; cases ht
 exact ⟨hi.1.2.1,v,hv,v,f g1 g2,_,M,rfl,⟨g1,g2,rfl,rfl⟩,hi.2.pick2 (t1 := t1) (t2 := t2) h1 h2 hne m1 m2,hu M v hx⟩
end
open Classical in
def oe {α : Type} (a b : Option α) : Option α := if a = b then a else none
theorem oW {α : Type} {a b : Option α} {r : α} (h : oe a b = some r) : a = some r ∧ b = some r := by
 unfold oe at h
 split at h
 ·rename_i e; exact ⟨h,e ▸ h⟩
 ·cases h
theorem qA {α : Type} {a b : Option α} {r : α} (h : a = some r) (h' : b = some r) : oe a b = some r := by
 unfold oe
 rw [zp (h.trans h'.symm),h]
theorem lA.cagg {P : Program} {l : Array Value} : lA P (.val (.agg l)) (.agg (l.toList.map constPV)) := fun M s x hx=>by
 simp only [Rep] at hx ⊢
 exact ⟨l,hx,ke l.toList⟩
theorem upd_upd {α : Type} (f : Nat → α) (k : Nat) (v w : α) : upd (upd f k v) k w = upd f k w := by
 funext t
 simp only [dJ]
 split <;> rfl
section
variable {P : Program} {T : TT} {n : Nat} {s : Nat → PV} {bx : Nat → Option Box} {ob : Nat → Option Obj} {fn : Func} {R : PV → Heap → Prop} {k : List KI}
theorem rM (hT : T.Ok P) (hmix : P.follows .mixedOrders = true) {id : Nat} {ops : Array Oper} {t d e : Nat} {ti : TInfo} {o0 o1 o2 o3 : Oper} {x1 x2 : Operand} (hsz : ops.size = 4)
  (h0 : ops[0]? = some o0) (h1 : ops[1]? = some o1) (h2 : ops[2]? = some o2) (h3 : ops[3]? = some o3) (g0 : o0.guard = none) (g1 : o1.guard = none) (g2 : o2.guard = none) (g3 : o3.guard = none)
  (p0 : o0.op = .alloc t) (d0 : o0.dst = some d) (p1 : o1.op = .store t (.tmp d) x1) (d1 : o1.dst = none) (p2 : o2.op = .store t (.tmp d) x2) (d2 : o2.dst = none) (p3 : o3.op = .load t (.tmp d)) (d3 : o3.dst = some e)
  (c1 : ∀ s,evS s x1 = .val (.bool true)) (c2 : ∀ s,evS s x2 = .val (.bool false)) (hti : T.get t = some ti) (hs1 : ti.size = 1) (hz : cU ti = [.val (.bool false)])
  (r0 : Region.ready .any ops #[false,false,false,false] = [0]) (r1 : Region.ready .any ops #[true,false,false,false] = [1,2]) (r2 : Region.ready .any ops #[true,true,false,false] = [2])
  (r3 : Region.ready .any ops #[true,false,true,false] = [1]) (r4 : Region.ready .any ops #[true,true,true,false] = [3]) (r5 : Region.ready .any ops #[true,true,true,true] = [])
  (hd : Nat.blt d n = true) (he : Nat.blt e n = true) (hb : bx d = none) (hr : ∀ v,eo ti 0 [.val (.bool v)] = some (.val (.bool v)))
  (h : ∀ b v,V P fn R k ⟨n,upd (upd s d (.box d b 0)) e (.val (.bool v)),upd bx d (some ⟨b,[.val (.bool v)]⟩),ob⟩) : V P fn R (.code (.region id ops true) :: k) ⟨n,s,bx,ob⟩ := by
 have hl : ∀ b v,gS T (upd bx d (some ⟨b,[.val (.bool v)]⟩)) o3.op (evS (upd s d (.box d b 0))) = some (.val (.bool v)) := fun b v=>by
  rw [p3]
  simp [gS,ix,hti,evS,eC,nf,hr v]
 intro C M a w hi
 simp only [after]
 refine wp_region_any hmix ?_
 have hK : ∀ b v,AB P T ⟨true,false,[]⟩ ops (fun st'=>V P fn R k st') 1 #[true,true,true,false] ⟨n,upd s d (.box d b 0),upd bx d (some ⟨b,[.val (.bool v)]⟩),ob⟩ := fun b v=>by
  refine ⟨fun hr=>(by rw [r4] at hr; cases hr),fun i hi=>?_⟩
  rw [r4,List.mem_singleton] at hi
  subst hi
  refine ⟨o3,h3,true,by unfold aQ; rw [g3],?_⟩
  rw [zp rfl,p3]
  simp only [dE]
  refine ⟨.val (.bool v),_,.inl ?_,by rw [d3]; exact kY (by simpa [Nat.blt_eq] using he),?_⟩
  ·have : RB.b ⟨true,false,[]⟩ o3 = true := by unfold RB.b RB.fr; rw [d3]; rfl
   rw [this]
   exact hl b v
  ·exact ⟨r5,h b v⟩
 have hst : ∀ (b : Nat) (u v : Bool) (o : Oper) (x : Operand) (j m : Nat) (ls : Array Bool) (hj : ops[j]? = some o) (hg : o.guard = none) (hp : o.op = .store t (.tmp d) x) (hdn : o.dst = none) (hx : ∀ s,evS s x = .val (.bool v)),
   AB P T ⟨true,false,[]⟩ ops (fun st'=>V P fn R k st') m ls ⟨n,upd s d (.box d b 0),upd bx d (some ⟨b,[.val (.bool v)]⟩),ob⟩ →
   iQ P T ⟨true,false,[]⟩ ops j ⟨n,upd s d (.box d b 0),upd bx d (some ⟨b,[.val (.bool u)]⟩),ob⟩ (AB P T ⟨true,false,[]⟩ ops (fun st'=>V P fn R k st') m ls) := by
  intro b u v o x j m ls hj hg hp hdn hx hAB
  refine ⟨o,hj,true,by unfold aQ; rw [hg],?_⟩
  rw [zp rfl,hp]
  simp only [dE]
  refine ⟨hdn,.inl ⟨t,.tmp d,x,ti,d,b,0,[.val (.bool u)],[.val (.bool v)],rfl,hti,by simp only [evS,eC],by rw [eC],by rw [hx]; rfl,rfl,by rw [hs1]; rfl,by rw [hs1]; rfl,?_⟩⟩
  rw [upd_upd]
  exact hAB
 have fin := AB.sound hT (C := C) (rb := ⟨true,false,[]⟩) (ops := ops) (K := fun st'=>V P fn R k st') (fun st M a w hV hi=>hV C M a w hi) 4 #[false,false,false,false] ⟨n,s,bx,ob⟩ M a { w with drawn := w.drawn + 1 } ?_ ⟨hi.1,hi.2.drew⟩
 ·rw [hsz]
  exact fin
 ·refine ⟨fun hr=>(by rw [r0] at hr; cases hr),fun i hi=>?_⟩
  rw [r0,List.mem_singleton] at hi
  subst hi
  refine ⟨o0,h0,true,by unfold aQ; rw [g0],?_⟩
  rw [zp rfl,p0]
  simp only [dE]
  refine ⟨t,d,ti,rfl,d0,hti,by simpa [Nat.blt_eq] using hd,hb,fun b=>?_⟩
  rw [hz]
  refine ⟨fun hr=>(by rw [show (#[false,false,false,false] : Array Bool).setIfInBounds 0 true = #[true,false,false,false] from rfl,r1] at hr; cases hr),fun i hi=>?_⟩
  rw [show (#[false,false,false,false] : Array Bool).setIfInBounds 0 true = #[true,false,false,false] from rfl,r1] at hi
  rcases List.mem_cons.1 hi with rfl | hi
  ·refine hst b false true o1 x1 1 2 _ h1 g1 p1 d1 c1 ⟨fun hr=>?_,fun i hi=>?_⟩
   ·exact absurd (r2.symm.trans hr) (by simp)
   ·have hi2 : i ∈ Region.ready .any ops #[true,true,false,false] := hi
    rw [r2,List.mem_singleton] at hi2
    subst hi2
    exact hst b true false o2 x2 2 1 _ h2 g2 p2 d2 c2 (hK b false)
  ·rw [List.mem_singleton] at hi
   subst hi
   refine hst b false false o2 x2 2 2 _ h2 g2 p2 d2 c2 ⟨fun hr=>?_,fun i hi=>?_⟩
   ·exact absurd (r3.symm.trans hr) (by simp)
   ·have hi2 : i ∈ Region.ready .any ops #[true,false,true,false] := hi
    rw [r3,List.mem_singleton] at hi2
    subst hi2
    exact hst b false true o1 x1 1 1 _ h1 g1 p1 d1 c1 (hK b true)
end
end
end Go.Ab

namespace Go.Proofs.YtioonpnnfepffaaGreat
noncomputable section
open Go Go.Ab
attribute [local irreducible] V Ao Do Gh Eff PH IntKind.wrap
set_option maxRecDepth 4000
def jr (rec53 : LQuery → Option ((List LQuery))) (q : LQuery) : Option ((List LQuery)) :=
 ae (aD (σ := List LQuery) (ρ := Empty) (fun (_ : Nat) (x1 : LQuery) (s1 : List LQuery) =>
  ae (rec53 x1) fun x17 =>
  ae (cy 160 s1 x17) fun (x18 : List LQuery) =>
  some (.next x18)) 0 q.inputs [q]) fun fl1=>fl1.thenP fun (s1 : List LQuery) =>
 some s1
theorem WO_query_Nodes {m : Nat} (rec53 : LQuery → Option ((List LQuery))) (hrec53 : ∀ m a0 r,rec53 a0 = some r → ig Tryz.prog 53 [(.agg (aw a0))] (ld m 35 (r.map aE))) (q : LQuery) (r : (List LQuery)) (H : jr rec53 q = some r) :
  ig Tryz.prog 53 [(.agg (aw q))] (ld m 35 (r.map aE)) := by
 unfold jr at H
 refine PH.ax Tryz.func53 Tryz.ntmps53 ?_
 refine ab (aa (aH ?_))
 refine ah tk rfl (ac (ab (aa (ah tk rfl ?_))))
 refine mz (rows' := List.map aE ([q] : List LQuery)) tk rfl rfl rfl rfl rfl rfl rfl (congrArg (List.map List.length) (kw bA ([q] : List LQuery))).symm rfl (iz.trans (b := (List.map aw ([q] : List LQuery)).flatten) (iz.refl _) (iz.of_eq (congrArg List.flatten (kw bA ([q] : List LQuery))))) fun g7=>?_
 refine ah tk rfl (ac (ab (ab (aa (ag 2 tk rfl (az tk (zl _) ?_))))))
 refine ah tk rfl (ac ?_)
 refine fg (γ := OwnRef) tk 11 10 9 (fun s1 g1=>upd (fun _=>.any) 3 (.own 7 g1 (s1.map aE).length)) nB (fun s1 g1=>upd (fun _=>none) 7 (some ⟨g1,35,(s1.map aE),true⟩)) g7 H (fun fl1 Hp1 j1 s1 g1 hz1 hl1 x1 fb1 hx1 H hg1=>?_) (fun s1 g1 H=>?_)
 ·refine ab (av (ab (aa (aU tk (zn j1) (bl bA hx1) ?_))))
  refine ah tk rfl ?_
  refine aN tk fun b5=>?_
  refine ak tk ?_
  refine ac (aa (ah tk rfl (aq tk ?_)))
  obtain ⟨x17,h17,H⟩ := au H
  have s17 := hrec53 17 x1 _ h17
  refine aj Tryz.call53 (gK.r) (PFun.jH s17) ?_
  obtain ⟨x18,h18,H⟩ := au H
  have k18 := bX h18
  refine cr (rows2' := List.map aE x17) (rows' := List.map aE x18) tk rfl rfl rfl rfl rfl rfl rfl rfl rfl rfl rfl rfl rfl (gP.refl _) (cK k18.1) (cI k18.2.1) (cF k18.2.2) fun g18=>?_
  refine ah tk rfl (ac (aG (bc 2 tk rfl ?_)))
  exact bg g18 H hl1 hg1
 refine am 2 tk rfl ?_
 obtain rfl := aA H
 refine iA tk rfl
def ju : Nat → LQuery → Option ((List LQuery))
 | 0,_=>none
 | n + 1,v0=>jr (fun b0=>ju n b0) v0
theorem WF_query_Nodes  (n : Nat) : (∀ m a0 r,ju n a0 = some r → ig Tryz.prog 53 [(.agg (aw a0))] (ld m 35 (r.map aE))) := by
 induction n with
 | zero=>exact (by intros; rename_i h; exact absurd (show (none : Option _) = some _ from h) (by simp))
 | succ n ih =>
  exact (fun m v0 r h=>WO_query_Nodes (m := m) (fun b0=>ju n b0) ih v0  r h)
def js (q : LQuery) : Option ((List LQuery)) := ik fun n=>ju n q
theorem qh {m : Nat} (q : LQuery) (r : (List LQuery)) (H : js q = some r) :
  ig Tryz.prog 53 [(.agg (aw q))] (ld m 35 (r.map aE)) := by
 obtain ⟨n,h⟩ := gX H
 exact (WF_query_Nodes  n) m q r h
def jv (rec55 : LQuery → Option (Int)) (q : LQuery) : Option (Int) :=
 ae (aD (σ := Int) (ρ := Empty) (fun (_ : Nat) (x1 : LQuery) (s1 : Int) =>
  ae (rec55 x1) fun x15 =>
  some (.next (if x15 > s1 then x15 else s1))) 0 q.inputs 0) fun fl1=>fl1.thenP fun (s1 : Int) =>
 some (IntKind.i64.wrap (s1 + (1 : Int)))
theorem WO_query_depth (rec55 : LQuery → Option (Int)) (hrec55 : ∀ a0 r,rec55 a0 = some r → aL Tryz.prog 55 [(.agg (aw a0))] (ai r)) (q : LQuery) (r : Int) (H : jv rec55 q = some r) :
  aL Tryz.prog 55 [(.agg (aw q))] (ai r) := by
 unfold jv at H
 refine PH.ax Tryz.func55 Tryz.ntmps55 ?_
 refine ab (aa (aH ?_))
 refine ah tk rfl (ac (am 1 tk rfl (ab (ab (aa (ag 2 tk rfl (az tk (zl _) ?_)))))))
 refine ah tk rfl (ac ?_)
 refine fg tk 9 8 7 (fun s1 g1=>upd (fun _=>.any) 3 (ai s1)) nB nO () H (fun fl1 Hp1 j1 s1 g1 hz1 hl1 x1 fb1 hx1 H hg1=>?_) (fun s1 g1 H=>?_)
 ·refine ab (av (ab (aa (aU tk (zn j1) (bl bA hx1) ?_))))
  refine ah tk rfl ?_
  refine aN tk fun b5=>?_
  refine ak tk ?_
  refine ac (aa (ah tk rfl (aq tk ?_)))
  obtain ⟨x15,h15,H⟩ := au H
  have s15 := hrec55 x1 _ h15
  refine aj Tryz.call55 (gK.r) s15 ?_
  refine ag 2 tk rfl (ac (aG (bc 2 tk rfl ?_)))
  exact bg () H hl1 hg1
 refine am 3 tk rfl ?_
 exact aS tk H rfl
def jp : Nat → LQuery → Option (Int)
 | 0,_=>none
 | n + 1,v0=>jv (fun b0=>jp n b0) v0
theorem WF_query_depth  (n : Nat) : (∀ a0 r,jp n a0 = some r → aL Tryz.prog 55 [(.agg (aw a0))] (ai r)) := by
 induction n with
 | zero=>exact (by intros; rename_i h; exact absurd (show (none : Option _) = some _ from h) (by simp))
 | succ n ih =>
  exact (fun v0 r h=>WO_query_depth (fun b0=>jp n b0) ih v0  r h)
def kp (q : LQuery) : Option (Int) := ik fun n=>jp n q
theorem W_query_depth (q : LQuery) (r : Int) (H : kp q = some r) :
  aL Tryz.prog 55 [(.agg (aw q))] (ai r) := by
 obtain ⟨n,h⟩ := gX H
 exact (WF_query_depth  n) q r h
def jS (rec78 : LQuery → Option (Int × Int)) (q : LQuery) : Option (Int × Int) :=
 ae (aD (σ := Int × Int) (ρ := Empty) (fun (j1 : Nat) (x1 : LQuery) (s1 : Int × Int) =>
  ae (rec78 x1) fun x20 =>
  cond ((j1 : Int) == (0 : Int))
   (some (.next ((if (20001 : Int) < x20.1 then (20001 : Int) else x20.1),(if x20.2 > s1.2 then x20.2 else s1.2))))
   (cond (q.kind == (6 : Int))
    (some (.next ((if (20001 : Int) < (IntKind.i64.wrap (s1.1 + x20.1)) then (20001 : Int) else (IntKind.i64.wrap (s1.1 + x20.1))),(if x20.2 > s1.2 then x20.2 else s1.2))))
    (br (
     cond (q.kind == (4 : Int))
      (true)
      ((q.kind == (5 : Int)))) fun (t4 : Bool) =>
    cond t4
     (some (.next ((if (20001 : Int) < (IntKind.i64.wrap (s1.1 * (if x20.1 > (1 : Int) then x20.1 else (1 : Int)))) then (20001 : Int) else (IntKind.i64.wrap (s1.1 * (if x20.1 > (1 : Int) then x20.1 else (1 : Int))))),(if x20.2 > s1.2 then x20.2 else s1.2))))
     (some (.next ((if (20001 : Int) < s1.1 then (20001 : Int) else s1.1),(if x20.2 > s1.2 then x20.2 else s1.2))))))) 0 q.inputs (0,0)) fun fl1=>fl1.thenP fun (s1 : Int × Int) =>
 cond (q.kind == (1 : Int))
  (some (24,(if (24 : Int) > s1.2 then (24 : Int) else s1.2)))
  (some (s1.1,(if s1.1 > s1.2 then s1.1 else s1.2)))
theorem WO_query_most (rec78 : LQuery → Option (Int × Int)) (hrec78 : ∀ a0 r,rec78 a0 = some r → aL Tryz.prog 78 [(.agg (aw a0))] (.tup [(ai r.1),(ai r.2)])) (q : LQuery) (r : Int × Int) (H : jS rec78 q = some r) :
  aL Tryz.prog 78 [(.agg (aw q))] (.tup [(ai r.1),(ai r.2)]) := by
 unfold jS at H
 refine PH.ax Tryz.func78 Tryz.ntmps78 ?_
 refine ab (aa (aH ?_))
 refine ag 2 tk rfl (ac (am 2 tk rfl (ab (ab (aa (ag 2 tk rfl (az tk (zl _) ?_)))))))
 refine ah tk rfl (ac ?_)
 refine fg tk 13 12 11 (fun s1 g1=>upd (upd (upd (fun _=>.any) 5 (ai s1.2)) 4 (ai s1.1)) 1 (.ptr (aw q))) nB nO () H (fun fl1 Hp1 j1 s1 g1 hz1 hl1 x1 fb1 hx1 H hg1=>?_) (fun s1 g1 H=>?_)
 ·refine ab (av (ab (aa (ah tk rfl (aU tk (zn j1) (bl bA hx1) ?_)))))
  refine ah tk rfl ?_
  refine aN tk fun b7=>?_
  refine ah tk rfl (ak tk ?_)
  refine ac (ab (aa (aq tk ?_)))
  obtain ⟨x20,h20,H⟩ := au H
  have s20 := hrec78 x1 _ h20
  refine aj Tryz.call78 (gK.r) s20 ?_
  refine ag 5 tk rfl (ac (am 4 tk rfl (ab (av (am 3 tk rfl ?_)))))
  refine aM rfl H (fun H=>?_) (fun H=>?_)
  ·refine bc 2 tk rfl (aG (bc 3 tk rfl (aG (bc 2 tk rfl ?_))))
   exact bg () H hl1 hg1
  refine am 4 tk rfl ?_
  refine aM rfl H (fun H=>?_) (fun H=>?_)
  ·refine bc 4 tk rfl (aG (bc 3 tk rfl (aG (bc 2 tk rfl ?_))))
   exact bg () H hl1 hg1
  refine ab ?_
  refine gF (γ := Unit) (fun t4 g4=>⟨60,upd (upd (upd (upd (upd (upd (upd (upd (fun _=>.any) 37 (ay t4)) 13 (ai (j1 : Int))) 12 (ai (q.inputs.length : Int))) 11 (.list 35 (q.inputs.map aE))) 8 (ai x20.1)) 5 (ai (if x20.2 > s1.2 then x20.2 else s1.2))) 4 (ai s1.1)) 1 (.ptr (aw q)),fun _=>none,fun _=>none⟩) H (fun _ H=>?_) (fun t4 g4 H=>?_)
  ·refine aa (ag 4 tk rfl ?_)
   refine aV rfl rfl rfl H (fun H=>?_) (fun H=>?_)
   ·refine ag 5 tk rfl (ac ?_)
    refine be _ () H Gh.d
   refine ag 5 tk rfl (ac ?_)
   refine be _ () H Gh.d
  refine aM rfl H (fun H=>?_) (fun H=>?_)
  ·refine bc 5 tk rfl (aG (bc 3 tk rfl (aG (bc 2 tk rfl ?_))))
   exact bg () H hl1 hg1
  refine ao (aG (bc 3 tk rfl (aG (bc 2 tk rfl ?_))))
  exact bg () H hl1 hg1
 refine ab (am 3 tk rfl ?_)
 refine aM rfl H (fun H=>?_) (fun H=>?_)
 ·refine bc 1 tk rfl (am 6 tk rfl ?_)
  exact aS tk H rfl
 refine ao (am 6 tk rfl ?_)
 exact aS tk H rfl
def jW : Nat → LQuery → Option (Int × Int)
 | 0,_=>none
 | n + 1,v0=>jS (fun b0=>jW n b0) v0
theorem WF_query_most  (n : Nat) : (∀ a0 r,jW n a0 = some r → aL Tryz.prog 78 [(.agg (aw a0))] (.tup [(ai r.1),(ai r.2)])) := by
 induction n with
 | zero=>exact (by intros; rename_i h; exact absurd (show (none : Option _) = some _ from h) (by simp))
 | succ n ih =>
  exact (fun v0 r h=>WO_query_most (fun b0=>jW n b0) ih v0  r h)
def mf (q : LQuery) : Option (Int × Int) := ik fun n=>jW n q
theorem W_query_most (q : LQuery) (r : Int × Int) (H : mf q = some r) :
  aL Tryz.prog 78 [(.agg (aw q))] (.tup [(ai r.1),(ai r.2)]) := by
 obtain ⟨n,h⟩ := gX H
 exact (WF_query_most  n) q r h
def gR (rec52 : LExpr → (List Int) → Bool → (List Bool) → Option ((List Int) × Bool × (List Bool))) (e : LExpr) (c0 : List Int) (c1 : Bool) (c2 : List Bool) : Option ((List Int) × Bool × (List Bool)) :=
 br (
  cond (e.kind == (3 : Int))
   (cond (decide (e.index ≥ (0 : Int)))
    ((decide (e.index < (8 : Int))))
    (false))
   (false)) fun (t1 : Bool) =>
 ae (
  cond t1
   (ae (fJ (σ := List Int) (ρ := Empty) (fun (s7 : List Int) =>
    cond (decide ((s7.length : Int) ≤ e.index))
     (ae (cy 8 s7 ([0] : List Int)) fun (x28 : List Int) =>
     some (.next x28))
     (some (.brk s7))) c0) fun fl7=>fl7.thenP fun (s7 : List Int) =>
   ae (
    cond c1
     (some true)
     (ae (arrI 8 c2 e.index) fun (x33 : Bool) =>
     cond x33
      (ae (aK s7 e.index) fun (x39 : Int) =>
      some (x39 != e.value.kind))
      (some false))) fun (t8 : Bool) =>
   ae (aK s7 e.index) fun (_ : Int) =>
   br (s7.set e.index.toNat e.value.kind) fun (y9 : List Int) =>
   ae (arrI 8 c2 e.index) fun (_ : Bool) =>
   br (c2.set e.index.toNat true) fun (y10 : List Bool) =>
   some (y9,t8,y10))
   (some (c0,c1,c2))) fun (t6 : List Int × Bool × List Bool) =>
 ae (aD (σ := List Int × Bool × List Bool) (ρ := Empty) (fun (_ : Nat) (x11 : LExpr) (s11 : List Int × Bool × List Bool) =>
  ae (rec52 x11 s11.1 s11.2.1 s11.2.2) fun x66 =>
  some (.next (x66.1,x66.2.1,x66.2.2))) 0 e.args (t6.1,t6.2.1,t6.2.2)) fun fl11=>fl11.thenP fun (s11 : List Int × Bool × List Bool) =>
 some (s11.1,s11.2.1,s11.2.2)
theorem nq (b_c0 : Nat) (g_c0 : OwnRef) (b_c1 : Nat) (b_c2 : Nat) (b_c3 : Nat) (rec52 : LExpr → (List Int) → Bool → (List Bool) → Option ((List Int) × Bool × (List Bool))) (hrec52 : ∀ bq0 gq0 bq1 bq2 bq3 a0 a1 a2 a3 r,rec52 a0 a1 a2 a3 = some r → PH Tryz.prog 52 [(.agg (cz a0)),(.box 1000 bq0 0),(.box 1001 bq1 0),(.box 1002 bq2 0),(.box 1003 bq3 0)] ⟨upd (upd (upd (upd (fun _=>none) 1003 (some ⟨bq3,[(.fn 52 [(.box 1000 bq0 0),(.box 1001 bq1 0),(.box 1002 bq2 0),(.box 1003 bq3 0)])]⟩)) 1002 (some ⟨bq2,(List.map ay a3)⟩)) 1001 (some ⟨bq1,[(ay a2)]⟩)) 1000 (some ⟨bq0,[(.own 1100 gq0 (a1.map bS).length)]⟩),upd (fun _=>none) 1100 (some ⟨gq0,3,(a1.map bS),true⟩)⟩ (fun u H=>∃ gz0,u = (.tup []) ∧ H = ⟨upd (upd (upd (upd (fun _=>none) 1003 (some ⟨bq3,[(.fn 52 [(.box 1000 bq0 0),(.box 1001 bq1 0),(.box 1002 bq2 0),(.box 1003 bq3 0)])]⟩)) 1002 (some ⟨bq2,(List.map ay r.2.2)⟩)) 1001 (some ⟨bq1,[(ay r.2.1)]⟩)) 1000 (some ⟨bq0,[(.own 1100 gz0 (r.1.map bS).length)]⟩),upd (fun _=>none) 1100 (some ⟨gz0,3,(r.1.map bS),true⟩)⟩)) (e : LExpr) (c0 : List Int) (c1 : Bool) (c2 : List Bool) (r : (List Int) × Bool × (List Bool)) (H : gR rec52 e c0 c1 c2 = some r) :
  PH Tryz.prog 52 [(.agg (cz e)),(.box 1000 b_c0 0),(.box 1001 b_c1 0),(.box 1002 b_c2 0),(.box 1003 b_c3 0)] ⟨upd (upd (upd (upd (fun _=>none) 1003 (some ⟨b_c3,[(.fn 52 [(.box 1000 b_c0 0),(.box 1001 b_c1 0),(.box 1002 b_c2 0),(.box 1003 b_c3 0)])]⟩)) 1002 (some ⟨b_c2,(List.map ay c2)⟩)) 1001 (some ⟨b_c1,[(ay c1)]⟩)) 1000 (some ⟨b_c0,[(.own 1100 g_c0 (c0.map bS).length)]⟩),upd (fun _=>none) 1100 (some ⟨g_c0,3,(c0.map bS),true⟩)⟩ (fun u H=>∃ gz0,u = (.tup []) ∧ H = ⟨upd (upd (upd (upd (fun _=>none) 1003 (some ⟨b_c3,[(.fn 52 [(.box 1000 b_c0 0),(.box 1001 b_c1 0),(.box 1002 b_c2 0),(.box 1003 b_c3 0)])]⟩)) 1002 (some ⟨b_c2,(List.map ay r.2.2)⟩)) 1001 (some ⟨b_c1,[(ay r.2.1)]⟩)) 1000 (some ⟨b_c0,[(.own 1100 gz0 (r.1.map bS).length)]⟩),upd (fun _=>none) 1100 (some ⟨gz0,3,(r.1.map bS),true⟩)⟩) := by
 unfold gR at H
 refine PH.ax Tryz.func52 Tryz.ntmps52 ?_
 refine ab (aa (aH ?_))
 refine ac (ab (ab ?_))
 refine gF (γ := Unit) (fun t1 g1=>⟨68,upd (upd (upd (upd (upd (upd (fun _=>.any) 20 (ay t1)) 5 (.ptr (cz e))) 4 (.box 1003 b_c3 0)) 3 (.box 1002 b_c2 0)) 2 (.box 1001 b_c1 0)) 1 (.box 1000 b_c0 0),upd (upd (upd (upd (fun _=>none) 1003 (some ⟨b_c3,[(.fn 52 [(.box 1000 b_c0 0),(.box 1001 b_c1 0),(.box 1002 b_c2 0),(.box 1003 b_c3 0)])]⟩)) 1002 (some ⟨b_c2,(List.map ay c2)⟩)) 1001 (some ⟨b_c1,[(ay c1)]⟩)) 1000 (some ⟨b_c0,[(.own 1100 g_c0 (c0.map bS).length)]⟩),upd (fun _=>none) 1100 (some ⟨g_c0,3,(c0.map bS),true⟩)⟩) H (fun _ H=>?_) (fun t1 g1 H=>?_)
 ·refine aa (ag 4 tk rfl ?_)
  refine aV rfl rfl rfl H (fun H=>?_) (fun H=>?_)
  ·refine ag 5 tk rfl ?_
   refine aV rfl rfl rfl H (fun H=>?_) (fun H=>?_)
   ·refine ag 4 tk rfl (ac ?_)
    refine be _ () H Gh.d
   refine ag 4 tk rfl (ac ?_)
   refine be _ () H Gh.d
  refine ag 9 tk rfl (ac ?_)
  refine be _ () H Gh.d
 refine fS (γ := OwnRef) (fun t6 g6=>⟨68,upd (upd (upd (upd (upd (fun _=>.any) 5 (.ptr (cz e))) 4 (.box 1003 b_c3 0)) 3 (.box 1002 b_c2 0)) 2 (.box 1001 b_c1 0)) 1 (.box 1000 b_c0 0),upd (upd (upd (upd (fun _=>none) 1003 (some ⟨b_c3,[(.fn 52 [(.box 1000 b_c0 0),(.box 1001 b_c1 0),(.box 1002 b_c2 0),(.box 1003 b_c3 0)])]⟩)) 1002 (some ⟨b_c2,(List.map ay t6.2.2)⟩)) 1001 (some ⟨b_c1,[(ay t6.2.1)]⟩)) 1000 (some ⟨b_c0,[(.own 1100 g6 (t6.1.map bS).length)]⟩),upd (fun _=>none) 1100 (some ⟨g6,3,(t6.1.map bS),true⟩)⟩) H (fun _ H=>?_) (fun t6 g6 H=>?_)
 ·refine aM rfl H (fun H=>?_) (fun H=>?_)
  ·refine ab ?_
   obtain ⟨fl7,H7,Hp7⟩ := au H
   refine dM (τ := List Int) (γ := OwnRef) (fun s7 g7=>⟨68,upd (upd (upd (upd (upd (fun _=>.any) 5 (.ptr (cz e))) 4 (.box 1003 b_c3 0)) 3 (.box 1002 b_c2 0)) 2 (.box 1001 b_c1 0)) 1 (.box 1000 b_c0 0),upd (upd (upd (upd (fun _=>none) 1003 (some ⟨b_c3,[(.fn 52 [(.box 1000 b_c0 0),(.box 1001 b_c1 0),(.box 1002 b_c2 0),(.box 1003 b_c3 0)])]⟩)) 1002 (some ⟨b_c2,(List.map ay c2)⟩)) 1001 (some ⟨b_c1,[(ay c1)]⟩)) 1000 (some ⟨b_c0,[(.own 1100 g7 (s7.map bS).length)]⟩),upd (fun _=>none) 1100 (some ⟨g7,3,(s7.map bS),true⟩)⟩) (fun t=>fl7 = .next t) ?_ (fun s7 g7 hn7=>?_)
   ·refine av ?_
    refine gN (fun s7 g7=>⟨68,upd (upd (upd (upd (upd (fun _=>.any) 5 (.ptr (cz e))) 4 (.box 1003 b_c3 0)) 3 (.box 1002 b_c2 0)) 2 (.box 1001 b_c1 0)) 1 (.box 1000 b_c0 0),upd (upd (upd (upd (fun _=>none) 1003 (some ⟨b_c3,[(.fn 52 [(.box 1000 b_c0 0),(.box 1001 b_c1 0),(.box 1002 b_c2 0),(.box 1003 b_c3 0)])]⟩)) 1002 (some ⟨b_c2,(List.map ay c2)⟩)) 1001 (some ⟨b_c1,[(ay c1)]⟩)) 1000 (some ⟨b_c0,[(.own 1100 g7 (s7.map bS).length)]⟩),upd (fun _=>none) 1100 (some ⟨g7,3,(s7.map bS),true⟩)⟩) g_c0 H7 Gh.d (fun m7 s7 g7 hr7=>?_)
    obtain ⟨fb7,H,hg7⟩ := fv hr7
    refine ab (ab (aa (aq tk ?_)))
    refine el tk (zl _) ?_
    refine ag 3 tk rfl (ac ?_)
    refine aM rfl H (fun H=>?_) (fun H=>?_)
    ·refine ao (av (aa (aq tk ?_)))
     refine cv tk (rows' := List.map bS ([0] : List Int)) (gP.refl _) ?_
     obtain ⟨x28,h28,H⟩ := au H
     have k28 := bX h28
     refine cr (rows2' := List.map bS ([0] : List Int)) (rows' := List.map bS x28) tk rfl rfl rfl rfl rfl rfl rfl rfl rfl rfl rfl rfl rfl (gP.refl _) (cK k28.1) (cI k28.2.1) (cF k28.2.2) fun g28=>?_
     refine ak tk ?_
     refine ac (aG ?_)
     obtain rfl := aA H
     refine eg x28 g28 hg7 Gh.d
    refine bm rfl ?_
    obtain rfl := aA H
    refine be s7 g7 hg7 Gh.d
   have H := ci hn7 Hp7
   refine ab ?_
   refine fS (γ := Unit) (fun t8 g8=>⟨68,upd (upd (upd (upd (upd (fun _=>.any) 5 (.ptr (cz e))) 4 (.box 1003 b_c3 0)) 3 (.box 1002 b_c2 0)) 2 (.box 1001 b_c1 0)) 1 (.box 1000 b_c0 0),upd (upd (upd (upd (fun _=>none) 1003 (some ⟨b_c3,[(.fn 52 [(.box 1000 b_c0 0),(.box 1001 b_c1 0),(.box 1002 b_c2 0),(.box 1003 b_c3 0)])]⟩)) 1002 (some ⟨b_c2,(List.map ay c2)⟩)) 1001 (some ⟨b_c1,[(ay t8)]⟩)) 1000 (some ⟨b_c0,[(.own 1100 g7 (s7.map bS).length)]⟩),upd (fun _=>none) 1100 (some ⟨g7,3,(s7.map bS),true⟩)⟩) H (fun _ H=>?_) (fun t8 g8 H=>?_)
   ·refine jA (tag := 1100) rfl (fun ho1100=>?_)
    refine bo tk mok ⟨true,true,[32,38,43]⟩ [0,1,2,3,4,5,6,7,8,9,10,11,12,13,14,15,16,17,18] rfl (by decide +kernel) rfl (bi ?_)
    refine bt rfl ?_
    refine mR H (fun H=>?_) (fun H=>?_)
    ·refine aW 16 rfl (bR ?_)
     refine bn ?_
     refine be _ () (aA H) Gh.d
    refine aW 2 rfl ?_
    obtain ⟨x33,h33,H⟩ := au H
    have k33 := arrI_some h33
    refine sy rfl rfl rfl rfl rfl rfl rfl rfl rfl k33.1 rfl ?_
    refine tc rfl rfl rfl rfl rfl rfl rfl rfl (by rw [List.getElem?_map,k33.2]; rfl) rfl ?_
    refine bt rfl ?_
    refine mR H (fun H=>?_) (fun H=>?_)
    ·refine bi ?_
     refine aW 2 rfl ?_
     obtain ⟨x39,k39,H⟩ := bq H
     refine dk tk ⟨k39.1,(cE k39.2)⟩ (cN ho1100 k39.2) ?_
     refine eK tk (aO (fun _=>rfl) k39.2) ?_
     refine aW 6 rfl (bR ?_)
     refine bn ?_
     refine be _ () (aA H) Gh.d
    refine aW 11 rfl (bR ?_)
    refine bn ?_
    refine be _ () (aA H) Gh.d
   refine jA (tag := 1100) rfl (fun ho1100=>?_)
   refine bo tk mok ⟨true,false,[49,51,54]⟩ [0,1,2,3,4,5,6,7,8,9,10,11] rfl (by decide +kernel) rfl (bi ?_)
   refine aW 7 rfl ?_
   obtain ⟨x55,k55,H⟩ := bq H
   refine dk tk ⟨k55.1,(cE k55.2)⟩ (cN ho1100 k55.2) ?_
   obtain ⟨y9,hy9,H⟩ := cL H
   refine iX tk rfl rfl rfl rfl rfl rfl rfl rfl rfl (by rw [zl]; exact (zg.1 k55.2).1) (PLe.refl _ _) rfl rfl rfl rfl (by decide) (dC (fun _=>rfl) k55.2 rfl hy9) ?_
   obtain ⟨x56,h56,H⟩ := au H
   have k56 := arrI_some h56
   refine sy rfl rfl rfl rfl rfl rfl rfl rfl rfl k56.1 rfl ?_
   obtain ⟨y10,hy10,H⟩ := cL H
   refine sJ rfl rfl rfl rfl rfl rfl rfl rfl rfl rfl (by rw [zl]; exact (zg.1 k56.2).1) (splice_map ay _ _ _ (zg.1 k56.2).1 hy10) ?_
   refine bn ?_
   refine be _ g7 (aA H) (Gh.le (ap (ap (ap (ap (ap aT))))) (aX rfl (gK.of2 (iz.cons (lA.of_eq (congrArg (PV.own 1100 g7) (dz (f := bS) hy9))) iz.nil)) (aX rfl (gK.r) (aX rfl (gK.r) (aX rfl (gK.r) aI)))) (aP aJ))
  refine ao ?_
  refine be _ g_c0 (aA H) Gh.d
 refine ab (aa (ag 2 tk rfl (az tk (zl _) ?_)))
 refine ah tk rfl (ac ?_)
 refine fg (γ := OwnRef) tk 60 59 58 (fun s11 g11=>upd (upd (upd (upd (fun _=>.any) 4 (.box 1003 b_c3 0)) 3 (.box 1002 b_c2 0)) 2 (.box 1001 b_c1 0)) 1 (.box 1000 b_c0 0)) (fun s11 g11=>upd (upd (upd (upd (fun _=>none) 1003 (some ⟨b_c3,[(.fn 52 [(.box 1000 b_c0 0),(.box 1001 b_c1 0),(.box 1002 b_c2 0),(.box 1003 b_c3 0)])]⟩)) 1002 (some ⟨b_c2,(List.map ay s11.2.2)⟩)) 1001 (some ⟨b_c1,[(ay s11.2.1)]⟩)) 1000 (some ⟨b_c0,[(.own 1100 g11 (s11.1.map bS).length)]⟩)) (fun s11 g11=>upd (fun _=>none) 1100 (some ⟨g11,3,(s11.1.map bS),true⟩)) g6 H (fun fl11 Hp11 j11 s11 g11 hz11 hl11 x11 fb11 hx11 H hg11=>?_) (fun s11 g11 H=>?_)
 ·refine ab (av (ab (aa (aU tk (zn j11) (bl bP hx11) ?_))))
  refine ah tk rfl ?_
  refine aN tk fun b7=>?_
  refine ak tk ?_
  refine ac (aa (aq tk ?_))
  refine aq tk ?_
  obtain ⟨x66,h66,H⟩ := au H
  have s66 := hrec52 b_c0 g11 b_c1 b_c2 b_c3 x11 s11.1 s11.2.1 s11.2.2 _ h66
  refine dB (st' := ⟨_,_,upd (upd (upd (upd (upd (fun _=>none) 1003 (some ⟨b_c3,[(.fn 52 [(.box 1000 b_c0 0),(.box 1001 b_c1 0),(.box 1002 b_c2 0),(.box 1003 b_c3 0)])]⟩)) 1002 (some ⟨b_c2,(List.map ay s11.2.2)⟩)) 1001 (some ⟨b_c1,[(ay s11.2.1)]⟩)) 1000 (some ⟨b_c0,[(.own 1100 g11 (s11.1.map bS).length)]⟩)) 7 (some ⟨b7,(cz x11)⟩),upd (fun _=>none) 1100 (some ⟨g11,3,(s11.1.map bS),true⟩)⟩) (Gh.le (cA _ _) (aX rfl (gK.r) (aX rfl (gK.of2 (iz.cons (lA.own rfl) iz.nil)) (aX rfl (gK.r) (aX rfl (gK.r) (aX rfl (gK.of2 (iz.cons (lA.fn (iz.cons lA.boxT (iz.cons lA.boxT (iz.cons lA.boxT (iz.cons lA.boxT iz.nil))))) iz.nil)) aI))))) (aP aJ)) ?_
  refine dD (g := 52) rfl rfl rfl Tryz.call52 [(1000,1000),(1001,1001),(1002,1002),(1003,1003)] [(1100,1100)] rfl rfl rfl rfl (gK.of2 (iz.cons (lA.of_eq rfl) (iz.cons lA.boxT (iz.cons lA.boxT (iz.cons lA.boxT (iz.cons lA.boxT iz.nil)))))) (by rw [gp,gp,gp,gp,cX,cl,cZ]; rfl) s66 ?_
  rintro u66 H66h ⟨gz66_0,rfl,rfl⟩
  refine ⟨_,rfl,?_⟩
  refine dB (st' := ⟨_,_,upd (upd (upd (upd (upd (fun _=>none) 1003 (some ⟨b_c3,[(.fn 52 [(.box 1000 b_c0 0),(.box 1001 b_c1 0),(.box 1002 b_c2 0),(.box 1003 b_c3 0)])]⟩)) 1002 (some ⟨b_c2,(List.map ay x66.2.2)⟩)) 1001 (some ⟨b_c1,[(ay x66.2.1)]⟩)) 1000 (some ⟨b_c0,[(.own 1100 gz66_0 (x66.1.map bS).length)]⟩)) 7 (some ⟨b7,(cz x11)⟩),upd (fun _=>none) 1100 (some ⟨gz66_0,3,(x66.1.map bS),true⟩)⟩) (Gh.le (cA _ _) (aX rfl (gK.r) (aX rfl (gK.of2 (iz.cons (lA.own rfl) iz.nil)) (aX rfl (gK.r) (aX rfl (gK.r) (aX rfl (gK.of2 (iz.cons (lA.fn (iz.cons lA.boxT (iz.cons lA.boxT (iz.cons lA.boxT (iz.cons lA.boxT iz.nil))))) iz.nil)) aI))))) (aP aJ)) ?_
  refine ac (aG (bc 2 tk rfl ?_))
  exact bg gz66_0 H hl11 hg11
 obtain rfl := aA H
 refine eh (st' := ⟨68,fun _=>.any,upd (upd (upd (upd (fun _=>none) 1003 (some ⟨b_c3,[(.fn 52 [(.box 1000 b_c0 0),(.box 1001 b_c1 0),(.box 1002 b_c2 0),(.box 1003 b_c3 0)])]⟩)) 1002 (some ⟨b_c2,(List.map ay s11.2.2)⟩)) 1001 (some ⟨b_c1,[(ay s11.2.1)]⟩)) 1000 (some ⟨b_c0,[(.own 1100 g11 (s11.1.map bS).length)]⟩),upd (fun _=>none) 1100 (some ⟨g11,3,(s11.1.map bS),true⟩)⟩) (Gh.le aT (aX rfl (gK.of2 (iz.cons (lA.own rfl) iz.nil)) (aX rfl (gK.r) (aX rfl (gK.r) (aX rfl (gK.r) aI)))) (aP aJ)) ?_
 refine mh rfl (PLe.q rfl) ⟨_,rfl,rfl⟩
def dj : Nat → LExpr → (List Int) → Bool → (List Bool) → Option ((List Int) × Bool × (List Bool))
 | 0,_,_,_,_=>none
 | n + 1,v0,v1,v2,v3=>gR (fun b0 b1 b2 b3=>dj n b0 b1 b2 b3) v0 v1 v2 v3
theorem nz  (n : Nat) : (∀ bq0 gq0 bq1 bq2 bq3 a0 a1 a2 a3 r,dj n a0 a1 a2 a3 = some r → PH Tryz.prog 52 [(.agg (cz a0)),(.box 1000 bq0 0),(.box 1001 bq1 0),(.box 1002 bq2 0),(.box 1003 bq3 0)] ⟨upd (upd (upd (upd (fun _=>none) 1003 (some ⟨bq3,[(.fn 52 [(.box 1000 bq0 0),(.box 1001 bq1 0),(.box 1002 bq2 0),(.box 1003 bq3 0)])]⟩)) 1002 (some ⟨bq2,(List.map ay a3)⟩)) 1001 (some ⟨bq1,[(ay a2)]⟩)) 1000 (some ⟨bq0,[(.own 1100 gq0 (a1.map bS).length)]⟩),upd (fun _=>none) 1100 (some ⟨gq0,3,(a1.map bS),true⟩)⟩ (fun u H=>∃ gz0,u = (.tup []) ∧ H = ⟨upd (upd (upd (upd (fun _=>none) 1003 (some ⟨bq3,[(.fn 52 [(.box 1000 bq0 0),(.box 1001 bq1 0),(.box 1002 bq2 0),(.box 1003 bq3 0)])]⟩)) 1002 (some ⟨bq2,(List.map ay r.2.2)⟩)) 1001 (some ⟨bq1,[(ay r.2.1)]⟩)) 1000 (some ⟨bq0,[(.own 1100 gz0 (r.1.map bS).length)]⟩),upd (fun _=>none) 1100 (some ⟨gz0,3,(r.1.map bS),true⟩)⟩)) := by
 induction n with
 | zero=>exact (by intros; rename_i h; exact absurd (show (none : Option _) = some _ from h) (by simp))
 | succ n ih =>
  exact (fun bq0 gq0 bq1 bq2 bq3 v0 v1 v2 v3 r h=>nq bq0 gq0 bq1 bq2 bq3 (fun b0 b1 b2 b3=>dj n b0 b1 b2 b3) ih v0 v1 v2 v3  r h)
def fL (e : LExpr) (c0 : List Int) (c1 : Bool) (c2 : List Bool) : Option ((List Int) × Bool × (List Bool)) := ik fun n=>dj n e c0 c1 c2
theorem kH (b_c0 : Nat) (g_c0 : OwnRef) (b_c1 : Nat) (b_c2 : Nat) (b_c3 : Nat) (e : LExpr) (c0 : List Int) (c1 : Bool) (c2 : List Bool) (r : (List Int) × Bool × (List Bool)) (H : fL e c0 c1 c2 = some r) :
  PH Tryz.prog 52 [(.agg (cz e)),(.box 1000 b_c0 0),(.box 1001 b_c1 0),(.box 1002 b_c2 0),(.box 1003 b_c3 0)] ⟨upd (upd (upd (upd (fun _=>none) 1003 (some ⟨b_c3,[(.fn 52 [(.box 1000 b_c0 0),(.box 1001 b_c1 0),(.box 1002 b_c2 0),(.box 1003 b_c3 0)])]⟩)) 1002 (some ⟨b_c2,(List.map ay c2)⟩)) 1001 (some ⟨b_c1,[(ay c1)]⟩)) 1000 (some ⟨b_c0,[(.own 1100 g_c0 (c0.map bS).length)]⟩),upd (fun _=>none) 1100 (some ⟨g_c0,3,(c0.map bS),true⟩)⟩ (fun u H=>∃ gz0,u = (.tup []) ∧ H = ⟨upd (upd (upd (upd (fun _=>none) 1003 (some ⟨b_c3,[(.fn 52 [(.box 1000 b_c0 0),(.box 1001 b_c1 0),(.box 1002 b_c2 0),(.box 1003 b_c3 0)])]⟩)) 1002 (some ⟨b_c2,(List.map ay r.2.2)⟩)) 1001 (some ⟨b_c1,[(ay r.2.1)]⟩)) 1000 (some ⟨b_c0,[(.own 1100 gz0 (r.1.map bS).length)]⟩),upd (fun _=>none) 1100 (some ⟨gz0,3,(r.1.map bS),true⟩)⟩) := by
 obtain ⟨n,h⟩ := gX H
 exact (nz  n) b_c0 g_c0 b_c1 b_c2 b_c3 e c0 c1 c2 r h
def hP (sA : List Int) (v : Int) : Option (Int) :=
 ae (aD (σ := Unit) (ρ := (Int)) (fun (j1 : Nat) (x1 : Int) (_ : Unit) =>
  cond (v == x1)
   (some (.ret (j1 : Int)))
   (some (.next ()))) 0 sA ()) fun fl1=>fl1.thenR fun (_ : Unit) =>
 some (-1)
theorem oB (sA : List Int) (v : Int) (r : Int) (H : hP sA v = some r) :
  aL Tryz.prog 119 [(.list 3 (sA.map bS)),(ai v)] (ai r) := by
 unfold hP at H
 refine PH.ax Tryz.func119 Tryz.ntmps119 ?_
 refine am 1 tk rfl (ab (ab (aa (ah tk rfl (az tk (zl _) ?_)))))
 refine ah tk rfl (ac ?_)
 refine ez tk 8 7 0 (fun s1 g1=>upd (fun _=>.any) 1 (ai v)) nB nO () H (fun fl1 Hp1 j1 s1 g1 hz1 hl1 x1 fb1 hx1 H hg1=>?_) (fun s1 g1 H=>?_)
 ·refine ab (av (am 2 tk rfl (ab (aa (ag 3 tk rfl ?_)))))
  refine aU tk (zn j1) (bl (fun _=>rfl) hx1) ?_
  refine ag 2 tk rfl (ac ?_)
  refine aM rfl H (fun H=>?_) (fun H=>?_)
  ·refine am 2 tk rfl ?_
   obtain rfl := aA H
   have e1 : fl1 = .ret _ := hg1
   subst e1
   obtain rfl := aY Hp1
   refine bj tk rfl (ps := [(ai (j1 : Int))]) ⟨_,_,rfl,rfl,rfl⟩ (PLe.q rfl)
  refine ao (aG (bc 2 tk rfl ?_))
  exact bg () H hl1 hg1
 refine am 1 tk rfl ?_
 exact aS tk H rfl
def eD (t : LTable) (c0 : LQuery) : Bool :=
 (t.name == c0.table)
theorem pt (t : LTable) (c0 : LQuery) :
  aL Tryz.prog 102 [(.agg (cP t)),(.ptr (aw c0))] (ay (eD t c0)) := by
 obtain ⟨r,H⟩ : ∃ r,eD t c0 = r := ⟨_,rfl⟩
 rw [H]
 unfold eD at H
 refine PH.ax Tryz.func102 Tryz.ntmps102 ?_
 refine ab (aa (aH ?_))
 refine ah tk rfl (ac (am 6 tk rfl ?_))
 exact et tk H rfl
def cS (sA : List LTable) (f : LTable → Option (Bool)) : Option (Int) :=
 ae (aD (σ := Unit) (ρ := (Int)) (fun (j1 : Nat) (x1 : LTable) (_ : Unit) =>
  ae (f x1) fun x16 =>
  cond x16
   (some (.ret (j1 : Int)))
   (some (.next ()))) 0 sA ()) fun fl1=>fl1.thenR fun (_ : Unit) =>
 some (-1)
theorem hD {g_f : FuncId} {caps_f : List PV} (sA : List LTable) (f : LTable → Option (Bool)) (hg_f : ∀ (vs : Array Value) (w : World),(callFunc g_f vs).run Tryz.prog w = .ok (.enter g_f vs) w) (hp_f : ∀ a0 r,f a0 = some r → aL Tryz.prog g_f ((.agg (cP a0)) :: caps_f) (ay r)) (r : Int) (H : cS sA f = some r) :
  aL Tryz.prog 97 [(.list 56 (sA.map cP)),(.fn g_f caps_f)] (ai r) := by
 unfold cS at H
 refine PH.ax Tryz.func97 Tryz.ntmps97 ?_
 refine am 1 tk rfl (ab (ab (aa (ah tk rfl (az tk (zl _) ?_)))))
 refine ah tk rfl (ac ?_)
 refine ez tk 8 7 0 (fun s1 g1=>upd (fun _=>.any) 1 (.fn g_f caps_f)) nB nO () H (fun fl1 Hp1 j1 s1 g1 hz1 hl1 x1 fb1 hx1 H hg1=>?_) (fun s1 g1 H=>?_)
 ·refine ab (av (am 2 tk rfl (ab (aa (ag 3 tk rfl ?_)))))
  refine aU tk (zn j1) (bl (fun _=>rfl) hx1) ?_
  refine ah tk rfl ?_
  obtain ⟨x16,h16,H⟩ := au H
  refine aj hg_f (gK.r) (hp_f _ _ h16) ?_
  refine ac ?_
  refine aM rfl H (fun H=>?_) (fun H=>?_)
  ·refine am 2 tk rfl ?_
   obtain rfl := aA H
   have e1 : fl1 = .ret _ := hg1
   subst e1
   obtain rfl := aY Hp1
   refine bj tk rfl (ps := [(ai (j1 : Int))]) ⟨_,_,rfl,rfl,rfl⟩ (PLe.q rfl)
  refine ao (aG (bc 2 tk rfl ?_))
  exact bg () H hl1 hg1
 refine am 1 tk rfl ?_
 exact aS tk H rfl
theorem pS {m : Nat} (xs : List LCol) : ig Tryz.prog 83 [.list 53 (xs.map aR)] (ld m 53 (xs.map aR)) := by
 refine PH.ax Tryz.func83 Tryz.ntmps83 ?_
 refine gG tk 0 rfl rfl (fun hz hb=>?_)
 refine am 1 tk rfl (ab (ab (aa (ah tk rfl ?_))))
 refine oi tk rfl rfl rfl rfl rfl rfl rfl (fun b hn=>?_)
 refine ac ?_
 refine bh rfl (fun h=>?_) (fun h=>?_)
 ·refine am 1 tk rfl (ic tk 2 902 (e := 53) rfl rfl ?_)
  refine iA tk (hn h).symm
 ·refine ao (ab (aa ?_))
  refine mz (rows' := []) tk rfl rfl rfl rfl rfl rfl rfl rfl rfl (iz.refl _) fun g=>?_
  refine ah tk rfl ?_
  refine cr (rows2' := xs.map aR) (rows' := xs.map aR) tk rfl rfl rfl rfl rfl rfl rfl rfl rfl rfl rfl rfl rfl (gP.refl _) (by simpa using hb) (by simpa using hz) rfl fun g'=>?_
  refine ah tk rfl (ac ?_)
  refine iA tk rfl
def cD (sA : List LCol) (f : LCol → Option (Bool)) : Option (Int) :=
 ae (aD (σ := Unit) (ρ := (Int)) (fun (j1 : Nat) (x1 : LCol) (_ : Unit) =>
  ae (f x1) fun x16 =>
  cond x16
   (some (.ret (j1 : Int)))
   (some (.next ()))) 0 sA ()) fun fl1=>fl1.thenR fun (_ : Unit) =>
 some (-1)
theorem gJ {g_f : FuncId} {caps_f : List PV} (sA : List LCol) (f : LCol → Option (Bool)) (hg_f : ∀ (vs : Array Value) (w : World),(callFunc g_f vs).run Tryz.prog w = .ok (.enter g_f vs) w) (hp_f : ∀ a0 r,f a0 = some r → aL Tryz.prog g_f ((.agg (aR a0)) :: caps_f) (ay r)) (r : Int) (H : cD sA f = some r) :
  aL Tryz.prog 88 [(.list 53 (sA.map aR)),(.fn g_f caps_f)] (ai r) := by
 unfold cD at H
 refine PH.ax Tryz.func88 Tryz.ntmps88 ?_
 refine am 1 tk rfl (ab (ab (aa (ah tk rfl (az tk (zl _) ?_)))))
 refine ah tk rfl (ac ?_)
 refine ez tk 8 7 0 (fun s1 g1=>upd (fun _=>.any) 1 (.fn g_f caps_f)) nB nO () H (fun fl1 Hp1 j1 s1 g1 hz1 hl1 x1 fb1 hx1 H hg1=>?_) (fun s1 g1 H=>?_)
 ·refine ab (av (am 2 tk rfl (ab (aa (ag 3 tk rfl ?_)))))
  refine aU tk (zn j1) (bl (fun _=>rfl) hx1) ?_
  refine ah tk rfl ?_
  obtain ⟨x16,h16,H⟩ := au H
  refine aj hg_f (gK.r) (hp_f _ _ h16) ?_
  refine ac ?_
  refine aM rfl H (fun H=>?_) (fun H=>?_)
  ·refine am 2 tk rfl ?_
   obtain rfl := aA H
   have e1 : fl1 = .ret _ := hg1
   subst e1
   obtain rfl := aY Hp1
   refine bj tk rfl (ps := [(ai (j1 : Int))]) ⟨_,_,rfl,rfl,rfl⟩ (PLe.q rfl)
  refine ao (aG (bc 2 tk rfl ?_))
  exact bg () H hl1 hg1
 refine am 1 tk rfl ?_
 exact aS tk H rfl
def dA (sA : List (List UInt8)) (v : List UInt8) : Option (Int) :=
 ae (aD (σ := Unit) (ρ := (Int)) (fun (j1 : Nat) (x1 : List UInt8) (_ : Unit) =>
  cond (v == x1)
   (some (.ret (j1 : Int)))
   (some (.next ()))) 0 sA ()) fun fl1=>fl1.thenR fun (_ : Unit) =>
 some (-1)
theorem jL (sA : List (List UInt8)) (v : List UInt8) (r : Int) (H : dA sA v = some r) :
  aL Tryz.prog 54 [(.list 9 (sA.map cj)),(.str v)] (ai r) := by
 unfold dA at H
 refine PH.ax Tryz.func54 Tryz.ntmps54 ?_
 refine am 1 tk rfl (ab (ab (aa (ah tk rfl (az tk (zl _) ?_)))))
 refine ah tk rfl (ac ?_)
 refine ez tk 8 7 0 (fun s1 g1=>upd (fun _=>.any) 1 (.str v)) nB nO () H (fun fl1 Hp1 j1 s1 g1 hz1 hl1 x1 fb1 hx1 H hg1=>?_) (fun s1 g1 H=>?_)
 ·refine ab (av (am 2 tk rfl (ab (aa (ag 3 tk rfl ?_)))))
  refine aU tk (zn j1) (bl (fun _=>rfl) hx1) ?_
  refine ag 2 tk rfl (ac ?_)
  refine aM rfl H (fun H=>?_) (fun H=>?_)
  ·refine am 2 tk rfl ?_
   obtain rfl := aA H
   have e1 : fl1 = .ret _ := hg1
   subst e1
   obtain rfl := aY Hp1
   refine bj tk rfl (ps := [(ai (j1 : Int))]) ⟨_,_,rfl,rfl,rfl⟩ (PLe.q rfl)
  refine ao (aG (bc 2 tk rfl ?_))
  exact bg () H hl1 hg1
 refine am 1 tk rfl ?_
 exact aS tk H rfl
def ck (y : LCol) (c0 : LCol) : Bool :=
 (y.name == c0.name)
theorem nJ (y : LCol) (c0 : LCol) :
  aL Tryz.prog 82 [(.agg (aR y)),(.ptr (aR c0))] (ay (ck y c0)) := by
 obtain ⟨r,H⟩ : ∃ r,ck y c0 = r := ⟨_,rfl⟩
 rw [H]
 unfold ck at H
 refine PH.ax Tryz.func82 Tryz.ntmps82 ?_
 refine ab (aa (aH ?_))
 refine ah tk rfl (ac (am 6 tk rfl ?_))
 exact et tk H rfl
def dv (v : LVal) : Int :=
 cond (v.kind == (0 : Int))
  (cond (v.int != (0 : Int))
   (3)
   (cond (!(v.text == ([] : List UInt8)))
    (3)
    (0)))
  (br (
   cond (v.kind == (1 : Int))
    ((v.kind == (1 : Int)))
    ((v.kind == (2 : Int)))) fun (t1 : Bool) =>
  cond t1
   (cond (!(v.text == ([] : List UInt8)))
    (3)
    (cond (v.kind == (2 : Int))
     (cond (v.int != (0 : Int))
      (cond (v.int != (1 : Int))
       (1)
       (cond (decide (v.int < (-1000000000000)))
        (1)
        (cond (decide (v.int > (1000000000000 : Int)))
         (1)
         (0))))
      (cond (decide (v.int < (-1000000000000)))
       (1)
       (cond (decide (v.int > (1000000000000 : Int)))
        (1)
        (0))))
     (cond (decide (v.int < (-1000000000000)))
      (1)
      (cond (decide (v.int > (1000000000000 : Int)))
       (1)
       (0)))))
   (cond (v.kind == (3 : Int))
    (cond (v.int != (0 : Int))
     (3)
     (cond (decide ((v.text.length : Int) > (24 : Int)))
      (2)
      (0)))
    (7)))
theorem od (v : LVal) :
  aL Tryz.prog 49 [(.agg (af v))] (ai (dv v)) := by
 obtain ⟨r,H⟩ : ∃ r,dv v = r := ⟨_,rfl⟩
 rw [H]
 unfold dv at H
 refine PH.ax Tryz.func49 Tryz.ntmps49 ?_
 refine ab (aa (aH ?_))
 refine ah tk rfl (ac (ab (am 2 tk rfl (av (am 2 tk rfl ?_)))))
 refine aM rfl H (fun H=>?_) (fun H=>?_)
 ·refine ab (aa (ag 4 tk rfl ?_))
  refine aV rfl rfl rfl H (fun H=>?_) (fun H=>?_)
  ·refine ag 4 tk rfl (ac (bU rfl (am 1 tk rfl ?_)))
   exact et tk H rfl
  refine ag 4 tk rfl (ac ?_)
  refine aM rfl H (fun H=>?_) (fun H=>?_)
  ·refine am 1 tk rfl ?_
   exact et tk H rfl
  refine ao (aG (am 1 tk rfl ?_))
  exact et tk H rfl
 refine ab (am 2 tk rfl ?_)
 refine gF (γ := Unit) (fun t1 g1=>⟨53,upd (upd (upd (fun _=>.any) 15 (ay t1)) 4 (ai v.kind)) 1 (.ptr (af v)),fun _=>none,fun _=>none⟩) H (fun _ H=>?_) (fun t1 g1 H=>?_)
 ·refine aM rfl H (fun H=>?_) (fun H=>?_)
  ·refine ao ?_
   refine be _ () H Gh.d
  refine bc 2 tk rfl ?_
  refine be _ () H Gh.d
 refine aM rfl H (fun H=>?_) (fun H=>?_)
 ·refine ab (am 3 tk rfl ?_)
  refine aM rfl H (fun H=>?_) (fun H=>?_)
  ·refine am 1 tk rfl ?_
   exact et tk H rfl
  refine ao (ab (aa (ag 4 tk rfl ?_)))
  refine aV rfl rfl rfl H (fun H=>?_) (fun H=>?_)
  ·refine ag 5 tk rfl ?_
   refine aV rfl rfl rfl H (fun H=>?_) (fun H=>?_)
   ·refine ag 5 tk rfl ?_
    refine aV rfl rfl rfl H (fun H=>?_) (fun H=>?_)
    ·refine ag 9 tk rfl (ac (bU rfl (am 1 tk rfl ?_)))
     exact et tk H rfl
    refine ag 5 tk rfl ?_
    refine aV rfl rfl rfl H (fun H=>?_) (fun H=>?_)
    ·refine ag 4 tk rfl (ac (bU rfl (am 1 tk rfl ?_)))
     exact et tk H rfl
    refine ag 4 tk rfl (ac ?_)
    refine aM rfl H (fun H=>?_) (fun H=>?_)
    ·refine am 1 tk rfl ?_
     exact et tk H rfl
    refine ao (aG (am 1 tk rfl ?_))
    exact et tk H rfl
   refine ag 10 tk rfl ?_
   refine aV rfl rfl rfl H (fun H=>?_) (fun H=>?_)
   ·refine ag 4 tk rfl (ac (bU rfl (am 1 tk rfl ?_)))
    exact et tk H rfl
   refine ag 4 tk rfl (ac ?_)
   refine aM rfl H (fun H=>?_) (fun H=>?_)
   ·refine am 1 tk rfl ?_
    exact et tk H rfl
   refine ao (aG (am 1 tk rfl ?_))
   exact et tk H rfl
  refine ag 15 tk rfl ?_
  refine aV rfl rfl rfl H (fun H=>?_) (fun H=>?_)
  ·refine ag 4 tk rfl (ac (bU rfl (am 1 tk rfl ?_)))
   exact et tk H rfl
  refine ag 4 tk rfl (ac ?_)
  refine aM rfl H (fun H=>?_) (fun H=>?_)
  ·refine am 1 tk rfl ?_
   exact et tk H rfl
  refine ao (aG (am 1 tk rfl ?_))
  exact et tk H rfl
 refine am 2 tk rfl ?_
 refine aM rfl H (fun H=>?_) (fun H=>?_)
 ·refine ab (am 3 tk rfl ?_)
  refine aM rfl H (fun H=>?_) (fun H=>?_)
  ·refine am 1 tk rfl ?_
   exact et tk H rfl
  refine ao (am 4 tk rfl ?_)
  refine aM rfl H (fun H=>?_) (fun H=>?_)
  ·refine am 1 tk rfl ?_
   exact et tk H rfl
  refine ao (aG (am 1 tk rfl ?_))
  exact et tk H rfl
 refine am 1 tk rfl ?_
 exact et tk H rfl
def dq (t : LTable) (row : Rq) : Option (Rq) :=
 ae (aD (σ := Rq) (ρ := Empty) (fun (_ : Nat) (x1 : Int) (s1 : Rq) =>
  br (
   cond (decide (x1 ≥ (0 : Int)))
    ((decide (x1 < (row.length : Int))))
    (false)) fun (t6 : Bool) =>
  ae (
   cond t6
    (ae (aK row x1) fun (x27 : LVal) =>
    some x27)
    (some (LVal.mk 0 0 []))) fun (t7 : LVal) =>
  ae (cy 32 s1 ([t7] : Rq)) fun (x32 : Rq) =>
  some (.next x32)) 0 t.primaryKey []) fun fl1=>fl1.thenP fun (s1 : Rq) =>
 some s1
theorem px (t : LTable) (row : Rq) (r : Rq) (H : dq t row = some r) :
  aL Tryz.prog 34 [(.agg (cP t)),(.list 48 (row.map af))] (.list 48 (r.map af)) := by
 unfold dq at H
 refine PH.ax Tryz.func34 Tryz.ntmps34 ?_
 refine ab (aa (aH ?_))
 refine ah tk rfl (ac (am 1 tk rfl (ab (ab (aa (ag 2 tk rfl (az tk (zl _) ?_)))))))
 refine ah tk rfl (ac (ic tk 5 32 (e := 48) rfl rfl ?_))
 refine fg (γ := OwnRef) tk 12 11 10 (fun s1 g1=>upd (upd (fun _=>.any) 5 (.own 32 g1 (s1.map af).length)) 1 (.list 48 (row.map af))) nB (fun s1 g1=>upd (fun _=>none) 32 (some ⟨g1,48,(s1.map af),true⟩)) (⟨none,0⟩) H (fun fl1 Hp1 j1 s1 g1 hz1 hl1 x1 fb1 hx1 H hg1=>?_) (fun s1 g1 H=>?_)
 ·refine ab (av (ab (aa ?_)))
  refine aU tk (zn j1) (bl (fun _=>rfl) hx1) ?_
  refine ag 2 tk rfl (ac (ab (aa (ah tk rfl ?_))))
  refine aN tk fun b8=>?_
  refine ak tk ?_
  refine ac (ab (ab ?_))
  refine gF (γ := Unit) (fun t6 g6=>⟨35,upd (upd (upd (upd (upd (upd (upd (upd (fun _=>.any) 24 (ay t6)) 12 (ai (j1 : Int))) 11 (ai (t.primaryKey.length : Int))) 10 (.list 3 (t.primaryKey.map bS))) 8 (.box 8 b8 0)) 7 (ai x1)) 5 (.own 32 g1 (s1.map af).length)) 1 (.list 48 (row.map af)),upd (fun _=>none) 8 (some ⟨b8,[(ai 0),(ai 0),(.str [])]⟩),upd (fun _=>none) 32 (some ⟨g1,48,(s1.map af),true⟩)⟩) H (fun _ H=>?_) (fun t6 g6 H=>?_)
  ·refine aa (ag 3 tk rfl ?_)
   refine aV rfl rfl rfl H (fun H=>?_) (fun H=>?_)
   ·refine ag 2 tk rfl (az tk (zl _) ?_)
    refine ag 2 tk rfl (ac ?_)
    refine be _ () H Gh.d
   refine ag 5 tk rfl (ac ?_)
   refine be _ () H Gh.d
  refine fS (γ := Unit) (fun t7 g7=>⟨35,upd (upd (upd (upd (upd (upd (fun _=>.any) 12 (ai (j1 : Int))) 11 (ai (t.primaryKey.length : Int))) 10 (.list 3 (t.primaryKey.map bS))) 8 (.box 8 b8 0)) 5 (.own 32 g1 (s1.map af).length)) 1 (.list 48 (row.map af)),upd (fun _=>none) 8 (some ⟨b8,(af t7)⟩),upd (fun _=>none) 32 (some ⟨g1,48,(s1.map af),true⟩)⟩) H (fun _ H=>?_) (fun t7 g7 H=>?_)
  ·refine aM rfl H (fun H=>?_) (fun H=>?_)
   ·refine aa (ag 2 tk rfl ?_)
    obtain ⟨x27,k27,H⟩ := bq H
    refine aU tk k27.1 (aO (fun _=>rfl) k27.2) ?_
    refine ah tk rfl (ak tk ?_)
    refine ac ?_
    refine be _ () (aA H) Gh.d
   refine ao ?_
   refine be _ () (aA H) Gh.d
  refine aa (ah tk rfl (aq tk ?_))
  refine cv tk (rows' := List.map af ([t7] : Rq)) (gP.refl _) ?_
  obtain ⟨x32,h32,H⟩ := au H
  have k32 := bX h32
  refine cr (rows2' := List.map af ([t7] : Rq)) (rows' := List.map af x32) tk rfl rfl rfl rfl rfl rfl rfl rfl rfl rfl rfl rfl rfl (gP.refl _) (cK k32.1) (cI k32.2.1) (cF k32.2.2) fun g32=>?_
  refine ah tk rfl (ac (aG (bc 2 tk rfl ?_)))
  exact bg g32 H hl1 hg1
 refine am 2 tk rfl (dZ 4 rfl rfl rfl ?_)
 exact aS tk H rfl
def fY (a : Int) (b : Int) : Int :=
 cond (decide (a < b))
  ((-1))
  (cond (decide (a > b))
   (1)
   (0))
theorem ky (a : Int) (b : Int) :
  aL Tryz.prog 51 [(ai a),(ai b)] (ai (fY a b)) := by
 obtain ⟨r,H⟩ : ∃ r,fY a b = r := ⟨_,rfl⟩
 rw [H]
 unfold fY at H
 refine PH.ax Tryz.func51 Tryz.ntmps51 ?_
 refine am 1 tk rfl (ab (av (am 4 tk rfl ?_)))
 refine aM rfl H (fun H=>?_) (fun H=>?_)
 ·refine am 1 tk rfl ?_
  exact et tk H rfl
 refine am 4 tk rfl ?_
 refine aM rfl H (fun H=>?_) (fun H=>?_)
 ·refine am 1 tk rfl ?_
  exact et tk H rfl
 refine ao (aG (am 1 tk rfl ?_))
 exact et tk H rfl
def eX (a : List UInt8) (b : List UInt8) : Int :=
 (Lib.compareBytes a b)
theorem lK (a : List UInt8) (b : List UInt8) :
  aL Tryz.prog 99 [(.str a),(.str b)] (ai (eX a b)) := by
 obtain ⟨r,H⟩ : ∃ r,eX a b = r := ⟨_,rfl⟩
 rw [H]
 unfold eX at H
 refine PH.ax Tryz.func99 Tryz.ntmps99 ?_
 refine am 1 tk rfl (ab (aa (ag 2 tk rfl ?_)))
 refine Ao.cmpS (g := 118) rfl rfl rfl Tryz.func118 (by kernel_rfl) (by kernel_rfl) (by kernel_rfl) (by kernel_rfl) rfl rfl rfl ?_
 refine ah tk rfl (ac ?_)
 exact et tk H rfl
theorem grow_107 {m : Nat} {u : Unit} (n : Int) (h : oO 32 n = some u) : ig Tryz.prog 107 [.val (.slice none 0 0),ai n] (ld m 48 []) := by
 have hn := growI_some h
 have hw : IntKind.i64.wrap (n - IntKind.i64.wrap ((0 : Int) - 0)) = n := by
  have e0 : IntKind.i64.wrap ((0 : Int) - 0) = 0 := bD (by omega) (by omega)
  rw [e0,Int.sub_zero,bD (by omega) (by unfold maxLen at hn; omega)]
 refine PH.ax Tryz.func107 Tryz.ntmps107 ?_
 refine am 1 tk rfl (ab (am 2 tk rfl ?_))
 refine bh rfl (fun h=>?_) (fun h=>?_)
 ·exfalso; have := of_decide_eq_true h; omega
 refine ao (ab (ab (aa (ag 2 tk rfl (sz tk rfl rfl rfl rfl rfl rfl (ag 4 tk rfl (lO 14 (q := ai n) rfl (PLe.q (congrArg ai hw)) (ah tk rfl (ac (am 2 tk rfl ?_))))))))))
 refine bh rfl (fun h=>?_) (fun h=>?_)
 ·refine aa (ag 2 tk rfl (sz tk rfl rfl rfl rfl rfl rfl (Ao.subN tk rfl rfl rfl rfl rfl rfl rfl rfl (ah tk rfl ?_))))
  refine sj tk rfl rfl rfl rfl rfl rfl rfl rfl rfl rfl rfl rfl rfl rfl rfl (of_decide_eq_true h) hn.2.1 hn.2.2 fun g=>?_
  refine ag 2 tk rfl (Ao.cutO tk rfl rfl rfl rfl rfl rfl rfl rfl rfl ⟨Int.le_refl 0,Nat.zero_le _⟩ rfl rfl rfl (ah tk rfl (ac (am 2 tk rfl ?_))))
  refine iA tk rfl
 ·refine ao (am 2 tk rfl (ic tk 4 904 (e := 48) rfl rfl ?_))
  refine iA tk rfl
def bw (rA : LRun) (cols : List LCol) (row : Rq) : LEnv :=
 (LEnv.mk cols row rA.args rA.names rA.vals)
theorem kC (rA : LRun) (cols : List LCol) (row : Rq) :
  aL Tryz.prog 66 [(.agg (dL rA)),(.list 53 (cols.map aR)),(.list 48 (row.map af))] (.agg (encEnv (bw rA cols row))) := by
 obtain ⟨r,H⟩ : ∃ r,bw rA cols row = r := ⟨_,rfl⟩
 rw [H]
 unfold bw at H
 refine PH.ax Tryz.func66 Tryz.ntmps66 ?_
 refine ab (aa (aH ?_))
 refine aN tk fun b6=>?_
 refine ac (ab (aa (ag 9 tk rfl (ak tk ?_))))
 refine ac ?_
 exact rY tk H rfl rfl rfl rfl rfl
def gZ (sA : Rq) (f : LVal → Option (Bool)) : Option (Int) :=
 ae (aD (σ := Unit) (ρ := (Int)) (fun (j1 : Nat) (x1 : LVal) (_ : Unit) =>
  ae (f x1) fun x16 =>
  cond x16
   (some (.ret (j1 : Int)))
   (some (.next ()))) 0 sA ()) fun fl1=>fl1.thenR fun (_ : Unit) =>
 some (-1)
theorem qn {g_f : FuncId} {caps_f : List PV} (sA : Rq) (f : LVal → Option (Bool)) (hg_f : ∀ (vs : Array Value) (w : World),(callFunc g_f vs).run Tryz.prog w = .ok (.enter g_f vs) w) (hp_f : ∀ a0 r,f a0 = some r → aL Tryz.prog g_f ((.agg (af a0)) :: caps_f) (ay r)) (r : Int) (H : gZ sA f = some r) :
  aL Tryz.prog 125 [(.list 48 (sA.map af)),(.fn g_f caps_f)] (ai r) := by
 unfold gZ at H
 refine PH.ax Tryz.func125 Tryz.ntmps125 ?_
 refine am 1 tk rfl (ab (ab (aa (ah tk rfl (az tk (zl _) ?_)))))
 refine ah tk rfl (ac ?_)
 refine ez tk 8 7 0 (fun s1 g1=>upd (fun _=>.any) 1 (.fn g_f caps_f)) nB nO () H (fun fl1 Hp1 j1 s1 g1 hz1 hl1 x1 fb1 hx1 H hg1=>?_) (fun s1 g1 H=>?_)
 ·refine ab (av (am 2 tk rfl (ab (aa (ag 3 tk rfl ?_)))))
  refine aU tk (zn j1) (bl (fun _=>rfl) hx1) ?_
  refine ah tk rfl ?_
  obtain ⟨x16,h16,H⟩ := au H
  refine aj hg_f (gK.r) (hp_f _ _ h16) ?_
  refine ac ?_
  refine aM rfl H (fun H=>?_) (fun H=>?_)
  ·refine am 2 tk rfl ?_
   obtain rfl := aA H
   have e1 : fl1 = .ret _ := hg1
   subst e1
   obtain rfl := aY Hp1
   refine bj tk rfl (ps := [(ai (j1 : Int))]) ⟨_,_,rfl,rfl,rfl⟩ (PLe.q rfl)
  refine ao (aG (bc 2 tk rfl ?_))
  exact bg () H hl1 hg1
 refine am 1 tk rfl ?_
 exact aS tk H rfl
def fQ (n : Int) : LVal :=
 cond (decide (n < (-1000000000000)))
  ((LVal.mk 0 0 []))
  (cond (decide (n > (1000000000000 : Int)))
   ((LVal.mk 0 0 []))
   ((LVal.mk 1 n [])))
theorem qe (n : Int) :
  aL Tryz.prog 114 [(ai n)] (.agg (af (fQ n))) := by
 obtain ⟨r,H⟩ : ∃ r,fQ n = r := ⟨_,rfl⟩
 rw [H]
 unfold fQ at H
 refine PH.ax Tryz.func114 Tryz.ntmps114 ?_
 refine ab (aa ?_)
 refine aN tk fun b2=>?_
 refine ac (ab (ab (aa (ag 3 tk rfl ?_))))
 refine aV rfl rfl rfl H (fun H=>?_) (fun H=>?_)
 ·refine ag 3 tk rfl (ac (bU rfl (ab (aa (ah tk rfl (ak tk ?_))))))
  refine ac ?_
  exact rY tk H rfl rfl rfl rfl rfl
 refine ag 3 tk rfl (ac ?_)
 refine aM rfl H (fun H=>?_) (fun H=>?_)
 ·refine ab (aa (ah tk rfl (ak tk ?_)))
  refine ac ?_
  exact rY tk H rfl rfl rfl rfl rfl
 refine ao (ab (aa (ag 2 tk rfl (ak tk ?_))))
 refine ac ?_
 exact rY tk H rfl rfl rfl rfl rfl
theorem pQ {m : Nat} (xs : Rz) : ig Tryz.prog 59 [.list 57 (xs.map (al 48 af))] (ld m 57 (xs.map (al 48 af))) := by
 refine PH.ax Tryz.func59 Tryz.ntmps59 ?_
 refine gG tk 0 rfl rfl (fun hz hb=>?_)
 refine am 1 tk rfl (ab (ab (aa (ah tk rfl ?_))))
 refine oi tk rfl rfl rfl rfl rfl rfl rfl (fun b hn=>?_)
 refine ac ?_
 refine bh rfl (fun h=>?_) (fun h=>?_)
 ·refine am 1 tk rfl (ic tk 2 902 (e := 57) rfl rfl ?_)
  refine iA tk (hn h).symm
 ·refine ao (ab (aa ?_))
  refine mz (rows' := []) tk rfl rfl rfl rfl rfl rfl rfl rfl rfl (iz.refl _) fun g=>?_
  refine ah tk rfl ?_
  refine cr (rows2' := xs.map (al 48 af)) (rows' := xs.map (al 48 af)) tk rfl rfl rfl rfl rfl rfl rfl rfl rfl rfl rfl rfl rfl (gP.refl _) (by simpa using hb) (by simpa using hz) rfl fun g'=>?_
  refine ah tk rfl (ac ?_)
  refine iA tk rfl
def cw (s1A : Rq) (s2A : Rq) : Option (Bool) :=
 cond ((s1A.length : Int) != (s2A.length : Int))
  (some false)
  (ae (aD (σ := Unit) (ρ := (Bool)) (fun (j1 : Nat) (x1 : LVal) (_ : Unit) =>
   ae (aK s2A (j1 : Int)) fun (x22 : LVal) =>
   cond (!(x1.kind == x22.kind && (x1.int == x22.int && (x1.text == x22.text && true))))
    (some (.ret false))
    (some (.next ()))) 0 s1A ()) fun fl1=>fl1.thenR fun (_ : Unit) =>
  some true)
theorem gq (s1A : Rq) (s2A : Rq) (r : Bool) (H : cw s1A s2A = some r) :
  aL Tryz.prog 27 [(.list 48 (s1A.map af)),(.list 48 (s2A.map af))] (ay r) := by
 unfold cw at H
 refine PH.ax Tryz.func27 Tryz.ntmps27 ?_
 refine am 1 tk rfl (ab (ab (aa (ah tk rfl (az tk (zl _) ?_)))))
 refine ah tk rfl (az tk (zl _) ?_)
 refine ah tk rfl (ac ?_)
 refine aM rfl H (fun H=>?_) (fun H=>?_)
 ·refine am 1 tk rfl ?_
  exact aS tk H rfl
 refine ao (ab (ab (aa (ah tk rfl (az tk (zl _) ?_)))))
 refine ah tk rfl (ac ?_)
 refine ez tk 13 12 0 (fun s1 g1=>upd (fun _=>.any) 1 (.list 48 (s2A.map af))) nB nO () H (fun fl1 Hp1 j1 s1 g1 hz1 hl1 x1 fb1 hx1 H hg1=>?_) (fun s1 g1 H=>?_)
 ·refine ab (av (am 2 tk rfl (ab (bo tk mok ⟨false,false,[]⟩ [0,1,2,3,4,5,6,7,8] rfl (by decide +kernel) rfl (aW 2 rfl ?_)))))
  refine bK (zn j1) (bl (fun _=>rfl) hx1) ?_
  refine aW 3 rfl ?_
  obtain ⟨x22,k22,H⟩ := bq H
  refine bK k22.1 (aO (fun _=>rfl) k22.2) ?_
  refine aW 2 rfl (bn ?_)
  refine aM rfl H (fun H=>?_) (fun H=>?_)
  ·refine am 1 tk rfl ?_
   obtain rfl := aA H
   have e1 : fl1 = .ret _ := hg1
   subst e1
   obtain rfl := aY Hp1
   refine bj tk rfl (ps := [(ay false)]) ⟨_,_,rfl,rfl,rfl⟩ (PLe.q rfl)
  refine ao (aG (bc 2 tk rfl ?_))
  exact bg () H hl1 hg1
 refine am 1 tk rfl ?_
 exact aS tk H rfl
def bM (sA : Rz) (f : Rq → Option (Bool)) : Option (Int × Rz) :=
 ae (gj (sA.length : Int)) fun (n1 : Nat) =>
 ae (aD (σ := Rz) (ρ := (Int × Rz)) (fun (j1 : Nat) (_ : Nat) (s1 : Rz) =>
  ae (aK s1 (j1 : Int)) fun (x14 : Rq) =>
  ae (f x14) fun x16 =>
  cond x16
   (some (.ret ((j1 : Int),s1)))
   (some (.next s1))) 0 (List.range n1) sA) fun fl1=>fl1.thenR fun (s1 : Rz) =>
 some ((-1),s1)
theorem fA (g_sA : OwnRef) {g_f : FuncId} {caps_f : List PV} (sA : Rz) (f : Rq → Option (Bool)) (hg_f : ∀ (vs : Array Value) (w : World),(callFunc g_f vs).run Tryz.prog w = .ok (.enter g_f vs) w) (hp_f : ∀ a0 r,f a0 = some r → aL Tryz.prog g_f ((.list 48 (a0.map af)) :: caps_f) (ay r)) (r : Int × Rz) (H : bM sA f = some r) :
  PH Tryz.prog 85 [(.own 0 g_sA (sA.map (al 48 af)).length),(.fn g_f caps_f)] ⟨fun _=>none,upd (fun _=>none) 0 (some ⟨g_sA,57,(sA.map (al 48 af)),true⟩)⟩ (fun u H=>u = (ai r.1) ∧ H = ⟨fun _=>none,upd (fun _=>none) 0 (some ⟨g_sA,57,(r.2.map (al 48 af)),true⟩)⟩) := by
 unfold bM at H
 refine PH.ax Tryz.func85 Tryz.ntmps85 ?_
 refine am 1 tk rfl (ab (ab (aa (ah tk rfl (el tk (zl _) ?_)))))
 refine ah tk rfl (ac ?_)
 obtain ⟨n1,hs1,H⟩ := au H
 have hz1 := fm hs1
 obtain ⟨fl1,H1,Hp1⟩ := au H
 refine dM (τ := Rz) (γ := Unit) (fun s1 g1=>⟨19,upd (fun _=>.any) 0 (.own 0 g_sA (s1.map (al 48 af)).length),fun _=>none,upd (fun _=>none) 0 (some ⟨g_sA,57,(s1.map (al 48 af)),true⟩)⟩) (fun t=>fl1 = .next t) ?_ (fun s1 g1 hn1=>?_)
 ·refine av ?_
  refine eF (fun j1 s1 g1=>⟨19,upd (upd (upd (upd (fun _=>.any) 8 (ai (j1 : Int))) 7 (ai (sA.length : Int))) 1 (.fn g_f caps_f)) 0 (.own 0 g_sA (s1.map (al 48 af)).length),fun _=>none,upd (fun _=>none) 0 (some ⟨g_sA,57,(s1.map (al 48 af)),true⟩)⟩) () H1 Gh.d (fun j1 s1 g1 hj1 hr1=>?_)
  refine am 1 tk rfl (ab ?_)
  refine bh rfl (fun h=>?_) (fun h=>?_)
  ·have hl1 := kT hz1 h
   obtain ⟨x1,fb1,hx1,H,hg1⟩ := rMc hl1 hr1
   obtain rfl := mA hx1
   refine ao (ab (av (am 2 tk rfl (ab (aa (ag 3 tk rfl ?_))))))
   obtain ⟨x14,k14,H⟩ := bq H
   refine gA (tag := 0) rfl (fun ho0=>?_)
   refine fH tk ⟨k14.1,(cE k14.2)⟩ (cN ho0 k14.2) ?_
   refine lD tk rfl rfl rfl rfl rfl rfl rfl (aO (fun _=>rfl) k14.2) rfl rfl ?_
   obtain ⟨x16,h16,H⟩ := au H
   refine aj hg_f (gK.r) (hp_f _ _ h16) ?_
   refine ac ?_
   refine aM rfl H (fun H=>?_) (fun H=>?_)
   ·refine am 2 tk rfl ?_
    obtain rfl := aA H
    have e1 : fl1 = .ret _ := hg1
    subst e1
    obtain rfl := aY Hp1
    refine eh (st' := ⟨19,upd (fun _=>.any) 4 (ai (j1 : Int)),fun _=>none,upd (fun _=>none) 0 (some ⟨g_sA,57,(s1.map (al 48 af)),true⟩)⟩) (Gh.le (ap aT) aI (aP aJ)) ?_
    refine fD tk rfl (ps := [(ai (j1 : Int))]) ⟨_,_,rfl,rfl,rfl⟩ (PLe.q rfl) ⟨rfl,rfl⟩
   refine ao (aG (bc 2 tk rfl ?_))
   exact bg () H hl1 hg1 (Gh.le (ap (ap (ap (bs (PLe.q (fR hz1 hl1)) aT)))) aI (aP aJ))
  have hn1 := rMd (kX hz1 h) hr1
  refine bm rfl ?_
  refine be s1 g1 hn1 Gh.d
 have H := lU hn1 Hp1
 refine am 1 tk rfl ?_
 obtain rfl := aA H
 refine eh (st' := ⟨19,upd (fun _=>.any) 4 (ai (-1)),fun _=>none,upd (fun _=>none) 0 (some ⟨g_sA,57,(s1.map (al 48 af)),true⟩)⟩) (Gh.le (ap aT) aI (aP aJ)) ?_
 refine fD tk rfl (ps := [(ai (-1))]) ⟨_,_,rfl,rfl,rfl⟩ (PLe.q rfl) ⟨rfl,rfl⟩
theorem W_delete_87 (g_s : OwnRef) (xs : Rz) (i j : Int) (r : Rz) (h : delI xs i j = some r) : PH Tryz.prog 87 [(.own 0 g_s (xs.map (al 48 af)).length),(ai i),(ai j)] ⟨fun _=>none,upd (fun _=>none) 0 (some ⟨g_s,57,(xs.map (al 48 af)),true⟩)⟩ (fun u H=>u = .own 0 g_s (r.map (al 48 af)).length ∧ H = ⟨fun _=>none,upd (fun _=>none) 0 (some ⟨g_s,57,(r.map (al 48 af)),true⟩)⟩) := by
 obtain ⟨hi,hij,hj,hr⟩ := delI_some h
 have hjl : j.toNat ≤ (xs.map (al 48 af)).length := by rw [zl]; exact hj
 have hij' : i.toNat ≤ j.toNat := by omega
 have ei : i = (i.toNat : Int) := by omega
 have ej : j = (j.toNat : Int) := by omega
 refine PH.ax Tryz.func87 Tryz.ntmps87 ?_
 refine V.ownC (tag := 0) rfl (fun hc=>?_)
 refine am 1 tk rfl (ab (aa (ag 4 tk rfl (el tk (m := (xs.map (al 48 af)).length) rfl ?_))))
 refine sk (l := i.toNat) (h := j.toNat) (m := (xs.map (al 48 af)).length) tk rfl rfl rfl rfl rfl rfl ⟨_,_,rfl,ei⟩ ⟨_,_,rfl,ej⟩ ⟨_,_,rfl,rfl⟩ (by decide) hij' hjl hc rfl (ac (ab (am 3 tk rfl ?_)))
 refine bh rfl (fun h=>?_) (fun h=>?_)
 ·have he : i = j := by simpa using h
  have hx : r = xs := by rw [hr,he,List.take_append_drop]
  subst hx
  refine am 2 tk rfl ?_
  refine eh (st' := ⟨33,upd (fun _=>.any) 6 (.own 0 g_s (r.map (al 48 af)).length),fun _=>none,upd (fun _=>none) 0 (some ⟨g_s,57,r.map (al 48 af),true⟩)⟩) (Gh.le (ap aT) aI (aP aJ)) ?_
  refine fD tk rfl (ps := [.own 0 g_s (r.map (al 48 af)).length]) ⟨_,_,rfl,rfl,rfl⟩ (PLe.q rfl) ⟨rfl,rfl⟩
 ·refine ao (ab (aa (ah tk rfl (el tk (m := (xs.map (al 48 af)).length) rfl ?_))))
  refine ah tk rfl (ac (ab (bo tk mok ⟨false,false,[]⟩ [0,1,2,3,4,5,6,7] rfl (by decide +kernel) rfl (aW 2 rfl (sC (l := 0) (h := i.toNat) (m := g_s.cap) tk rfl rfl rfl rfl rfl rfl rfl rfl ⟨_,_,rfl,ei⟩ rfl (by decide) (Nat.zero_le _) (by omega) (Nat.le_refl _) rfl (aW 2 rfl (sC (l := j.toNat) (h := (xs.map (al 48 af)).length) (m := g_s.cap) tk rfl rfl rfl rfl rfl rfl rfl ⟨_,_,rfl,ej⟩ rfl rfl (by decide) hjl hc (Nat.le_refl _) rfl (sw (rows' := r.map (al 48 af)) (tag := 0) (p := i.toNat) (q := j.toNat) tk rfl rfl rfl rfl rfl rfl rfl hij' hjl rfl rfl (by rw [hr,List.map_append,List.map_take,List.map_drop]) rfl (bt rfl (bn ?_))))))))))
  have hrl : (r.map (al 48 af)).length ≤ (xs.map (al 48 af)).length := by rw [hr]; simp; omega
  refine ab (aa (ag 2 tk rfl (el tk (m := (r.map (al 48 af)).length) rfl ?_)))
  refine ah tk rfl (sk (l := (r.map (al 48 af)).length) (h := (xs.map (al 48 af)).length) (m := g_s.cap) tk rfl rfl rfl rfl rfl rfl ⟨_,_,rfl,rfl⟩ ⟨_,_,rfl,rfl⟩ rfl (by decide) hrl hc (Nat.le_refl _) rfl (sn (tag := 0) (rows := List.map (al 48 af) r) tk rfl rfl rfl rfl rfl rfl rfl rfl rfl (p := (r.map (al 48 af)).length) (q := (xs.map (al 48 af)).length) (m := g_s.cap) (Nat.le_refl _) hrl hc (Nat.le_refl _) rfl (ac (am 2 tk rfl ?_))))
  refine eh (st' := ⟨33,upd (fun _=>.any) 6 (.own 0 g_s (r.map (al 48 af)).length),fun _=>none,upd (fun _=>none) 0 (some ⟨g_s,57,r.map (al 48 af),true⟩)⟩) (Gh.le (ap aT) aI (aP aJ)) ?_
  refine fD tk rfl (ps := [.own 0 g_s (r.map (al 48 af)).length]) ⟨_,_,rfl,rfl,rfl⟩ (PLe.q rfl) ⟨rfl,rfl⟩
theorem clone_40 {m : Nat} (xs : Rq) : ig Tryz.prog 40 [.list 48 (xs.map af)] (ld m 48 (xs.map af)) := by
 refine PH.ax Tryz.func40 Tryz.ntmps40 ?_
 refine gG tk 0 rfl rfl (fun hz hb=>?_)
 refine am 1 tk rfl (ab (ab (aa (ah tk rfl ?_))))
 refine oi tk rfl rfl rfl rfl rfl rfl rfl (fun b hn=>?_)
 refine ac ?_
 refine bh rfl (fun h=>?_) (fun h=>?_)
 ·refine am 1 tk rfl (ic tk 2 902 (e := 48) rfl rfl ?_)
  refine iA tk (hn h).symm
 ·refine ao (ab (aa ?_))
  refine mz (rows' := []) tk rfl rfl rfl rfl rfl rfl rfl rfl rfl (iz.refl _) fun g=>?_
  refine ah tk rfl ?_
  refine cr (rows2' := xs.map af) (rows' := xs.map af) tk rfl rfl rfl rfl rfl rfl rfl rfl rfl rfl rfl rfl rfl (gP.refl _) (by simpa using hb) (by simpa using hz) rfl fun g'=>?_
  refine ah tk rfl (ac ?_)
  refine iA tk rfl
def ie (a : Rq) (b : Rq) (downs : List Bool) : Option (Int) :=
 ae (aD (σ := Unit) (ρ := (Int)) (fun (j1 : Nat) (x1 : LVal) (_ : Unit) =>
  ae (
   cond (decide ((j1 : Int) ≥ (b.length : Int)))
    (some true)
    (ae (aK b (j1 : Int)) fun (x25 : LVal) =>
    some (x1.kind == x25.kind && (x1.int == x25.int && (x1.text == x25.text && true))))) fun (t3 : Bool) =>
  cond t3
   (some (.next ()))
   (ae (aK b (j1 : Int)) fun (x35 : LVal) =>
   br (lx x1 x35) fun x37 =>
   cond (decide ((j1 : Int) < (downs.length : Int)))
    (ae (aK downs (j1 : Int)) fun (x45 : Bool) =>
    cond x45
     (cond (!x37)
      (some (.ret (-1)))
      (some (.ret 1)))
     (cond x37
      (some (.ret (-1)))
      (some (.ret 1))))
    (cond x37
     (some (.ret (-1)))
     (some (.ret 1))))) 0 a ()) fun fl1=>fl1.thenR fun (_ : Unit) =>
 some 0
theorem qr (a : Rq) (b : Rq) (downs : List Bool) (r : Int) (H : ie a b downs = some r) :
  aL Tryz.prog 95 [(.list 48 (a.map af)),(.list 48 (b.map af)),(.list 4 (downs.map cf))] (ai r) := by
 unfold ie at H
 refine PH.ax Tryz.func95 Tryz.ntmps95 ?_
 refine am 1 tk rfl (ab (ab (aa (ah tk rfl (az tk (zl _) ?_)))))
 refine ah tk rfl (ac ?_)
 refine ez tk 11 10 0 (fun s1 g1=>upd (upd (fun _=>.any) 2 (.list 4 (downs.map cf))) 1 (.list 48 (b.map af))) nB nO () H (fun fl1 Hp1 j1 s1 g1 hz1 hl1 x1 fb1 hx1 H hg1=>?_) (fun s1 g1 H=>?_)
 ·refine ab (av (am 2 tk rfl (ab (ab ?_))))
  refine fS (γ := Unit) (fun t3 g3=>⟨52,upd (upd (upd (upd (upd (upd (upd (fun _=>.any) 28 (ay t3)) 11 (ai (j1 : Int))) 10 (ai (a.length : Int))) 7 (ai (j1 : Int))) 2 (.list 4 (downs.map cf))) 1 (.list 48 (b.map af))) 0 (.list 48 (a.map af)),fun _=>none,fun _=>none⟩) H (fun _ H=>?_) (fun t3 g3 H=>?_)
  ·refine bo tk mok ⟨false,false,[]⟩ [0,1,2,3,4,5,6,7,8,9,10,11,12,13,14] rfl (by decide +kernel) rfl (aW 2 rfl (sD rfl rfl rfl rfl rfl rfl (zl _) rfl (aW 2 rfl ?_)))
   refine mR H (fun H=>?_) (fun H=>?_)
   ·refine aW 10 rfl (bn ?_)
    refine be _ () (aA H) Gh.d
   refine aW 2 rfl ?_
   refine bK (zn j1) (bl (fun _=>rfl) hx1) ?_
   refine aW 3 rfl ?_
   obtain ⟨x25,k25,H⟩ := bq H
   refine bK k25.1 (aO (fun _=>rfl) k25.2) ?_
   refine aW 3 rfl (bn ?_)
   refine be _ () (aA H) Gh.d
  refine aM rfl H (fun H=>?_) (fun H=>?_)
  ·refine bm rfl (bc 2 tk rfl ?_)
   exact bg () H hl1 hg1
  refine ao (ab (bo tk mok ⟨false,false,[]⟩ [0,1,2,3,4,5,6,7,8,9] rfl (by decide +kernel) rfl (aW 2 rfl ?_)))
  refine bK (zn j1) (bl (fun _=>rfl) hx1) ?_
  refine aW 3 rfl ?_
  obtain ⟨x35,k35,H⟩ := bq H
  refine bK k35.1 (aO (fun _=>rfl) k35.2) ?_
  refine bt rfl ?_
  obtain ⟨x37,h37,H⟩ := cL H
  have s37 := lV x1 x35
  rw [h37] at s37
  refine aZ Tryz.call117 (gK.r) s37 ?_
  refine bt rfl (bn (ab (ab (aa (ag 2 tk rfl (az tk (zl _) ?_))))))
  refine ag 2 tk rfl ?_
  refine aV rfl rfl rfl H (fun H=>?_) (fun H=>?_)
  ·refine ag 2 tk rfl ?_
   obtain ⟨x45,k45,H⟩ := bq H
   refine aU tk k45.1 (aO (fun _=>rfl) k45.2) ?_
   refine ag 2 tk rfl (ac ?_)
   refine aM rfl H (fun H=>?_) (fun H=>?_)
   ·refine bc 3 tk rfl (ab (am 1 tk rfl ?_))
    refine aM rfl H (fun H=>?_) (fun H=>?_)
    ·refine am 1 tk rfl ?_
     obtain rfl := aA H
     have e1 : fl1 = .ret _ := hg1
     subst e1
     obtain rfl := aY Hp1
     refine bj tk rfl (ps := [(ai (-1))]) ⟨_,_,rfl,rfl,rfl⟩ (PLe.q rfl)
    refine ao (am 1 tk rfl ?_)
    obtain rfl := aA H
    have e1 : fl1 = .ret _ := hg1
    subst e1
    obtain rfl := aY Hp1
    refine bj tk rfl (ps := [(ai 1)]) ⟨_,_,rfl,rfl,rfl⟩ (PLe.q rfl)
   refine ao (ab (am 1 tk rfl ?_))
   refine aM rfl H (fun H=>?_) (fun H=>?_)
   ·refine am 1 tk rfl ?_
    obtain rfl := aA H
    have e1 : fl1 = .ret _ := hg1
    subst e1
    obtain rfl := aY Hp1
    refine bj tk rfl (ps := [(ai (-1))]) ⟨_,_,rfl,rfl,rfl⟩ (PLe.q rfl)
   refine ao (am 1 tk rfl ?_)
   obtain rfl := aA H
   have e1 : fl1 = .ret _ := hg1
   subst e1
   obtain rfl := aY Hp1
   refine bj tk rfl (ps := [(ai 1)]) ⟨_,_,rfl,rfl,rfl⟩ (PLe.q rfl)
  refine ag 5 tk rfl (ac (bB rfl (ao (ab (am 1 tk rfl ?_)))))
  refine aM rfl H (fun H=>?_) (fun H=>?_)
  ·refine am 1 tk rfl ?_
   obtain rfl := aA H
   have e1 : fl1 = .ret _ := hg1
   subst e1
   obtain rfl := aY Hp1
   refine bj tk rfl (ps := [(ai (-1))]) ⟨_,_,rfl,rfl,rfl⟩ (PLe.q rfl)
  refine ao (am 1 tk rfl ?_)
  obtain rfl := aA H
  have e1 : fl1 = .ret _ := hg1
  subst e1
  obtain rfl := aY Hp1
  refine bj tk rfl (ps := [(ai 1)]) ⟨_,_,rfl,rfl,rfl⟩ (PLe.q rfl)
 refine am 1 tk rfl ?_
 exact aS tk H rfl
def cu (data : Rz) (a : Int) (b : Int) (cmp : Rq → Rq → Option (Int)) : Option (Rz) :=
 ae (fJ (σ := Rz × Int) (ρ := Empty) (fun (s1 : Rz × Int) =>
  cond (decide (s1.2 < b))
   (ae (fJ (σ := Rz × Int) (ρ := Empty) (fun (s22 : Rz × Int) =>
    ae (
     cond (decide (s22.2 > a))
      (ae (aK s22.1 s22.2) fun (x25 : Rq) =>
      ae (aK s22.1 (IntKind.i64.wrap (s22.2 - (1 : Int)))) fun (x30 : Rq) =>
      ae (cmp x25 x30) fun x32 =>
      some (s22.1,(decide (x32 < (0 : Int)))))
      (some (s22.1,false))) fun (t29 : Rz × Bool) =>
    cond t29.2
     (ae (aK t29.1 (IntKind.i64.wrap (s22.2 - (1 : Int)))) fun (x45 : Rq) =>
     ae (aK t29.1 s22.2) fun (x49 : Rq) =>
     ae (aK t29.1 s22.2) fun (_ : Rq) =>
     br (t29.1.set s22.2.toNat x45) fun (y30 : Rz) =>
     ae (aK y30 (IntKind.i64.wrap (s22.2 - (1 : Int)))) fun (_ : Rq) =>
     br (y30.set ((IntKind.i64.wrap (s22.2 - (1 : Int))).toNat) x49) fun (y31 : Rz) =>
     some (.next (y31,(IntKind.i64.wrap (s22.2 - (1 : Int))))))
     (some (.brk (t29.1,s22.2)))) (s1.1,s1.2)) fun fl22=>fl22.thenP fun (s22 : Rz × Int) =>
   some (.next (s22.1,(IntKind.i64.wrap (s1.2 + (1 : Int))))))
   (some (.brk (s1.1,s1.2)))) (data,(IntKind.i64.wrap (a + (1 : Int))))) fun fl1=>fl1.thenP fun (s1 : Rz × Int) =>
 some s1.1
theorem im (g_data : OwnRef) {g_cmp : FuncId} {caps_cmp : List PV} (data : Rz) (a : Int) (b : Int) (cmp : Rq → Rq → Option (Int)) (hg_cmp : ∀ (vs : Array Value) (w : World),(callFunc g_cmp vs).run Tryz.prog w = .ok (.enter g_cmp vs) w) (hp_cmp : ∀ a0 a1 r,cmp a0 a1 = some r → aL Tryz.prog g_cmp ((.list 48 (a0.map af)) :: (.list 48 (a1.map af)) :: caps_cmp) (ai r)) (r : Rz) (H : cu data a b cmp = some r) :
  PH Tryz.prog 129 [(.own 0 g_data (data.map (al 48 af)).length),(ai a),(ai b),(.fn g_cmp caps_cmp)] ⟨fun _=>none,upd (fun _=>none) 0 (some ⟨g_data,57,(data.map (al 48 af)),true⟩)⟩ (fun u H=>u = (.tup []) ∧ H = ⟨fun _=>none,upd (fun _=>none) 0 (some ⟨g_data,57,(r.map (al 48 af)),true⟩)⟩) := by
 unfold cu at H
 refine PH.ax Tryz.func129 Tryz.ntmps129 ?_
 refine am 3 tk rfl ?_
 obtain ⟨fl1,H1,Hp1⟩ := au H
 refine dM (τ := Rz × Int) (γ := Unit) (fun s1 g1=>⟨53,upd (fun _=>.any) 0 (.own 0 g_data (s1.1.map (al 48 af)).length),fun _=>none,upd (fun _=>none) 0 (some ⟨g_data,57,(s1.1.map (al 48 af)),true⟩)⟩) (fun t=>fl1 = .next t) ?_ (fun s1 g1 hn1=>?_)
 ·refine av ?_
  refine gN (fun s1 g1=>⟨53,upd (upd (upd (upd (upd (fun _=>.any) 8 (ai s1.2)) 3 (.fn g_cmp caps_cmp)) 2 (ai b)) 1 (ai a)) 0 (.own 0 g_data (s1.1.map (al 48 af)).length),fun _=>none,upd (fun _=>none) 0 (some ⟨g_data,57,(s1.1.map (al 48 af)),true⟩)⟩) () H1 Gh.d (fun m1 s1 g1 hr1=>?_)
  obtain ⟨fb1,H,hg1⟩ := fv hr1
  refine ab (am 3 tk rfl ?_)
  refine aM rfl H (fun H=>?_) (fun H=>?_)
  ·refine ao (ab (av (am 2 tk rfl ?_)))
   obtain ⟨fl22,H22,Hp22⟩ := au H
   refine dM (τ := Rz × Int) (γ := Unit) (fun s22 g22=>⟨53,upd (upd (upd (upd (upd (fun _=>.any) 8 (ai s1.2)) 3 (.fn g_cmp caps_cmp)) 2 (ai b)) 1 (ai a)) 0 (.own 0 g_data (s22.1.map (al 48 af)).length),fun _=>none,upd (fun _=>none) 0 (some ⟨g_data,57,(s22.1.map (al 48 af)),true⟩)⟩) (fun t=>fl22 = .next t) ?_ (fun s22 g22 hn22=>?_)
   ·refine av ?_
    refine gN (fun s22 g22=>⟨53,upd (upd (upd (upd (upd (upd (fun _=>.any) 9 (ai s22.2)) 8 (ai s1.2)) 3 (.fn g_cmp caps_cmp)) 2 (ai b)) 1 (ai a)) 0 (.own 0 g_data (s22.1.map (al 48 af)).length),fun _=>none,upd (fun _=>none) 0 (some ⟨g_data,57,(s22.1.map (al 48 af)),true⟩)⟩) () H22 Gh.d (fun m22 s22 g22 hr22=>?_)
    obtain ⟨fb22,H,hg22⟩ := fv hr22
    refine ab (ab ?_)
    refine fS (γ := Unit) (fun t29 g29=>⟨53,upd (upd (upd (upd (upd (upd (upd (fun _=>.any) 34 (ay t29.2)) 9 (ai s22.2)) 8 (ai s1.2)) 3 (.fn g_cmp caps_cmp)) 2 (ai b)) 1 (ai a)) 0 (.own 0 g_data (t29.1.map (al 48 af)).length),fun _=>none,upd (fun _=>none) 0 (some ⟨g_data,57,(t29.1.map (al 48 af)),true⟩)⟩) H (fun _ H=>?_) (fun t29 g29 H=>?_)
    ·refine jA (tag := 0) rfl (fun ho0=>?_)
     refine bo tk mok ⟨false,true,[]⟩ [0,1,2,3,4,5,6,7,8,9,10,11,12,13,14,15,16] rfl (by decide +kernel) rfl (aW 4 rfl ?_)
     refine mR H (fun H=>?_) (fun H=>?_)
     ·refine aW 3 rfl ?_
      obtain ⟨x25,k25,H⟩ := bq H
      refine dk tk ⟨k25.1,(cE k25.2)⟩ (cN ho0 k25.2) ?_
      refine eK tk (aO (fun _=>rfl) k25.2) ?_
      refine aW 3 rfl ?_
      obtain ⟨x30,k30,H⟩ := bq H
      refine dk tk ⟨k30.1,(cE k30.2)⟩ (cN ho0 k30.2) ?_
      refine eK tk (aO (fun _=>rfl) k30.2) ?_
      obtain ⟨x32,h32,H⟩ := au H
      refine aZ hg_cmp (gK.r) (hp_cmp _ _ _ h32) ?_
      refine aW 2 rfl (bn ?_)
      refine be _ () (aA H) Gh.d
     refine aW 13 rfl (bn ?_)
     refine be _ () (aA H) Gh.d
    refine aM rfl H (fun H=>?_) (fun H=>?_)
    ·refine ao (ab (av ?_))
     refine jA (tag := 0) rfl (fun ho0=>?_)
     refine bo tk mok ⟨false,true,[]⟩ [0,1,2,3,4,5,6,7,8,9,10,11,12,13,14,15,16,17] rfl (by decide +kernel) rfl (aW 8 rfl ?_)
     obtain ⟨x45,k45,H⟩ := bq H
     refine dk tk ⟨k45.1,(cE k45.2)⟩ (cN ho0 k45.2) ?_
     refine eK tk (aO (fun _=>rfl) k45.2) ?_
     refine aW 2 rfl ?_
     obtain ⟨x49,k49,H⟩ := bq H
     refine dk tk ⟨k49.1,(cE k49.2)⟩ (cN ho0 k49.2) ?_
     refine eK tk (aO (fun _=>rfl) k49.2) ?_
     obtain ⟨x51,k51,H⟩ := bq H
     refine dk tk ⟨k51.1,(cE k51.2)⟩ (cN ho0 k51.2) ?_
     obtain ⟨y30,hy30,H⟩ := cL H
     refine iX tk rfl rfl rfl rfl rfl rfl rfl rfl rfl (by rw [zl]; exact (zg.1 k51.2).1) (PLe.refl _ _) rfl rfl rfl rfl (by decide) (dC (fun _=>rfl) k51.2 rfl hy30) ?_
     obtain ⟨x52,k52,H⟩ := bq H
     refine dk tk ⟨k52.1,(re (dz (f := (al 48 af)) hy30) k52.2)⟩ (qW ho0 (dz (f := (al 48 af)) hy30) k52.2) ?_
     obtain ⟨y31,hy31,H⟩ := cL H
     refine iX tk rfl rfl rfl rfl rfl rfl rfl rfl rfl (by rw [zl]; exact (zg.1 k52.2).1) (PLe.refl _ _) rfl rfl rfl rfl (by decide) (dC (fun _=>rfl) k52.2 rfl hy31) ?_
     refine bn (aG (bc 3 tk rfl ?_))
     obtain rfl := aA H
     refine eg (y31,(IntKind.i64.wrap (s22.2 - (1 : Int)))) () hg22 (Gh.le (bs (PLe.of2 (lA.of_eq (congrArg (PV.own 0 g_data) ((dz (f := (al 48 af)) hy30).trans (dz (f := (al 48 af)) hy31))))) (ap (ap (ap (ap (ap aT)))))) aI (aP aJ))
    refine bm rfl ?_
    obtain rfl := aA H
    refine be (t29.1,s22.2) () hg22 Gh.d
   have H := ci hn22 Hp22
   refine aG (bc 3 tk rfl ?_)
   obtain rfl := aA H
   refine eg (s22.1,(IntKind.i64.wrap (s1.2 + (1 : Int)))) () hg1 Gh.d
  refine bm rfl ?_
  obtain rfl := aA H
  refine be (s1.1,s1.2) () hg1 Gh.d
 have H := ci hn1 Hp1
 obtain rfl := aA H
 refine eh (st' := ⟨53,fun _=>.any,fun _=>none,upd (fun _=>none) 0 (some ⟨g_data,57,(s1.1.map (al 48 af)),true⟩)⟩) (Gh.le aT aI (aP aJ)) ?_
 refine mh rfl (PLe.q rfl) ⟨rfl,rfl⟩
def co (data : Rz) (a : Int) (b : Int) (n : Int) (_cmp : Rq → Rq → Option (Int)) : Option (Rz) :=
 ae (fJ (σ := Rz × Int) (ρ := Empty) (fun (s1 : Rz × Int) =>
  cond (decide (s1.2 < n))
   (ae (aK s1.1 (IntKind.i64.wrap (b + s1.2))) fun (x28 : Rq) =>
   ae (aK s1.1 (IntKind.i64.wrap (a + s1.2))) fun (x34 : Rq) =>
   ae (aK s1.1 (IntKind.i64.wrap (a + s1.2))) fun (_ : Rq) =>
   br (s1.1.set ((IntKind.i64.wrap (a + s1.2)).toNat) x28) fun (y6 : Rz) =>
   ae (aK y6 (IntKind.i64.wrap (b + s1.2))) fun (_ : Rq) =>
   br (y6.set ((IntKind.i64.wrap (b + s1.2)).toNat) x34) fun (y7 : Rz) =>
   some (.next (y7,(IntKind.i64.wrap (s1.2 + (1 : Int))))))
   (some (.brk (s1.1,s1.2)))) (data,0)) fun fl1=>fl1.thenP fun (s1 : Rz × Int) =>
 some s1.1
theorem gn (g_data : OwnRef) {g_cmp : FuncId} {caps_cmp : List PV} (data : Rz) (a : Int) (b : Int) (n : Int) (cmp : Rq → Rq → Option (Int)) (_hg_cmp : ∀ (vs : Array Value) (w : World),(callFunc g_cmp vs).run Tryz.prog w = .ok (.enter g_cmp vs) w) (_hp_cmp : ∀ a0 a1 r,cmp a0 a1 = some r → aL Tryz.prog g_cmp ((.list 48 (a0.map af)) :: (.list 48 (a1.map af)) :: caps_cmp) (ai r)) (r : Rz) (H : co data a b n cmp = some r) :
  PH Tryz.prog 142 [(.own 0 g_data (data.map (al 48 af)).length),(ai a),(ai b),(ai n),(.fn g_cmp caps_cmp)] ⟨fun _=>none,upd (fun _=>none) 0 (some ⟨g_data,57,(data.map (al 48 af)),true⟩)⟩ (fun u H=>u = (.tup []) ∧ H = ⟨fun _=>none,upd (fun _=>none) 0 (some ⟨g_data,57,(r.map (al 48 af)),true⟩)⟩) := by
 unfold co at H
 refine PH.ax Tryz.func142 Tryz.ntmps142 ?_
 refine am 1 tk rfl ?_
 obtain ⟨fl1,H1,Hp1⟩ := au H
 refine dM (τ := Rz × Int) (γ := Unit) (fun s1 g1=>⟨38,upd (fun _=>.any) 0 (.own 0 g_data (s1.1.map (al 48 af)).length),fun _=>none,upd (fun _=>none) 0 (some ⟨g_data,57,(s1.1.map (al 48 af)),true⟩)⟩) (fun t=>fl1 = .next t) ?_ (fun s1 g1 hn1=>?_)
 ·refine av ?_
  refine gN (fun s1 g1=>⟨38,upd (upd (upd (upd (upd (fun _=>.any) 10 (ai s1.2)) 3 (ai n)) 2 (ai b)) 1 (ai a)) 0 (.own 0 g_data (s1.1.map (al 48 af)).length),fun _=>none,upd (fun _=>none) 0 (some ⟨g_data,57,(s1.1.map (al 48 af)),true⟩)⟩) () H1 Gh.d (fun m1 s1 g1 hr1=>?_)
  obtain ⟨fb1,H,hg1⟩ := fv hr1
  refine ab (am 3 tk rfl ?_)
  refine aM rfl H (fun H=>?_) (fun H=>?_)
  ·refine ao (ab (av ?_))
   refine jA (tag := 0) rfl (fun ho0=>?_)
   refine bo tk mok ⟨false,true,[]⟩ [0,1,2,3,4,5,6,7,8,9,10,11,12,13,14,15,16,17,18,19,20,21,22,23] rfl (by decide +kernel) rfl (aW 12 rfl ?_)
   obtain ⟨x28,k28,H⟩ := bq H
   refine dk tk ⟨k28.1,(cE k28.2)⟩ (cN ho0 k28.2) ?_
   refine eK tk (aO (fun _=>rfl) k28.2) ?_
   refine aW 4 rfl ?_
   obtain ⟨x34,k34,H⟩ := bq H
   refine dk tk ⟨k34.1,(cE k34.2)⟩ (cN ho0 k34.2) ?_
   refine eK tk (aO (fun _=>rfl) k34.2) ?_
   obtain ⟨x36,k36,H⟩ := bq H
   refine dk tk ⟨k36.1,(cE k36.2)⟩ (cN ho0 k36.2) ?_
   obtain ⟨y6,hy6,H⟩ := cL H
   refine iX tk rfl rfl rfl rfl rfl rfl rfl rfl rfl (by rw [zl]; exact (zg.1 k36.2).1) (PLe.refl _ _) rfl rfl rfl rfl (by decide) (dC (fun _=>rfl) k36.2 rfl hy6) ?_
   obtain ⟨x37,k37,H⟩ := bq H
   refine dk tk ⟨k37.1,(re (dz (f := (al 48 af)) hy6) k37.2)⟩ (qW ho0 (dz (f := (al 48 af)) hy6) k37.2) ?_
   obtain ⟨y7,hy7,H⟩ := cL H
   refine iX tk rfl rfl rfl rfl rfl rfl rfl rfl rfl (by rw [zl]; exact (zg.1 k37.2).1) (PLe.refl _ _) rfl rfl rfl rfl (by decide) (dC (fun _=>rfl) k37.2 rfl hy7) ?_
   refine bn (aG (bc 3 tk rfl ?_))
   obtain rfl := aA H
   refine eg (y7,(IntKind.i64.wrap (s1.2 + (1 : Int)))) () hg1 (Gh.le (bs (PLe.of2 (lA.of_eq (congrArg (PV.own 0 g_data) ((dz (f := (al 48 af)) hy6).trans (dz (f := (al 48 af)) hy7))))) (ap (ap (ap (ap aT))))) aI (aP aJ))
  refine bm rfl ?_
  obtain rfl := aA H
  refine be (s1.1,s1.2) () hg1 Gh.d
 have H := ci hn1 Hp1
 obtain rfl := aA H
 refine eh (st' := ⟨38,fun _=>.any,fun _=>none,upd (fun _=>none) 0 (some ⟨g_data,57,(s1.1.map (al 48 af)),true⟩)⟩) (Gh.le aT aI (aP aJ)) ?_
 refine mh rfl (PLe.q rfl) ⟨rfl,rfl⟩
def kf (rec29 : LQuery → Int → Option (Int)) (q : LQuery) (most : Int) : Option (Int) :=
 ae (aD (σ := Int) (ρ := Empty) (fun (_ : Nat) (x1 : LExpr) (s1 : Int) =>
  br (jg x1 (IntKind.i64.wrap (s1 - (1 : Int)))) fun x23 =>
  some (.next x23)) 0 q.exprs most) fun fl1=>fl1.thenP fun (s1 : Int) =>
 ae (aD (σ := Int) (ρ := Empty) (fun (_ : Nat) (x2 : LAggregateCall) (s2 : Int) =>
  ae (aD (σ := Int) (ρ := Empty) (fun (_ : Nat) (x5 : LExpr) (s5 : Int) =>
   br (jg x5 (IntKind.i64.wrap (s5 - (1 : Int)))) fun x42 =>
   some (.next x42)) 0 x2.args s2) fun fl5=>fl5.thenP fun (s5 : Int) =>
  some (.next s5)) 0 q.aggregates s1) fun fl2=>fl2.thenP fun (s2 : Int) =>
 ae (aD (σ := Int) (ρ := (Int)) (fun (_ : Nat) (x6 : LQuery) (s6 : Int) =>
  cond (decide (s6 < (0 : Int)))
   (some (.ret (-1)))
   (ae (rec29 x6 (IntKind.i64.wrap (s6 - (1 : Int)))) fun x57 =>
   some (.next x57))) 0 q.inputs s2) fun fl6=>fl6.thenR fun (s6 : Int) =>
 some s6
theorem rr (rec29 : LQuery → Int → Option (Int)) (hrec29 : ∀ a0 a1 r,rec29 a0 a1 = some r → aL Tryz.prog 29 [(.agg (aw a0)),(ai a1)] (ai r)) (q : LQuery) (most : Int) (r : Int) (H : kf rec29 q most = some r) :
  aL Tryz.prog 29 [(.agg (aw q)),(ai most)] (ai r) := by
 unfold kf at H
 refine PH.ax Tryz.func29 Tryz.ntmps29 ?_
 refine ab (aa (aH ?_))
 refine ah tk rfl (ac (ab (ab (aa (ag 2 tk rfl (az tk (zl _) ?_))))))
 refine ah tk rfl (ac ?_)
 refine fg tk 16 15 14 (fun s1 g1=>upd (upd (fun _=>.any) 2 (.ptr (aw q))) 1 (ai s1)) nB nO () H (fun fl1 Hp1 j1 s1 g1 hz1 hl1 x1 fb1 hx1 H hg1=>?_) (fun s1 g1 H=>?_)
 ·refine ab (av (ab (aa (aU tk (zn j1) (bl bP hx1) ?_))))
  refine ah tk rfl ?_
  refine aN tk fun b6=>?_
  refine ak tk ?_
  refine ac (aa (aq tk ?_))
  refine ag 2 tk rfl ?_
  obtain ⟨x23,h23,H⟩ := cL H
  have s23 := pW x1 (IntKind.i64.wrap (s1 - (1 : Int)))
  rw [h23] at s23
  refine aj Tryz.call41 (gK.r) s23 ?_
  refine ah tk rfl (ac (aG (bc 2 tk rfl ?_)))
  exact bg () H hl1 hg1
 refine ab (ab (aa (ag 2 tk rfl (az tk (zl _) ?_))))
 refine ah tk rfl (ac ?_)
 refine fg tk 28 27 26 (fun s2 g2=>upd (upd (fun _=>.any) 2 (.ptr (aw q))) 1 (ai s2)) nB nO () H (fun fl2 Hp2 j2 s2 g2 hz2 hl2 x2 fb2 hx2 H hg2=>?_) (fun s2 g2 H=>?_)
 ·refine ab (av (ab (aa ?_)))
  refine aU tk (zn j2) (bl (fun _=>rfl) hx2) ?_
  refine ah tk rfl ?_
  refine aN tk fun b8=>?_
  refine ak tk ?_
  refine ac (ab (aa (ah tk rfl (aq tk ?_))))
  refine az tk (zl _) ?_
  refine ah tk rfl (ac ?_)
  refine fg tk 35 34 33 (fun s5 g5=>upd (upd (upd (upd (upd (fun _=>.any) 28 (ai (j2 : Int))) 27 (ai (q.aggregates.length : Int))) 26 (.list 70 (q.aggregates.map bT))) 2 (.ptr (aw q))) 1 (ai s5)) nB nO () H (fun fl5 Hp5 j5 s5 g5 hz5 hl5 x5 fb5 hx5 H hg5=>?_) (fun s5 g5 H=>?_)
  ·refine ab (av (ab (aa (aU tk (zn j5) (bl bP hx5) ?_))))
   refine ah tk rfl ?_
   refine aN tk fun b10=>?_
   refine ak tk ?_
   refine ac (aa (aq tk ?_))
   refine ag 2 tk rfl ?_
   obtain ⟨x42,h42,H⟩ := cL H
   have s42 := pW x5 (IntKind.i64.wrap (s5 - (1 : Int)))
   rw [h42] at s42
   refine aj Tryz.call41 (gK.r) s42 ?_
   refine ah tk rfl (ac (aG (bc 2 tk rfl ?_)))
   exact bg () H hl5 hg5
  refine aG (bc 2 tk rfl ?_)
  exact bg () H hl2 hg2
 refine ab (ab (aa (ag 2 tk rfl (az tk (zl _) ?_))))
 refine ah tk rfl (ac ?_)
 refine ez tk 48 47 46 (fun s6 g6=>upd (fun _=>.any) 1 (ai s6)) nB nO () H (fun fl6 Hp6 j6 s6 g6 hz6 hl6 x6 fb6 hx6 H hg6=>?_) (fun s6 g6 H=>?_)
 ·refine ab (av (ab (aa (aU tk (zn j6) (bl bA hx6) ?_))))
  refine ah tk rfl ?_
  refine aN tk fun b12=>?_
  refine ak tk ?_
  refine ac (ab (am 2 tk rfl ?_))
  refine aM rfl H (fun H=>?_) (fun H=>?_)
  ·refine am 1 tk rfl ?_
   obtain rfl := aA H
   have e6 : fl6 = .ret _ := hg6
   subst e6
   obtain rfl := aY Hp6
   refine bj tk rfl (ps := [(ai (-1))]) ⟨_,_,rfl,rfl,rfl⟩ (PLe.q rfl)
  refine ao (aa (aq tk ?_))
  refine ag 2 tk rfl ?_
  obtain ⟨x57,h57,H⟩ := au H
  have s57 := hrec29 x6 (IntKind.i64.wrap (s6 - (1 : Int))) _ h57
  refine aj Tryz.call29 (gK.r) s57 ?_
  refine ah tk rfl (ac (aG (bc 2 tk rfl ?_)))
  exact bg () H hl6 hg6
 refine am 2 tk rfl ?_
 exact aS tk H rfl
def gr : Nat → LQuery → Int → Option (Int)
 | 0,_,_=>none
 | n + 1,v0,v1=>kf (fun b0 b1=>gr n b0 b1) v0 v1
theorem rp  (n : Nat) : (∀ a0 a1 r,gr n a0 a1 = some r → aL Tryz.prog 29 [(.agg (aw a0)),(ai a1)] (ai r)) := by
 induction n with
 | zero=>exact (by intros; rename_i h; exact absurd (show (none : Option _) = some _ from h) (by simp))
 | succ n ih =>
  exact (fun v0 v1 r h=>rr (fun b0 b1=>gr n b0 b1) ih v0 v1  r h)
def lF (q : LQuery) (most : Int) : Option (Int) := ik fun n=>gr n q most
theorem rP (q : LQuery) (most : Int) (r : Int) (H : lF q most = some r) :
  aL Tryz.prog 29 [(.agg (aw q)),(ai most)] (ai r) := by
 obtain ⟨n,h⟩ := gX H
 exact (rp  n) q most r h
def fK (sA : List UInt8) : Option (Bool) :=
 ae (
  cond (decide ((sA.length : Int) < (1 : Int)))
   (some true)
   (cond (decide ((sA.length : Int) > (12 : Int)))
    (some true)
    (ae (aK sA 0) fun (x15 : UInt8) =>
    cond (decide ((x15.toNat : Int) ≥ (48 : Int)))
     (ae (aK sA 0) fun (x19 : UInt8) =>
     some (decide ((x19.toNat : Int) ≤ (57 : Int))))
     (some false)))) fun (t1 : Bool) =>
 cond t1
  (some false)
  (ae (fe (sA.length ≤ 2 ^ 47) ()) fun (_ : Unit) =>
  ae (aD (σ := Unit) (ρ := (Bool)) (fun (_ : Nat) (x2 : UInt8) (_ : Unit) =>
   cond (decide ((x2.toNat : Int) < (97 : Int)))
    (cond (decide ((x2.toNat : Int) < (48 : Int)))
     (some (.ret false))
     (cond (decide ((x2.toNat : Int) > (57 : Int)))
      (some (.ret false))
      (some (.next ()))))
    (cond (decide ((x2.toNat : Int) > (122 : Int)))
     (cond (decide ((x2.toNat : Int) < (48 : Int)))
      (some (.ret false))
      (cond (decide ((x2.toNat : Int) > (57 : Int)))
       (some (.ret false))
       (some (.next ()))))
     (some (.next ())))) 0 sA ()) fun fl2=>fl2.thenR fun (_ : Unit) =>
  some true)
theorem mV (sA : List UInt8) (r : Bool) (H : fK sA = some r) :
  aL Tryz.prog 70 [(.str sA)] (ay r) := by
 unfold fK at H
 refine PH.ax Tryz.func70 Tryz.ntmps70 ?_
 refine am 1 tk rfl (ab (ab ?_))
 refine fS (γ := Unit) (fun t1 g1=>⟨45,upd (upd (fun _=>.any) 22 (ay t1)) 0 (.str sA),fun _=>none,fun _=>none⟩) H (fun _ H=>?_) (fun t1 g1 H=>?_)
 ·refine aa (ag 4 tk rfl ?_)
  refine aV rfl rfl rfl H (fun H=>?_) (fun H=>?_)
  ·refine ag 14 tk rfl (ac ?_)
   refine be _ () (aA H) Gh.d
  refine ag 5 tk rfl ?_
  refine aV rfl rfl rfl H (fun H=>?_) (fun H=>?_)
  ·refine ag 9 tk rfl (ac ?_)
   refine be _ () (aA H) Gh.d
  refine ah tk rfl ?_
  obtain ⟨x15,k15,H⟩ := bq H
  refine sm tk rfl rfl rfl rfl rfl rfl k15.1 k15.2 rfl (ag 2 tk rfl ?_)
  refine aV rfl rfl rfl H (fun H=>?_) (fun H=>?_)
  ·refine ah tk rfl ?_
   obtain ⟨x19,k19,H⟩ := bq H
   refine sm tk rfl rfl rfl rfl rfl rfl k19.1 k19.2 rfl (ag 3 tk rfl (ac ?_))
   refine be _ () (aA H) Gh.d
  refine ag 5 tk rfl (ac ?_)
  refine be _ () (aA H) Gh.d
 refine aM rfl H (fun H=>?_) (fun H=>?_)
 ·refine am 1 tk rfl ?_
  exact aS tk H rfl
 refine ao (ab (ab (aa (ah tk rfl ?_))))
 obtain ⟨_,h24,H⟩ := au H
 refine Ao.s2b (xs := sA) tk rfl rfl rfl rfl rfl rfl rfl rfl rfl rfl rfl (dH h24).1 rfl (az tk (zl _) ?_)
 refine ah tk rfl (ac ?_)
 refine ez tk 26 25 24 (fun s2 g2=>fun _=>.any) nB nO () H (fun fl2 Hp2 j2 s2 g2 hz2 hl2 x2 fb2 hx2 H hg2=>?_) (fun s2 g2 H=>?_)
 ·refine ab (av (ab (aa ?_)))
  refine aU tk (zn j2) (bl (fun _=>rfl) hx2) ?_
  refine ag 2 tk rfl (ac (ab (aa (ag 3 tk rfl ?_))))
  refine aV rfl rfl rfl H (fun H=>?_) (fun H=>?_)
  ·refine ag 7 tk rfl ?_
   refine aV rfl rfl rfl H (fun H=>?_) (fun H=>?_)
   ·refine ag 4 tk rfl (ac (bU rfl (am 1 tk rfl ?_)))
    obtain rfl := aA H
    have e2 : fl2 = .ret _ := hg2
    subst e2
    obtain rfl := aY Hp2
    refine bj tk rfl (ps := [(ay false)]) ⟨_,_,rfl,rfl,rfl⟩ (PLe.q rfl)
   refine ag 4 tk rfl (ac ?_)
   refine aM rfl H (fun H=>?_) (fun H=>?_)
   ·refine am 1 tk rfl ?_
    obtain rfl := aA H
    have e2 : fl2 = .ret _ := hg2
    subst e2
    obtain rfl := aY Hp2
    refine bj tk rfl (ps := [(ay false)]) ⟨_,_,rfl,rfl,rfl⟩ (PLe.q rfl)
   refine ao (aG (bc 2 tk rfl ?_))
   exact bg () H hl2 hg2
  refine ag 4 tk rfl ?_
  refine aV rfl rfl rfl H (fun H=>?_) (fun H=>?_)
  ·refine ag 3 tk rfl ?_
   refine aV rfl rfl rfl H (fun H=>?_) (fun H=>?_)
   ·refine ag 4 tk rfl (ac (bU rfl (am 1 tk rfl ?_)))
    obtain rfl := aA H
    have e2 : fl2 = .ret _ := hg2
    subst e2
    obtain rfl := aY Hp2
    refine bj tk rfl (ps := [(ay false)]) ⟨_,_,rfl,rfl,rfl⟩ (PLe.q rfl)
   refine ag 4 tk rfl (ac ?_)
   refine aM rfl H (fun H=>?_) (fun H=>?_)
   ·refine am 1 tk rfl ?_
    obtain rfl := aA H
    have e2 : fl2 = .ret _ := hg2
    subst e2
    obtain rfl := aY Hp2
    refine bj tk rfl (ps := [(ay false)]) ⟨_,_,rfl,rfl,rfl⟩ (PLe.q rfl)
   refine ao (aG (bc 2 tk rfl ?_))
   exact bg () H hl2 hg2
  refine ag 7 tk rfl (ac (bB rfl (ao (aG (bc 2 tk rfl ?_)))))
  exact bg () H hl2 hg2
 refine am 1 tk rfl ?_
 exact aS tk H rfl
def dQ (c : LCol) (c0 : List UInt8) : Bool :=
 (c.name == c0)
theorem pw (c : LCol) (c0 : List UInt8) :
  aL Tryz.prog 96 [(.agg (aR c)),(.ptr [(.str c0)])] (ay (dQ c c0)) := by
 obtain ⟨r,H⟩ : ∃ r,dQ c c0 = r := ⟨_,rfl⟩
 rw [H]
 unfold dQ at H
 refine PH.ax Tryz.func96 Tryz.ntmps96 ?_
 refine ab (aa (aH ?_))
 refine ah tk rfl (ac (am 5 tk rfl ?_))
 exact et tk H rfl
def dc (t : LTable) (c0 : List UInt8) : Bool :=
 (t.name == c0)
theorem qb (t : LTable) (c0 : List UInt8) :
  aL Tryz.prog 98 [(.agg (cP t)),(.ptr [(.str c0)])] (ay (dc t c0)) := by
 obtain ⟨r,H⟩ : ∃ r,dc t c0 = r := ⟨_,rfl⟩
 rw [H]
 unfold dc at H
 refine PH.ax Tryz.func98 Tryz.ntmps98 ?_
 refine ab (aa (aH ?_))
 refine ah tk rfl (ac (am 5 tk rfl ?_))
 exact et tk H rfl
def fT (s1A : List Int) (s2A : List Int) : Option (Bool) :=
 cond ((s1A.length : Int) != (s2A.length : Int))
  (some false)
  (ae (aD (σ := Unit) (ρ := (Bool)) (fun (j1 : Nat) (x1 : Int) (_ : Unit) =>
   ae (aK s2A (j1 : Int)) fun (x22 : Int) =>
   cond (x1 != x22)
    (some (.ret false))
    (some (.next ()))) 0 s1A ()) fun fl1=>fl1.thenR fun (_ : Unit) =>
  some true)
theorem oA (s1A : List Int) (s2A : List Int) (r : Bool) (H : fT s1A s2A = some r) :
  aL Tryz.prog 74 [(.list 3 (s1A.map bS)),(.list 3 (s2A.map bS))] (ay r) := by
 unfold fT at H
 refine PH.ax Tryz.func74 Tryz.ntmps74 ?_
 refine am 1 tk rfl (ab (ab (aa (ah tk rfl (az tk (zl _) ?_)))))
 refine ah tk rfl (az tk (zl _) ?_)
 refine ah tk rfl (ac ?_)
 refine aM rfl H (fun H=>?_) (fun H=>?_)
 ·refine am 1 tk rfl ?_
  exact aS tk H rfl
 refine ao (ab (ab (aa (ah tk rfl (az tk (zl _) ?_)))))
 refine ah tk rfl (ac ?_)
 refine ez tk 13 12 0 (fun s1 g1=>upd (fun _=>.any) 1 (.list 3 (s2A.map bS))) nB nO () H (fun fl1 Hp1 j1 s1 g1 hz1 hl1 x1 fb1 hx1 H hg1=>?_) (fun s1 g1 H=>?_)
 ·refine ab (av (am 2 tk rfl (ab (bo tk mok ⟨false,false,[]⟩ [0,1,2,3,4,5,6,7,8] rfl (by decide +kernel) rfl (aW 2 rfl ?_)))))
  refine bK (zn j1) (bl (fun _=>rfl) hx1) ?_
  refine aW 3 rfl ?_
  obtain ⟨x22,k22,H⟩ := bq H
  refine bK k22.1 (aO (fun _=>rfl) k22.2) ?_
  refine aW 2 rfl (bn ?_)
  refine aM rfl H (fun H=>?_) (fun H=>?_)
  ·refine am 1 tk rfl ?_
   obtain rfl := aA H
   have e1 : fl1 = .ret _ := hg1
   subst e1
   obtain rfl := aY Hp1
   refine bj tk rfl (ps := [(ay false)]) ⟨_,_,rfl,rfl,rfl⟩ (PLe.q rfl)
  refine ao (aG (bc 2 tk rfl ?_))
  exact bg () H hl1 hg1
 refine am 1 tk rfl ?_
 exact aS tk H rfl
def cG (sA : List LForeignKey) (f : LForeignKey → Option (Bool)) : Option (Int) :=
 ae (aD (σ := Unit) (ρ := (Int)) (fun (j1 : Nat) (x1 : LForeignKey) (_ : Unit) =>
  ae (f x1) fun x16 =>
  cond x16
   (some (.ret (j1 : Int)))
   (some (.next ()))) 0 sA ()) fun fl1=>fl1.thenR fun (_ : Unit) =>
 some (-1)
theorem jb {g_f : FuncId} {caps_f : List PV} (sA : List LForeignKey) (f : LForeignKey → Option (Bool)) (hg_f : ∀ (vs : Array Value) (w : World),(callFunc g_f vs).run Tryz.prog w = .ok (.enter g_f vs) w) (hp_f : ∀ a0 r,f a0 = some r → aL Tryz.prog g_f ((.agg (jz a0)) :: caps_f) (ay r)) (r : Int) (H : cG sA f = some r) :
  aL Tryz.prog 73 [(.list 101 (sA.map jz)),(.fn g_f caps_f)] (ai r) := by
 unfold cG at H
 refine PH.ax Tryz.func73 Tryz.ntmps73 ?_
 refine am 1 tk rfl (ab (ab (aa (ah tk rfl (az tk (zl _) ?_)))))
 refine ah tk rfl (ac ?_)
 refine ez tk 8 7 0 (fun s1 g1=>upd (fun _=>.any) 1 (.fn g_f caps_f)) nB nO () H (fun fl1 Hp1 j1 s1 g1 hz1 hl1 x1 fb1 hx1 H hg1=>?_) (fun s1 g1 H=>?_)
 ·refine ab (av (am 2 tk rfl (ab (aa (ag 3 tk rfl ?_)))))
  refine aU tk (zn j1) (bl (fun _=>rfl) hx1) ?_
  refine ah tk rfl ?_
  obtain ⟨x16,h16,H⟩ := au H
  refine aj hg_f (gK.r) (hp_f _ _ h16) ?_
  refine ac ?_
  refine aM rfl H (fun H=>?_) (fun H=>?_)
  ·refine am 2 tk rfl ?_
   obtain rfl := aA H
   have e1 : fl1 = .ret _ := hg1
   subst e1
   obtain rfl := aY Hp1
   refine bj tk rfl (ps := [(ai (j1 : Int))]) ⟨_,_,rfl,rfl,rfl⟩ (PLe.q rfl)
  refine ao (aG (bc 2 tk rfl ?_))
  exact bg () H hl1 hg1
 refine am 1 tk rfl ?_
 exact aS tk H rfl
def cY (sA : List LConstraint) (v : LConstraint) : Option (Int) :=
 ae (aD (σ := Unit) (ρ := (Int)) (fun (j1 : Nat) (x1 : LConstraint) (_ : Unit) =>
  cond (v.table == x1.table && (v.left == x1.left && (v.op == x1.op && (v.right == x1.right && ((v.value.kind == x1.value.kind && (v.value.int == x1.value.int && (v.value.text == x1.value.text && true))) && true)))))
   (some (.ret (j1 : Int)))
   (some (.next ()))) 0 sA ()) fun fl1=>fl1.thenR fun (_ : Unit) =>
 some (-1)
theorem jC (sA : List LConstraint) (v : LConstraint) (r : Int) (H : cY sA v = some r) :
  aL Tryz.prog 76 [(.list 107 (sA.map kB)),(.agg (kB v))] (ai r) := by
 unfold cY at H
 refine PH.ax Tryz.func76 Tryz.ntmps76 ?_
 refine ab (aa (aH ?_))
 refine ah tk rfl (ac (ab (ab (aa (ah tk rfl (az tk (zl _) ?_))))))
 refine ah tk rfl (ac ?_)
 refine ez tk 8 7 0 (fun s1 g1=>upd (fun _=>.any) 3 (.ptr (kB v))) nB nO () H (fun fl1 Hp1 j1 s1 g1 hz1 hl1 x1 fb1 hx1 H hg1=>?_) (fun s1 g1 H=>?_)
 ·refine ab (av (am 2 tk rfl (ab (bo tk mok ⟨false,false,[]⟩ [0,1,2,3,4,5] rfl (by decide +kernel) rfl (aW 3 rfl ?_)))))
  refine bK (zn j1) (bl (fun _=>rfl) hx1) ?_
  refine bt rfl (sS (b := (v.table == x1.table && (v.left == x1.left && (v.op == x1.op && (v.right == x1.right && ((v.value.kind == x1.value.kind && (v.value.int == x1.value.int && (v.value.text == x1.value.text && true))) && true)))))) tk rfl rfl rfl rfl rfl Tryz.stoodInHeld107 Tryz.eqGuardType107 (eqf := [(9,0),(3,1),(9,2),(3,3),(48,4)]) (by simp [eu,Program.fieldsOf,Tryz.underlying107]) (by kernel_rfl) rfl rfl (bn ?_))
  refine aM rfl H (fun H=>?_) (fun H=>?_)
  ·refine am 2 tk rfl ?_
   obtain rfl := aA H
   have e1 : fl1 = .ret _ := hg1
   subst e1
   obtain rfl := aY Hp1
   refine bj tk rfl (ps := [(ai (j1 : Int))]) ⟨_,_,rfl,rfl,rfl⟩ (PLe.q rfl)
  refine ao (aG (bc 2 tk rfl ?_))
  exact bg () H hl1 hg1
 refine am 1 tk rfl ?_
 exact aS tk H rfl
theorem clone_14 {m : Nat} (xs : List (List UInt8)) : ig Tryz.prog 14 [.list 9 (xs.map cj)] (ld m 9 (xs.map cj)) := by
 refine PH.ax Tryz.func14 Tryz.ntmps14 ?_
 refine gG tk 0 rfl rfl (fun hz hb=>?_)
 refine am 1 tk rfl (ab (ab (aa (ah tk rfl ?_))))
 refine oi tk rfl rfl rfl rfl rfl rfl rfl (fun b hn=>?_)
 refine ac ?_
 refine bh rfl (fun h=>?_) (fun h=>?_)
 ·refine am 1 tk rfl (ic tk 2 902 (e := 9) rfl rfl ?_)
  refine iA tk (hn h).symm
 ·refine ao (ab (aa ?_))
  refine mz (rows' := []) tk rfl rfl rfl rfl rfl rfl rfl rfl rfl (iz.refl _) fun g=>?_
  refine ah tk rfl ?_
  refine cr (rows2' := xs.map cj) (rows' := xs.map cj) tk rfl rfl rfl rfl rfl rfl rfl rfl rfl rfl rfl rfl rfl (gP.refl _) (by simpa using hb) (by simpa using hz) rfl fun g'=>?_
  refine ah tk rfl (ac ?_)
  refine iA tk rfl
theorem clone_15 {m : Nat} (xs : List Bool) : ig Tryz.prog 15 [.list 4 (xs.map cf)] (ld m 4 (xs.map cf)) := by
 refine PH.ax Tryz.func15 Tryz.ntmps15 ?_
 refine gG tk 0 rfl rfl (fun hz hb=>?_)
 refine am 1 tk rfl (ab (ab (aa (ah tk rfl ?_))))
 refine oi tk rfl rfl rfl rfl rfl rfl rfl (fun b hn=>?_)
 refine ac ?_
 refine bh rfl (fun h=>?_) (fun h=>?_)
 ·refine am 1 tk rfl (ic tk 2 902 (e := 4) rfl rfl ?_)
  refine iA tk (hn h).symm
 ·refine ao (ab (aa ?_))
  refine mz (rows' := []) tk rfl rfl rfl rfl rfl rfl rfl rfl rfl (iz.refl _) fun g=>?_
  refine ah tk rfl ?_
  refine cr (rows2' := xs.map cf) (rows' := xs.map cf) tk rfl rfl rfl rfl rfl rfl rfl rfl rfl rfl rfl rfl rfl (gP.refl _) (by simpa using hb) (by simpa using hz) rfl fun g'=>?_
  refine ah tk rfl (ac ?_)
  refine iA tk rfl
end
end Go.Proofs.YtioonpnnfepffaaGreat
