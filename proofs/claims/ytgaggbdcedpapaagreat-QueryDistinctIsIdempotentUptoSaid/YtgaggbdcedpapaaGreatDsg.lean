/- queryDistinctIsIdempotentUpto_holds, part 7: the layer, the plain functions and what they compute; conditions as in the statement. -/
import Derived.Test.YtgaggbdcedpapaaGreatDsf
namespace Go.Proofs.YtgaggbdcedpapaaGreat
noncomputable section
open Go Go.Ab
theorem rowLen {cols : List LCol} {row : List LVal} (h : dI cols row) (hc : cols.length ≤ 20) : row.length ≤ 20 := by rw [h.1]; exact hc
theorem scan_run (st : List LRelation) (name : List UInt8) : af (aE (σ := Unit) (ρ := (Rows)) (fun (_ : Nat) (x1 : LRelation) (_ : Unit)=>cond (x1.table == name) (some (.ret x1.rows)) (some (.next ()))) 0 st ()) (fun fl1=>fl1.thenR fun (_ : Unit)=>some []) =
  some (match st.find? fun x=>x.table == name with | some x=>x.rows | none=>[]) := by
 rw [kR (fun x : LRelation=>x.table == name) (fun _ x=>x.rows) st 0 (fun k x _=>by cases x.table == name <;> rfl)]
 rcases find_idx (fun x : LRelation=>x.table == name) st with ⟨h1,h2⟩ | ⟨x,h1,h2,h3⟩
 ·rw [h1]
  unfold aL at h2
  cases hf : st.findIdx? (fun x=>x.table == name) with
  | none=>rfl
  | some i=>rw [hf] at h2; simp only at h2; omega
 ·rw [h1]
  unfold aL at h2 h3
  cases hf : st.findIdx? (fun x=>x.table == name) with
  | none=>rw [hf] at h2; simp at h2
  | some i =>
   rw [hf] at h3
   simp only [Int.toNat_natCast] at h3
   simp only [h3]
   rfl
theorem limit_run (l : Rows) (q : LQuery) (hl : l.length ≤ 1000000) (hc : 0 ≤ q.count) (ho : 0 ≤ q.offset) :
  kA l (if (l.length : Int) < q.offset then (l.length : Int) else q.offset) (IntKind.i64.wrap ((if (l.length : Int) < q.offset then (l.length : Int) else q.offset) + (if (IntKind.i64.wrap ((l.length : Int) - (if (l.length : Int) < q.offset then (l.length : Int) else q.offset))) < q.count then (IntKind.i64.wrap ((l.length : Int) - (if (l.length : Int) < q.offset then (l.length : Int) else q.offset))) else q.count))) = some (ni q l) := by
 obtain ⟨o,ho'⟩ : ∃ o : Nat,q.offset = o := ⟨q.offset.toNat,by omega⟩
 obtain ⟨c,hc'⟩ : ∃ c : Nat,q.count = c := ⟨q.count.toNat,by omega⟩
 unfold ni
 rw [ho',hc',Int.toNat_natCast,Int.toNat_natCast]
 by_cases h1 : (l.length : Int) < (o : Int)
 ·rw [if_pos h1,ba (n := (l.length : Int) - (l.length : Int)) (by omega) (by omega)]
  have e : (if (l.length : Int) - (l.length : Int) < (c : Int) then (l.length : Int) - (l.length : Int) else (c : Int)) = 0 := by split <;> omega
  rw [e,ba (by omega) (by omega),lP ⟨by omega,by omega,by omega⟩]
  congr 1
  rw [List.drop_of_length_le (by simp only [List.length_take]; omega)]
  symm
  exact List.drop_of_length_le (by simp only [List.length_take]; omega)
 ·rw [if_neg h1,ba (n := (l.length : Int) - (o : Int)) (by omega) (by omega)]
  by_cases h2 : (l.length : Int) - (o : Int) < (c : Int)
  ·rw [if_pos h2,ba (by omega) (by omega),lP ⟨by omega,by omega,by omega⟩]
   rw [Int.toNat_natCast,List.take_of_length_le (i := ((o : Int) + ((l.length : Int) - (o : Int))).toNat) (by omega),List.take_of_length_le (i := o + c) (by omega)]
  ·rw [if_neg h2,ba (by omega) (by omega),lP ⟨by omega,by omega,by omega⟩]
   rw [Int.toNat_natCast,show ((o : Int) + (c : Int)).toNat = o + c from by omega]
theorem join_run2 (r : LRun) (q : LQuery) (ca cb : List LCol) (e : LExpr) (he : aD q.exprs 0 = some e) (hee : e = e0Q q) (a b : Rows) (ha : ∀ x ∈ a,x.length ≤ 20) (hb : ∀ x ∈ b,x.length ≤ 20) (hcb : cb.length ≤ 20) (hsz : a.length * max 1 b.length ≤ 30000) (_hk : q.kind = 4 ∨ q.kind = 5) :
  af (aE (σ := List LCol × Rows) (ρ := Empty) (fun (_ : Nat) (x1 : List LVal) (s1 : List LCol × Rows) =>
  af (aE (σ := Rows × Bool) (ρ := Empty) (fun (_ : Nat) (x6 : List LVal) (s6 : Rows × Bool) =>
   af (bs ([x1,x6] : Rows)) fun x58 =>
   af (aD q.exprs 0) fun (x65 : LExpr) =>
   bc (aO r s1.1 x58) fun x62 =>
   bc (bO x62 x65) fun x67 =>
   bc (jk x67) fun x68 =>
   cond x68
    (af (cJ 24 s6.1 ([x58] : Rows)) fun (x72 : Rows) =>
    some (.next (x72,true)))
    (some (.next (s6.1,s6.2)))) 0 b (s1.2,false)) fun fl6=>fl6.thenP fun (s6 : Rows × Bool) =>
  bc (
   cond (!s6.2)
    ((q.kind == (5 : Int)))
    (false)) fun (t7 : Bool) =>
  cond t7
   (af (mF 32 (cb.length : Int)) fun (_ : Unit) =>
   af (bs ([x1,(List.replicate (cb.length : Int).toNat (LVal.mk 0 0 []))] : Rows)) fun x87 =>
   af (cJ 24 s6.1 ([x87] : Rows)) fun (x89 : Rows) =>
   some (.next (s1.1,x89)))
   (some (.next (s1.1,s6.1)))) 0 a (ca ++ cb,[])) (fun fl1=>fl1.thenP fun (s1 : List LCol × Rows)=>some s1.2) = some (iG (fK r (ca ++ cb) q) (q.kind == 5) (List.replicate cb.length .nul) a b) := by
 have hpl : ∀ k,k ≤ a.length → (iG (fK r (ca ++ cb) q) (q.kind == 5) (List.replicate cb.length .nul) (a.take k) b).length ≤ 30000 := fun k hk=>by
  have h1 := oA (fK r (ca ++ cb) q) (q.kind == 5) (List.replicate cb.length .nul) (a.take k) b
  rw [List.length_take,Nat.min_eq_left hk] at h1
  exact Nat.le_trans h1 (Nat.le_trans (Nat.mul_le_mul_right _ hk) hsz)
 rw [rMa (xs := a) (s := (ca ++ cb,[])) (fun k=>(ca ++ cb,iG (fK r (ca ++ cb) q) (q.kind == 5) (List.replicate cb.length .nul) (a.take k) b)) rfl (fun k x hkx=>by
  have hkl := (List.getElem?_eq_some_iff.1 hkx).1
  have hxm := eh hkx
  have hbl : b.length ≤ 30000 := by
   have h1 : 1 * max 1 b.length ≤ a.length * max 1 b.length := Nat.mul_le_mul_right _ (by omega)
   omega
  have h2 := hpl k (by omega)
  simp only
  rw [match_run (fK r (ca ++ cb) q) e r (ca ++ cb) q.exprs he (fun z=>by rw [hee]; rfl) x (by have := ha x hxm; omega) b _ false (fun y hy=>by have := hb y hy; omega) (by omega),bPs,bI]
  have hs : iG (fK r (ca ++ cb) q) (q.kind == 5) (List.replicate cb.length .nul) (a.take (k + 1)) b = iG (fK r (ca ++ cb) q) (q.kind == 5) (List.replicate cb.length .nul) (a.take k) b ++ padR (fK r (ca ++ cb) q) (q.kind == 5) (List.replicate cb.length .nul) x b := by
   unfold iG
   rw [List.take_add_one,hkx,List.map_append,List.flatten_append]
   simp
  rw [hs]
  simp only [br,Bool.false_or]
  have hml : (fN (fK r (ca ++ cb) q) x b).length ≤ 30000 := by unfold fN; exact Nat.le_trans (List.length_filter_le _ _) (by simpa using hbl)
  cases hm : fN (fK r (ca ++ cb) q) x b with
  | nil =>
   by_cases h5 : q.kind = 5
   ·have e5 : (q.kind == 5) = true := js h5
    simp only [e5,List.isEmpty_nil,Bool.not_true,Bool.not_false,cond_true]
    rw [growI_ok ⟨by omega,by omega,by unfold maxLen; omega⟩,bPs,concat2 x _ (by have := ha x hxm; omega) (by simp; omega),bPs]
    rw [e5] at h2
    rw [bG (by decide) (by simp at h2 ⊢; omega),bPs]
    unfold padR
    rw [if_pos ⟨rfl,hm⟩]
    simp [LVal.nul]
   ·have e5 : (q.kind == 5) = false := cw h5
    simp only [e5,List.isEmpty_nil,Bool.not_true,Bool.not_false,cond_true,cond_false]
    unfold padR
    rw [if_neg (by simp),hm]
  | cons z zs =>
   simp only [List.isEmpty_cons,Bool.not_false,Bool.not_true,cond_false]
   unfold padR
   rw [if_neg (by rw [hm]; simp),hm])]
 rw [bPs,bI,List.take_length]
theorem rows_ev {r : LRun} (hr : RunOk r) : ∀ q : LQuery,QOk r q → ∃ N,∀ n,N ≤ n → dN n r q = some (aN r q) := by
 refine LQuery.ind fun q ih h=>?_
 have hs := shape_ok (jP h.cols).1
 obtain ⟨ho,hcol⟩ := colsR_out h
 have hself := h.small.self
 have hm := (eY h.most).1
 obtain ⟨N,hN⟩ := ev_all (p := fun x n=>dN n r x = some (aN r x)) q.inputs (fun x hx=>ih x hx (h.sub hx))
 have hall : ∀ x ∈ q.inputs,RowsOk r x := fun x hx=>rows_fit hr x (h.sub hx)
 have hsz : ∀ x ∈ q.inputs,(aN r x).length ≤ 20000 := fun x hx=>by
  have h1 := (hall x hx).len
  have h2 := (eY h.most).2 x hx
  have h3 := (eY h2).1
  omega
 have hrow : ∀ x ∈ q.inputs,∀ row ∈ aN r x,row.length ≤ 20 := fun x hx row hrow=>rowLen ((hall x hx).fits row hrow) (ii _ x)
 refine ⟨N + 2,fun n hn=>?_⟩
 obtain ⟨n,rfl⟩ : ∃ k,n = k + 2 := ⟨n - 2,by omega⟩
 rw [dN]
 simp only [iC]
 have kk : q.kind = 1 ∨ q.kind = 2 ∨ q.kind = 3 ∨ q.kind = 4 ∨ q.kind = 5 ∨ q.kind = 6 ∨ q.kind = 7 ∨ q.kind = 8 ∨ q.kind = 9 ∨ q.kind = 10 := by have := hs.kind; omega
 rcases kk with k | k | k | k | k | k | k | k | k | k
 ·rw [js k,cond_true,scan_run,cX]
  unfold cO
  rw [if_pos k] <;>
   rfl
 all_goals have har := hs.arity
 all_goals rw [k] at har
 all_goals simp only [lV] at har
 ·-- filter
  obtain ⟨x,hi⟩ := one (q := q) (by simpa using har)
  have hxm : x ∈ q.inputs := by rw [hi]; simp
  have e : aN r q = (aN r x).filter (fK r (aT r x) q) := by rw [cX,hi]; unfold cO; rw [if_neg (by omega),if_neg (by omega),if_neg (by omega),if_neg (by omega),if_pos k]; rfl
  have hx := hN (n + 1) (by omega) x hxm
  rw [k,hi,e]
  simp only [aD,br]
  simp only [show ((2 : Int) == 1) = false from rfl,show ((2 : Int) == 4) = false from rfl,show ((2 : Int) == 5) = false from rfl,show ((2 : Int) == 6) = false from rfl,show ((2 : Int) == 7) = false from rfl,show ((2 : Int) == 2) = true from rfl,cond_false,cond_true,Int.le_refl,if_true,Int.toNat_zero,List.getElem?_cons_zero,bPs]
  rw [hx,bPs,jm (h.small.sub hxm),bPs]
  rw [deleteFunc_eq (aN r x) (fun a=>!fK r (aT r x) q a) _ (fun a _=>by
   unfold fX
   rw [e0_get (by rw [hs.one (.inl k)]; omega)]
   rfl) (by have := hsz x hxm; omega),bPs]
  simp
 ·-- project
  obtain ⟨x,hi⟩ := one (q := q) (by simpa using har)
  have hxm : x ∈ q.inputs := by rw [hi]; simp
  have e : aN r q = (aN r x).map fun y=>q.exprs.map fun e=>bO (aO r (aT r x) y) e := by rw [cX,hi]; unfold cO; rw [if_neg (by omega),if_neg (by omega),if_neg (by omega),if_neg (by omega),if_neg (by omega),if_pos k]; rfl
  have hx := hN (n + 1) (by omega) x hxm
  rw [k,hi,e]
  simp only [aD,br]
  simp only [show ((3 : Int) == 1) = false from rfl,show ((3 : Int) == 4) = false from rfl,show ((3 : Int) == 5) = false from rfl,show ((3 : Int) == 6) = false from rfl,show ((3 : Int) == 7) = false from rfl,show ((3 : Int) == 2) = false from rfl,show ((3 : Int) == 3) = true from rfl,cond_false,cond_true,Int.le_refl,if_true,Int.toNat_zero,List.getElem?_cons_zero,bPs]
  rw [hx,bPs,jm (h.small.sub hxm),bPs]
  rw [nv (xs := aN r x) (fun y=>q.exprs.map fun e=>bO (aO r (aT r x) y) e) (fun i y hy=>by
   have hil := (List.getElem?_eq_some_iff.1 hy).1
   have := hsz x hxm
   rw [nw r _ _ _ (by omega),bPs,bG (by decide) (by simp; omega),bPs]),bPs,bI]
 ·-- inner join
  obtain ⟨x,y,hi⟩ := two (q := q) (by simpa using har)
  have hxm : x ∈ q.inputs := by rw [hi]; simp
  have hym : y ∈ q.inputs := by rw [hi]; simp
  have hmq := kL h.most (by omega) hi
  rw [if_neg (by omega),if_pos (.inl k)] at hmq
  have e : aN r q = iG (fK r (aT r x ++ aT r y) q) (q.kind == 5) (List.replicate (aT r y).length .nul) (aN r x) (aN r y) := by rw [cX,hi]; unfold cO; rw [if_neg (by omega),if_pos (.inl k)]; rfl
  have hx := hN n (by omega) x hxm
  have hy := hN n (by omega) y hym
  have hprod : (aN r x).length * max 1 (aN r y).length ≤ 30000 := by
   have h1m : ((max 1 (aN r y).length : Nat) : Int) ≤ cF 1 (bg y).1 := by have := gS 1 (bg y).1; have := kW 1 (bg y).1; have := (hall y hym).len; omega
   have h2 : (((aN r x).length * max 1 (aN r y).length : Nat) : Int) ≤ (bg x).1 * cF 1 (bg y).1 := by
    rw [Int.natCast_mul]
    exact Int.mul_le_mul (hall x hxm).len h1m (by omega) (by have := (hall x hxm).pos; omega)
   have := h.most
   omega
  rw [cw (show q.kind ≠ 1 by omega),js k]
  simp only [cond_false,cond_true,br]
  rw [ff]
  simp only [gL]
  rw [hi]
  have g0 : aD [x,y] 0 = some x := rfl
  have g1 : aD [x,y] 1 = some y := rfl
  simp only [g0,g1,bPs]
  rw [hx,hy]
  simp only [bPs]
  rw [jm (h.small.sub hxm),jm (h.small.sub hym)]
  simp only [bPs]
  rw [bG (by decide) (by have := ii ⟨r.s,r.vars⟩ x; have := ii ⟨r.s,r.vars⟩ y; unfold aT; omega),bPs]
  have he1 : q.exprs.length = 1 := hs.one (.inr (.inl k))
  rw [join_run2 r q (aT r x) (aT r y) (e0Q q) (e0_get (by omega)) rfl (aN r x) (aN r y) (hrow x hxm) (hrow y hym) (ii _ y) hprod (.inl k),bPs,e]
 ·-- left join
  obtain ⟨x,y,hi⟩ := two (q := q) (by simpa using har)
  have hxm : x ∈ q.inputs := by rw [hi]; simp
  have hym : y ∈ q.inputs := by rw [hi]; simp
  have hmq := kL h.most (by omega) hi
  rw [if_neg (by omega),if_pos (.inr k)] at hmq
  have e : aN r q = iG (fK r (aT r x ++ aT r y) q) (q.kind == 5) (List.replicate (aT r y).length .nul) (aN r x) (aN r y) := by rw [cX,hi]; unfold cO; rw [if_neg (by omega),if_pos (.inr k)]; rfl
  have hx := hN n (by omega) x hxm
  have hy := hN n (by omega) y hym
  have hprod : (aN r x).length * max 1 (aN r y).length ≤ 30000 := by
   have h1m : ((max 1 (aN r y).length : Nat) : Int) ≤ cF 1 (bg y).1 := by have := gS 1 (bg y).1; have := kW 1 (bg y).1; have := (hall y hym).len; omega
   have h2 : (((aN r x).length * max 1 (aN r y).length : Nat) : Int) ≤ (bg x).1 * cF 1 (bg y).1 := by
    rw [Int.natCast_mul]
    exact Int.mul_le_mul (hall x hxm).len h1m (by omega) (by have := (hall x hxm).pos; omega)
   have := h.most
   omega
  rw [cw (show q.kind ≠ 1 by omega),cw (show q.kind ≠ 4 by omega),js k]
  simp only [cond_false,cond_true,br]
  rw [ff]
  simp only [gL]
  rw [hi]
  have g0 : aD [x,y] 0 = some x := rfl
  have g1 : aD [x,y] 1 = some y := rfl
  simp only [g0,g1,bPs]
  rw [hx,hy]
  simp only [bPs]
  rw [jm (h.small.sub hxm),jm (h.small.sub hym)]
  simp only [bPs]
  rw [bG (by decide) (by have := ii ⟨r.s,r.vars⟩ x; have := ii ⟨r.s,r.vars⟩ y; unfold aT; omega),bPs]
  have he1 : q.exprs.length = 1 := hs.one (.inr (.inr k))
  rw [join_run2 r q (aT r x) (aT r y) (e0Q q) (e0_get (by omega)) rfl (aN r x) (aN r y) (hrow x hxm) (hrow y hym) (ii _ y) hprod (.inr k),bPs,e]
 ·-- union
  obtain ⟨x,y,hi⟩ := two (q := q) (by simpa using har)
  have hxm : x ∈ q.inputs := by rw [hi]; simp
  have hym : y ∈ q.inputs := by rw [hi]; simp
  have e : aN r q = aN r x ++ aN r y := by rw [cX,hi]; unfold cO; rw [if_neg (by omega),if_neg (by omega),if_pos k]; rfl
  have hx := hN (n + 1) (by omega) x hxm
  have hy := hN (n + 1) (by omega) y hym
  rw [cw (show q.kind ≠ 1 by omega),cw (show q.kind ≠ 4 by omega),cw (show q.kind ≠ 5 by omega),js k,hi]
  have g0 : aD [x,y] 0 = some x := rfl
  have g1 : aD [x,y] 1 = some y := rfl
  simp only [cond_false,cond_true,br,g0,g1,bPs]
  have := hsz x hxm
  have := hsz y hym
  rw [hx,hy]
  simp only [bPs]
  rw [bG (by decide) (by omega),bPs,e]
 ·-- difference
  obtain ⟨x,y,hi⟩ := two (q := q) (by simpa using har)
  have hxm : x ∈ q.inputs := by rw [hi]; simp
  have hym : y ∈ q.inputs := by rw [hi]; simp
  have e : aN r q = jG (aN r x) (aN r y) := by rw [cX,hi]; unfold cO; rw [if_neg (by omega),if_neg (by omega),if_neg (by omega),if_pos k]; rfl
  have hx := hN (n + 1) (by omega) x hxm
  have hy := hN (n + 1) (by omega) y hym
  rw [cw (show q.kind ≠ 1 by omega),cw (show q.kind ≠ 4 by omega),cw (show q.kind ≠ 5 by omega),cw (show q.kind ≠ 6 by omega),js k,hi]
  have g0 : aD [x,y] 0 = some x := rfl
  have g1 : aD [x,y] 1 = some y := rfl
  simp only [cond_false,cond_true,br,g0,g1,bPs]
  have := hsz x hxm
  have := hsz y hym
  rw [hx,hy]
  simp only [bPs]
  rw [less_eq _ _ (by omega) (by omega),bPs,e]
 ·-- aggregation
  obtain ⟨x,hi⟩ := one (q := q) (by simpa using har)
  have hxm : x ∈ q.inputs := by rw [hi]; simp
  have e : aN r q = ku r (aT r x) q (aN r x) := by rw [cX,hi]; unfold cO; rw [if_neg (by omega),if_neg (by omega),if_neg (by omega),if_neg (by omega),if_neg (by omega),if_neg (by omega),if_pos k]; rfl
  have hx := hN (n + 1) (by omega) x hxm
  rw [cw (show q.kind ≠ 1 by omega),cw (show q.kind ≠ 4 by omega),cw (show q.kind ≠ 5 by omega),cw (show q.kind ≠ 6 by omega),cw (show q.kind ≠ 7 by omega),cw (show q.kind ≠ 2 by omega),cw (show q.kind ≠ 3 by omega),js k,hi]
  have g0 : aD [x] 0 = some x := rfl
  simp only [cond_false,cond_true,br,g0,bPs]
  rw [hx,bPs,jm (h.small.sub hxm),bPs]
  have := hsz x hxm
  rw [group_eq r _ q _ (by omega) hself.1 hself.2,bPs,e]
 ·-- sort
  obtain ⟨x,hi⟩ := one (q := q) (by simpa using har)
  have hxm : x ∈ q.inputs := by rw [hi]; simp
  have := hsz x hxm
  obtain ⟨l',hsort,_⟩ := sort_ok r q (aT r x) (aN r x) (by omega) hself.1
  have e : aN r q = l' := by rw [cX,hi]; unfold cO; rw [if_neg (by omega),if_neg (by omega),if_neg (by omega),if_neg (by omega),if_neg (by omega),if_neg (by omega),if_neg (by omega),if_pos k]; show (eA r q (aT r x) (aN r x)).getD [] = l'; rw [hsort]; rfl
  have hx := hN (n + 1) (by omega) x hxm
  rw [cw (show q.kind ≠ 1 by omega),cw (show q.kind ≠ 4 by omega),cw (show q.kind ≠ 5 by omega),cw (show q.kind ≠ 6 by omega),cw (show q.kind ≠ 7 by omega),cw (show q.kind ≠ 2 by omega),cw (show q.kind ≠ 3 by omega),cw (show q.kind ≠ 8 by omega),js k,hi]
  have g0 : aD [x] 0 = some x := rfl
  simp only [cond_false,cond_true,br,g0,bPs]
  rw [hx,bPs,jm (h.small.sub hxm),bPs,hsort,bPs,e]
 ·-- limit
  obtain ⟨x,hi⟩ := one (q := q) (by simpa using har)
  have hxm : x ∈ q.inputs := by rw [hi]; simp
  have e : aN r q = ni q (aN r x) := by rw [cX,hi]; unfold cO; rw [if_neg (by omega),if_neg (by omega),if_neg (by omega),if_neg (by omega),if_neg (by omega),if_neg (by omega),if_neg (by omega),if_neg (by omega)]; rfl
  have hx := hN (n + 1) (by omega) x hxm
  rw [cw (show q.kind ≠ 1 by omega),cw (show q.kind ≠ 4 by omega),cw (show q.kind ≠ 5 by omega),cw (show q.kind ≠ 6 by omega),cw (show q.kind ≠ 7 by omega),cw (show q.kind ≠ 2 by omega),cw (show q.kind ≠ 3 by omega),cw (show q.kind ≠ 8 by omega),cw (show q.kind ≠ 9 by omega),hi]
  have g0 : aD [x] 0 = some x := rfl
  simp only [cond_false,br,g0,bPs]
  rw [hx,bPs,jm (h.small.sub hxm),bPs]
  have := hsz x hxm
  rw [limit_run _ q (by omega) (hs.limit k).1 (hs.limit k).2,bPs,e]
theorem rows_eq {r : LRun} (hr : RunOk r) {q : LQuery} (h : QOk r q) : jJ r q = some (aN r q) := by
 obtain ⟨N,hN⟩ := rows_ev hr q h
 exact mX N hN
end
end Go.Proofs.YtgaggbdcedpapaaGreat

namespace Go.Proofs.YtgaggbdcedpapaaGreat
noncomputable section
open Go Go.Ab
def SizeOk (q : LQuery) : Prop := (bM q).length ≤ 24 ∧ fB q ≤ 12 ∧ (bg q).2 ≤ 20000
instance (q : LQuery) : Decidable (SizeOk q) := by unfold SizeOk; infer_instance
theorem check_eq {s : LSchema} {vars : List LCol} {q : LQuery} (h : SmallQ q) : ∃ cs e,eO s vars q = some (cs,e) ∧ (e = 0 ↔ SizeOk q ∧ lO (fE q) ∧ (dw ⟨s,vars⟩ q).2 = 0) ∧ (e = 0 → cs = (dw ⟨s,vars⟩ q).1) := by
 unfold eO
 rw [nodes_ok q h.nodes,bPs]
 by_cases h1 : (bM q).length ≤ 24
 ·rw [decide_eq_false (show ¬ ((bM q).length : Int) > 24 from by omega),cond_false,depth_ok q h.nodes,bPs]
  by_cases h2 : fB q ≤ 12
  ·rw [decide_eq_false (show ¬ fB q > 12 from by omega),cond_false]
   unfold eL
   rw [most_ok,bPs,bPs]
   by_cases h3 : (bg q).2 ≤ 20000
   ·rw [decide_eq_false (show ¬ (bg q).2 > 20000 from by omega),bPs,cond_false,kinds_ok h.nodes,bPs]
    cases hb : (cU q).2.1 with
    | true =>
     refine ⟨[],13,rfl,⟨fun h=>by omega,fun hh=>?_⟩,fun h=>by omega⟩
     rw [kinds_bad.2 hh.2.1] at hb
     cases hb
    | false =>
     have hk := kinds_bad.1 hb
     simp only [cond_false]
     rw [cols_ok _ q h]
     refine ⟨(dw ⟨s,vars⟩ q).1,(dw ⟨s,vars⟩ q).2,rfl,⟨fun h0=>⟨⟨h1,h2,h3⟩,hk,h0⟩,fun hh=>hh.2.2⟩,fun _=>rfl⟩
   ·rw [decide_eq_true (show (bg q).2 > 20000 from by omega)]
    exact ⟨[],2,rfl,⟨fun h=>by omega,fun hh=>absurd hh.1.2.2 h3⟩,fun h=>by omega⟩
  ·rw [decide_eq_true (show fB q > 12 from by omega)]
   exact ⟨[],2,rfl,⟨fun h=>by omega,fun hh=>absurd hh.1.2.1 h2⟩,fun h=>by omega⟩
 ·rw [decide_eq_true (show ((bM q).length : Int) > 24 from by omega)]
  exact ⟨[],2,rfl,⟨fun h=>by omega,fun hh=>absurd hh.1.1 h1⟩,fun h=>by omega⟩
abbrev fC (s : LSchema) (st : List LRelation) (args : List LVal) : LRun := LRun.mk s st args [] [] []
structure Runs (s : LSchema) (st : List LRelation) (q : LQuery) (args : List LVal) : Prop where
 size : SizeOk q
 kinds : lO (fE q)
 cols : (dw ⟨s,[]⟩ q).2 = 0
 inst : ec s st = some 0
 args : ArgsOk (fE q) args
theorem Runs.instOk {s : LSchema} {st : List LRelation} {q : LQuery} {args : List LVal} (h : Runs s st q args) (hs : ki s) : InstOk s st := by
 obtain ⟨e,he,hok⟩ := conforms hs st
 rw [h.inst] at he
 cases he
 exact hok rfl
theorem Runs.qok {s : LSchema} {st : List LRelation} {q : LQuery} {args : List LVal} (h : Runs s st q args) (hq : SmallQ q) : QOk (fC s st args) q :=
 ⟨hq,h.cols,h.size.2.2,fun i k hm x hx=>(h.args.args i k hm).2.1 i x (Nat.le_refl _) hx⟩
theorem Runs.sub {s : LSchema} {st : List LRelation} {q x : LQuery} {args : List LVal} (h : Runs s st q args) (hx : x ∈ q.inputs) : Runs s st x args := by
 have hp := params_sub hx
 refine ⟨⟨?_,?_,(eY h.size.2.2).2 x hx⟩,fun i k k' a b=>h.kinds i k k' (hp _ a) (hp _ b),(jP h.cols).2.1 x hx,h.inst,h.args.sub hp⟩
 ·have := jo hx; have := h.size.1; omega
 ·have := depthQ_sub hx; have := h.size.2.1; omega
theorem runs_tot {s : LSchema} (hs : ki s) (st : List LRelation) {q : LQuery} (hq : SmallQ q) (args : List LVal) : ∃ b,fQ s st q args = some b ∧ (b = true → Runs s st q args) := by
 unfold fQ it
 rw [size_ok,bPs]
 obtain ⟨v,hv⟩ := validate_tot hs
 obtain ⟨cs,e,hc,he,_⟩ := check_eq (s := s) (vars := []) hq
 obtain ⟨f,hf,_⟩ := conforms hs st
 obtain ⟨g,hg,hga⟩ := args_ok hq.nodes args
 unfold jF
 rw [hv,hc,hf,hg]
 simp only [bPs]
 by_cases c1 : ke q 400 < 0
 ·rw [decide_eq_true c1]; exact ⟨false,rfl,fun h=>by cases h⟩
 rw [decide_eq_false c1,cond_false,bPs]
 by_cases c2 : v = 0
 ·rw [bneF c2,cond_false,bPs]
  by_cases c3 : e = 0
  ·rw [js c3,cond_true]
   by_cases c4 : (args.length : Int) ≤ 20
   ·rw [decide_eq_true c4,cond_true]
    by_cases c5 : f = 0
    ·rw [js c5,cond_true]
     refine ⟨g == 0,rfl,fun hg0=>?_⟩
     have hg0 : g = 0 := by simpa using hg0
     obtain ⟨a,b,c⟩ := he.1 c3
     exact ⟨a,b,c,by rw [hf,c5],hga.1 hg0⟩
    ·rw [cw c5]; exact ⟨false,rfl,fun h=>by cases h⟩
   ·rw [decide_eq_false c4]; exact ⟨false,rfl,fun h=>by cases h⟩
  ·rw [cw c3]; exact ⟨false,rfl,fun h=>by cases h⟩
 ·rw [jK c2]; exact ⟨false,rfl,fun h=>by cases h⟩
theorem kQ {s : LSchema} (hs : ki s) {st : List LRelation} {q : LQuery} (hq : SmallQ q) {args : List LVal} (h : Runs s st q args) :
  dd s st q args = some (LResult.mk (aT (fC s st args) q) (aN (fC s st args) q),true) := by
 unfold dd fR fW
 obtain ⟨cs,e,hc,he,hcs⟩ := check_eq (s := s) (vars := []) hq
 obtain ⟨g,hg,hga⟩ := args_ok hq.nodes args
 have e0 := he.2 ⟨h.size,h.kinds,h.cols⟩
 have g0 := hga.2 h.args
 have hr : RunOk (fC s st args) := ⟨rfl,rfl,rfl,h.instOk hs⟩
 have hok := rows_fit hr q (h.qok hq)
 have hlen : (aN (fC s st args) q).length ≤ 20000 := by
  have h1 := hok.len
  have h2 := h.size.2.2
  have h3 := (eY h2).1
  omega
 rw [hc,hg,h.inst]
 simp only [bPs]
 rw [bneF e0,bneF g0,cond_false,cond_false]
 simp only [aE,bPs,bI,bne_self_eq_false,cond_false]
 rw [rows_eq hr (h.qok hq),bPs]
 rw [nv (xs := aN (fC s st args) q) id (fun k x hk=>by
  have := (List.getElem?_eq_some_iff.1 hk).1
  rw [bG (by decide) (by simp; omega),bPs]
  rfl),bPs,bI,bPs,bPs,hcs e0]
 simp [aT]
theorem scans_ok : gw = some true := by
 unfold gw
 have hin : ((LQuery.mk 1 [116] [] [] [] [] 0 0 []) : LQuery).inputs = [] := rfl
 have hnodes : bM (LQuery.mk 1 [116] [] [] [] [] 0 0 []) = [LQuery.mk 1 [116] [] [] [] [] 0 0 []] := by rw [gi,hin]; rfl
 have hparams : fE (LQuery.mk 1 [116] [] [] [] [] 0 0 []) = [] := by unfold fE; rw [hnodes]; rfl
 have hq : SmallQ (LQuery.mk 1 [116] [] [] [] [] 0 0 []) := ⟨by rw [hnodes]; decide,fun x hx=>by rw [hnodes] at hx; simp at hx; subst hx; exact ⟨by decide,by decide⟩⟩
 have hs : ki (LSchema.mk [(LTable.mk [116] [(LCol.mk [97] 1 false)] [0])] [] []) := fun t ht=>by simp at ht; subst ht; decide
 have hcols : dw ⟨LSchema.mk [(LTable.mk [116] [(LCol.mk [97] 1 false)] [0])] [] [],[]⟩ (LQuery.mk 1 [116] [] [] [] [] 0 0 []) = ([LCol.mk [97] 1 false],0) := by
  rw [nu,hin]
  rfl
 have hruns : Runs (LSchema.mk [(LTable.mk [116] [(LCol.mk [97] 1 false)] [0])] [] []) [(LRelation.mk [116] [[(LVal.mk 1 1 [])],[(LVal.mk 1 2 [])]])] (LQuery.mk 1 [116] [] [] [] [] 0 0 []) [] := by
  refine ⟨⟨by rw [hnodes]; decide,by rw [lj,hin]; decide,by rw [jO,hin]; decide⟩,by rw [hparams]; intro i k k' a; simp at a,by rw [hcols],?_,⟨by rw [hparams]; intro i k k' a; simp at a,by rw [hparams]; intro i k a; simp at a⟩⟩
  rfl
 have he := kQ hs hq hruns
 unfold dd at he
 cases ho : fR (LSchema.mk [(LTable.mk [116] [(LCol.mk [97] 1 false)] [0])] [] []) [(LRelation.mk [116] [[(LVal.mk 1 1 [])],[(LVal.mk 1 2 [])]])] (LQuery.mk 1 [116] [] [] [] [] 0 0 []) [] with
 | none=>rw [ho] at he; cases he
 | some o =>
  rw [ho,bPs] at he
  simp only [Option.some.injEq,Prod.mk.injEq] at he
  rw [bPs]
  rw [he.2,he.1,cond_true,cX,hin]
  rfl
theorem eqLoop {α : Type} [DecidableEq α] (x y : List α) (hl : x.length = y.length) (g : α → α → Option Bool) (hg : ∀ a ∈ x,∀ b,g a b = some (decide (a = b))) :
  af (aE (σ := Unit) (ρ := (Bool)) (fun (j1 : Nat) (x1 : α) (_ : Unit)=>af (aD y (j1 : Int)) fun (x24 : α)=>af (g x1 x24) fun x29=>cond (!x29) (some (.ret false)) (some (.next ()))) 0 x ()) (fun fl1=>fl1.thenR fun (_ : Unit)=>some true) = some (decide (x = y)) := by
 obtain ⟨fl,hfl,hr⟩ := ep (step := fun (j1 : Nat) (x1 : α) (_ : Unit)=>af (aD y (j1 : Int)) fun (x24 : α)=>af (g x1 x24) fun x29=>cond (!x29) (some (Flow.ret false)) (some (.next ())))
   (fun j _=>x.take j = y.take j) (fun r=>r = false ∧ x ≠ y) x 0 () (by simp) (fun k v s hk hI=>by
    simp only [Nat.zero_add] at hI ⊢
    have hkl := (List.getElem?_eq_some_iff.1 hk).1
    rw [fG (by omega),bPs,hg v (eh hk),bPs]
    by_cases hv : v = y[k]
    ·rw [decide_eq_true hv]
     refine ⟨_,rfl,?_⟩
     simp only
     rw [List.take_add_one,List.take_add_one,hk,List.getElem?_eq_getElem (by omega),hI,hv]
    ·rw [decide_eq_false hv]
     refine ⟨_,rfl,rfl,fun he=>hv ?_⟩
     subst he
     exact (List.getElem?_eq_some_iff.1 hk).2.symm)
 rw [hfl,bPs]
 cases fl with
 | brk s=>exact absurd hr (by simp)
 | ret r=>rw [kg,hr.1,decide_eq_false hr.2]
 | next s =>
  simp only [Nat.zero_add,List.take_length] at hr
  rw [hl,List.take_length] at hr
  rw [fq,decide_eq_true hr]
theorem sameRows_eq (a b : Rows) : fv a b = some (decide (a = b)) := by
 unfold fv bP
 by_cases hl : a.length = b.length
 ·rw [lz,decide_eq_true hl,Bool.not_true,cond_false,eqLoop a b hl _ (fun x _ y=>by unfold eT; rw [kD]; rfl),bPs]
 ·rw [lz,decide_eq_false hl,decide_eq_false (fun h=>hl (by rw [h]))]
  rfl
end
end Go.Proofs.YtgaggbdcedpapaaGreat

namespace Go.Proofs.YtgaggbdcedpapaaGreat
noncomputable section
open Go Go.Ab
structure TinyQ (q : LQuery) : Prop where
 nodes : (bM q).length ≤ 2000000
 here : ∀ x ∈ bM q,x.exprs.length ≤ 1000000 ∧ x.aggregates.length ≤ 1000000
theorem TinyQ.small {q : LQuery} (h : TinyQ q) : SmallQ q := ⟨by have := h.nodes; omega,h.here⟩
end
end Go.Proofs.YtgaggbdcedpapaaGreat

namespace Go.Proofs.YtgaggbdcedpapaaGreat
noncomputable section
open Go Go.Ab
theorem mB {H : Type} : ∀ ds : List (DataW H),(ds.map (fun d=>Rows.uptoBulk d)).sum = Rows.uptoBulkAll ds
 | []=>by simp [Rows.uptoBulkAll]
 | d :: ds=>by simp only [List.map_cons,List.sum_cons,Rows.uptoBulkAll,mB ds]
theorem bulk_is : IsBulk (fun _ d=>Rows.uptoBulk d) where
 one := by
  intro H d
  cases d with
  | lit l=>cases l <;> simp [Rows.uptoBulk]
  | nil=>simp [Rows.uptoBulk]
  | ptr d=>simp [Rows.uptoBulk]
  | slice elems spare=>simp [Rows.uptoBulk]
  | agg parts=>simp [Rows.uptoBulk]
  | iface t d=>simp [Rows.uptoBulk]
  | map entries=>simp [Rows.uptoBulk]
  | held h=>simp [Rows.uptoBulk]
 str := by intro H l; simp [Rows.uptoBulk]
 slice := by intro H a b; rw [mB]; simp only [Rows.uptoBulk]; omega
 agg := by intro H a; rw [mB]; simp only [Rows.uptoBulk]; omega
theorem ma {r : List PV} : ∀ {rs : List (List PV)},r ∈ rs → bn r ≤ eK rs
 | x :: rs,h=>by
  simp only [eK]
  rcases List.mem_cons.1 h with rfl | h
  ·omega
  ·have := ma h; omega
theorem kn {α : Type} {f : α → List PV} {k : Nat} (hf : ∀ x,k ≤ bn (f x)) : ∀ l : List α,k * l.length ≤ eK (l.map f)
 | []=>by simp
 | x :: l=>by
  have := kn hf l
  have := hf x
  simp only [List.map_cons,eK,List.length_cons,Nat.mul_add]
  omega
theorem expr_pos (e : LExpr) : 2 ≤ bn (aG e) := by
 cases e; simp only [aG,bn,PV.bulk]; omega
theorem call_pos (c : LAggregateCall) : 2 ≤ bn (bq c) := by
 simp only [bq,bn,PV.bulk]; omega
theorem smallS_bulk {s : LSchema} {n : Nat} (hn : n ≤ 10000000) (h : bn (dm s) ≤ n) : ki s := by
 intro t ht
 have h1 : eK (s.tables.map aR) ≤ bn (dm s) := by
  simp only [dm,bn,PV.bulk]; omega
 have h2 := ma (List.mem_map_of_mem (f := aR) ht)
 have h3 : eK (t.primaryKey.map aV) ≤ bn (aR t) := by
  simp only [aR,bn,PV.bulk]; omega
 have h4 := kn (f := aV) (k := 1) (fun x=>by simp [bn,PV.bulk]) t.primaryKey
 omega
theorem nodes_bulk : ∀ q : LQuery,(bM q).length + 1 ≤ bn (aC q) ∧ ∀ x ∈ bM q,2 * x.exprs.length ≤ bn (aC q) ∧ 2 * x.aggregates.length ≤ bn (aC q) := by
 apply LQuery.ind
 intro q ih
 have e : bn (aC q) = bn (aQ q) := by rw [bJ]
 have hr : eK (q.inputs.map aC) + 8 ≤ bn (aQ q) := by
  simp only [aQ,bn,PV.bulk]; omega
 have hsum : ∀ l : List LQuery,(∀ x ∈ l,x ∈ q.inputs) → ((l.map bM).flatten).length + l.length ≤ eK (l.map aC) := by
  intro l
  induction l with
  | nil=>intro _; simp
  | cons x l ihl =>
   intro hm
   have h1 := (ih x (hm x (by simp))).1
   have h2 := ihl (fun y hy=>hm y (by simp [hy]))
   simp only [List.map_cons,List.flatten_cons,List.length_append,List.length_cons,eK]
   omega
 have h0 := hsum q.inputs (fun _ h=>h)
 rw [e]
 refine ⟨?_,fun x hx=>?_⟩
 ·rw [gi]; simp only [List.length_cons]; omega
 ·rw [gi] at hx
  rcases List.mem_cons.1 hx with rfl | hx
  ·have h1 := kn expr_pos x.exprs
   have h2 := kn call_pos x.aggregates
   constructor
   ·simp only [aQ,bn,PV.bulk]; omega
   ·simp only [aQ,bn,PV.bulk]; omega
  ·simp only [List.mem_flatten,List.mem_map] at hx
   obtain ⟨l,⟨y,hy,rfl⟩,hx⟩ := hx
   have h1 := (ih y hy).2 x hx
   have h2 := ma (List.mem_map_of_mem (f := aC) hy)
   omega
theorem tiny_bulk {q : LQuery} {n : Nat} (hn : n ≤ 1048576) (h : bn (aQ q) ≤ n) : TinyQ q := by
 rw [← bJ] at h
 have := nodes_bulk q
 exact ⟨by omega,fun x hx=>by have := this.2 x hx; omega⟩
end
end Go.Proofs.YtgaggbdcedpapaaGreat

namespace Go.Proofs.YtgaggbdcedpapaaGreat
noncomputable section
open Go Go.Ab
structure TinyN (n : Nat) (q : LQuery) : Prop where
 nodes : (bM q).length ≤ 2000000 + n
 here : ∀ x ∈ bM q,x.exprs.length ≤ 1000000 ∧ x.aggregates.length ≤ 1000000
theorem TinyN.small {n : Nat} {q : LQuery} (h : TinyN n q) (hn : n ≤ 1000000) : SmallQ q := ⟨by have := h.nodes; omega,h.here⟩
end
end Go.Proofs.YtgaggbdcedpapaaGreat

namespace Go.Proofs.YtgaggbdcedpapaaGreat
noncomputable section
open Go Go.Ab
def jI (c : LCol) : LExpr := LExpr.mk 2 c.name 0 (LVal.mk 0 0 []) []
def eW (cols : List LCol) (q : LQuery) : LQuery := LQuery.mk 8 [] (cols.map LCol.name) (cols.map jI) [] [] 0 0 [q]
theorem dist_eq (q : LQuery) (c : LResult) (hl : c.columns.length ≤ 20) : bv q c = some (eW c.columns q) := by
 unfold bv
 rw [rMa (xs := c.columns) (s := (([] : List (List UInt8)),([] : List LExpr))) (fun k=>((c.columns.take k).map LCol.name,(c.columns.take k).map jI)) rfl (fun k x hk=>by
  have hkl := (List.getElem?_eq_some_iff.1 hk).1
  rw [bG (by decide) (by simp; omega),bPs,bG (by decide) (by simp; omega),bPs,List.take_add_one,hk,List.map_append,List.map_append]
  rfl),bPs,bI,List.take_length]
 rfl
theorem idx_nodup {cs : List LCol} (hn : (cs.map LCol.name).Nodup) {i : Nat} (hi : i < cs.length) : aL (fun c : LCol=>c.name == cs[i].name) cs = (i : Int) := by
 refine ky hi (fun x hx=>?_) (by simp)
 obtain ⟨j,hj,rfl⟩ := List.mem_iff_getElem.1 hx
 have hji : j < i := by simp at hj; omega
 rw [List.getElem_take]
 have := List.pairwise_iff_getElem.1 hn j i (by simp; omega) (by simpa using hi) hji
 simpa using this
theorem col_eval {r : LRun} {cs : List LCol} (hn : (cs.map LCol.name).Nodup) {x : List LVal} (hx : x.length = cs.length) {i : Nat} (hi : i < cs.length) : bO (aO r cs x) (jI cs[i]) = x[i]'(by omega) := by
 rw [md]
 have h1 : (aO r cs x).cols = cs := rfl
 have h2 : (aO r cs x).row = x := rfl
 have h3 : (jI cs[i]).kind = 2 := rfl
 have h4 : (jI cs[i]).name = cs[i].name := rfl
 rw [h1,h2,h3,h4,idx_nodup hn hi]
 rw [if_neg (by decide),if_pos (by decide),if_pos ⟨by omega,by omega⟩]
 rw [Int.toNat_natCast,List.getD_eq_getElem?_getD,List.getElem?_eq_getElem (by omega)]
 rfl
theorem key_id {r : LRun} {cs ds : List LCol} (hn : (cs.map LCol.name).Nodup) (hd : ds.map LCol.name = cs.map LCol.name) {x : List LVal} (hx : x.length = cs.length) : ((ds.map jI).map fun e=>bO (aO r cs x) e) = x := by
 have hl : ds.length = cs.length := by simpa using congrArg List.length hd
 refine List.ext_getElem (by simp; omega) fun i h1 h2=>?_
 simp only [List.getElem_map]
 have hi : i < cs.length := by simp at h1; omega
 have hid : i < ds.length := by omega
 have e : jI ds[i] = jI cs[i] := by
  have : (ds.map LCol.name)[i]'(by simpa using hid) = (cs.map LCol.name)[i]'(by simpa using hi) := by simp only [hd]
  simp only [List.getElem_map] at this
  unfold jI
  rw [this]
 rw [e,col_eval hn hx hi]
theorem keysF_id {key : List LVal → List LVal} : ∀ {l ks : Rows},(∀ x ∈ l,key x = x) → (ks ++ l).Nodup → dh key ks l = ks ++ l
 | [],ks,_,_=>by simp [dh]
 | x :: l,ks,h,hn=>by
  have hx := h x (by simp)
  have hx' : ¬ x ∈ ks := fun hm=>(List.nodup_append.1 hn).2.2 x hm x (by simp) rfl
  rw [dh,hx,if_neg hx',keysF_id (fun y hy=>h y (by simp [hy])) (by simpa using hn)]
  simp
theorem dist_rows {r : LRun} {ds : List LCol} {x : LQuery} (hne : ds ≠ []) : aN r (eW ds x) = dh (fun y=>(ds.map jI).map fun e=>bO (aO r (aT r x) y) e) [] (aN r x) := by
 have k : (eW ds x).kind = 8 := rfl
 rw [cX]
 unfold cO
 rw [if_neg (by omega),if_neg (by omega),if_neg (by omega),if_neg (by omega),if_neg (by omega),if_neg (by omega),if_pos k]
 unfold ku
 have e1 : (eW ds x).exprs = ds.map jI := rfl
 have e2 : (eW ds x).aggregates = [] := rfl
 rw [e1,e2,if_neg (by simpa using hne)]
 simp only [List.map_nil,List.append_nil,List.map_id']
 rfl
theorem mt (vars cols : List LCol) : ∀ (es : List LExpr) (ns : List (List UInt8)),es.length = ns.length → (bA vars cols es ns).2 = 0 → (bA vars cols es ns).1.map LCol.name = ns
 | [],[],_,_=>rfl
 | [],_ :: _,h,_=>by simp at h
 | _ :: _,[],h,_=>by simp at h
 | e :: es,n :: ns,h,h0=>by
  have ih := mt vars cols es ns (by simpa using h)
  rw [bA] at h0 ⊢
  by_cases a1 : cq n = false
  ·rw [if_pos a1] at h0; cases h0
  rw [if_neg a1] at h0 ⊢
  by_cases a2 : (bZ cols vars e).2.2 ≠ 0
  ·rw [if_pos a2] at h0; exact absurd h0 a2
  rw [if_neg a2] at h0 ⊢
  by_cases a3 : (bZ cols vars e).1 = 0
  ·rw [if_pos a3] at h0; cases h0
  rw [if_neg a3] at h0 ⊢
  by_cases a4 : (bA vars cols es ns).2 ≠ 0
  ·rw [if_pos a4] at h0; exact absurd h0 a4
  rw [if_neg a4] at h0 ⊢
  rw [List.map_cons,ih (by omega)]
theorem dist_names {c : LChecker} {ds : List LCol} {x : LQuery} (h : (dw c (eW ds x)).2 = 0) : ((dw c (eW ds x)).1).map LCol.name = ds.map LCol.name ∧ ds ≠ [] := by
 have hc := jP h
 have k : (eW ds x).kind = 8 := rfl
 have h1 := hc.2.2.1
 have h2 := hc.2.2.2.1
 unfold gd at h1 h2
 rw [if_neg (by omega),if_neg (by omega),if_neg (by omega),if_neg (by omega),if_pos (.inr k)] at h1 h2
 generalize (((eW ds x).inputs.map fun x=>(dw c x).1).getD 0 []) = cs at h1 h2
 have e1 : (eW ds x).exprs = ds.map jI := rfl
 have e2 : (eW ds x).aggregates = [] := rfl
 have e3 : (eW ds x).names = ds.map LCol.name := rfl
 unfold ju at h1 h2
 rw [e1,e2,e3] at h1 h2
 constructor
 ·by_cases a : (bA c.vars cs (ds.map jI) (ds.map LCol.name)).2 = 0
  ·rw [if_neg (by simpa using a),if_neg (by simp [cG])] at h2
   rw [h2]
   simp only [cG,List.append_nil]
   exact mt c.vars cs _ _ (by simp) a
  ·rw [if_pos a] at h1
   exact absurd h1 a
 ·rintro rfl
  have hs := hc.1
  simp [iZ,eW,LQuery.kind,LQuery.exprs,LQuery.aggregates] at hs
theorem TinyN.dist {n : Nat} {q : LQuery} (h : TinyN n q) {ds : List LCol} (hd : ds.length ≤ 20) : TinyN (n + 1) (eW ds q) := by
 have hi : (eW ds q).inputs = [q] := rfl
 refine ⟨?_,fun y hy=>?_⟩
 ·rw [gi,hi]; have := h.nodes; simp; omega
 ·rw [gi,hi] at hy
  rcases List.mem_cons.1 hy with rfl | hy
  ·exact ⟨by show (ds.map jI).length ≤ 1000000; simp; omega,show (0 : Nat) ≤ 1000000 by omega⟩
  ·exact h.here y (by simpa using hy)
theorem ow (l : Rows) (p : List LVal → Bool) (f : List LVal → Option Bool) (hf : ∀ x ∈ l,f x = some (p x)) : bC l f = some (l.any p) := by
 unfold bC du
 rw [kR p (fun j _=>(j : Int)) l 0 (fun k x hk=>by
  rw [hf x (eh hk),bPs]
  cases p x <;> rfl)]
 rw [← gc]
 unfold aL
 cases hi : l.findIdx? p with
 | none=>rfl
 | some i =>
  have hil : i < l.length := by
   have := List.findIdx?_eq_some_iff_getElem.1 hi
   exact this.1
  simp only [List.getElem?_eq_getElem hil]
  simp [bPs,kg]
theorem distinct_law {s : LSchema} (hs : ki s) (st : List LRelation) {q : LQuery} (hq : TinyQ q) (args : List LVal) : cW s st q args = some true := by
 unfold cW
 rw [scans_ok,bPs]
 simp only [Bool.not_true,cond_false]
 obtain ⟨b,hb,hr⟩ := runs_tot hs st hq.small args
 rw [hb,bPs]
 cases b with
 | false=>rfl
 | true =>
  have hrn := hr rfl
  simp only [Bool.not_true,cond_false]
  rw [kQ hs hq.small hrn,bPs]
  have hlen : (aT (fC s st args) q).length ≤ 20 := ii _ _
  rw [dist_eq q _ hlen,bPs,bPs,dist_eq _ _ hlen,bPs]
  have t0 : TinyN 0 q := ⟨hq.nodes,hq.here⟩
  have s1 := (t0.dist hlen).small (by omega)
  have s2 := ((t0.dist hlen).dist hlen).small (by omega)
  simp only
  generalize hds : aT (fC s st args) q = ds at s1 s2 ⊢
  obtain ⟨b2,hb2,hr2⟩ := runs_tot hs st s2 args
  rw [hb2,bPs]
  cases b2 with
  | false=>rfl
  | true =>
   have h2 := hr2 rfl
   have h1 : Runs s st (eW ds q) args := h2.sub (by simp [eW,LQuery.inputs])
   simp only [Bool.not_true,cond_false]
   rw [kQ hs s1 h1,kQ hs s2 h2]
   simp only [bPs]
   have hn := dist_names h1.cols
   have hfit := (rows_fit (r := fC s st args) ⟨rfl,rfl,rfl,hrn.instOk hs⟩ q (hrn.qok hq.small)).fits
   have hnq : ((aT (fC s st args) q).map LCol.name).Nodup := (jP hrn.cols).2.2.2.2
   have hn1 : ((aT (fC s st args) (eW ds q)).map LCol.name) = ds.map LCol.name := hn.1
   have e1 : ∀ x ∈ aN (fC s st args) q,(ds.map jI).map (fun e=>bO (aO (fC s st args) (aT (fC s st args) q) x) e) = x := fun x hx =>
    key_id hnq (by rw [hds]) (hfit x hx).1
   have r1 := dist_rows (r := fC s st args) (x := q) hn.2
   have r2 := dist_rows (r := fC s st args) (x := eW ds q) hn.2
   have m1 : ∀ y,y ∈ aN (fC s st args) (eW ds q) ↔ y ∈ aN (fC s st args) q := fun y=>by
    rw [r1,lb]
    constructor
    ·rintro (a | ⟨x,a,b⟩)
     ·simp at a
     ·rw [e1 x a] at b; exact b ▸ a
    ·exact fun a=>.inr ⟨y,a,e1 y a⟩
   have d1 : (aN (fC s st args) (eW ds q)).Nodup := by
    rw [r1]; exact mK _ _ _ (by simp)
   have q2 : aN (fC s st args) (eW ds (eW ds q)) = aN (fC s st args) (eW ds q) := by
    rw [r2,keysF_id (fun x hx=>key_id (by rw [hn1,← hds]; exact hnq) hn1.symm (by
     have h3 := (hfit x ((m1 x).1 hx)).1
     have h4 := congrArg List.length hn1
     simp only [List.length_map] at h4
     rw [h3,hds,h4])) (by simpa using d1)]
    rfl
   rw [q2]
   generalize aN (fC s st args) (eW ds q) = A at m1 d1 ⊢
   generalize aN (fC s st args) q = B at m1 ⊢
   rw [rMa (xs := A) (s := ()) (fun _=>()) rfl (fun k x hk=>by
    have hkl := (List.getElem?_eq_some_iff.1 hk).1
    have hkx := (List.getElem?_eq_some_iff.1 hk).2
    rw [lP ⟨by omega,by omega,by omega⟩,bPs]
    rw [ow _ (fun y=>decide (x = y)) _ (fun y _=>by unfold ci; rw [kD]; rfl),bPs]
    rw [ow _ (fun y=>decide (x = y)) _ (fun y _=>by unfold cd; rw [kD]; rfl)]
    have c1 : (((A.take (k : Int).toNat).drop (0 : Int).toNat).any fun y=>decide (x = y)) = false := by
     rw [List.any_eq_false]
     intro y hy
     simp only [Int.toNat_zero,List.drop_zero,Int.toNat_natCast] at hy
     obtain ⟨j,hj,rfl⟩ := List.mem_iff_getElem.1 hy
     have hjk : j < k := by simp at hj; omega
     rw [List.getElem_take]
     have := List.pairwise_iff_getElem.1 d1 j k (by omega) hkl hjk
     rw [hkx] at this
     simpa using fun e=>this e.symm
    have c2 : (B.any fun y=>decide (x = y)) = true := by
     rw [List.any_eq_true]
     exact ⟨x,(m1 x).1 (eh hk),by simp⟩
    rw [c1,c2]
    rfl),bPs,fq]
   rw [rMa (xs := B) (s := ()) (fun _=>()) rfl (fun k x hk=>by
    rw [ow _ (fun y=>decide (x = y)) _ (fun y _=>by unfold ce; rw [kD]; rfl)]
    have c2 : (A.any fun y=>decide (x = y)) = true := by
     rw [List.any_eq_true]
     exact ⟨x,(m1 x).2 (eh hk),by simp⟩
    rw [c2]
    rfl),bPs,fq]
   rw [sameRows_eq]
   simp only [cond_true,bPs,decide_true]
end
end Go.Proofs.YtgaggbdcedpapaaGreat

namespace Go.Proofs.YtgaggbdcedpapaaGreat
noncomputable section
open Go Go.Ab
theorem own_knob : ownKnob Tryz.prog.godebug = none := by kernel_rfl
theorem laid_out : laidOutB Tryz.prog = true := by kernel_rfl
def lawTypes : List TypeId := [26,22,91,9,39,50,3,4,89,23,142,24,148,53,28,87,40,51,35,29,30,56,31,66,32,33,36]
theorem lawTypes_ok : lawTypes.all (okT Tryz.prog lawTypes) = true := by kernel_rfl
theorem lawTypes_info : ∀ t ∈ lawTypes,∃ i,Tryz.prog.info? t = some i ∧ i.bytes = Tryz.prog.bytesOf t ∧ i.size = Tryz.prog.cellsOf t := infos_of (by kernel_rfl)
theorem sh9 {n : Nat} {pvs : List PV} (h : Sh Tryz.prog n 9 pvs) : ∃ v : List UInt8,pvs = [.str v] := by
 cases n with
 | zero=>simp [Sh] at h
 | succ n=>simp only [Sh,Tryz.underlying9] at h; obtain ⟨m,rfl,_⟩ := h; exact ⟨m,rfl⟩
theorem sh3 {n : Nat} {pvs : List PV} (h : Sh Tryz.prog n 3 pvs) : ∃ v : Int,pvs = [ac v] := by
 cases n with
 | zero=>simp [Sh] at h
 | succ n=>simp only [Sh,Tryz.underlying3] at h; obtain ⟨m,rfl,_⟩ := h; exact ⟨m,rfl⟩
theorem sh4 {n : Nat} {pvs : List PV} (h : Sh Tryz.prog n 4 pvs) : ∃ v : Bool,pvs = [au v] := by
 cases n with
 | zero=>simp [Sh] at h
 | succ n=>simp only [Sh,Tryz.underlying4] at h; obtain ⟨m,rfl⟩ := h; exact ⟨m,rfl⟩
theorem sh50 {n : Nat} {pvs : List PV} (h : Sh Tryz.prog n 50 pvs) : ∃ v : LCol,pvs = av v := by
 cases n with
 | zero=>simp [Sh] at h
 | succ n =>
  simp only [Sh,Tryz.underlying50,List.map_cons,List.map_nil,fj] at h
  obtain ⟨p0,r0,rfl,h0,p1,r1,rfl,h1,p2,r2,rfl,h2,rfl⟩ := h
  obtain ⟨v0,rfl⟩ := sh9 h0
  obtain ⟨v1,rfl⟩ := sh3 h1
  obtain ⟨v2,rfl⟩ := sh4 h2
  exact ⟨LCol.mk v0 v1 v2,rfl⟩
theorem sh39 {n : Nat} {pvs : List PV} (h : Sh Tryz.prog n 39 pvs) : ∃ v : List LCol,pvs = [.list 50 (v.map av)] := by
 cases n with
 | zero=>simp [Sh] at h
 | succ n =>
  simp only [Sh,Tryz.underlying39] at h
  obtain ⟨rows,rfl,hr⟩ := h
  obtain ⟨xs,rfl⟩ := gO (f := av) (fun r hq=>sh50 (hr r hq))
  exact ⟨xs,rfl⟩
theorem sh89 {n : Nat} {pvs : List PV} (h : Sh Tryz.prog n 89 pvs) : ∃ v : List Int,pvs = [.list 3 (v.map aV)] := by
 cases n with
 | zero=>simp [Sh] at h
 | succ n =>
  simp only [Sh,Tryz.underlying89] at h
  obtain ⟨rows,rfl,hr⟩ := h
  obtain ⟨xs,rfl⟩ := gO (f := aV) (fun r hq=>let ⟨v,e⟩ := sh3 (hr r hq); ⟨v,e⟩)
  exact ⟨xs,rfl⟩
theorem sh91 {n : Nat} {pvs : List PV} (h : Sh Tryz.prog n 91 pvs) : ∃ v : LTable,pvs = aR v := by
 cases n with
 | zero=>simp [Sh] at h
 | succ n =>
  simp only [Sh,Tryz.underlying91,List.map_cons,List.map_nil,fj] at h
  obtain ⟨p0,r0,rfl,h0,p1,r1,rfl,h1,p2,r2,rfl,h2,rfl⟩ := h
  obtain ⟨v0,rfl⟩ := sh9 h0
  obtain ⟨v1,rfl⟩ := sh39 h1
  obtain ⟨v2,rfl⟩ := sh89 h2
  exact ⟨LTable.mk v0 v1 v2,rfl⟩
theorem sh22 {n : Nat} {pvs : List PV} (h : Sh Tryz.prog n 22 pvs) : ∃ v : List LTable,pvs = [.list 91 (v.map aR)] := by
 cases n with
 | zero=>simp [Sh] at h
 | succ n =>
  simp only [Sh,Tryz.underlying22] at h
  obtain ⟨rows,rfl,hr⟩ := h
  obtain ⟨xs,rfl⟩ := gO (f := aR) (fun r hq=>sh91 (hr r hq))
  exact ⟨xs,rfl⟩
theorem sh142 {n : Nat} {pvs : List PV} (h : Sh Tryz.prog n 142 pvs) : ∃ v : LForeignKey,pvs = bF v := by
 cases n with
 | zero=>simp [Sh] at h
 | succ n =>
  simp only [Sh,Tryz.underlying142,List.map_cons,List.map_nil,fj] at h
  obtain ⟨p0,r0,rfl,h0,p1,r1,rfl,h1,p2,r2,rfl,h2,rfl⟩ := h
  obtain ⟨v0,rfl⟩ := sh9 h0
  obtain ⟨v1,rfl⟩ := sh89 h1
  obtain ⟨v2,rfl⟩ := sh9 h2
  exact ⟨LForeignKey.mk v0 v1 v2,rfl⟩
theorem sh23 {n : Nat} {pvs : List PV} (h : Sh Tryz.prog n 23 pvs) : ∃ v : List LForeignKey,pvs = [.list 142 (v.map bF)] := by
 cases n with
 | zero=>simp [Sh] at h
 | succ n =>
  simp only [Sh,Tryz.underlying23] at h
  obtain ⟨rows,rfl,hr⟩ := h
  obtain ⟨xs,rfl⟩ := gO (f := bF) (fun r hq=>sh142 (hr r hq))
  exact ⟨xs,rfl⟩
theorem sh53 {n : Nat} {pvs : List PV} (h : Sh Tryz.prog n 53 pvs) : ∃ v : LVal,pvs = ae v := by
 cases n with
 | zero=>simp [Sh] at h
 | succ n =>
  simp only [Sh,Tryz.underlying53,List.map_cons,List.map_nil,fj] at h
  obtain ⟨p0,r0,rfl,h0,p1,r1,rfl,h1,p2,r2,rfl,h2,rfl⟩ := h
  obtain ⟨v0,rfl⟩ := sh3 h0
  obtain ⟨v1,rfl⟩ := sh3 h1
  obtain ⟨v2,rfl⟩ := sh9 h2
  exact ⟨LVal.mk v0 v1 v2,rfl⟩
theorem sh148 {n : Nat} {pvs : List PV} (h : Sh Tryz.prog n 148 pvs) : ∃ v : LConstraint,pvs = bL v := by
 cases n with
 | zero=>simp [Sh] at h
 | succ n =>
  simp only [Sh,Tryz.underlying148,List.map_cons,List.map_nil,fj] at h
  obtain ⟨p0,r0,rfl,h0,p1,r1,rfl,h1,p2,r2,rfl,h2,p3,r3,rfl,h3,p4,r4,rfl,h4,rfl⟩ := h
  obtain ⟨v0,rfl⟩ := sh9 h0
  obtain ⟨v1,rfl⟩ := sh3 h1
  obtain ⟨v2,rfl⟩ := sh9 h2
  obtain ⟨v3,rfl⟩ := sh3 h3
  obtain ⟨v4,rfl⟩ := sh53 h4
  exact ⟨LConstraint.mk v0 v1 v2 v3 v4,rfl⟩
theorem sh24 {n : Nat} {pvs : List PV} (h : Sh Tryz.prog n 24 pvs) : ∃ v : List LConstraint,pvs = [.list 148 (v.map bL)] := by
 cases n with
 | zero=>simp [Sh] at h
 | succ n =>
  simp only [Sh,Tryz.underlying24] at h
  obtain ⟨rows,rfl,hr⟩ := h
  obtain ⟨xs,rfl⟩ := gO (f := bL) (fun r hq=>sh148 (hr r hq))
  exact ⟨xs,rfl⟩
theorem sh26 {n : Nat} {pvs : List PV} (h : Sh Tryz.prog n 26 pvs) : ∃ v : LSchema,pvs = dm v := by
 cases n with
 | zero=>simp [Sh] at h
 | succ n =>
  simp only [Sh,Tryz.underlying26,List.map_cons,List.map_nil,fj] at h
  obtain ⟨p0,r0,rfl,h0,p1,r1,rfl,h1,p2,r2,rfl,h2,rfl⟩ := h
  obtain ⟨v0,rfl⟩ := sh22 h0
  obtain ⟨v1,rfl⟩ := sh23 h1
  obtain ⟨v2,rfl⟩ := sh24 h2
  exact ⟨LSchema.mk v0 v1 v2,rfl⟩
theorem sh51 {n : Nat} {pvs : List PV} (h : Sh Tryz.prog n 51 pvs) : ∃ v : List LVal,pvs = [.list 53 (v.map ae)] := by
 cases n with
 | zero=>simp [Sh] at h
 | succ n =>
  simp only [Sh,Tryz.underlying51] at h
  obtain ⟨rows,rfl,hr⟩ := h
  obtain ⟨xs,rfl⟩ := gO (f := ae) (fun r hq=>sh53 (hr r hq))
  exact ⟨xs,rfl⟩
theorem sh40 {n : Nat} {pvs : List PV} (h : Sh Tryz.prog n 40 pvs) : ∃ v : List (List LVal),pvs = [.list 51 (v.map (ag 53 ae))] := by
 cases n with
 | zero=>simp [Sh] at h
 | succ n =>
  simp only [Sh,Tryz.underlying40] at h
  obtain ⟨rows,rfl,hr⟩ := h
  obtain ⟨xs,rfl⟩ := gO (f := (ag 53 ae)) (fun r hq=>let ⟨v,e⟩ := sh51 (hr r hq); ⟨v,e⟩)
  exact ⟨xs,rfl⟩
theorem sh87 {n : Nat} {pvs : List PV} (h : Sh Tryz.prog n 87 pvs) : ∃ v : LRelation,pvs = bf v := by
 cases n with
 | zero=>simp [Sh] at h
 | succ n =>
  simp only [Sh,Tryz.underlying87,List.map_cons,List.map_nil,fj] at h
  obtain ⟨p0,r0,rfl,h0,p1,r1,rfl,h1,rfl⟩ := h
  obtain ⟨v0,rfl⟩ := sh9 h0
  obtain ⟨v1,rfl⟩ := sh40 h1
  exact ⟨LRelation.mk v0 v1,rfl⟩
theorem sh28 {n : Nat} {pvs : List PV} (h : Sh Tryz.prog n 28 pvs) : ∃ v : List LRelation,pvs = [.list 87 (v.map bf)] := by
 cases n with
 | zero=>simp [Sh] at h
 | succ n =>
  simp only [Sh,Tryz.underlying28] at h
  obtain ⟨rows,rfl,hr⟩ := h
  obtain ⟨xs,rfl⟩ := gO (f := bf) (fun r hq=>sh87 (hr r hq))
  exact ⟨xs,rfl⟩
theorem sh29 {n : Nat} {pvs : List PV} (h : Sh Tryz.prog n 29 pvs) : ∃ v : List (List UInt8),pvs = [.list 9 (v.map bm)] := by
 cases n with
 | zero=>simp [Sh] at h
 | succ n =>
  simp only [Sh,Tryz.underlying29] at h
  obtain ⟨rows,rfl,hr⟩ := h
  obtain ⟨xs,rfl⟩ := gO (f := bm) (fun r hq=>let ⟨v,e⟩ := sh9 (hr r hq); ⟨v,e⟩)
  exact ⟨xs,rfl⟩
theorem sh56 {n : Nat} {pvs : List PV} (h : Sh Tryz.prog n 56 pvs) : ∃ v : LExpr,pvs = aG v := by
 induction n generalizing pvs with
 | zero=>simp [Sh] at h
 | succ n ih =>
  simp only [Sh,Tryz.underlying56,List.map_cons,List.map_nil,fj] at h
  obtain ⟨p0,r0,rfl,h0,p1,r1,rfl,h1,p2,r2,rfl,h2,p3,r3,rfl,h3,p4,r4,rfl,h4,rfl⟩ := h
  obtain ⟨v0,rfl⟩ := sh3 h0
  obtain ⟨v1,rfl⟩ := sh9 h1
  obtain ⟨v2,rfl⟩ := sh3 h2
  obtain ⟨v3,rfl⟩ := sh53 h3
  cases n with
  | zero=>simp [Sh] at h4
  | succ n =>
  simp only [Sh,Tryz.underlying30] at h4
  obtain ⟨rows,rfl,hr4⟩ := h4
  obtain ⟨v4,rfl⟩ := rowsUp (f := aG) (rfl) ih hr4
  exact ⟨LExpr.mk v0 v1 v2 v3 v4,by rw [dg]; rfl⟩
theorem sh30 {n : Nat} {pvs : List PV} (h : Sh Tryz.prog n 30 pvs) : ∃ v : List LExpr,pvs = [.list 56 (v.map aG)] := by
 cases n with
 | zero=>simp [Sh] at h
 | succ n =>
  simp only [Sh,Tryz.underlying30] at h
  obtain ⟨rows,rfl,hr⟩ := h
  obtain ⟨xs,rfl⟩ := gO (f := aG) (fun r hq=>sh56 (hr r hq))
  exact ⟨xs,rfl⟩
theorem sh66 {n : Nat} {pvs : List PV} (h : Sh Tryz.prog n 66 pvs) : ∃ v : LAggregateCall,pvs = bq v := by
 cases n with
 | zero=>simp [Sh] at h
 | succ n =>
  simp only [Sh,Tryz.underlying66,List.map_cons,List.map_nil,fj] at h
  obtain ⟨p0,r0,rfl,h0,p1,r1,rfl,h1,p2,r2,rfl,h2,rfl⟩ := h
  obtain ⟨v0,rfl⟩ := sh9 h0
  obtain ⟨v1,rfl⟩ := sh9 h1
  obtain ⟨v2,rfl⟩ := sh30 h2
  exact ⟨LAggregateCall.mk v0 v1 v2,rfl⟩
theorem sh31 {n : Nat} {pvs : List PV} (h : Sh Tryz.prog n 31 pvs) : ∃ v : List LAggregateCall,pvs = [.list 66 (v.map bq)] := by
 cases n with
 | zero=>simp [Sh] at h
 | succ n =>
  simp only [Sh,Tryz.underlying31] at h
  obtain ⟨rows,rfl,hr⟩ := h
  obtain ⟨xs,rfl⟩ := gO (f := bq) (fun r hq=>sh66 (hr r hq))
  exact ⟨xs,rfl⟩
theorem sh32 {n : Nat} {pvs : List PV} (h : Sh Tryz.prog n 32 pvs) : ∃ v : List Bool,pvs = [.list 4 (v.map bE)] := by
 cases n with
 | zero=>simp [Sh] at h
 | succ n =>
  simp only [Sh,Tryz.underlying32] at h
  obtain ⟨rows,rfl,hr⟩ := h
  obtain ⟨xs,rfl⟩ := gO (f := bE) (fun r hq=>let ⟨v,e⟩ := sh4 (hr r hq); ⟨v,e⟩)
  exact ⟨xs,rfl⟩
theorem sh35 {n : Nat} {pvs : List PV} (h : Sh Tryz.prog n 35 pvs) : ∃ v : LQuery,pvs = aC v := by
 induction n generalizing pvs with
 | zero=>simp [Sh] at h
 | succ n ih =>
  simp only [Sh,Tryz.underlying35,List.map_cons,List.map_nil,fj] at h
  obtain ⟨p0,r0,rfl,h0,p1,r1,rfl,h1,p2,r2,rfl,h2,p3,r3,rfl,h3,p4,r4,rfl,h4,p5,r5,rfl,h5,p6,r6,rfl,h6,p7,r7,rfl,h7,p8,r8,rfl,h8,rfl⟩ := h
  obtain ⟨v0,rfl⟩ := sh3 h0
  obtain ⟨v1,rfl⟩ := sh9 h1
  obtain ⟨v2,rfl⟩ := sh29 h2
  obtain ⟨v3,rfl⟩ := sh30 h3
  obtain ⟨v4,rfl⟩ := sh31 h4
  obtain ⟨v5,rfl⟩ := sh32 h5
  obtain ⟨v6,rfl⟩ := sh3 h6
  obtain ⟨v7,rfl⟩ := sh3 h7
  cases n with
  | zero=>simp [Sh] at h8
  | succ n =>
  simp only [Sh,Tryz.underlying33] at h8
  obtain ⟨rows,rfl,hr8⟩ := h8
  obtain ⟨v8,rfl⟩ := rowsUp (f := aC) (rfl) ih hr8
  exact ⟨LQuery.mk v0 v1 v2 v3 v4 v5 v6 v7 v8,by rw [bJ]; rfl⟩
theorem sh36 {n : Nat} {pvs : List PV} (h : Sh Tryz.prog n 36 pvs) : ∃ v : List LVal,pvs = [.list 53 (v.map ae)] := by
 cases n with
 | zero=>simp [Sh] at h
 | succ n =>
  simp only [Sh,Tryz.underlying36] at h
  obtain ⟨rows,rfl,hr⟩ := h
  obtain ⟨xs,rfl⟩ := gO (f := ae) (fun r hq=>sh53 (hr r hq))
  exact ⟨xs,rfl⟩
theorem law_args : ∀ args,ArgsSh Tryz.prog Tryz.f7.params.toList args → bn args ≤ 1048576 → aF Tryz.prog 7 args (.val (.bool true)) := by
 intro args h hN
 rw [Tryz.params7] at h
 simp only [ArgsSh] at h
 obtain ⟨n0,p0,r0,rfl,h0,n1,p1,r1,rfl,h1,n2,p2,r2,rfl,h2,n3,p3,r3,rfl,h3,rfl⟩ := h
 obtain ⟨v0,rfl⟩ := sh26 h0
 obtain ⟨v1,rfl⟩ := sh28 h1
 obtain ⟨v2,rfl⟩ := sh35 h2
 obtain ⟨v3,rfl⟩ := sh36 h3
 have e0 : iJ Tryz.prog 26 (dm v0) = .agg (dm v0) := by simp only [iJ,Tryz.underlying26]
 rw [e0] at hN ⊢
 have e1 : iJ Tryz.prog 28 [.list 87 (v1.map bf)] = .list 87 (v1.map bf) := by simp only [iJ,Tryz.underlying28]; rfl
 rw [e1] at hN ⊢
 have e2 : iJ Tryz.prog 35 (aC v2) = .agg (aC v2) := by simp only [iJ,Tryz.underlying35]
 rw [bJ] at e2
 rw [bJ v2,e2] at hN ⊢
 have e3 : iJ Tryz.prog 36 [.list 53 (v3.map ae)] = .list 53 (v3.map ae) := by simp only [iJ,Tryz.underlying36]; rfl
 rw [e3] at hN ⊢
 simp only [bn,PV.bulk] at hN
 have hs0 : ki v0 := smallS_bulk (n := 1048576) (by omega) (by omega)
 have hq2 : TinyQ v2 := tiny_bulk (n := 1048576) (by omega) (by omega)
 exact iW v0 v1 v2 v3 true (distinct_law hs0 v1 hq2 v3)
set_option maxRecDepth 100000 in
theorem law_wf : (fun (P : Program) (f : FuncId) (fn : Func) (s : ChangeSpec) (c : OpenClaim)=>(P.funcs.size,f,fn.params.size,s.name,c.func,c.wf (OpenSpec.ofChange s)).2.2.2.2.2) Tryz.prog 7 Tryz.f7 (Rows.OpenSpec.upto Rows.queryDistinctIsIdempotentSpec).bare Rows.queryDistinctIsIdempotentUptoRow = true := by kernel_rfl
set_option maxRecDepth 100000 in
theorem law_laid : (fun (P : Program) (f : FuncId) (fn : Func) (s : ChangeSpec) (c : OpenClaim)=>(P.funcs.size,f,fn.params.size,s.name,c.func,laidOutB P).2.2.2.2.2) Tryz.prog 7 Tryz.f7 (Rows.OpenSpec.upto Rows.queryDistinctIsIdempotentSpec).bare Rows.queryDistinctIsIdempotentUptoRow = true := by kernel_rfl
set_option maxRecDepth 100000 in
theorem law_mapsRowed : (fun (P : Program) (f : FuncId) (fn : Func) (s : ChangeSpec) (c : OpenClaim)=>(P.funcs.size,f,fn.params.size,s.name,c.func,mapsRowed P).2.2.2.2.2) Tryz.prog 7 Tryz.f7 (Rows.OpenSpec.upto Rows.queryDistinctIsIdempotentSpec).bare Rows.queryDistinctIsIdempotentUptoRow = true := by kernel_rfl
set_option maxRecDepth 100000 in
theorem law_rr : (fun (P : Program) (f : FuncId) (fn : Func) (s : ChangeSpec) (c : OpenClaim)=>(P.funcs.size,f,fn.params.size,s.name,c.func,fn.params.all (P.readableRec ·)).2.2.2.2.2) Tryz.prog 7 Tryz.f7 (Rows.OpenSpec.upto Rows.queryDistinctIsIdempotentSpec).bare Rows.queryDistinctIsIdempotentUptoRow = true := by kernel_rfl
set_option maxRecDepth 100000 in
theorem law_nt : (fun (P : Program) (f : FuncId) (fn : Func) (s : ChangeSpec) (c : OpenClaim)=>(P.funcs.size,f,fn.params.size,s.name,c.func,namedTie P c.named s.vars).2.2.2.2.2) Tryz.prog 7 Tryz.f7 (Rows.OpenSpec.upto Rows.queryDistinctIsIdempotentSpec).bare Rows.queryDistinctIsIdempotentUptoRow = true := by kernel_rfl
set_option maxRecDepth 100000 in
theorem law_st : (fun (P : Program) (f : FuncId) (fn : Func) (s : ChangeSpec) (c : OpenClaim)=>(P.funcs.size,f,fn.params.size,s.name,c.func,(c.stops == []) && (P.stops == []) && (c.knobs == []) && (P.stopKnobs == [])).2.2.2.2.2) Tryz.prog 7 Tryz.f7 (Rows.OpenSpec.upto Rows.queryDistinctIsIdempotentSpec).bare Rows.queryDistinctIsIdempotentUptoRow = true := by kernel_rfl
set_option maxRecDepth 100000 in
theorem law_inPlace : (fun (P : Program) (f : FuncId) (fn : Func) (s : ChangeSpec) (c : OpenClaim)=>(P.funcs.size,f,fn.params.size,s.name,c.func,c.inPlace == P.inPlace f).2.2.2.2.2) Tryz.prog 7 Tryz.f7 (Rows.OpenSpec.upto Rows.queryDistinctIsIdempotentSpec).bare Rows.queryDistinctIsIdempotentUptoRow = true := by kernel_rfl
set_option maxRecDepth 100000 in
theorem law_unf : (fun (P : Program) (f : FuncId) (fn : Func) (s : ChangeSpec) (c : OpenClaim)=>(P.funcs.size,f,fn.params.size,s.name,c.func,c.unfollowed == P.unfollowed f).2.2.2.2.2) Tryz.prog 7 Tryz.f7 (Rows.OpenSpec.upto Rows.queryDistinctIsIdempotentSpec).bare Rows.queryDistinctIsIdempotentUptoRow = true := by kernel_rfl
set_option maxRecDepth 100000 in
theorem law_rec : (fun (P : Program) (f : FuncId) (fn : Func) (s : ChangeSpec) (c : OpenClaim)=>(P.funcs.size,f,fn.params.size,s.name,c.func,c.recurses == P.recurses f).2.2.2.2.2) Tryz.prog 7 Tryz.f7 (Rows.OpenSpec.upto Rows.queryDistinctIsIdempotentSpec).bare Rows.queryDistinctIsIdempotentUptoRow = true := by kernel_rfl
set_option maxRecDepth 100000 in
theorem law_named : (fun (P : Program) (f : FuncId) (fn : Func) (s : ChangeSpec) (c : OpenClaim)=>(P.funcs.size,f,fn.params.size,s.name,c.func,c.named == P.varsNamed f).2.2.2.2.2) Tryz.prog 7 Tryz.f7 (Rows.OpenSpec.upto Rows.queryDistinctIsIdempotentSpec).bare Rows.queryDistinctIsIdempotentUptoRow = true := by kernel_rfl
set_option maxRecDepth 100000 in
theorem law_maps : (fun (P : Program) (f : FuncId) (fn : Func) (s : ChangeSpec) (c : OpenClaim)=>(P.funcs.size,f,fn.params.size,s.name,c.func,(c.maps == (fn.params.toList ++ s.plain.varTypes P).any (P.mapsRec ·)) && (c.ifaces == (fn.params.toList ++ s.plain.varTypes P).any (P.ifacesRec ·)) && (c.mapsOut == P.mapsAmong fn.resultTypes.toList)).2.2.2.2.2) Tryz.prog 7 Tryz.f7 (Rows.OpenSpec.upto Rows.queryDistinctIsIdempotentSpec).bare Rows.queryDistinctIsIdempotentUptoRow = true := by kernel_rfl
set_option maxRecDepth 100000 in
theorem law_loops : (fun (P : Program) (f : FuncId) (fn : Func) (s : ChangeSpec) (c : OpenClaim)=>(P.funcs.size,f,fn.params.size,s.name,c.func,(c.loops == (fn.params.toList ++ s.plain.varTypes P).any (P.loopsFrom ·))).2.2.2.2.2) Tryz.prog 7 Tryz.f7 (Rows.OpenSpec.upto Rows.queryDistinctIsIdempotentSpec).bare Rows.queryDistinctIsIdempotentUptoRow = true := by kernel_rfl
set_option maxRecDepth 100000 in
theorem law_wide : (fun (P : Program) (f : FuncId) (fn : Func) (s : ChangeSpec) (c : OpenClaim)=>(P.funcs.size,f,fn.params.size,s.name,c.func,(c.wideKeys == (fn.params.toList ++ s.plain.varTypes P ++ fn.resultTypes.toList).any (P.wideKeysFrom ·))).2.2.2.2.2) Tryz.prog 7 Tryz.f7 (Rows.OpenSpec.upto Rows.queryDistinctIsIdempotentSpec).bare Rows.queryDistinctIsIdempotentUptoRow = true := by kernel_rfl
set_option maxRecDepth 100000 in
theorem law_rest1 : (fun (P : Program) (f : FuncId) (fn : Func) (s : ChangeSpec) (c : OpenClaim)=>(P.funcs.size,f,fn.params.size,s.name,c.func,s.vars.all (P.varReadable ·) && fn.resultTypes.all (fun t=>P.readableRec t && decide (t < P.types.size)) && (c.ifacesOut == fn.resultTypes.toList.any (P.ifacesRec ·)) && (c.loopsOut == fn.resultTypes.toList.any (P.loopsFrom ·))).2.2.2.2.2) Tryz.prog 7 Tryz.f7 (Rows.OpenSpec.upto Rows.queryDistinctIsIdempotentSpec).bare Rows.queryDistinctIsIdempotentUptoRow = true := by kernel_rfl
set_option maxRecDepth 100000 in
theorem law_plainKeys : (fun (P : Program) (f : FuncId) (fn : Func) (s : ChangeSpec) (c : OpenClaim)=>(P.funcs.size,f,fn.params.size,s.name,c.func,c.plainKeys == P.plainKeys).2.2.2.2.2) Tryz.prog 7 Tryz.f7 (Rows.OpenSpec.upto Rows.queryDistinctIsIdempotentSpec).bare Rows.queryDistinctIsIdempotentUptoRow = true := by kernel_rfl
set_option maxRecDepth 100000 in
theorem law_rest2 : (fun (P : Program) (f : FuncId) (fn : Func) (s : ChangeSpec) (c : OpenClaim)=>(P.funcs.size,f,fn.params.size,s.name,c.func,c.shortTexts.isNone && P.stopsHeard && P.mayEnter && (c.lifted == P.liftsFinal) && (P.make == some c.make)).2.2.2.2.2) Tryz.prog 7 Tryz.f7 (Rows.OpenSpec.upto Rows.queryDistinctIsIdempotentSpec).bare Rows.queryDistinctIsIdempotentUptoRow = true := by kernel_rfl
set_option maxRecDepth 100000 in
theorem law_kinds : (fun (P : Program) (f : FuncId) (fn : Func) (s : ChangeSpec) (c : OpenClaim)=>(P.funcs.size,f,fn.params.size,s.name,c.func,(c.kinds == (if c.domain.isEmpty then [] else fn.params.toList.map fun t=>match P.underlying t with | some (.int k)=>some k | _=>none)) && (c.pinned == c.pinnedBy)).2.2.2.2.2) Tryz.prog 7 Tryz.f7 (Rows.OpenSpec.upto Rows.queryDistinctIsIdempotentSpec).bare Rows.queryDistinctIsIdempotentUptoRow = true := by kernel_rfl
set_option maxRecDepth 100000 in
theorem law_veil : (fun (P : Program) (f : FuncId) (fn : Func) (s : ChangeSpec) (c : OpenClaim)=>(P.funcs.size,f,fn.params.size,s.name,c.func,(c.veiled == (fn.params.toList ++ s.plain.varTypes P ++ fn.resultTypes.toList).any (P.veiledRec ·)) && c.veiledFits P fn.params.toList (fn.params.toList ++ s.plain.varTypes P ++ fn.resultTypes.toList)).2.2.2.2.2) Tryz.prog 7 Tryz.f7 (Rows.OpenSpec.upto Rows.queryDistinctIsIdempotentSpec).bare Rows.queryDistinctIsIdempotentUptoRow = true := by kernel_rfl
set_option maxRecDepth 100000 in
theorem law_facts : joinedFacts Tryz.prog 7 Tryz.f7 (Rows.OpenSpec.upto Rows.queryDistinctIsIdempotentSpec).bare Rows.queryDistinctIsIdempotentUptoRow = true := joined_of law_wf law_laid law_mapsRowed law_rr law_nt law_st law_inPlace law_unf law_rec law_named law_maps law_loops law_wide law_rest1 law_plainKeys law_rest2 law_kinds law_veil
set_option maxRecDepth 100000 in
theorem law_lifted (os : Os) (started : os.Started) (H : Type) (enc : TypeId × Value → H) (F : Stop.Interp) :
  ReturnsInHanded {} Tryz.checked os 7 .any ((Rows.OpenSpec.upto Rows.queryDistinctIsIdempotentSpec).pre6 enc Tryz.prog Tryz.f7 Rows.queryDistinctIsIdempotentUptoRow.domain false) (((Rows.OpenSpec.upto Rows.queryDistinctIsIdempotentSpec).at F).post enc Tryz.prog Tryz.f7 false true false false) := by
 refine returnsInHanded_of_cond_sized (C := Tryz.checked) (s := Rows.OpenSpec.upto Rows.queryDistinctIsIdempotentSpec) (k := Rows.uptoSmall) rfl own_knob started (by kernel_rfl) Tryz.func7
  (OpenSpec.witness (enc := enc) (C := Tryz.checked) (s := Rows.OpenSpec.upto Rows.queryDistinctIsIdempotentSpec) (k := Rows.uptoSmall) rfl false ⟨#[],#[.agg #[.slice none 0 0,.slice none 0 0,.slice none 0 0],.slice none 0 0,.agg #[.int .i64 0,.string ⟨#[]⟩,.slice none 0 0,.slice none 0 0,.slice none 0 0,.slice none 0 0,.int .i64 0,.int .i64 0,.slice none 0 0],.slice none 0 0],[]⟩ 8 (by kernel_rfl) (by kernel_rfl) (by kernel_rfl)
   (x := ([.agg [.nil,.nil,.nil],.nil,.agg [.lit (.int .i64 0),.lit (.string []),.nil,.nil,.nil,.nil,.lit (.int .i64 0),.lit (.int .i64 0),.nil],.nil],[],[])) (by kernel_rfl) rfl (by kernel_rfl)) ?_
 intro W base args ds gs before hval hW _ hk hsz _
 have hN : ((ds ++ gs).map (fun d=>Rows.uptoBulk d)).sum ≤ 1048576 := by
  rw [mB]; exact of_decide_eq_true hk
 refine law_callsB (s := Rows.queryDistinctIsIdempotentSpec) (tb := 4) bulk_is laid_out rfl ?_ rfl Tryz.underlying4 ?_ lawTypes_ok lawTypes_info ?_ law_args hval hW hsz hN
 ·rw [Tryz.params7]
  intro t ht
  simp only [List.mem_cons,List.mem_nil_iff,or_false] at ht
  rcases ht with rfl | rfl | rfl | rfl <;> exact ⟨by kernel_rfl,of_decide_eq_true (by kernel_rfl)⟩
 ·intro ds hlen
  rw [Tryz.params7] at hlen
  match ds,hlen with
  | [d0,d1,d2,d3],_=>rfl
 ·rw [Tryz.params7]
  intro t ht
  simp only [List.mem_cons,List.mem_nil_iff,or_false] at ht
  rcases ht with rfl | rfl | rfl | rfl <;> simp [lawTypes]
theorem queryDistinctIsIdempotentUpto_holds : Rows.QueryDistinctIsIdempotentUptoSaid :=
 OpenClaim.holds_of_cond 7 Tryz.f7 rfl rfl rfl rfl rfl rfl rfl ⟨rfl,rfl,rfl,rfl,rfl⟩ rfl rfl rfl rfl rfl (by kernel_rfl) Tryz.func7 law_facts
  (of_decide_eq_true (by kernel_rfl)) (by unfold Func.isWrapper; rw [if_neg (by decide +kernel)]; exact ⟨rfl,rfl⟩)
  (fun os started H enc _ F=>law_lifted os started H enc F)
end
end Go.Proofs.YtgaggbdcedpapaaGreat
