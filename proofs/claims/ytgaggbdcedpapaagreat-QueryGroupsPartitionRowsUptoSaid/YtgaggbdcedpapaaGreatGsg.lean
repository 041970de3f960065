/- queryGroupsPartitionRowsUpto_holds, part 7: the layer, the plain functions and what they compute; conditions as in the statement. -/
import Derived.Test.YtgaggbdcedpapaaGreatGsf
namespace Go.Proofs.YtgaggbdcedpapaaGreat
noncomputable section
open Go Go.Ab
theorem rowLen {cols : List LCol} {row : List LVal} (h : dC cols row) (hc : cols.length ≤ 20) : row.length ≤ 20 := by rw [h.1]; exact hc
theorem scan_run (st : List LRelation) (name : List UInt8) : af (aE (σ := Unit) (ρ := (Rows)) (fun (_ : Nat) (x1 : LRelation) (_ : Unit)=>cond (x1.table == name) (some (.ret x1.rows)) (some (.next ()))) 0 st ()) (fun fl1=>fl1.thenR fun (_ : Unit)=>some []) =
  some (match st.find? fun x=>x.table == name with | some x=>x.rows | none=>[]) := by
 rw [kA (fun x : LRelation=>x.table == name) (fun _ x=>x.rows) st 0 (fun k x _=>by cases x.table == name <;> rfl)]
 rcases find_idx (fun x : LRelation=>x.table == name) st with ⟨h1,h2⟩ | ⟨x,h1,h2,h3⟩
 ·rw [h1]
  unfold aK at h2
  cases hf : st.findIdx? (fun x=>x.table == name) with
  | none=>rfl
  | some i=>rw [hf] at h2; simp only at h2; omega
 ·rw [h1]
  unfold aK at h2 h3
  cases hf : st.findIdx? (fun x=>x.table == name) with
  | none=>rw [hf] at h2; simp at h2
  | some i =>
   rw [hf] at h3
   simp only [Int.toNat_natCast] at h3
   simp only [h3]
   rfl
theorem limit_run (l : Rows) (q : LQuery) (hl : l.length ≤ 1000000) (hc : 0 ≤ q.count) (ho : 0 ≤ q.offset) :
  kv l (if (l.length : Int) < q.offset then (l.length : Int) else q.offset) (IntKind.i64.wrap ((if (l.length : Int) < q.offset then (l.length : Int) else q.offset) + (if (IntKind.i64.wrap ((l.length : Int) - (if (l.length : Int) < q.offset then (l.length : Int) else q.offset))) < q.count then (IntKind.i64.wrap ((l.length : Int) - (if (l.length : Int) < q.offset then (l.length : Int) else q.offset))) else q.count))) = some (my q l) := by
 obtain ⟨o,ho'⟩ : ∃ o : Nat,q.offset = o := ⟨q.offset.toNat,by omega⟩
 obtain ⟨c,hc'⟩ : ∃ c : Nat,q.count = c := ⟨q.count.toNat,by omega⟩
 unfold my
 rw [ho',hc',Int.toNat_natCast,Int.toNat_natCast]
 by_cases h1 : (l.length : Int) < (o : Int)
 ·rw [if_pos h1,aX (n := (l.length : Int) - (l.length : Int)) (by omega) (by omega)]
  have e : (if (l.length : Int) - (l.length : Int) < (c : Int) then (l.length : Int) - (l.length : Int) else (c : Int)) = 0 := by split <;> omega
  rw [e,aX (by omega) (by omega),lx ⟨by omega,by omega,by omega⟩]
  congr 1
  rw [List.drop_of_length_le (by simp only [List.length_take]; omega)]
  symm
  exact List.drop_of_length_le (by simp only [List.length_take]; omega)
 ·rw [if_neg h1,aX (n := (l.length : Int) - (o : Int)) (by omega) (by omega)]
  by_cases h2 : (l.length : Int) - (o : Int) < (c : Int)
  ·rw [if_pos h2,aX (by omega) (by omega),lx ⟨by omega,by omega,by omega⟩]
   rw [Int.toNat_natCast,List.take_of_length_le (i := ((o : Int) + ((l.length : Int) - (o : Int))).toNat) (by omega),List.take_of_length_le (i := o + c) (by omega)]
  ·rw [if_neg h2,aX (by omega) (by omega),lx ⟨by omega,by omega,by omega⟩]
   rw [Int.toNat_natCast,show ((o : Int) + (c : Int)).toNat = o + c from by omega]
theorem join_run2 (r : LRun) (q : LQuery) (ca cb : List LCol) (e : LExpr) (he : aC q.exprs 0 = some e) (hee : e = e0Q q) (a b : Rows) (ha : ∀ x ∈ a,x.length ≤ 20) (hb : ∀ x ∈ b,x.length ≤ 20) (hcb : cb.length ≤ 20) (hsz : a.length * max 1 b.length ≤ 30000) (_hk : q.kind = 4 ∨ q.kind = 5) :
  af (aE (σ := List LCol × Rows) (ρ := Empty) (fun (_ : Nat) (x1 : List LVal) (s1 : List LCol × Rows) =>
  af (aE (σ := Rows × Bool) (ρ := Empty) (fun (_ : Nat) (x6 : List LVal) (s6 : Rows × Bool) =>
   af (bq ([x1,x6] : Rows)) fun x58 =>
   af (aC q.exprs 0) fun (x65 : LExpr) =>
   ba (aS r s1.1 x58) fun x62 =>
   ba (bT x62 x65) fun x67 =>
   ba (jb x67) fun x68 =>
   cond x68
    (af (cI 24 s6.1 ([x58] : Rows)) fun (x72 : Rows) =>
    some (.next (x72,true)))
    (some (.next (s6.1,s6.2)))) 0 b (s1.2,false)) fun fl6=>fl6.thenP fun (s6 : Rows × Bool) =>
  ba (
   cond (!s6.2)
    ((q.kind == (5 : Int)))
    (false)) fun (t7 : Bool) =>
  cond t7
   (af (me 32 (cb.length : Int)) fun (_ : Unit) =>
   af (bq ([x1,(List.replicate (cb.length : Int).toNat (LVal.mk 0 0 []))] : Rows)) fun x87 =>
   af (cI 24 s6.1 ([x87] : Rows)) fun (x89 : Rows) =>
   some (.next (s1.1,x89)))
   (some (.next (s1.1,s6.1)))) 0 a (ca ++ cb,[])) (fun fl1=>fl1.thenP fun (s1 : List LCol × Rows)=>some s1.2) = some (iv (fy r (ca ++ cb) q) (q.kind == 5) (List.replicate cb.length .nul) a b) := by
 have hpl : ∀ k,k ≤ a.length → (iv (fy r (ca ++ cb) q) (q.kind == 5) (List.replicate cb.length .nul) (a.take k) b).length ≤ 30000 := fun k hk=>by
  have h1 := nL (fy r (ca ++ cb) q) (q.kind == 5) (List.replicate cb.length .nul) (a.take k) b
  rw [List.length_take,Nat.min_eq_left hk] at h1
  exact Nat.le_trans h1 (Nat.le_trans (Nat.mul_le_mul_right _ hk) hsz)
 rw [rMa (xs := a) (s := (ca ++ cb,[])) (fun k=>(ca ++ cb,iv (fy r (ca ++ cb) q) (q.kind == 5) (List.replicate cb.length .nul) (a.take k) b)) rfl (fun k x hkx=>by
  have hkl := (List.getElem?_eq_some_iff.1 hkx).1
  have hxm := eU hkx
  have hbl : b.length ≤ 30000 := by
   have h1 : 1 * max 1 b.length ≤ a.length * max 1 b.length := Nat.mul_le_mul_right _ (by omega)
   omega
  have h2 := hpl k (by omega)
  simp only
  rw [match_run (fy r (ca ++ cb) q) e r (ca ++ cb) q.exprs he (fun z=>by rw [hee]; rfl) x (by have := ha x hxm; omega) b _ false (fun y hy=>by have := hb y hy; omega) (by omega),bPs,bF]
  have hs : iv (fy r (ca ++ cb) q) (q.kind == 5) (List.replicate cb.length .nul) (a.take (k + 1)) b = iv (fy r (ca ++ cb) q) (q.kind == 5) (List.replicate cb.length .nul) (a.take k) b ++ padR (fy r (ca ++ cb) q) (q.kind == 5) (List.replicate cb.length .nul) x b := by
   unfold iv
   rw [List.take_add_one,hkx,List.map_append,List.flatten_append]
   simp
  rw [hs]
  simp only [bp,Bool.false_or]
  have hml : (fD (fy r (ca ++ cb) q) x b).length ≤ 30000 := by unfold fD; exact Nat.le_trans (List.length_filter_le _ _) (by simpa using hbl)
  cases hm : fD (fy r (ca ++ cb) q) x b with
  | nil =>
   by_cases h5 : q.kind = 5
   ·have e5 : (q.kind == 5) = true := iS h5
    simp only [e5,List.isEmpty_nil,Bool.not_true,Bool.not_false,cond_true]
    rw [growI_ok ⟨by omega,by omega,by unfold maxLen; omega⟩,bPs,concat2 x _ (by have := ha x hxm; omega) (by simp; omega),bPs]
    rw [e5] at h2
    rw [bI (by decide) (by simp at h2 ⊢; omega),bPs]
    unfold padR
    rw [if_pos ⟨rfl,hm⟩]
    simp [LVal.nul]
   ·have e5 : (q.kind == 5) = false := ct h5
    simp only [e5,List.isEmpty_nil,Bool.not_true,Bool.not_false,cond_true,cond_false]
    unfold padR
    rw [if_neg (by simp),hm]
  | cons z zs =>
   simp only [List.isEmpty_cons,Bool.not_false,Bool.not_true,cond_false]
   unfold padR
   rw [if_neg (by rw [hm]; simp),hm])]
 rw [bPs,bF,List.take_length]
theorem rows_ev {r : LRun} (hr : RunOk r) : ∀ q : LQuery,QOk r q → ∃ N,∀ n,N ≤ n → dH n r q = some (aN r q) := by
 refine LQuery.ind fun q ih h=>?_
 have hs := shape_ok (lR h.cols).1
 obtain ⟨ho,hcol⟩ := colsR_out h
 have hself := h.small.self
 have hm := (eB h.most).1
 obtain ⟨N,hN⟩ := ev_all (p := fun x n=>dH n r x = some (aN r x)) q.inputs (fun x hx=>ih x hx (h.sub hx))
 have hall : ∀ x ∈ q.inputs,RowsOk r x := fun x hx=>rows_fit hr x (h.sub hx)
 have hsz : ∀ x ∈ q.inputs,(aN r x).length ≤ 20000 := fun x hx=>by
  have h1 := (hall x hx).len
  have h2 := (eB h.most).2 x hx
  have h3 := (eB h2).1
  omega
 have hrow : ∀ x ∈ q.inputs,∀ row ∈ aN r x,row.length ≤ 20 := fun x hx row hrow=>rowLen ((hall x hx).fits row hrow) (ip _ x)
 refine ⟨N + 2,fun n hn=>?_⟩
 obtain ⟨n,rfl⟩ : ∃ k,n = k + 2 := ⟨n - 2,by omega⟩
 rw [dH]
 simp only [iu]
 have kk : q.kind = 1 ∨ q.kind = 2 ∨ q.kind = 3 ∨ q.kind = 4 ∨ q.kind = 5 ∨ q.kind = 6 ∨ q.kind = 7 ∨ q.kind = 8 ∨ q.kind = 9 ∨ q.kind = 10 := by have := hs.kind; omega
 rcases kk with k | k | k | k | k | k | k | k | k | k
 ·rw [iS k,cond_true,scan_run,cU]
  unfold cJ
  rw [if_pos k] <;>
   rfl
 all_goals have har := hs.arity
 all_goals rw [k] at har
 all_goals simp only [lW] at har
 ·-- filter
  obtain ⟨x,hi⟩ := one (q := q) (by simpa using har)
  have hxm : x ∈ q.inputs := by rw [hi]; simp
  have e : aN r q = (aN r x).filter (fy r (aT r x) q) := by rw [cU,hi]; unfold cJ; rw [if_neg (by omega),if_neg (by omega),if_neg (by omega),if_neg (by omega),if_pos k]; rfl
  have hx := hN (n + 1) (by omega) x hxm
  rw [k,hi,e]
  simp only [aC,bp]
  simp only [show ((2 : Int) == 1) = false from rfl,show ((2 : Int) == 4) = false from rfl,show ((2 : Int) == 5) = false from rfl,show ((2 : Int) == 6) = false from rfl,show ((2 : Int) == 7) = false from rfl,show ((2 : Int) == 2) = true from rfl,cond_false,cond_true,Int.le_refl,if_true,Int.toNat_zero,List.getElem?_cons_zero,bPs]
  rw [hx,bPs,iX (h.small.sub hxm),bPs]
  rw [deleteFunc_eq (aN r x) (fun a=>!fy r (aT r x) q a) _ (fun a _=>by
   unfold fN
   rw [e0_get (by rw [hs.one (.inl k)]; omega)]
   rfl) (by have := hsz x hxm; omega),bPs]
  simp
 ·-- project
  obtain ⟨x,hi⟩ := one (q := q) (by simpa using har)
  have hxm : x ∈ q.inputs := by rw [hi]; simp
  have e : aN r q = (aN r x).map fun y=>q.exprs.map fun e=>bT (aS r (aT r x) y) e := by rw [cU,hi]; unfold cJ; rw [if_neg (by omega),if_neg (by omega),if_neg (by omega),if_neg (by omega),if_neg (by omega),if_pos k]; rfl
  have hx := hN (n + 1) (by omega) x hxm
  rw [k,hi,e]
  simp only [aC,bp]
  simp only [show ((3 : Int) == 1) = false from rfl,show ((3 : Int) == 4) = false from rfl,show ((3 : Int) == 5) = false from rfl,show ((3 : Int) == 6) = false from rfl,show ((3 : Int) == 7) = false from rfl,show ((3 : Int) == 2) = false from rfl,show ((3 : Int) == 3) = true from rfl,cond_false,cond_true,Int.le_refl,if_true,Int.toNat_zero,List.getElem?_cons_zero,bPs]
  rw [hx,bPs,iX (h.small.sub hxm),bPs]
  rw [nk (xs := aN r x) (fun y=>q.exprs.map fun e=>bT (aS r (aT r x) y) e) (fun i y hy=>by
   have hil := (List.getElem?_eq_some_iff.1 hy).1
   have := hsz x hxm
   rw [ng r _ _ _ (by omega),bPs,bI (by decide) (by simp; omega),bPs]),bPs,bF]
 ·-- inner join
  obtain ⟨x,y,hi⟩ := two (q := q) (by simpa using har)
  have hxm : x ∈ q.inputs := by rw [hi]; simp
  have hym : y ∈ q.inputs := by rw [hi]; simp
  have hmq := kq h.most (by omega) hi
  rw [if_neg (by omega),if_pos (.inl k)] at hmq
  have e : aN r q = iv (fy r (aT r x ++ aT r y) q) (q.kind == 5) (List.replicate (aT r y).length .nul) (aN r x) (aN r y) := by rw [cU,hi]; unfold cJ; rw [if_neg (by omega),if_pos (.inl k)]; rfl
  have hx := hN n (by omega) x hxm
  have hy := hN n (by omega) y hym
  have hprod : (aN r x).length * max 1 (aN r y).length ≤ 30000 := by
   have h1m : ((max 1 (aN r y).length : Nat) : Int) ≤ cC 1 (bf y).1 := by have := gC 1 (bf y).1; have := kM 1 (bf y).1; have := (hall y hym).len; omega
   have h2 : (((aN r x).length * max 1 (aN r y).length : Nat) : Int) ≤ (bf x).1 * cC 1 (bf y).1 := by
    rw [Int.natCast_mul]
    exact Int.mul_le_mul (hall x hxm).len h1m (by omega) (by have := (hall x hxm).pos; omega)
   have := h.most
   omega
  rw [ct (show q.kind ≠ 1 by omega),iS k]
  simp only [cond_false,cond_true,bp]
  rw [eP]
  simp only [gA]
  rw [hi]
  have g0 : aC [x,y] 0 = some x := rfl
  have g1 : aC [x,y] 1 = some y := rfl
  simp only [g0,g1,bPs]
  rw [hx,hy]
  simp only [bPs]
  rw [iX (h.small.sub hxm),iX (h.small.sub hym)]
  simp only [bPs]
  rw [bI (by decide) (by have := ip ⟨r.s,r.vars⟩ x; have := ip ⟨r.s,r.vars⟩ y; unfold aT; omega),bPs]
  have he1 : q.exprs.length = 1 := hs.one (.inr (.inl k))
  rw [join_run2 r q (aT r x) (aT r y) (e0Q q) (e0_get (by omega)) rfl (aN r x) (aN r y) (hrow x hxm) (hrow y hym) (ip _ y) hprod (.inl k),bPs,e]
 ·-- left join
  obtain ⟨x,y,hi⟩ := two (q := q) (by simpa using har)
  have hxm : x ∈ q.inputs := by rw [hi]; simp
  have hym : y ∈ q.inputs := by rw [hi]; simp
  have hmq := kq h.most (by omega) hi
  rw [if_neg (by omega),if_pos (.inr k)] at hmq
  have e : aN r q = iv (fy r (aT r x ++ aT r y) q) (q.kind == 5) (List.replicate (aT r y).length .nul) (aN r x) (aN r y) := by rw [cU,hi]; unfold cJ; rw [if_neg (by omega),if_pos (.inr k)]; rfl
  have hx := hN n (by omega) x hxm
  have hy := hN n (by omega) y hym
  have hprod : (aN r x).length * max 1 (aN r y).length ≤ 30000 := by
   have h1m : ((max 1 (aN r y).length : Nat) : Int) ≤ cC 1 (bf y).1 := by have := gC 1 (bf y).1; have := kM 1 (bf y).1; have := (hall y hym).len; omega
   have h2 : (((aN r x).length * max 1 (aN r y).length : Nat) : Int) ≤ (bf x).1 * cC 1 (bf y).1 := by
    rw [Int.natCast_mul]
    exact Int.mul_le_mul (hall x hxm).len h1m (by omega) (by have := (hall x hxm).pos; omega)
   have := h.most
   omega
  rw [ct (show q.kind ≠ 1 by omega),ct (show q.kind ≠ 4 by omega),iS k]
  simp only [cond_false,cond_true,bp]
  rw [eP]
  simp only [gA]
  rw [hi]
  have g0 : aC [x,y] 0 = some x := rfl
  have g1 : aC [x,y] 1 = some y := rfl
  simp only [g0,g1,bPs]
  rw [hx,hy]
  simp only [bPs]
  rw [iX (h.small.sub hxm),iX (h.small.sub hym)]
  simp only [bPs]
  rw [bI (by decide) (by have := ip ⟨r.s,r.vars⟩ x; have := ip ⟨r.s,r.vars⟩ y; unfold aT; omega),bPs]
  have he1 : q.exprs.length = 1 := hs.one (.inr (.inr k))
  rw [join_run2 r q (aT r x) (aT r y) (e0Q q) (e0_get (by omega)) rfl (aN r x) (aN r y) (hrow x hxm) (hrow y hym) (ip _ y) hprod (.inr k),bPs,e]
 ·-- union
  obtain ⟨x,y,hi⟩ := two (q := q) (by simpa using har)
  have hxm : x ∈ q.inputs := by rw [hi]; simp
  have hym : y ∈ q.inputs := by rw [hi]; simp
  have e : aN r q = aN r x ++ aN r y := by rw [cU,hi]; unfold cJ; rw [if_neg (by omega),if_neg (by omega),if_pos k]; rfl
  have hx := hN (n + 1) (by omega) x hxm
  have hy := hN (n + 1) (by omega) y hym
  rw [ct (show q.kind ≠ 1 by omega),ct (show q.kind ≠ 4 by omega),ct (show q.kind ≠ 5 by omega),iS k,hi]
  have g0 : aC [x,y] 0 = some x := rfl
  have g1 : aC [x,y] 1 = some y := rfl
  simp only [cond_false,cond_true,bp,g0,g1,bPs]
  have := hsz x hxm
  have := hsz y hym
  rw [hx,hy]
  simp only [bPs]
  rw [bI (by decide) (by omega),bPs,e]
 ·-- difference
  obtain ⟨x,y,hi⟩ := two (q := q) (by simpa using har)
  have hxm : x ∈ q.inputs := by rw [hi]; simp
  have hym : y ∈ q.inputs := by rw [hi]; simp
  have e : aN r q = jr (aN r x) (aN r y) := by rw [cU,hi]; unfold cJ; rw [if_neg (by omega),if_neg (by omega),if_neg (by omega),if_pos k]; rfl
  have hx := hN (n + 1) (by omega) x hxm
  have hy := hN (n + 1) (by omega) y hym
  rw [ct (show q.kind ≠ 1 by omega),ct (show q.kind ≠ 4 by omega),ct (show q.kind ≠ 5 by omega),ct (show q.kind ≠ 6 by omega),iS k,hi]
  have g0 : aC [x,y] 0 = some x := rfl
  have g1 : aC [x,y] 1 = some y := rfl
  simp only [cond_false,cond_true,bp,g0,g1,bPs]
  have := hsz x hxm
  have := hsz y hym
  rw [hx,hy]
  simp only [bPs]
  rw [less_eq _ _ (by omega) (by omega),bPs,e]
 ·-- aggregation
  obtain ⟨x,hi⟩ := one (q := q) (by simpa using har)
  have hxm : x ∈ q.inputs := by rw [hi]; simp
  have e : aN r q = jS r (aT r x) q (aN r x) := by rw [cU,hi]; unfold cJ; rw [if_neg (by omega),if_neg (by omega),if_neg (by omega),if_neg (by omega),if_neg (by omega),if_neg (by omega),if_pos k]; rfl
  have hx := hN (n + 1) (by omega) x hxm
  rw [ct (show q.kind ≠ 1 by omega),ct (show q.kind ≠ 4 by omega),ct (show q.kind ≠ 5 by omega),ct (show q.kind ≠ 6 by omega),ct (show q.kind ≠ 7 by omega),ct (show q.kind ≠ 2 by omega),ct (show q.kind ≠ 3 by omega),iS k,hi]
  have g0 : aC [x] 0 = some x := rfl
  simp only [cond_false,cond_true,bp,g0,bPs]
  rw [hx,bPs,iX (h.small.sub hxm),bPs]
  have := hsz x hxm
  rw [group_eq r _ q _ (by omega) hself.1 hself.2,bPs,e]
 ·-- sort
  obtain ⟨x,hi⟩ := one (q := q) (by simpa using har)
  have hxm : x ∈ q.inputs := by rw [hi]; simp
  have := hsz x hxm
  obtain ⟨l',hsort,_⟩ := sort_ok r q (aT r x) (aN r x) (by omega) hself.1
  have e : aN r q = l' := by rw [cU,hi]; unfold cJ; rw [if_neg (by omega),if_neg (by omega),if_neg (by omega),if_neg (by omega),if_neg (by omega),if_neg (by omega),if_neg (by omega),if_pos k]; show (el r q (aT r x) (aN r x)).getD [] = l'; rw [hsort]; rfl
  have hx := hN (n + 1) (by omega) x hxm
  rw [ct (show q.kind ≠ 1 by omega),ct (show q.kind ≠ 4 by omega),ct (show q.kind ≠ 5 by omega),ct (show q.kind ≠ 6 by omega),ct (show q.kind ≠ 7 by omega),ct (show q.kind ≠ 2 by omega),ct (show q.kind ≠ 3 by omega),ct (show q.kind ≠ 8 by omega),iS k,hi]
  have g0 : aC [x] 0 = some x := rfl
  simp only [cond_false,cond_true,bp,g0,bPs]
  rw [hx,bPs,iX (h.small.sub hxm),bPs,hsort,bPs,e]
 ·-- limit
  obtain ⟨x,hi⟩ := one (q := q) (by simpa using har)
  have hxm : x ∈ q.inputs := by rw [hi]; simp
  have e : aN r q = my q (aN r x) := by rw [cU,hi]; unfold cJ; rw [if_neg (by omega),if_neg (by omega),if_neg (by omega),if_neg (by omega),if_neg (by omega),if_neg (by omega),if_neg (by omega),if_neg (by omega)]; rfl
  have hx := hN (n + 1) (by omega) x hxm
  rw [ct (show q.kind ≠ 1 by omega),ct (show q.kind ≠ 4 by omega),ct (show q.kind ≠ 5 by omega),ct (show q.kind ≠ 6 by omega),ct (show q.kind ≠ 7 by omega),ct (show q.kind ≠ 2 by omega),ct (show q.kind ≠ 3 by omega),ct (show q.kind ≠ 8 by omega),ct (show q.kind ≠ 9 by omega),hi]
  have g0 : aC [x] 0 = some x := rfl
  simp only [cond_false,bp,g0,bPs]
  rw [hx,bPs,iX (h.small.sub hxm),bPs]
  have := hsz x hxm
  rw [limit_run _ q (by omega) (hs.limit k).1 (hs.limit k).2,bPs,e]
theorem rows_eq {r : LRun} (hr : RunOk r) {q : LQuery} (h : QOk r q) : ju r q = some (aN r q) := by
 obtain ⟨N,hN⟩ := rows_ev hr q h
 exact mL N hN
end
end Go.Proofs.YtgaggbdcedpapaaGreat

namespace Go.Proofs.YtgaggbdcedpapaaGreat
noncomputable section
open Go Go.Ab
def SizeOk (q : LQuery) : Prop := (bJ q).length ≤ 24 ∧ ff q ≤ 12 ∧ (bf q).2 ≤ 20000
instance (q : LQuery) : Decidable (SizeOk q) := by unfold SizeOk; infer_instance
theorem check_eq {s : LSchema} {vars : List LCol} {q : LQuery} (h : SmallQ q) : ∃ cs e,eF s vars q = some (cs,e) ∧ (e = 0 ↔ SizeOk q ∧ lu (ft q) ∧ (dM ⟨s,vars⟩ q).2 = 0) ∧ (e = 0 → cs = (dM ⟨s,vars⟩ q).1) := by
 unfold eF
 rw [nodes_ok q h.nodes,bPs]
 by_cases h1 : (bJ q).length ≤ 24
 ·rw [decide_eq_false (show ¬ ((bJ q).length : Int) > 24 from by omega),cond_false,depth_ok q h.nodes,bPs]
  by_cases h2 : ff q ≤ 12
  ·rw [decide_eq_false (show ¬ ff q > 12 from by omega),cond_false]
   unfold eD
   rw [most_ok,bPs,bPs]
   by_cases h3 : (bf q).2 ≤ 20000
   ·rw [decide_eq_false (show ¬ (bf q).2 > 20000 from by omega),bPs,cond_false,kinds_ok h.nodes,bPs]
    cases hb : (cR q).2.1 with
    | true =>
     refine ⟨[],13,rfl,⟨fun h=>by omega,fun hh=>?_⟩,fun h=>by omega⟩
     rw [kinds_bad.2 hh.2.1] at hb
     cases hb
    | false =>
     have hk := kinds_bad.1 hb
     simp only [cond_false]
     rw [cols_ok _ q h]
     refine ⟨(dM ⟨s,vars⟩ q).1,(dM ⟨s,vars⟩ q).2,rfl,⟨fun h0=>⟨⟨h1,h2,h3⟩,hk,h0⟩,fun hh=>hh.2.2⟩,fun _=>rfl⟩
   ·rw [decide_eq_true (show (bf q).2 > 20000 from by omega)]
    exact ⟨[],2,rfl,⟨fun h=>by omega,fun hh=>absurd hh.1.2.2 h3⟩,fun h=>by omega⟩
  ·rw [decide_eq_true (show ff q > 12 from by omega)]
   exact ⟨[],2,rfl,⟨fun h=>by omega,fun hh=>absurd hh.1.2.1 h2⟩,fun h=>by omega⟩
 ·rw [decide_eq_true (show ((bJ q).length : Int) > 24 from by omega)]
  exact ⟨[],2,rfl,⟨fun h=>by omega,fun hh=>absurd hh.1.1 h1⟩,fun h=>by omega⟩
abbrev jO (s : LSchema) (st : List LRelation) (args : List LVal) : LRun := LRun.mk s st args [] [] []
structure Runs (s : LSchema) (st : List LRelation) (q : LQuery) (args : List LVal) : Prop where
 size : SizeOk q
 kinds : lu (ft q)
 cols : (dM ⟨s,[]⟩ q).2 = 0
 inst : dT s st = some 0
 args : ArgsOk (ft q) args
theorem Runs.instOk {s : LSchema} {st : List LRelation} {q : LQuery} {args : List LVal} (h : Runs s st q args) (hs : jT s) : InstOk s st := by
 obtain ⟨e,he,hok⟩ := conforms hs st
 rw [h.inst] at he
 cases he
 exact hok rfl
theorem Runs.qok {s : LSchema} {st : List LRelation} {q : LQuery} {args : List LVal} (h : Runs s st q args) (hq : SmallQ q) : QOk (jO s st args) q :=
 ⟨hq,h.cols,h.size.2.2,fun i k hm x hx=>(h.args.args i k hm).2.1 i x (Nat.le_refl _) hx⟩
theorem Runs.sub {s : LSchema} {st : List LRelation} {q x : LQuery} {args : List LVal} (h : Runs s st q args) (hx : x ∈ q.inputs) : Runs s st x args := by
 have hp := params_sub hx
 refine ⟨⟨?_,?_,(eB h.size.2.2).2 x hx⟩,fun i k k' a b=>h.kinds i k k' (hp _ a) (hp _ b),(lR h.cols).2.1 x hx,h.inst,h.args.sub hp⟩
 ·have := jc hx; have := h.size.1; omega
 ·have := depthQ_sub hx; have := h.size.2.1; omega
theorem runs_tot {s : LSchema} (hs : jT s) (st : List LRelation) {q : LQuery} (hq : SmallQ q) (args : List LVal) : ∃ b,gD s st q args = some b ∧ (b = true → Runs s st q args) := by
 unfold gD ic
 rw [size_ok,bPs]
 obtain ⟨v,hv⟩ := validate_tot hs
 obtain ⟨cs,e,hc,he,_⟩ := check_eq (s := s) (vars := []) hq
 obtain ⟨f,hf,_⟩ := conforms hs st
 obtain ⟨g,hg,hga⟩ := args_ok hq.nodes args
 unfold jp
 rw [hv,hc,hf,hg]
 simp only [bPs]
 by_cases c1 : jQ q 400 < 0
 ·rw [decide_eq_true c1]; exact ⟨false,rfl,fun h=>by cases h⟩
 rw [decide_eq_false c1,cond_false,bPs]
 by_cases c2 : v = 0
 ·rw [bneF c2,cond_false,bPs]
  by_cases c3 : e = 0
  ·rw [iS c3,cond_true]
   by_cases c4 : (args.length : Int) ≤ 20
   ·rw [decide_eq_true c4,cond_true]
    by_cases c5 : f = 0
    ·rw [iS c5,cond_true]
     refine ⟨g == 0,rfl,fun hg0=>?_⟩
     have hg0 : g = 0 := by simpa using hg0
     obtain ⟨a,b,c⟩ := he.1 c3
     exact ⟨a,b,c,by rw [hf,c5],hga.1 hg0⟩
    ·rw [ct c5]; exact ⟨false,rfl,fun h=>by cases h⟩
   ·rw [decide_eq_false c4]; exact ⟨false,rfl,fun h=>by cases h⟩
  ·rw [ct c3]; exact ⟨false,rfl,fun h=>by cases h⟩
 ·rw [jx c2]; exact ⟨false,rfl,fun h=>by cases h⟩
theorem mn {s : LSchema} (hs : jT s) {st : List LRelation} {q : LQuery} (hq : SmallQ q) {args : List LVal} (h : Runs s st q args) :
  dI s st q args = some (LResult.mk (aT (jO s st args) q) (aN (jO s st args) q),true) := by
 unfold dI fE fJ
 obtain ⟨cs,e,hc,he,hcs⟩ := check_eq (s := s) (vars := []) hq
 obtain ⟨g,hg,hga⟩ := args_ok hq.nodes args
 have e0 := he.2 ⟨h.size,h.kinds,h.cols⟩
 have g0 := hga.2 h.args
 have hr : RunOk (jO s st args) := ⟨rfl,rfl,rfl,h.instOk hs⟩
 have hok := rows_fit hr q (h.qok hq)
 have hlen : (aN (jO s st args) q).length ≤ 20000 := by
  have h1 := hok.len
  have h2 := h.size.2.2
  have h3 := (eB h2).1
  omega
 rw [hc,hg,h.inst]
 simp only [bPs]
 rw [bneF e0,bneF g0,cond_false,cond_false]
 simp only [aE,bPs,bF,bne_self_eq_false,cond_false]
 rw [rows_eq hr (h.qok hq),bPs]
 rw [nk (xs := aN (jO s st args) q) id (fun k x hk=>by
  have := (List.getElem?_eq_some_iff.1 hk).1
  rw [bI (by decide) (by simp; omega),bPs]
  rfl),bPs,bF,bPs,bPs,hcs e0]
 simp [aT]
theorem scans_ok : fZ = some true := by
 unfold fZ
 have hin : ((LQuery.mk 1 [116] [] [] [] [] 0 0 []) : LQuery).inputs = [] := rfl
 have hnodes : bJ (LQuery.mk 1 [116] [] [] [] [] 0 0 []) = [LQuery.mk 1 [116] [] [] [] [] 0 0 []] := by rw [fL,hin]; rfl
 have hparams : ft (LQuery.mk 1 [116] [] [] [] [] 0 0 []) = [] := by unfold ft; rw [hnodes]; rfl
 have hq : SmallQ (LQuery.mk 1 [116] [] [] [] [] 0 0 []) := ⟨by rw [hnodes]; decide,fun x hx=>by rw [hnodes] at hx; simp at hx; subst hx; exact ⟨by decide,by decide⟩⟩
 have hs : jT (LSchema.mk [(LTable.mk [116] [(LCol.mk [97] 1 false)] [0])] [] []) := fun t ht=>by simp at ht; subst ht; decide
 have hcols : dM ⟨LSchema.mk [(LTable.mk [116] [(LCol.mk [97] 1 false)] [0])] [] [],[]⟩ (LQuery.mk 1 [116] [] [] [] [] 0 0 []) = ([LCol.mk [97] 1 false],0) := by
  rw [nc,hin]
  rfl
 have hruns : Runs (LSchema.mk [(LTable.mk [116] [(LCol.mk [97] 1 false)] [0])] [] []) [(LRelation.mk [116] [[(LVal.mk 1 1 [])],[(LVal.mk 1 2 [])]])] (LQuery.mk 1 [116] [] [] [] [] 0 0 []) [] := by
  refine ⟨⟨by rw [hnodes]; decide,by rw [kL,hin]; decide,by rw [jv,hin]; decide⟩,by rw [hparams]; intro i k k' a; simp at a,by rw [hcols],?_,⟨by rw [hparams]; intro i k k' a; simp at a,by rw [hparams]; intro i k a; simp at a⟩⟩
  rfl
 have he := mn hs hq hruns
 unfold dI at he
 cases ho : fE (LSchema.mk [(LTable.mk [116] [(LCol.mk [97] 1 false)] [0])] [] []) [(LRelation.mk [116] [[(LVal.mk 1 1 [])],[(LVal.mk 1 2 [])]])] (LQuery.mk 1 [116] [] [] [] [] 0 0 []) [] with
 | none=>rw [ho] at he; cases he
 | some o =>
  rw [ho,bPs] at he
  simp only [Option.some.injEq,Prod.mk.injEq] at he
  rw [bPs]
  rw [he.2,he.1,cond_true,cU,hin]
  rfl
end
end Go.Proofs.YtgaggbdcedpapaaGreat

namespace Go.Proofs.YtgaggbdcedpapaaGreat
noncomputable section
open Go Go.Ab
structure TinyQ (q : LQuery) : Prop where
 nodes : (bJ q).length ≤ 2000000
 here : ∀ x ∈ bJ q,x.exprs.length ≤ 1000000 ∧ x.aggregates.length ≤ 1000000
theorem TinyQ.small {q : LQuery} (h : TinyQ q) : SmallQ q := ⟨by have := h.nodes; omega,h.here⟩
end
end Go.Proofs.YtgaggbdcedpapaaGreat

namespace Go.Proofs.YtgaggbdcedpapaaGreat
noncomputable section
open Go Go.Ab
theorem mg {H : Type} : ∀ ds : List (DataW H),(ds.map (fun d=>Rows.uptoBulk d)).sum = Rows.uptoBulkAll ds
 | []=>by simp [Rows.uptoBulkAll]
 | d :: ds=>by simp only [List.map_cons,List.sum_cons,Rows.uptoBulkAll,mg ds]
theorem bulk_is : IsBulk (fun _ d=>Rows.uptoBulk d) where
 one := by
  intro H d
  cases d with
  | lit l=>cases l <;> simp [Rows.uptoBulk]
  | nil=>simp [Rows.uptoBulk]
  | ptr d=>simp [Rows.uptoBulk]
  | slice elems spare=>simp [Rows.uptoBulk]
  | agg parts=>simp [Rows.uptoBulk]
  | iface t d=>simp [Rows.uptoBulk]
  | map entries=>simp [Rows.uptoBulk]
  | held h=>simp [Rows.uptoBulk]
 str := by intro H l; simp [Rows.uptoBulk]
 slice := by intro H a b; rw [mg]; simp only [Rows.uptoBulk]; omega
 agg := by intro H a; rw [mg]; simp only [Rows.uptoBulk]; omega
theorem lJ {r : List PV} : ∀ {rs : List (List PV)},r ∈ rs → bj r ≤ eC rs
 | x :: rs,h=>by
  simp only [eC]
  rcases List.mem_cons.1 h with rfl | h
  ·omega
  ·have := lJ h; omega
theorem jU {α : Type} {f : α → List PV} {k : Nat} (hf : ∀ x,k ≤ bj (f x)) : ∀ l : List α,k * l.length ≤ eC (l.map f)
 | []=>by simp
 | x :: l=>by
  have := jU hf l
  have := hf x
  simp only [List.map_cons,eC,List.length_cons,Nat.mul_add]
  omega
theorem expr_pos (e : LExpr) : 2 ≤ bj (aI e) := by
 cases e; simp only [aI,bj,PV.bulk]; omega
theorem call_pos (c : LAggregateCall) : 2 ≤ bj (bl c) := by
 simp only [bl,bj,PV.bulk]; omega
theorem smallS_bulk {s : LSchema} {n : Nat} (hn : n ≤ 10000000) (h : bj (db s) ≤ n) : jT s := by
 intro t ht
 have h1 : eC (s.tables.map aO) ≤ bj (db s) := by
  simp only [db,bj,PV.bulk]; omega
 have h2 := lJ (List.mem_map_of_mem (f := aO) ht)
 have h3 : eC (t.primaryKey.map aV) ≤ bj (aO t) := by
  simp only [aO,bj,PV.bulk]; omega
 have h4 := jU (f := aV) (k := 1) (fun x=>by simp [bj,PV.bulk]) t.primaryKey
 omega
theorem nodes_bulk : ∀ q : LQuery,(bJ q).length + 1 ≤ bj (aD q) ∧ ∀ x ∈ bJ q,2 * x.exprs.length ≤ bj (aD q) ∧ 2 * x.aggregates.length ≤ bj (aD q) := by
 apply LQuery.ind
 intro q ih
 have e : bj (aD q) = bj (aQ q) := by rw [bE]
 have hr : eC (q.inputs.map aD) + 8 ≤ bj (aQ q) := by
  simp only [aQ,bj,PV.bulk]; omega
 have hsum : ∀ l : List LQuery,(∀ x ∈ l,x ∈ q.inputs) → ((l.map bJ).flatten).length + l.length ≤ eC (l.map aD) := by
  intro l
  induction l with
  | nil=>intro _; simp
  | cons x l ihl =>
   intro hm
   have h1 := (ih x (hm x (by simp))).1
   have h2 := ihl (fun y hy=>hm y (by simp [hy]))
   simp only [List.map_cons,List.flatten_cons,List.length_append,List.length_cons,eC]
   omega
 have h0 := hsum q.inputs (fun _ h=>h)
 rw [e]
 refine ⟨?_,fun x hx=>?_⟩
 ·rw [fL]; simp only [List.length_cons]; omega
 ·rw [fL] at hx
  rcases List.mem_cons.1 hx with rfl | hx
  ·have h1 := jU expr_pos x.exprs
   have h2 := jU call_pos x.aggregates
   constructor
   ·simp only [aQ,bj,PV.bulk]; omega
   ·simp only [aQ,bj,PV.bulk]; omega
  ·simp only [List.mem_flatten,List.mem_map] at hx
   obtain ⟨l,⟨y,hy,rfl⟩,hx⟩ := hx
   have h1 := (ih y hy).2 x hx
   have h2 := lJ (List.mem_map_of_mem (f := aD) hy)
   omega
theorem tiny_bulk {q : LQuery} {n : Nat} (hn : n ≤ 1048576) (h : bj (aQ q) ≤ n) : TinyQ q := by
 rw [← bE] at h
 have := nodes_bulk q
 exact ⟨by omega,fun x hx=>by have := this.2 x hx; omega⟩
end
end Go.Proofs.YtgaggbdcedpapaaGreat

namespace Go.Proofs.YtgaggbdcedpapaaGreat
noncomputable section
open Go Go.Ab
structure TinyN (n : Nat) (q : LQuery) : Prop where
 nodes : (bJ q).length ≤ 2000000 + n
 here : ∀ x ∈ bJ q,x.exprs.length ≤ 1000000 ∧ x.aggregates.length ≤ 1000000
theorem TinyN.small {n : Nat} {q : LQuery} (h : TinyN n q) (hn : n ≤ 1000000) : SmallQ q := ⟨by have := h.nodes; omega,h.here⟩
end
end Go.Proofs.YtgaggbdcedpapaaGreat

namespace Go.Proofs.YtgaggbdcedpapaaGreat
noncomputable section
open Go Go.Ab
theorem containsR (l : Rows) (p : List LVal → Bool) (f : List LVal → Option Bool) (hf : ∀ x ∈ l,f x = some (p x)) : ce l f = some (l.any p) := by
 unfold ce dl
 rw [kA p (fun j _=>(j : Int)) l 0 (fun k x hk=>by
  rw [hf x (eU hk),bPs]
  cases p x <;> rfl)]
 rw [← fM]
 unfold aK
 cases hi : l.findIdx? p with
 | none=>rfl
 | some i =>
  have hil : i < l.length := by
   have := List.findIdx?_eq_some_iff_getElem.1 hi
   exact this.1
  simp only [List.getElem?_eq_getElem hil]
  simp [bPs,kZ]
end
end Go.Proofs.YtgaggbdcedpapaaGreat

namespace Go.Proofs.YtgaggbdcedpapaaGreat
noncomputable section
open Go Go.Ab
def cntE (name : List UInt8) : LExpr := LExpr.mk 2 name 0 (LVal.mk 0 0 []) []
def cntQ (name : List UInt8) (q : LQuery) : LQuery := LQuery.mk 8 [] [[107]] [cntE name] [LAggregateCall.mk [110] eT []] [] 0 0 [q]
def cntK (r : LRun) (name : List UInt8) (q : LQuery) (y : List LVal) : List LVal := [bT (aS r (aT r q) y) (cntE name)]
theorem cnt_rows {r : LRun} {name : List UInt8} {x : LQuery} : aN r (cntQ name x) = (cT (cntK r name x) [] (aN r x)).map fun k=>k ++ [bU (bt (cntK r name x) (aN r x) k).length] := by
 have k : (cntQ name x).kind = 8 := rfl
 rw [cU]
 unfold cJ
 rw [if_neg (by omega),if_neg (by omega),if_neg (by omega),if_neg (by omega),if_neg (by omega),if_neg (by omega),if_pos k]
 unfold jS
 have e1 : (cntQ name x).exprs = [cntE name] := rfl
 have e2 : (cntQ name x).aggregates = [LAggregateCall.mk [110] eT []] := rfl
 rw [e1,e2,if_neg (by simp)]
 rfl
theorem one_in {a : List LVal} : ∀ {K : Rows},K.Nodup → (K.filter fun k=>decide (a = k)).length = if a ∈ K then 1 else 0
 | [],_=>rfl
 | k :: K,h=>by
  have ih := one_in (a := a) (List.nodup_cons.1 h).2
  rw [List.filter_cons]
  by_cases e : a = k
  ·subst e
   rw [if_neg (List.nodup_cons.1 h).1] at ih
   simp [ih]
  ·simp [e,ih]
theorem sum_step (key : List LVal → List LVal) (x : List LVal) (l : Rows) : ∀ K : Rows,(K.map fun k=>(bt key (x :: l) k).length).sum = (K.map fun k=>(bt key l k).length).sum + (K.filter fun k=>decide (key x = k)).length
 | []=>rfl
 | k :: K=>by
  have ih := sum_step key x l K
  simp only [List.map_cons,List.sum_cons,List.filter_cons]
  unfold bt at ih ⊢
  rw [List.filter_cons]
  by_cases e : key x = k
  ·simp only [e,decide_true,if_true,List.length_cons] at ih ⊢
   omega
  ·simp only [e,decide_false,Bool.false_eq_true,if_false]
   omega
theorem sum_le (key : List LVal → List LVal) {K : Rows} (hK : K.Nodup) : ∀ l : Rows,(K.map fun k=>(bt key l k).length).sum ≤ l.length
 | []=>by
  have : ∀ K : Rows,(K.map fun k=>(bt key [] k).length).sum = 0 := fun K=>by
   induction K with
   | nil=>rfl
   | cons k K ih=>simp only [List.map_cons,List.sum_cons,ih]; rfl
  rw [this K]
  exact Nat.zero_le _
 | x :: l=>by
  have ih := sum_le key hK l
  rw [sum_step,one_in hK]
  simp only [List.length_cons]
  split <;> omega
theorem sum_all (key : List LVal → List LVal) {K : Rows} (hK : K.Nodup) : ∀ l : Rows,(∀ x ∈ l,key x ∈ K) → (K.map fun k=>(bt key l k).length).sum = l.length
 | [],_=>Nat.le_antisymm (sum_le key hK []) (Nat.zero_le _)
 | x :: l,h=>by
  rw [sum_step,one_in hK,if_pos (h x (by simp)),sum_all key hK l (fun y hy=>h y (by simp [hy]))]
  rfl
theorem TinyN.cnt {n : Nat} {q : LQuery} (h : TinyN n q) (name : List UInt8) : TinyN (n + 1) (cntQ name q) := by
 have hi : (cntQ name q).inputs = [q] := rfl
 refine ⟨?_,fun y hy=>?_⟩
 ·rw [fL,hi]; have := h.nodes; simp; omega
 ·rw [fL,hi] at hy
  rcases List.mem_cons.1 hy with rfl | hy
  ·exact ⟨show (1 : Nat) ≤ 1000000 by omega,show (1 : Nat) ≤ 1000000 by omega⟩
  ·exact h.here y (by simpa using hy)
theorem groups_law {s : LSchema} (hs : jT s) (st : List LRelation) {q : LQuery} (hq : TinyQ q) (name : List UInt8) (args : List LVal) : da s st q name args = some true := by
 unfold da
 rw [scans_ok,bPs]
 simp only [Bool.not_true,cond_false]
 rw [show (LQuery.mk 8 [] [[107]] [(LExpr.mk 2 name 0 (LVal.mk 0 0 []) [])] [(LAggregateCall.mk [110] [99,111,117,110,116] [])] [] 0 0 [q]) = cntQ name q from rfl]
 have t0 : TinyN 0 q := ⟨hq.nodes,hq.here⟩
 have s1 := (t0.cnt name).small (by omega)
 obtain ⟨b,hb,hr⟩ := runs_tot hs st s1 args
 rw [hb,bPs]
 cases b with
 | false=>rfl
 | true =>
  have h1 := hr rfl
  have hrq : Runs s st q args := h1.sub (by simp [cntQ,LQuery.inputs])
  simp only [Bool.not_true,cond_false]
  rw [mn hs s1 h1,mn hs hq.small hrq]
  simp only [bPs]
  have hok := rows_fit (r := jO s st args) ⟨rfl,rfl,rfl,hrq.instOk hs⟩ q (hrq.qok hq.small)
  have hlen : (aN (jO s st args) q).length ≤ 20000 := by
   have h1 := hok.len
   have h2 := hrq.size.2.2
   have h3 := (eB h2).1
   omega
  rw [cnt_rows]
  have hsing : ∀ y,∃ v,cntK (jO s st args) name q y = [v] := fun y=>⟨_,rfl⟩
  generalize cntK (jO s st args) name q = key at hsing ⊢
  generalize aN (jO s st args) q = l at hlen ⊢
  have hK : (cT key [] l).Nodup := mw _ _ _ (by simp)
  have hmem : ∀ x ∈ l,key x ∈ cT key [] l := fun x hx=>(jC key _ _ _).2 (.inr ⟨x,hx,rfl⟩)
  have hone : ∀ k ∈ cT key [] l,∃ v,k = [v] := fun k hk=>by
   rcases (jC key _ _ _).1 hk with h | ⟨x,_,h⟩
   ·simp at h
   ·obtain ⟨v,hv⟩ := hsing x
    exact ⟨v,by rw [← h,hv]⟩
  generalize cT key [] l = K at hK hmem hone ⊢
  rw [rMa (xs := K.map fun k=>k ++ [bU (bt key l k).length]) (s := 0) (fun j=>((((K.take j).map fun k=>(bt key l k).length).sum : Nat) : Int)) rfl (fun j x hj=>by
   have hjl : j < K.length := by simpa using (List.getElem?_eq_some_iff.1 hj).1
   rw [List.getElem?_map,List.getElem?_eq_getElem hjl,Option.map_some,Option.some.injEq] at hj
   obtain ⟨v,hv⟩ := hone K[j] (List.getElem_mem hjl)
   have hx : x = [v,bU (bt key l K[j]).length] := by rw [← hj,hv]; rfl
   rw [show ((x.length : Int) != 2) = false from by rw [hx]; rfl,cond_false]
   rw [lx ⟨by omega,by omega,by simp; omega⟩,bPs]
   rw [containsR _ (fun y=>decide (y.head? = some v)) _ (fun y hy=>by
    simp only [Int.toNat_zero,List.drop_zero,Int.toNat_natCast] at hy
    obtain ⟨k,hk,rfl⟩ := List.mem_map.1 (List.mem_of_mem_take hy)
    obtain ⟨w,rfl⟩ := hone k hk
    unfold cd
    rw [decide_eq_true (by simp),cond_true,show aC ([w] ++ [bU (bt key l [w]).length]) 0 = some w from rfl,bPs,hx,show aC [v,bU (bt key l K[j]).length] 0 = some v from rfl,bPs,val_eq]
    simp),bPs]
   have c1 : ((((K.map fun k=>k ++ [bU (bt key l k).length]).take (j : Int).toNat).drop (0 : Int).toNat).any fun y=>decide (y.head? = some v)) = false := by
    rw [List.any_eq_false]
    intro y hy
    simp only [Int.toNat_zero,List.drop_zero,Int.toNat_natCast] at hy
    rw [← List.map_take] at hy
    obtain ⟨k,hk,rfl⟩ := List.mem_map.1 hy
    obtain ⟨w,hw⟩ := hone k (List.mem_of_mem_take hk)
    obtain ⟨i,hi,hki⟩ := List.mem_iff_getElem.1 hk
    have hij : i < j := by simp at hi; omega
    rw [List.getElem_take] at hki
    have := List.pairwise_iff_getElem.1 hK i j (by omega) hjl hij
    rw [hki,hw,hv] at this
    rw [hw]
    simpa using this
   rw [c1,bPs,cond_false,hx,show aC [v,bU (bt key l K[j]).length] 1 = some (bU (bt key l K[j]).length) from rfl,bPs,show (bU ((bt key l K[j]).length : Int)).int = ((bt key l K[j]).length : Int) from by
    have hg : (bt key l K[j]).length ≤ l.length := by unfold bt; exact List.length_filter_le _ _
    unfold bU
    rw [decide_eq_false (show ¬ ((bt key l K[j]).length : Int) < -1000000000000 from by omega),decide_eq_false (show ¬ ((bt key l K[j]).length : Int) > 1000000000000 from by omega)]
    rfl]
   have hsum : ((K.take (j + 1)).map fun k=>(bt key l k).length).sum = ((K.take j).map fun k=>(bt key l k).length).sum + (bt key l K[j]).length := by
    rw [List.take_add_one,List.getElem?_eq_getElem hjl,List.map_append,List.sum_append]
    simp
   have hle := sum_le key (hK.sublist (List.take_sublist (j + 1) K)) l
   rw [aX (by omega) (by omega),hsum]
   simp),bPs,gm,List.length_map,List.take_length,sum_all key hK l hmem]
  simp only [cond_true]
  rw [iS rfl]
end
end Go.Proofs.YtgaggbdcedpapaaGreat

namespace Go.Proofs.YtgaggbdcedpapaaGreat
noncomputable section
open Go Go.Ab
theorem own_knob : ownKnob Tryz.prog.godebug = none := by kernel_rfl
theorem laid_out : laidOutB Tryz.prog = true := by kernel_rfl
def lawTypes : List TypeId := [26,22,91,9,39,50,3,4,89,23,142,24,148,53,28,87,40,51,35,29,30,56,31,66,32,33,36]
theorem lawTypes_ok : lawTypes.all (okT Tryz.prog lawTypes) = true := by kernel_rfl
theorem lawTypes_info : ∀ t ∈ lawTypes,∃ i,Tryz.prog.info? t = some i ∧ i.bytes = Tryz.prog.bytesOf t ∧ i.size = Tryz.prog.cellsOf t := infos_of (by kernel_rfl)
theorem sh9 {n : Nat} {pvs : List PV} (h : Sh Tryz.prog n 9 pvs) : ∃ v : List UInt8,pvs = [.str v] := by
 cases n with
 | zero=>simp [Sh] at h
 | succ n=>simp only [Sh,Tryz.underlying9] at h; obtain ⟨m,rfl,_⟩ := h; exact ⟨m,rfl⟩
theorem sh3 {n : Nat} {pvs : List PV} (h : Sh Tryz.prog n 3 pvs) : ∃ v : Int,pvs = [ac v] := by
 cases n with
 | zero=>simp [Sh] at h
 | succ n=>simp only [Sh,Tryz.underlying3] at h; obtain ⟨m,rfl,_⟩ := h; exact ⟨m,rfl⟩
theorem sh4 {n : Nat} {pvs : List PV} (h : Sh Tryz.prog n 4 pvs) : ∃ v : Bool,pvs = [au v] := by
 cases n with
 | zero=>simp [Sh] at h
 | succ n=>simp only [Sh,Tryz.underlying4] at h; obtain ⟨m,rfl⟩ := h; exact ⟨m,rfl⟩
theorem sh50 {n : Nat} {pvs : List PV} (h : Sh Tryz.prog n 50 pvs) : ∃ v : LCol,pvs = av v := by
 cases n with
 | zero=>simp [Sh] at h
 | succ n =>
  simp only [Sh,Tryz.underlying50,List.map_cons,List.map_nil,eS] at h
  obtain ⟨p0,r0,rfl,h0,p1,r1,rfl,h1,p2,r2,rfl,h2,rfl⟩ := h
  obtain ⟨v0,rfl⟩ := sh9 h0
  obtain ⟨v1,rfl⟩ := sh3 h1
  obtain ⟨v2,rfl⟩ := sh4 h2
  exact ⟨LCol.mk v0 v1 v2,rfl⟩
theorem sh39 {n : Nat} {pvs : List PV} (h : Sh Tryz.prog n 39 pvs) : ∃ v : List LCol,pvs = [.list 50 (v.map av)] := by
 cases n with
 | zero=>simp [Sh] at h
 | succ n =>
  simp only [Sh,Tryz.underlying39] at h
  obtain ⟨rows,rfl,hr⟩ := h
  obtain ⟨xs,rfl⟩ := gw (f := av) (fun r hq=>sh50 (hr r hq))
  exact ⟨xs,rfl⟩
theorem sh89 {n : Nat} {pvs : List PV} (h : Sh Tryz.prog n 89 pvs) : ∃ v : List Int,pvs = [.list 3 (v.map aV)] := by
 cases n with
 | zero=>simp [Sh] at h
 | succ n =>
  simp only [Sh,Tryz.underlying89] at h
  obtain ⟨rows,rfl,hr⟩ := h
  obtain ⟨xs,rfl⟩ := gw (f := aV) (fun r hq=>let ⟨v,e⟩ := sh3 (hr r hq); ⟨v,e⟩)
  exact ⟨xs,rfl⟩
theorem sh91 {n : Nat} {pvs : List PV} (h : Sh Tryz.prog n 91 pvs) : ∃ v : LTable,pvs = aO v := by
 cases n with
 | zero=>simp [Sh] at h
 | succ n =>
  simp only [Sh,Tryz.underlying91,List.map_cons,List.map_nil,eS] at h
  obtain ⟨p0,r0,rfl,h0,p1,r1,rfl,h1,p2,r2,rfl,h2,rfl⟩ := h
  obtain ⟨v0,rfl⟩ := sh9 h0
  obtain ⟨v1,rfl⟩ := sh39 h1
  obtain ⟨v2,rfl⟩ := sh89 h2
  exact ⟨LTable.mk v0 v1 v2,rfl⟩
theorem sh22 {n : Nat} {pvs : List PV} (h : Sh Tryz.prog n 22 pvs) : ∃ v : List LTable,pvs = [.list 91 (v.map aO)] := by
 cases n with
 | zero=>simp [Sh] at h
 | succ n =>
  simp only [Sh,Tryz.underlying22] at h
  obtain ⟨rows,rfl,hr⟩ := h
  obtain ⟨xs,rfl⟩ := gw (f := aO) (fun r hq=>sh91 (hr r hq))
  exact ⟨xs,rfl⟩
theorem sh142 {n : Nat} {pvs : List PV} (h : Sh Tryz.prog n 142 pvs) : ∃ v : LForeignKey,pvs = bC v := by
 cases n with
 | zero=>simp [Sh] at h
 | succ n =>
  simp only [Sh,Tryz.underlying142,List.map_cons,List.map_nil,eS] at h
  obtain ⟨p0,r0,rfl,h0,p1,r1,rfl,h1,p2,r2,rfl,h2,rfl⟩ := h
  obtain ⟨v0,rfl⟩ := sh9 h0
  obtain ⟨v1,rfl⟩ := sh89 h1
  obtain ⟨v2,rfl⟩ := sh9 h2
  exact ⟨LForeignKey.mk v0 v1 v2,rfl⟩
theorem sh23 {n : Nat} {pvs : List PV} (h : Sh Tryz.prog n 23 pvs) : ∃ v : List LForeignKey,pvs = [.list 142 (v.map bC)] := by
 cases n with
 | zero=>simp [Sh] at h
 | succ n =>
  simp only [Sh,Tryz.underlying23] at h
  obtain ⟨rows,rfl,hr⟩ := h
  obtain ⟨xs,rfl⟩ := gw (f := bC) (fun r hq=>sh142 (hr r hq))
  exact ⟨xs,rfl⟩
theorem sh53 {n : Nat} {pvs : List PV} (h : Sh Tryz.prog n 53 pvs) : ∃ v : LVal,pvs = ae v := by
 cases n with
 | zero=>simp [Sh] at h
 | succ n =>
  simp only [Sh,Tryz.underlying53,List.map_cons,List.map_nil,eS] at h
  obtain ⟨p0,r0,rfl,h0,p1,r1,rfl,h1,p2,r2,rfl,h2,rfl⟩ := h
  obtain ⟨v0,rfl⟩ := sh3 h0
  obtain ⟨v1,rfl⟩ := sh3 h1
  obtain ⟨v2,rfl⟩ := sh9 h2
  exact ⟨LVal.mk v0 v1 v2,rfl⟩
theorem sh148 {n : Nat} {pvs : List PV} (h : Sh Tryz.prog n 148 pvs) : ∃ v : LConstraint,pvs = bH v := by
 cases n with
 | zero=>simp [Sh] at h
 | succ n =>
  simp only [Sh,Tryz.underlying148,List.map_cons,List.map_nil,eS] at h
  obtain ⟨p0,r0,rfl,h0,p1,r1,rfl,h1,p2,r2,rfl,h2,p3,r3,rfl,h3,p4,r4,rfl,h4,rfl⟩ := h
  obtain ⟨v0,rfl⟩ := sh9 h0
  obtain ⟨v1,rfl⟩ := sh3 h1
  obtain ⟨v2,rfl⟩ := sh9 h2
  obtain ⟨v3,rfl⟩ := sh3 h3
  obtain ⟨v4,rfl⟩ := sh53 h4
  exact ⟨LConstraint.mk v0 v1 v2 v3 v4,rfl⟩
theorem sh24 {n : Nat} {pvs : List PV} (h : Sh Tryz.prog n 24 pvs) : ∃ v : List LConstraint,pvs = [.list 148 (v.map bH)] := by
 cases n with
 | zero=>simp [Sh] at h
 | succ n =>
  simp only [Sh,Tryz.underlying24] at h
  obtain ⟨rows,rfl,hr⟩ := h
  obtain ⟨xs,rfl⟩ := gw (f := bH) (fun r hq=>sh148 (hr r hq))
  exact ⟨xs,rfl⟩
theorem sh26 {n : Nat} {pvs : List PV} (h : Sh Tryz.prog n 26 pvs) : ∃ v : LSchema,pvs = db v := by
 cases n with
 | zero=>simp [Sh] at h
 | succ n =>
  simp only [Sh,Tryz.underlying26,List.map_cons,List.map_nil,eS] at h
  obtain ⟨p0,r0,rfl,h0,p1,r1,rfl,h1,p2,r2,rfl,h2,rfl⟩ := h
  obtain ⟨v0,rfl⟩ := sh22 h0
  obtain ⟨v1,rfl⟩ := sh23 h1
  obtain ⟨v2,rfl⟩ := sh24 h2
  exact ⟨LSchema.mk v0 v1 v2,rfl⟩
theorem sh51 {n : Nat} {pvs : List PV} (h : Sh Tryz.prog n 51 pvs) : ∃ v : List LVal,pvs = [.list 53 (v.map ae)] := by
 cases n with
 | zero=>simp [Sh] at h
 | succ n =>
  simp only [Sh,Tryz.underlying51] at h
  obtain ⟨rows,rfl,hr⟩ := h
  obtain ⟨xs,rfl⟩ := gw (f := ae) (fun r hq=>sh53 (hr r hq))
  exact ⟨xs,rfl⟩
theorem sh40 {n : Nat} {pvs : List PV} (h : Sh Tryz.prog n 40 pvs) : ∃ v : List (List LVal),pvs = [.list 51 (v.map (ag 53 ae))] := by
 cases n with
 | zero=>simp [Sh] at h
 | succ n =>
  simp only [Sh,Tryz.underlying40] at h
  obtain ⟨rows,rfl,hr⟩ := h
  obtain ⟨xs,rfl⟩ := gw (f := (ag 53 ae)) (fun r hq=>let ⟨v,e⟩ := sh51 (hr r hq); ⟨v,e⟩)
  exact ⟨xs,rfl⟩
theorem sh87 {n : Nat} {pvs : List PV} (h : Sh Tryz.prog n 87 pvs) : ∃ v : LRelation,pvs = bg v := by
 cases n with
 | zero=>simp [Sh] at h
 | succ n =>
  simp only [Sh,Tryz.underlying87,List.map_cons,List.map_nil,eS] at h
  obtain ⟨p0,r0,rfl,h0,p1,r1,rfl,h1,rfl⟩ := h
  obtain ⟨v0,rfl⟩ := sh9 h0
  obtain ⟨v1,rfl⟩ := sh40 h1
  exact ⟨LRelation.mk v0 v1,rfl⟩
theorem sh28 {n : Nat} {pvs : List PV} (h : Sh Tryz.prog n 28 pvs) : ∃ v : List LRelation,pvs = [.list 87 (v.map bg)] := by
 cases n with
 | zero=>simp [Sh] at h
 | succ n =>
  simp only [Sh,Tryz.underlying28] at h
  obtain ⟨rows,rfl,hr⟩ := h
  obtain ⟨xs,rfl⟩ := gw (f := bg) (fun r hq=>sh87 (hr r hq))
  exact ⟨xs,rfl⟩
theorem sh29 {n : Nat} {pvs : List PV} (h : Sh Tryz.prog n 29 pvs) : ∃ v : List (List UInt8),pvs = [.list 9 (v.map bo)] := by
 cases n with
 | zero=>simp [Sh] at h
 | succ n =>
  simp only [Sh,Tryz.underlying29] at h
  obtain ⟨rows,rfl,hr⟩ := h
  obtain ⟨xs,rfl⟩ := gw (f := bo) (fun r hq=>let ⟨v,e⟩ := sh9 (hr r hq); ⟨v,e⟩)
  exact ⟨xs,rfl⟩
theorem sh56 {n : Nat} {pvs : List PV} (h : Sh Tryz.prog n 56 pvs) : ∃ v : LExpr,pvs = aI v := by
 induction n generalizing pvs with
 | zero=>simp [Sh] at h
 | succ n ih =>
  simp only [Sh,Tryz.underlying56,List.map_cons,List.map_nil,eS] at h
  obtain ⟨p0,r0,rfl,h0,p1,r1,rfl,h1,p2,r2,rfl,h2,p3,r3,rfl,h3,p4,r4,rfl,h4,rfl⟩ := h
  obtain ⟨v0,rfl⟩ := sh3 h0
  obtain ⟨v1,rfl⟩ := sh9 h1
  obtain ⟨v2,rfl⟩ := sh3 h2
  obtain ⟨v3,rfl⟩ := sh53 h3
  cases n with
  | zero=>simp [Sh] at h4
  | succ n =>
  simp only [Sh,Tryz.underlying30] at h4
  obtain ⟨rows,rfl,hr4⟩ := h4
  obtain ⟨v4,rfl⟩ := rowsUp (f := aI) (rfl) ih hr4
  exact ⟨LExpr.mk v0 v1 v2 v3 v4,by rw [cW]; rfl⟩
theorem sh30 {n : Nat} {pvs : List PV} (h : Sh Tryz.prog n 30 pvs) : ∃ v : List LExpr,pvs = [.list 56 (v.map aI)] := by
 cases n with
 | zero=>simp [Sh] at h
 | succ n =>
  simp only [Sh,Tryz.underlying30] at h
  obtain ⟨rows,rfl,hr⟩ := h
  obtain ⟨xs,rfl⟩ := gw (f := aI) (fun r hq=>sh56 (hr r hq))
  exact ⟨xs,rfl⟩
theorem sh66 {n : Nat} {pvs : List PV} (h : Sh Tryz.prog n 66 pvs) : ∃ v : LAggregateCall,pvs = bl v := by
 cases n with
 | zero=>simp [Sh] at h
 | succ n =>
  simp only [Sh,Tryz.underlying66,List.map_cons,List.map_nil,eS] at h
  obtain ⟨p0,r0,rfl,h0,p1,r1,rfl,h1,p2,r2,rfl,h2,rfl⟩ := h
  obtain ⟨v0,rfl⟩ := sh9 h0
  obtain ⟨v1,rfl⟩ := sh9 h1
  obtain ⟨v2,rfl⟩ := sh30 h2
  exact ⟨LAggregateCall.mk v0 v1 v2,rfl⟩
theorem sh31 {n : Nat} {pvs : List PV} (h : Sh Tryz.prog n 31 pvs) : ∃ v : List LAggregateCall,pvs = [.list 66 (v.map bl)] := by
 cases n with
 | zero=>simp [Sh] at h
 | succ n =>
  simp only [Sh,Tryz.underlying31] at h
  obtain ⟨rows,rfl,hr⟩ := h
  obtain ⟨xs,rfl⟩ := gw (f := bl) (fun r hq=>sh66 (hr r hq))
  exact ⟨xs,rfl⟩
theorem sh32 {n : Nat} {pvs : List PV} (h : Sh Tryz.prog n 32 pvs) : ∃ v : List Bool,pvs = [.list 4 (v.map bB)] := by
 cases n with
 | zero=>simp [Sh] at h
 | succ n =>
  simp only [Sh,Tryz.underlying32] at h
  obtain ⟨rows,rfl,hr⟩ := h
  obtain ⟨xs,rfl⟩ := gw (f := bB) (fun r hq=>let ⟨v,e⟩ := sh4 (hr r hq); ⟨v,e⟩)
  exact ⟨xs,rfl⟩
theorem sh35 {n : Nat} {pvs : List PV} (h : Sh Tryz.prog n 35 pvs) : ∃ v : LQuery,pvs = aD v := by
 induction n generalizing pvs with
 | zero=>simp [Sh] at h
 | succ n ih =>
  simp only [Sh,Tryz.underlying35,List.map_cons,List.map_nil,eS] at h
  obtain ⟨p0,r0,rfl,h0,p1,r1,rfl,h1,p2,r2,rfl,h2,p3,r3,rfl,h3,p4,r4,rfl,h4,p5,r5,rfl,h5,p6,r6,rfl,h6,p7,r7,rfl,h7,p8,r8,rfl,h8,rfl⟩ := h
  obtain ⟨v0,rfl⟩ := sh3 h0
  obtain ⟨v1,rfl⟩ := sh9 h1
  obtain ⟨v2,rfl⟩ := sh29 h2
  obtain ⟨v3,rfl⟩ := sh30 h3
  obtain ⟨v4,rfl⟩ := sh31 h4
  obtain ⟨v5,rfl⟩ := sh32 h5
  obtain ⟨v6,rfl⟩ := sh3 h6
  obtain ⟨v7,rfl⟩ := sh3 h7
  cases n with
  | zero=>simp [Sh] at h8
  | succ n =>
  simp only [Sh,Tryz.underlying33] at h8
  obtain ⟨rows,rfl,hr8⟩ := h8
  obtain ⟨v8,rfl⟩ := rowsUp (f := aD) (rfl) ih hr8
  exact ⟨LQuery.mk v0 v1 v2 v3 v4 v5 v6 v7 v8,by rw [bE]; rfl⟩
theorem sh36 {n : Nat} {pvs : List PV} (h : Sh Tryz.prog n 36 pvs) : ∃ v : List LVal,pvs = [.list 53 (v.map ae)] := by
 cases n with
 | zero=>simp [Sh] at h
 | succ n =>
  simp only [Sh,Tryz.underlying36] at h
  obtain ⟨rows,rfl,hr⟩ := h
  obtain ⟨xs,rfl⟩ := gw (f := ae) (fun r hq=>sh53 (hr r hq))
  exact ⟨xs,rfl⟩
theorem law_args : ∀ args,ArgsSh Tryz.prog Tryz.f6.params.toList args → bj args ≤ 1048576 → aG Tryz.prog 6 args (.val (.bool true)) := by
 intro args h hN
 rw [Tryz.params6] at h
 simp only [ArgsSh] at h
 obtain ⟨n0,p0,r0,rfl,h0,n1,p1,r1,rfl,h1,n2,p2,r2,rfl,h2,n3,p3,r3,rfl,h3,n4,p4,r4,rfl,h4,rfl⟩ := h
 obtain ⟨v0,rfl⟩ := sh26 h0
 obtain ⟨v1,rfl⟩ := sh28 h1
 obtain ⟨v2,rfl⟩ := sh35 h2
 obtain ⟨v3,rfl⟩ := sh9 h3
 obtain ⟨v4,rfl⟩ := sh36 h4
 have e0 : gW Tryz.prog 26 (db v0) = .agg (db v0) := by simp only [gW,Tryz.underlying26]
 rw [e0] at hN ⊢
 have e1 : gW Tryz.prog 28 [.list 87 (v1.map bg)] = .list 87 (v1.map bg) := by simp only [gW,Tryz.underlying28]; rfl
 rw [e1] at hN ⊢
 have e2 : gW Tryz.prog 35 (aD v2) = .agg (aD v2) := by simp only [gW,Tryz.underlying35]
 rw [bE] at e2
 rw [bE v2,e2] at hN ⊢
 have e3 : gW Tryz.prog 9 [.str v3] = .str v3 := by simp only [gW,Tryz.underlying9]; rfl
 rw [e3] at hN ⊢
 have e4 : gW Tryz.prog 36 [.list 53 (v4.map ae)] = .list 53 (v4.map ae) := by simp only [gW,Tryz.underlying36]; rfl
 rw [e4] at hN ⊢
 simp only [bj,PV.bulk] at hN
 have hs0 : jT v0 := smallS_bulk (n := 1048576) (by omega) (by omega)
 have hq2 : TinyQ v2 := tiny_bulk (n := 1048576) (by omega) (by omega)
 exact iK v0 v1 v2 v3 v4 true (groups_law hs0 v1 hq2 v3 v4)
set_option maxRecDepth 100000 in
theorem law_wf : (fun (P : Program) (f : FuncId) (fn : Func) (s : ChangeSpec) (c : OpenClaim)=>(P.funcs.size,f,fn.params.size,s.name,c.func,c.wf (OpenSpec.ofChange s)).2.2.2.2.2) Tryz.prog 6 Tryz.f6 (Rows.OpenSpec.upto Rows.queryGroupsPartitionRowsSpec).bare Rows.queryGroupsPartitionRowsUptoRow = true := by kernel_rfl
set_option maxRecDepth 100000 in
theorem law_laid : (fun (P : Program) (f : FuncId) (fn : Func) (s : ChangeSpec) (c : OpenClaim)=>(P.funcs.size,f,fn.params.size,s.name,c.func,laidOutB P).2.2.2.2.2) Tryz.prog 6 Tryz.f6 (Rows.OpenSpec.upto Rows.queryGroupsPartitionRowsSpec).bare Rows.queryGroupsPartitionRowsUptoRow = true := by kernel_rfl
set_option maxRecDepth 100000 in
theorem law_mapsRowed : (fun (P : Program) (f : FuncId) (fn : Func) (s : ChangeSpec) (c : OpenClaim)=>(P.funcs.size,f,fn.params.size,s.name,c.func,mapsRowed P).2.2.2.2.2) Tryz.prog 6 Tryz.f6 (Rows.OpenSpec.upto Rows.queryGroupsPartitionRowsSpec).bare Rows.queryGroupsPartitionRowsUptoRow = true := by kernel_rfl
set_option maxRecDepth 100000 in
theorem law_rr : (fun (P : Program) (f : FuncId) (fn : Func) (s : ChangeSpec) (c : OpenClaim)=>(P.funcs.size,f,fn.params.size,s.name,c.func,fn.params.all (P.readableRec ·)).2.2.2.2.2) Tryz.prog 6 Tryz.f6 (Rows.OpenSpec.upto Rows.queryGroupsPartitionRowsSpec).bare Rows.queryGroupsPartitionRowsUptoRow = true := by kernel_rfl
set_option maxRecDepth 100000 in
theorem law_nt : (fun (P : Program) (f : FuncId) (fn : Func) (s : ChangeSpec) (c : OpenClaim)=>(P.funcs.size,f,fn.params.size,s.name,c.func,namedTie P c.named s.vars).2.2.2.2.2) Tryz.prog 6 Tryz.f6 (Rows.OpenSpec.upto Rows.queryGroupsPartitionRowsSpec).bare Rows.queryGroupsPartitionRowsUptoRow = true := by kernel_rfl
set_option maxRecDepth 100000 in
theorem law_st : (fun (P : Program) (f : FuncId) (fn : Func) (s : ChangeSpec) (c : OpenClaim)=>(P.funcs.size,f,fn.params.size,s.name,c.func,(c.stops == []) && (P.stops == []) && (c.knobs == []) && (P.stopKnobs == [])).2.2.2.2.2) Tryz.prog 6 Tryz.f6 (Rows.OpenSpec.upto Rows.queryGroupsPartitionRowsSpec).bare Rows.queryGroupsPartitionRowsUptoRow = true := by kernel_rfl
set_option maxRecDepth 100000 in
theorem law_inPlace : (fun (P : Program) (f : FuncId) (fn : Func) (s : ChangeSpec) (c : OpenClaim)=>(P.funcs.size,f,fn.params.size,s.name,c.func,c.inPlace == P.inPlace f).2.2.2.2.2) Tryz.prog 6 Tryz.f6 (Rows.OpenSpec.upto Rows.queryGroupsPartitionRowsSpec).bare Rows.queryGroupsPartitionRowsUptoRow = true := by kernel_rfl
set_option maxRecDepth 100000 in
theorem law_unf : (fun (P : Program) (f : FuncId) (fn : Func) (s : ChangeSpec) (c : OpenClaim)=>(P.funcs.size,f,fn.params.size,s.name,c.func,c.unfollowed == P.unfollowed f).2.2.2.2.2) Tryz.prog 6 Tryz.f6 (Rows.OpenSpec.upto Rows.queryGroupsPartitionRowsSpec).bare Rows.queryGroupsPartitionRowsUptoRow = true := by kernel_rfl
set_option maxRecDepth 100000 in
theorem law_rec : (fun (P : Program) (f : FuncId) (fn : Func) (s : ChangeSpec) (c : OpenClaim)=>(P.funcs.size,f,fn.params.size,s.name,c.func,c.recurses == P.recurses f).2.2.2.2.2) Tryz.prog 6 Tryz.f6 (Rows.OpenSpec.upto Rows.queryGroupsPartitionRowsSpec).bare Rows.queryGroupsPartitionRowsUptoRow = true := by kernel_rfl
set_option maxRecDepth 100000 in
theorem law_named : (fun (P : Program) (f : FuncId) (fn : Func) (s : ChangeSpec) (c : OpenClaim)=>(P.funcs.size,f,fn.params.size,s.name,c.func,c.named == P.varsNamed f).2.2.2.2.2) Tryz.prog 6 Tryz.f6 (Rows.OpenSpec.upto Rows.queryGroupsPartitionRowsSpec).bare Rows.queryGroupsPartitionRowsUptoRow = true := by kernel_rfl
set_option maxRecDepth 100000 in
theorem law_maps : (fun (P : Program) (f : FuncId) (fn : Func) (s : ChangeSpec) (c : OpenClaim)=>(P.funcs.size,f,fn.params.size,s.name,c.func,(c.maps == (fn.params.toList ++ s.plain.varTypes P).any (P.mapsRec ·)) && (c.ifaces == (fn.params.toList ++ s.plain.varTypes P).any (P.ifacesRec ·)) && (c.mapsOut == P.mapsAmong fn.resultTypes.toList)).2.2.2.2.2) Tryz.prog 6 Tryz.f6 (Rows.OpenSpec.upto Rows.queryGroupsPartitionRowsSpec).bare Rows.queryGroupsPartitionRowsUptoRow = true := by kernel_rfl
set_option maxRecDepth 100000 in
theorem law_loops : (fun (P : Program) (f : FuncId) (fn : Func) (s : ChangeSpec) (c : OpenClaim)=>(P.funcs.size,f,fn.params.size,s.name,c.func,(c.loops == (fn.params.toList ++ s.plain.varTypes P).any (P.loopsFrom ·))).2.2.2.2.2) Tryz.prog 6 Tryz.f6 (Rows.OpenSpec.upto Rows.queryGroupsPartitionRowsSpec).bare Rows.queryGroupsPartitionRowsUptoRow = true := by kernel_rfl
set_option maxRecDepth 100000 in
theorem law_wide : (fun (P : Program) (f : FuncId) (fn : Func) (s : ChangeSpec) (c : OpenClaim)=>(P.funcs.size,f,fn.params.size,s.name,c.func,(c.wideKeys == (fn.params.toList ++ s.plain.varTypes P ++ fn.resultTypes.toList).any (P.wideKeysFrom ·))).2.2.2.2.2) Tryz.prog 6 Tryz.f6 (Rows.OpenSpec.upto Rows.queryGroupsPartitionRowsSpec).bare Rows.queryGroupsPartitionRowsUptoRow = true := by kernel_rfl
set_option maxRecDepth 100000 in
theorem law_rest1 : (fun (P : Program) (f : FuncId) (fn : Func) (s : ChangeSpec) (c : OpenClaim)=>(P.funcs.size,f,fn.params.size,s.name,c.func,s.vars.all (P.varReadable ·) && fn.resultTypes.all (fun t=>P.readableRec t && decide (t < P.types.size)) && (c.ifacesOut == fn.resultTypes.toList.any (P.ifacesRec ·)) && (c.loopsOut == fn.resultTypes.toList.any (P.loopsFrom ·))).2.2.2.2.2) Tryz.prog 6 Tryz.f6 (Rows.OpenSpec.upto Rows.queryGroupsPartitionRowsSpec).bare Rows.queryGroupsPartitionRowsUptoRow = true := by kernel_rfl
set_option maxRecDepth 100000 in
theorem law_plainKeys : (fun (P : Program) (f : FuncId) (fn : Func) (s : ChangeSpec) (c : OpenClaim)=>(P.funcs.size,f,fn.params.size,s.name,c.func,c.plainKeys == P.plainKeys).2.2.2.2.2) Tryz.prog 6 Tryz.f6 (Rows.OpenSpec.upto Rows.queryGroupsPartitionRowsSpec).bare Rows.queryGroupsPartitionRowsUptoRow = true := by kernel_rfl
set_option maxRecDepth 100000 in
theorem law_rest2 : (fun (P : Program) (f : FuncId) (fn : Func) (s : ChangeSpec) (c : OpenClaim)=>(P.funcs.size,f,fn.params.size,s.name,c.func,c.shortTexts.isNone && P.stopsHeard && P.mayEnter && (c.lifted == P.liftsFinal) && (P.make == some c.make)).2.2.2.2.2) Tryz.prog 6 Tryz.f6 (Rows.OpenSpec.upto Rows.queryGroupsPartitionRowsSpec).bare Rows.queryGroupsPartitionRowsUptoRow = true := by kernel_rfl
set_option maxRecDepth 100000 in
theorem law_kinds : (fun (P : Program) (f : FuncId) (fn : Func) (s : ChangeSpec) (c : OpenClaim)=>(P.funcs.size,f,fn.params.size,s.name,c.func,(c.kinds == (if c.domain.isEmpty then [] else fn.params.toList.map fun t=>match P.underlying t with | some (.int k)=>some k | _=>none)) && (c.pinned == c.pinnedBy)).2.2.2.2.2) Tryz.prog 6 Tryz.f6 (Rows.OpenSpec.upto Rows.queryGroupsPartitionRowsSpec).bare Rows.queryGroupsPartitionRowsUptoRow = true := by kernel_rfl
set_option maxRecDepth 100000 in
theorem law_veil : (fun (P : Program) (f : FuncId) (fn : Func) (s : ChangeSpec) (c : OpenClaim)=>(P.funcs.size,f,fn.params.size,s.name,c.func,(c.veiled == (fn.params.toList ++ s.plain.varTypes P ++ fn.resultTypes.toList).any (P.veiledRec ·)) && c.veiledFits P fn.params.toList (fn.params.toList ++ s.plain.varTypes P ++ fn.resultTypes.toList)).2.2.2.2.2) Tryz.prog 6 Tryz.f6 (Rows.OpenSpec.upto Rows.queryGroupsPartitionRowsSpec).bare Rows.queryGroupsPartitionRowsUptoRow = true := by kernel_rfl
set_option maxRecDepth 100000 in
theorem law_facts : joinedFacts Tryz.prog 6 Tryz.f6 (Rows.OpenSpec.upto Rows.queryGroupsPartitionRowsSpec).bare Rows.queryGroupsPartitionRowsUptoRow = true := joined_of law_wf law_laid law_mapsRowed law_rr law_nt law_st law_inPlace law_unf law_rec law_named law_maps law_loops law_wide law_rest1 law_plainKeys law_rest2 law_kinds law_veil
set_option maxRecDepth 100000 in
theorem law_lifted (os : Os) (started : os.Started) (H : Type) (enc : TypeId × Value → H) (F : Stop.Interp) :
  ReturnsInHanded {} Tryz.checked os 6 .any ((Rows.OpenSpec.upto Rows.queryGroupsPartitionRowsSpec).pre6 enc Tryz.prog Tryz.f6 Rows.queryGroupsPartitionRowsUptoRow.domain false) (((Rows.OpenSpec.upto Rows.queryGroupsPartitionRowsSpec).at F).post enc Tryz.prog Tryz.f6 false true false false) := by
 refine returnsInHanded_of_cond_sized (C := Tryz.checked) (s := Rows.OpenSpec.upto Rows.queryGroupsPartitionRowsSpec) (k := Rows.uptoSmall) rfl own_knob started (by kernel_rfl) Tryz.func6
  (OpenSpec.witness (enc := enc) (C := Tryz.checked) (s := Rows.OpenSpec.upto Rows.queryGroupsPartitionRowsSpec) (k := Rows.uptoSmall) rfl false ⟨#[],#[.agg #[.slice none 0 0,.slice none 0 0,.slice none 0 0],.slice none 0 0,.agg #[.int .i64 0,.string ⟨#[]⟩,.slice none 0 0,.slice none 0 0,.slice none 0 0,.slice none 0 0,.int .i64 0,.int .i64 0,.slice none 0 0],.string ⟨#[]⟩,.slice none 0 0],[]⟩ 8 (by kernel_rfl) (by kernel_rfl) (by kernel_rfl)
   (x := ([.agg [.nil,.nil,.nil],.nil,.agg [.lit (.int .i64 0),.lit (.string []),.nil,.nil,.nil,.nil,.lit (.int .i64 0),.lit (.int .i64 0),.nil],.lit (.string []),.nil],[],[])) (by kernel_rfl) rfl (by kernel_rfl)) ?_
 intro W base args ds gs before hval hW _ hk hsz _
 have hN : ((ds ++ gs).map (fun d=>Rows.uptoBulk d)).sum ≤ 1048576 := by
  rw [mg]; exact of_decide_eq_true hk
 refine law_callsB (s := Rows.queryGroupsPartitionRowsSpec) (tb := 4) bulk_is laid_out rfl ?_ rfl Tryz.underlying4 ?_ lawTypes_ok lawTypes_info ?_ law_args hval hW hsz hN
 ·rw [Tryz.params6]
  intro t ht
  simp only [List.mem_cons,List.mem_nil_iff,or_false] at ht
  rcases ht with rfl | rfl | rfl | rfl | rfl <;> exact ⟨by kernel_rfl,of_decide_eq_true (by kernel_rfl)⟩
 ·intro ds hlen
  rw [Tryz.params6] at hlen
  match ds,hlen with
  | [d0,d1,d2,d3,d4],_=>rfl
 ·rw [Tryz.params6]
  intro t ht
  simp only [List.mem_cons,List.mem_nil_iff,or_false] at ht
  rcases ht with rfl | rfl | rfl | rfl | rfl <;> simp [lawTypes]
theorem queryGroupsPartitionRowsUpto_holds : Rows.QueryGroupsPartitionRowsUptoSaid :=
 OpenClaim.holds_of_cond 6 Tryz.f6 rfl rfl rfl rfl rfl rfl rfl ⟨rfl,rfl,rfl,rfl,rfl⟩ rfl rfl rfl rfl rfl (by kernel_rfl) Tryz.func6 law_facts
  (of_decide_eq_true (by kernel_rfl)) (by unfold Func.isWrapper; rw [if_neg (by decide +kernel)]; exact ⟨rfl,rfl⟩)
  (fun os started H enc _ F=>law_lifted os started H enc F)
end
end Go.Proofs.YtgaggbdcedpapaaGreat
