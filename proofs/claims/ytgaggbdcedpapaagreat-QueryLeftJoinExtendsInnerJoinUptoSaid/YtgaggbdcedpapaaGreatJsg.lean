/- queryLeftJoinExtendsInnerJoinUpto_holds, part 7: the layer, the plain functions and what they compute; conditions as in the statement. -/
import Derived.Test.YtgaggbdcedpapaaGreatJsf
namespace Go.Proofs.YtgaggbdcedpapaaGreat
noncomputable section
open Go Go.Ab
theorem rowLen {cols : List LCol} {row : List LVal} (h : dN cols row) (hc : cols.length ≤ 20) : row.length ≤ 20 := by rw [h.1]; exact hc
theorem scan_run (st : List LRelation) (name : List UInt8) : af (aE (σ := Unit) (ρ := (Rows)) (fun (_ : Nat) (x1 : LRelation) (_ : Unit)=>cond (x1.table == name) (some (.ret x1.rows)) (some (.next ()))) 0 st ()) (fun fl1=>fl1.thenR fun (_ : Unit)=>some []) =
  some (match st.find? fun x=>x.table == name with | some x=>x.rows | none=>[]) := by
 rw [jw (fun x : LRelation=>x.table == name) (fun _ x=>x.rows) st 0 (fun k x _=>by cases x.table == name <;> rfl)]
 rcases find_idx (fun x : LRelation=>x.table == name) st with ⟨h1,h2⟩ | ⟨x,h1,h2,h3⟩
 ·rw [h1]
  unfold aK at h2
  cases hf : st.findIdx? (fun x=>x.table == name) with
  | none=>rfl
  | some i=>rw [hf] at h2; simp only at h2; omega
 ·rw [h1]
  unfold aK at h2 h3
  cases hf : st.findIdx? (fun x=>x.table == name) with
  | none=>rw [hf] at h2; simp at h2
  | some i =>
   rw [hf] at h3
   simp only [Int.toNat_natCast] at h3
   simp only [h3]
   rfl
theorem limit_run (l : Rows) (q : LQuery) (hl : l.length ≤ 1000000) (hc : 0 ≤ q.count) (ho : 0 ≤ q.offset) :
  kC l (if (l.length : Int) < q.offset then (l.length : Int) else q.offset) (IntKind.i64.wrap ((if (l.length : Int) < q.offset then (l.length : Int) else q.offset) + (if (IntKind.i64.wrap ((l.length : Int) - (if (l.length : Int) < q.offset then (l.length : Int) else q.offset))) < q.count then (IntKind.i64.wrap ((l.length : Int) - (if (l.length : Int) < q.offset then (l.length : Int) else q.offset))) else q.count))) = some (mZ q l) := by
 obtain ⟨o,ho'⟩ : ∃ o : Nat,q.offset = o := ⟨q.offset.toNat,by omega⟩
 obtain ⟨c,hc'⟩ : ∃ c : Nat,q.count = c := ⟨q.count.toNat,by omega⟩
 unfold mZ
 rw [ho',hc',Int.toNat_natCast,Int.toNat_natCast]
 by_cases h1 : (l.length : Int) < (o : Int)
 ·rw [if_pos h1,ba (n := (l.length : Int) - (l.length : Int)) (by omega) (by omega)]
  have e : (if (l.length : Int) - (l.length : Int) < (c : Int) then (l.length : Int) - (l.length : Int) else (c : Int)) = 0 := by split <;> omega
  rw [e,ba (by omega) (by omega),lN ⟨by omega,by omega,by omega⟩]
  congr 1
  rw [List.drop_of_length_le (by simp only [List.length_take]; omega)]
  symm
  exact List.drop_of_length_le (by simp only [List.length_take]; omega)
 ·rw [if_neg h1,ba (n := (l.length : Int) - (o : Int)) (by omega) (by omega)]
  by_cases h2 : (l.length : Int) - (o : Int) < (c : Int)
  ·rw [if_pos h2,ba (by omega) (by omega),lN ⟨by omega,by omega,by omega⟩]
   rw [Int.toNat_natCast,List.take_of_length_le (i := ((o : Int) + ((l.length : Int) - (o : Int))).toNat) (by omega),List.take_of_length_le (i := o + c) (by omega)]
  ·rw [if_neg h2,ba (by omega) (by omega),lN ⟨by omega,by omega,by omega⟩]
   rw [Int.toNat_natCast,show ((o : Int) + (c : Int)).toNat = o + c from by omega]
theorem join_run2 (r : LRun) (q : LQuery) (ca cb : List LCol) (e : LExpr) (he : aF q.exprs 0 = some e) (hee : e = e0Q q) (a b : Rows) (ha : ∀ x ∈ a,x.length ≤ 20) (hb : ∀ x ∈ b,x.length ≤ 20) (hcb : cb.length ≤ 20) (hsz : a.length * max 1 b.length ≤ 30000) (_hk : q.kind = 4 ∨ q.kind = 5) :
  af (aE (σ := List LCol × Rows) (ρ := Empty) (fun (_ : Nat) (x1 : List LVal) (s1 : List LCol × Rows) =>
  af (aE (σ := Rows × Bool) (ρ := Empty) (fun (_ : Nat) (x6 : List LVal) (s6 : Rows × Bool) =>
   af (br ([x1,x6] : Rows)) fun x58 =>
   af (aF q.exprs 0) fun (x65 : LExpr) =>
   bc (aS r s1.1 x58) fun x62 =>
   bc (bU x62 x65) fun x67 =>
   bc (ix x67) fun x68 =>
   cond x68
    (af (cU 24 s6.1 ([x58] : Rows)) fun (x72 : Rows) =>
    some (.next (x72,true)))
    (some (.next (s6.1,s6.2)))) 0 b (s1.2,false)) fun fl6=>fl6.thenP fun (s6 : Rows × Bool) =>
  bc (
   cond (!s6.2)
    ((q.kind == (5 : Int)))
    (false)) fun (t7 : Bool) =>
  cond t7
   (af (mD 32 (cb.length : Int)) fun (_ : Unit) =>
   af (br ([x1,(List.replicate (cb.length : Int).toNat (LVal.mk 0 0 []))] : Rows)) fun x87 =>
   af (cU 24 s6.1 ([x87] : Rows)) fun (x89 : Rows) =>
   some (.next (s1.1,x89)))
   (some (.next (s1.1,s6.1)))) 0 a (ca ++ cb,[])) (fun fl1=>fl1.thenP fun (s1 : List LCol × Rows)=>some s1.2) = some (fL (fM r (ca ++ cb) q) (q.kind == 5) (List.replicate cb.length .nul) a b) := by
 have hpl : ∀ k,k ≤ a.length → (fL (fM r (ca ++ cb) q) (q.kind == 5) (List.replicate cb.length .nul) (a.take k) b).length ≤ 30000 := fun k hk=>by
  have h1 := oa (fM r (ca ++ cb) q) (q.kind == 5) (List.replicate cb.length .nul) (a.take k) b
  rw [List.length_take,Nat.min_eq_left hk] at h1
  exact Nat.le_trans h1 (Nat.le_trans (Nat.mul_le_mul_right _ hk) hsz)
 rw [rMa (xs := a) (s := (ca ++ cb,[])) (fun k=>(ca ++ cb,fL (fM r (ca ++ cb) q) (q.kind == 5) (List.replicate cb.length .nul) (a.take k) b)) rfl (fun k x hkx=>by
  have hkl := (List.getElem?_eq_some_iff.1 hkx).1
  have hxm := eR hkx
  have hbl : b.length ≤ 30000 := by
   have h1 : 1 * max 1 b.length ≤ a.length * max 1 b.length := Nat.mul_le_mul_right _ (by omega)
   omega
  have h2 := hpl k (by omega)
  simp only
  rw [match_run (fM r (ca ++ cb) q) e r (ca ++ cb) q.exprs he (fun z=>by rw [hee]; rfl) x (by have := ha x hxm; omega) b _ false (fun y hy=>by have := hb y hy; omega) (by omega),bPs,bK]
  have hs : fL (fM r (ca ++ cb) q) (q.kind == 5) (List.replicate cb.length .nul) (a.take (k + 1)) b = fL (fM r (ca ++ cb) q) (q.kind == 5) (List.replicate cb.length .nul) (a.take k) b ++ iV (fM r (ca ++ cb) q) (q.kind == 5) (List.replicate cb.length .nul) x b := by
   unfold fL
   rw [List.take_add_one,hkx,List.map_append,List.flatten_append]
   simp
  rw [hs]
  simp only [bn,Bool.false_or]
  have hml : (ez (fM r (ca ++ cb) q) x b).length ≤ 30000 := by unfold ez; exact Nat.le_trans (List.length_filter_le _ _) (by simpa using hbl)
  cases hm : ez (fM r (ca ++ cb) q) x b with
  | nil =>
   by_cases h5 : q.kind = 5
   ·have e5 : (q.kind == 5) = true := ju h5
    simp only [e5,List.isEmpty_nil,Bool.not_true,Bool.not_false,cond_true]
    rw [growI_ok ⟨by omega,by omega,by unfold maxLen; omega⟩,bPs,concat2 x _ (by have := ha x hxm; omega) (by simp; omega),bPs]
    rw [e5] at h2
    rw [bN (by decide) (by simp at h2 ⊢; omega),bPs]
    unfold iV
    rw [if_pos ⟨rfl,hm⟩]
    simp [LVal.nul]
   ·have e5 : (q.kind == 5) = false := cB h5
    simp only [e5,List.isEmpty_nil,Bool.not_true,Bool.not_false,cond_true,cond_false]
    unfold iV
    rw [if_neg (by simp),hm]
  | cons z zs =>
   simp only [List.isEmpty_cons,Bool.not_false,Bool.not_true,cond_false]
   unfold iV
   rw [if_neg (by rw [hm]; simp),hm])]
 rw [bPs,bK,List.take_length]
theorem rows_ev {r : LRun} (hr : RunOk r) : ∀ q : LQuery,QOk r q → ∃ N,∀ n,N ≤ n → dP n r q = some (aM r q) := by
 refine LQuery.ind fun q ih h=>?_
 have hs := shape_ok (kN h.cols).1
 obtain ⟨ho,hcol⟩ := colsR_out h
 have hself := h.small.self
 have hm := (eM h.most).1
 obtain ⟨N,hN⟩ := ev_all (p := fun x n=>dP n r x = some (aM r x)) q.inputs (fun x hx=>ih x hx (h.sub hx))
 have hall : ∀ x ∈ q.inputs,RowsOk r x := fun x hx=>nE hr x (h.sub hx)
 have hsz : ∀ x ∈ q.inputs,(aM r x).length ≤ 20000 := fun x hx=>by
  have h1 := (hall x hx).len
  have h2 := (eM h.most).2 x hx
  have h3 := (eM h2).1
  omega
 have hrow : ∀ x ∈ q.inputs,∀ row ∈ aM r x,row.length ≤ 20 := fun x hx row hrow=>rowLen ((hall x hx).fits row hrow) (ig _ x)
 refine ⟨N + 2,fun n hn=>?_⟩
 obtain ⟨n,rfl⟩ : ∃ k,n = k + 2 := ⟨n - 2,by omega⟩
 rw [dP]
 simp only [iM]
 have kk : q.kind = 1 ∨ q.kind = 2 ∨ q.kind = 3 ∨ q.kind = 4 ∨ q.kind = 5 ∨ q.kind = 6 ∨ q.kind = 7 ∨ q.kind = 8 ∨ q.kind = 9 ∨ q.kind = 10 := by have := hs.kind; omega
 rcases kk with k | k | k | k | k | k | k | k | k | k
 ·rw [ju k,cond_true,scan_run,de]
  unfold cR
  rw [if_pos k] <;>
   rfl
 all_goals have har := hs.arity
 all_goals rw [k] at har
 all_goals simp only [kV] at har
 ·-- filter
  obtain ⟨x,hi⟩ := one (q := q) (by simpa using har)
  have hxm : x ∈ q.inputs := by rw [hi]; simp
  have e : aM r q = (aM r x).filter (fM r (aR r x) q) := by rw [de,hi]; unfold cR; rw [if_neg (by omega),if_neg (by omega),if_neg (by omega),if_neg (by omega),if_pos k]; rfl
  have hx := hN (n + 1) (by omega) x hxm
  rw [k,hi,e]
  simp only [aF,bn]
  simp only [show ((2 : Int) == 1) = false from rfl,show ((2 : Int) == 4) = false from rfl,show ((2 : Int) == 5) = false from rfl,show ((2 : Int) == 6) = false from rfl,show ((2 : Int) == 7) = false from rfl,show ((2 : Int) == 2) = true from rfl,cond_false,cond_true,Int.le_refl,if_true,Int.toNat_zero,List.getElem?_cons_zero,bPs]
  rw [hx,bPs,jq (h.small.sub hxm),bPs]
  rw [deleteFunc_eq (aM r x) (fun a=>!fM r (aR r x) q a) _ (fun a _=>by
   unfold gd
   rw [e0_get (by rw [hs.one (.inl k)]; omega)]
   rfl) (by have := hsz x hxm; omega),bPs]
  simp
 ·-- project
  obtain ⟨x,hi⟩ := one (q := q) (by simpa using har)
  have hxm : x ∈ q.inputs := by rw [hi]; simp
  have e : aM r q = (aM r x).map fun y=>q.exprs.map fun e=>bU (aS r (aR r x) y) e := by rw [de,hi]; unfold cR; rw [if_neg (by omega),if_neg (by omega),if_neg (by omega),if_neg (by omega),if_neg (by omega),if_pos k]; rfl
  have hx := hN (n + 1) (by omega) x hxm
  rw [k,hi,e]
  simp only [aF,bn]
  simp only [show ((3 : Int) == 1) = false from rfl,show ((3 : Int) == 4) = false from rfl,show ((3 : Int) == 5) = false from rfl,show ((3 : Int) == 6) = false from rfl,show ((3 : Int) == 7) = false from rfl,show ((3 : Int) == 2) = false from rfl,show ((3 : Int) == 3) = true from rfl,cond_false,cond_true,Int.le_refl,if_true,Int.toNat_zero,List.getElem?_cons_zero,bPs]
  rw [hx,bPs,jq (h.small.sub hxm),bPs]
  rw [nD (xs := aM r x) (fun y=>q.exprs.map fun e=>bU (aS r (aR r x) y) e) (fun i y hy=>by
   have hil := (List.getElem?_eq_some_iff.1 hy).1
   have := hsz x hxm
   rw [nk r _ _ _ (by omega),bPs,bN (by decide) (by simp; omega),bPs]),bPs,bK]
 ·-- inner join
  obtain ⟨x,y,hi⟩ := two (q := q) (by simpa using har)
  have hxm : x ∈ q.inputs := by rw [hi]; simp
  have hym : y ∈ q.inputs := by rw [hi]; simp
  have hmq := kE h.most (by omega) hi
  rw [if_neg (by omega),if_pos (.inl k)] at hmq
  have e : aM r q = fL (fM r (aR r x ++ aR r y) q) (q.kind == 5) (List.replicate (aR r y).length .nul) (aM r x) (aM r y) := by rw [de,hi]; unfold cR; rw [if_neg (by omega),if_pos (.inl k)]; rfl
  have hx := hN n (by omega) x hxm
  have hy := hN n (by omega) y hym
  have hprod : (aM r x).length * max 1 (aM r y).length ≤ 30000 := by
   have h1m : ((max 1 (aM r y).length : Nat) : Int) ≤ cH 1 (bf y).1 := by have := gM 1 (bf y).1; have := kW 1 (bf y).1; have := (hall y hym).len; omega
   have h2 : (((aM r x).length * max 1 (aM r y).length : Nat) : Int) ≤ (bf x).1 * cH 1 (bf y).1 := by
    rw [Int.natCast_mul]
    exact Int.mul_le_mul (hall x hxm).len h1m (by omega) (by have := (hall x hxm).pos; omega)
   have := h.most
   omega
  rw [cB (show q.kind ≠ 1 by omega),ju k]
  simp only [cond_false,cond_true,bn]
  rw [fo]
  simp only [gN]
  rw [hi]
  have g0 : aF [x,y] 0 = some x := rfl
  have g1 : aF [x,y] 1 = some y := rfl
  simp only [g0,g1,bPs]
  rw [hx,hy]
  simp only [bPs]
  rw [jq (h.small.sub hxm),jq (h.small.sub hym)]
  simp only [bPs]
  rw [bN (by decide) (by have := ig ⟨r.s,r.vars⟩ x; have := ig ⟨r.s,r.vars⟩ y; unfold aR; omega),bPs]
  have he1 : q.exprs.length = 1 := hs.one (.inr (.inl k))
  rw [join_run2 r q (aR r x) (aR r y) (e0Q q) (e0_get (by omega)) rfl (aM r x) (aM r y) (hrow x hxm) (hrow y hym) (ig _ y) hprod (.inl k),bPs,e]
 ·-- left join
  obtain ⟨x,y,hi⟩ := two (q := q) (by simpa using har)
  have hxm : x ∈ q.inputs := by rw [hi]; simp
  have hym : y ∈ q.inputs := by rw [hi]; simp
  have hmq := kE h.most (by omega) hi
  rw [if_neg (by omega),if_pos (.inr k)] at hmq
  have e : aM r q = fL (fM r (aR r x ++ aR r y) q) (q.kind == 5) (List.replicate (aR r y).length .nul) (aM r x) (aM r y) := by rw [de,hi]; unfold cR; rw [if_neg (by omega),if_pos (.inr k)]; rfl
  have hx := hN n (by omega) x hxm
  have hy := hN n (by omega) y hym
  have hprod : (aM r x).length * max 1 (aM r y).length ≤ 30000 := by
   have h1m : ((max 1 (aM r y).length : Nat) : Int) ≤ cH 1 (bf y).1 := by have := gM 1 (bf y).1; have := kW 1 (bf y).1; have := (hall y hym).len; omega
   have h2 : (((aM r x).length * max 1 (aM r y).length : Nat) : Int) ≤ (bf x).1 * cH 1 (bf y).1 := by
    rw [Int.natCast_mul]
    exact Int.mul_le_mul (hall x hxm).len h1m (by omega) (by have := (hall x hxm).pos; omega)
   have := h.most
   omega
  rw [cB (show q.kind ≠ 1 by omega),cB (show q.kind ≠ 4 by omega),ju k]
  simp only [cond_false,cond_true,bn]
  rw [fo]
  simp only [gN]
  rw [hi]
  have g0 : aF [x,y] 0 = some x := rfl
  have g1 : aF [x,y] 1 = some y := rfl
  simp only [g0,g1,bPs]
  rw [hx,hy]
  simp only [bPs]
  rw [jq (h.small.sub hxm),jq (h.small.sub hym)]
  simp only [bPs]
  rw [bN (by decide) (by have := ig ⟨r.s,r.vars⟩ x; have := ig ⟨r.s,r.vars⟩ y; unfold aR; omega),bPs]
  have he1 : q.exprs.length = 1 := hs.one (.inr (.inr k))
  rw [join_run2 r q (aR r x) (aR r y) (e0Q q) (e0_get (by omega)) rfl (aM r x) (aM r y) (hrow x hxm) (hrow y hym) (ig _ y) hprod (.inr k),bPs,e]
 ·-- union
  obtain ⟨x,y,hi⟩ := two (q := q) (by simpa using har)
  have hxm : x ∈ q.inputs := by rw [hi]; simp
  have hym : y ∈ q.inputs := by rw [hi]; simp
  have e : aM r q = aM r x ++ aM r y := by rw [de,hi]; unfold cR; rw [if_neg (by omega),if_neg (by omega),if_pos k]; rfl
  have hx := hN (n + 1) (by omega) x hxm
  have hy := hN (n + 1) (by omega) y hym
  rw [cB (show q.kind ≠ 1 by omega),cB (show q.kind ≠ 4 by omega),cB (show q.kind ≠ 5 by omega),ju k,hi]
  have g0 : aF [x,y] 0 = some x := rfl
  have g1 : aF [x,y] 1 = some y := rfl
  simp only [cond_false,cond_true,bn,g0,g1,bPs]
  have := hsz x hxm
  have := hsz y hym
  rw [hx,hy]
  simp only [bPs]
  rw [bN (by decide) (by omega),bPs,e]
 ·-- difference
  obtain ⟨x,y,hi⟩ := two (q := q) (by simpa using har)
  have hxm : x ∈ q.inputs := by rw [hi]; simp
  have hym : y ∈ q.inputs := by rw [hi]; simp
  have e : aM r q = jI (aM r x) (aM r y) := by rw [de,hi]; unfold cR; rw [if_neg (by omega),if_neg (by omega),if_neg (by omega),if_pos k]; rfl
  have hx := hN (n + 1) (by omega) x hxm
  have hy := hN (n + 1) (by omega) y hym
  rw [cB (show q.kind ≠ 1 by omega),cB (show q.kind ≠ 4 by omega),cB (show q.kind ≠ 5 by omega),cB (show q.kind ≠ 6 by omega),ju k,hi]
  have g0 : aF [x,y] 0 = some x := rfl
  have g1 : aF [x,y] 1 = some y := rfl
  simp only [cond_false,cond_true,bn,g0,g1,bPs]
  have := hsz x hxm
  have := hsz y hym
  rw [hx,hy]
  simp only [bPs]
  rw [less_eq _ _ (by omega) (by omega),bPs,e]
 ·-- aggregation
  obtain ⟨x,hi⟩ := one (q := q) (by simpa using har)
  have hxm : x ∈ q.inputs := by rw [hi]; simp
  have e : aM r q = ld r (aR r x) q (aM r x) := by rw [de,hi]; unfold cR; rw [if_neg (by omega),if_neg (by omega),if_neg (by omega),if_neg (by omega),if_neg (by omega),if_neg (by omega),if_pos k]; rfl
  have hx := hN (n + 1) (by omega) x hxm
  rw [cB (show q.kind ≠ 1 by omega),cB (show q.kind ≠ 4 by omega),cB (show q.kind ≠ 5 by omega),cB (show q.kind ≠ 6 by omega),cB (show q.kind ≠ 7 by omega),cB (show q.kind ≠ 2 by omega),cB (show q.kind ≠ 3 by omega),ju k,hi]
  have g0 : aF [x] 0 = some x := rfl
  simp only [cond_false,cond_true,bn,g0,bPs]
  rw [hx,bPs,jq (h.small.sub hxm),bPs]
  have := hsz x hxm
  rw [group_eq r _ q _ (by omega) hself.1 hself.2,bPs,e]
 ·-- sort
  obtain ⟨x,hi⟩ := one (q := q) (by simpa using har)
  have hxm : x ∈ q.inputs := by rw [hi]; simp
  have := hsz x hxm
  obtain ⟨l',hsort,_⟩ := sort_ok r q (aR r x) (aM r x) (by omega) hself.1
  have e : aM r q = l' := by rw [de,hi]; unfold cR; rw [if_neg (by omega),if_neg (by omega),if_neg (by omega),if_neg (by omega),if_neg (by omega),if_neg (by omega),if_neg (by omega),if_pos k]; show (et r q (aR r x) (aM r x)).getD [] = l'; rw [hsort]; rfl
  have hx := hN (n + 1) (by omega) x hxm
  rw [cB (show q.kind ≠ 1 by omega),cB (show q.kind ≠ 4 by omega),cB (show q.kind ≠ 5 by omega),cB (show q.kind ≠ 6 by omega),cB (show q.kind ≠ 7 by omega),cB (show q.kind ≠ 2 by omega),cB (show q.kind ≠ 3 by omega),cB (show q.kind ≠ 8 by omega),ju k,hi]
  have g0 : aF [x] 0 = some x := rfl
  simp only [cond_false,cond_true,bn,g0,bPs]
  rw [hx,bPs,jq (h.small.sub hxm),bPs,hsort,bPs,e]
 ·-- limit
  obtain ⟨x,hi⟩ := one (q := q) (by simpa using har)
  have hxm : x ∈ q.inputs := by rw [hi]; simp
  have e : aM r q = mZ q (aM r x) := by rw [de,hi]; unfold cR; rw [if_neg (by omega),if_neg (by omega),if_neg (by omega),if_neg (by omega),if_neg (by omega),if_neg (by omega),if_neg (by omega),if_neg (by omega)]; rfl
  have hx := hN (n + 1) (by omega) x hxm
  rw [cB (show q.kind ≠ 1 by omega),cB (show q.kind ≠ 4 by omega),cB (show q.kind ≠ 5 by omega),cB (show q.kind ≠ 6 by omega),cB (show q.kind ≠ 7 by omega),cB (show q.kind ≠ 2 by omega),cB (show q.kind ≠ 3 by omega),cB (show q.kind ≠ 8 by omega),cB (show q.kind ≠ 9 by omega),hi]
  have g0 : aF [x] 0 = some x := rfl
  simp only [cond_false,bn,g0,bPs]
  rw [hx,bPs,jq (h.small.sub hxm),bPs]
  have := hsz x hxm
  rw [limit_run _ q (by omega) (hs.limit k).1 (hs.limit k).2,bPs,e]
theorem rows_eq {r : LRun} (hr : RunOk r) {q : LQuery} (h : QOk r q) : jM r q = some (aM r q) := by
 obtain ⟨N,hN⟩ := rows_ev hr q h
 exact mV N hN
end
end Go.Proofs.YtgaggbdcedpapaaGreat

namespace Go.Proofs.YtgaggbdcedpapaaGreat
noncomputable section
open Go Go.Ab
def SizeOk (q : LQuery) : Prop := (bJ q).length ≤ 24 ∧ fe q ≤ 12 ∧ (bf q).2 ≤ 20000
instance (q : LQuery) : Decidable (SizeOk q) := by unfold SizeOk; infer_instance
theorem check_eq {s : LSchema} {vars : List LCol} {q : LQuery} (h : SmallQ q) : ∃ cs e,eU s vars q = some (cs,e) ∧ (e = 0 ↔ SizeOk q ∧ lM (eG q) ∧ (bI ⟨s,vars⟩ q).2 = 0) ∧ (e = 0 → cs = (bI ⟨s,vars⟩ q).1) := by
 unfold eU
 rw [nodes_ok q h.nodes,bPs]
 by_cases h1 : (bJ q).length ≤ 24
 ·rw [decide_eq_false (show ¬ ((bJ q).length : Int) > 24 from by omega),cond_false,depth_ok q h.nodes,bPs]
  by_cases h2 : fe q ≤ 12
  ·rw [decide_eq_false (show ¬ fe q > 12 from by omega),cond_false]
   unfold eQ
   rw [most_ok,bPs,bPs]
   by_cases h3 : (bf q).2 ≤ 20000
   ·rw [decide_eq_false (show ¬ (bf q).2 > 20000 from by omega),bPs,cond_false,kinds_ok h.nodes,bPs]
    cases hb : (cY q).2.1 with
    | true =>
     refine ⟨[],13,rfl,⟨fun h=>by omega,fun hh=>?_⟩,fun h=>by omega⟩
     rw [kinds_bad.2 hh.2.1] at hb
     cases hb
    | false =>
     have hk := kinds_bad.1 hb
     simp only [cond_false]
     rw [cols_ok _ q h]
     refine ⟨(bI ⟨s,vars⟩ q).1,(bI ⟨s,vars⟩ q).2,rfl,⟨fun h0=>⟨⟨h1,h2,h3⟩,hk,h0⟩,fun hh=>hh.2.2⟩,fun _=>rfl⟩
   ·rw [decide_eq_true (show (bf q).2 > 20000 from by omega)]
    exact ⟨[],2,rfl,⟨fun h=>by omega,fun hh=>absurd hh.1.2.2 h3⟩,fun h=>by omega⟩
  ·rw [decide_eq_true (show fe q > 12 from by omega)]
   exact ⟨[],2,rfl,⟨fun h=>by omega,fun hh=>absurd hh.1.2.1 h2⟩,fun h=>by omega⟩
 ·rw [decide_eq_true (show ((bJ q).length : Int) > 24 from by omega)]
  exact ⟨[],2,rfl,⟨fun h=>by omega,fun hh=>absurd hh.1.1 h1⟩,fun h=>by omega⟩
abbrev eP (s : LSchema) (st : List LRelation) (args : List LVal) : LRun := LRun.mk s st args [] [] []
structure Runs (s : LSchema) (st : List LRelation) (q : LQuery) (args : List LVal) : Prop where
 size : SizeOk q
 kinds : lM (eG q)
 cols : (bI ⟨s,[]⟩ q).2 = 0
 inst : ed s st = some 0
 args : ArgsOk (eG q) args
theorem Runs.instOk {s : LSchema} {st : List LRelation} {q : LQuery} {args : List LVal} (h : Runs s st q args) (hs : jW s) : InstOk s st := by
 obtain ⟨e,he,hok⟩ := conforms hs st
 rw [h.inst] at he
 cases he
 exact hok rfl
theorem Runs.qok {s : LSchema} {st : List LRelation} {q : LQuery} {args : List LVal} (h : Runs s st q args) (hq : SmallQ q) : QOk (eP s st args) q :=
 ⟨hq,h.cols,h.size.2.2,fun i k hm x hx=>(h.args.args i k hm).2.1 i x (Nat.le_refl _) hx⟩
theorem Runs.sub {s : LSchema} {st : List LRelation} {q x : LQuery} {args : List LVal} (h : Runs s st q args) (hx : x ∈ q.inputs) : Runs s st x args := by
 have hp := params_sub hx
 refine ⟨⟨?_,?_,(eM h.size.2.2).2 x hx⟩,fun i k k' a b=>h.kinds i k k' (hp _ a) (hp _ b),(kN h.cols).2.1 x hx,h.inst,h.args.sub hp⟩
 ·have := jo hx; have := h.size.1; omega
 ·have := depthQ_sub hx; have := h.size.2.1; omega
theorem runs_tot {s : LSchema} (hs : jW s) (st : List LRelation) {q : LQuery} (hq : SmallQ q) (args : List LVal) : ∃ b,gH s st q args = some b ∧ (b = true → Runs s st q args) := by
 unfold gH iw
 rw [size_ok,bPs]
 obtain ⟨v,hv⟩ := validate_tot hs
 obtain ⟨cs,e,hc,he,_⟩ := check_eq (s := s) (vars := []) hq
 obtain ⟨f,hf,_⟩ := conforms hs st
 obtain ⟨g,hg,hga⟩ := args_ok hq.nodes args
 unfold jH
 rw [hv,hc,hf,hg]
 simp only [bPs]
 by_cases c1 : jY q 400 < 0
 ·rw [decide_eq_true c1]; exact ⟨false,rfl,fun h=>by cases h⟩
 rw [decide_eq_false c1,cond_false,bPs]
 by_cases c2 : v = 0
 ·rw [bneF c2,cond_false,bPs]
  by_cases c3 : e = 0
  ·rw [ju c3,cond_true]
   by_cases c4 : (args.length : Int) ≤ 20
   ·rw [decide_eq_true c4,cond_true]
    by_cases c5 : f = 0
    ·rw [ju c5,cond_true]
     refine ⟨g == 0,rfl,fun hg0=>?_⟩
     have hg0 : g = 0 := by simpa using hg0
     obtain ⟨a,b,c⟩ := he.1 c3
     exact ⟨a,b,c,by rw [hf,c5],hga.1 hg0⟩
    ·rw [cB c5]; exact ⟨false,rfl,fun h=>by cases h⟩
   ·rw [decide_eq_false c4]; exact ⟨false,rfl,fun h=>by cases h⟩
  ·rw [cB c3]; exact ⟨false,rfl,fun h=>by cases h⟩
 ·rw [jN c2]; exact ⟨false,rfl,fun h=>by cases h⟩
theorem kU {s : LSchema} (hs : jW s) {st : List LRelation} {q : LQuery} (hq : SmallQ q) {args : List LVal} (h : Runs s st q args) :
  dk s st q args = some (LResult.mk (aR (eP s st args) q) (aM (eP s st args) q),true) := by
 unfold dk fT fX
 obtain ⟨cs,e,hc,he,hcs⟩ := check_eq (s := s) (vars := []) hq
 obtain ⟨g,hg,hga⟩ := args_ok hq.nodes args
 have e0 := he.2 ⟨h.size,h.kinds,h.cols⟩
 have g0 := hga.2 h.args
 have hr : RunOk (eP s st args) := ⟨rfl,rfl,rfl,h.instOk hs⟩
 have hok := nE hr q (h.qok hq)
 have hlen : (aM (eP s st args) q).length ≤ 20000 := by
  have h1 := hok.len
  have h2 := h.size.2.2
  have h3 := (eM h2).1
  omega
 rw [hc,hg,h.inst]
 simp only [bPs]
 rw [bneF e0,bneF g0,cond_false,cond_false]
 simp only [aE,bPs,bK,bne_self_eq_false,cond_false]
 rw [rows_eq hr (h.qok hq),bPs]
 rw [nD (xs := aM (eP s st args) q) id (fun k x hk=>by
  have := (List.getElem?_eq_some_iff.1 hk).1
  rw [bN (by decide) (by simp; omega),bPs]
  rfl),bPs,bK,bPs,bPs,hcs e0]
 simp [aR]
theorem scans_ok : gr = some true := by
 unfold gr
 have hin : ((LQuery.mk 1 [116] [] [] [] [] 0 0 []) : LQuery).inputs = [] := rfl
 have hnodes : bJ (LQuery.mk 1 [116] [] [] [] [] 0 0 []) = [LQuery.mk 1 [116] [] [] [] [] 0 0 []] := by rw [eE,hin]; rfl
 have hparams : eG (LQuery.mk 1 [116] [] [] [] [] 0 0 []) = [] := by unfold eG; rw [hnodes]; rfl
 have hq : SmallQ (LQuery.mk 1 [116] [] [] [] [] 0 0 []) := ⟨by rw [hnodes]; decide,fun x hx=>by rw [hnodes] at hx; simp at hx; subst hx; exact ⟨by decide,by decide⟩⟩
 have hs : jW (LSchema.mk [(LTable.mk [116] [(LCol.mk [97] 1 false)] [0])] [] []) := fun t ht=>by simp at ht; subst ht; decide
 have hcols : bI ⟨LSchema.mk [(LTable.mk [116] [(LCol.mk [97] 1 false)] [0])] [] [],[]⟩ (LQuery.mk 1 [116] [] [] [] [] 0 0 []) = ([LCol.mk [97] 1 false],0) := by
  rw [mp,hin]
  rfl
 have hruns : Runs (LSchema.mk [(LTable.mk [116] [(LCol.mk [97] 1 false)] [0])] [] []) [(LRelation.mk [116] [[(LVal.mk 1 1 [])],[(LVal.mk 1 2 [])]])] (LQuery.mk 1 [116] [] [] [] [] 0 0 []) [] := by
  refine ⟨⟨by rw [hnodes]; decide,by rw [jj,hin]; decide,by rw [iG,hin]; decide⟩,by rw [hparams]; intro i k k' a; simp at a,by rw [hcols],?_,⟨by rw [hparams]; intro i k k' a; simp at a,by rw [hparams]; intro i k a; simp at a⟩⟩
  rfl
 have he := kU hs hq hruns
 unfold dk at he
 cases ho : fT (LSchema.mk [(LTable.mk [116] [(LCol.mk [97] 1 false)] [0])] [] []) [(LRelation.mk [116] [[(LVal.mk 1 1 [])],[(LVal.mk 1 2 [])]])] (LQuery.mk 1 [116] [] [] [] [] 0 0 []) [] with
 | none=>rw [ho] at he; cases he
 | some o =>
  rw [ho,bPs] at he
  simp only [Option.some.injEq,Prod.mk.injEq] at he
  rw [bPs]
  rw [he.2,he.1,cond_true,de,hin]
  rfl
end
end Go.Proofs.YtgaggbdcedpapaaGreat

namespace Go.Proofs.YtgaggbdcedpapaaGreat
noncomputable section
open Go Go.Ab
structure TinyQ (q : LQuery) : Prop where
 nodes : (bJ q).length ≤ 2000000
 here : ∀ x ∈ bJ q,x.exprs.length ≤ 1000000 ∧ x.aggregates.length ≤ 1000000
theorem TinyQ.small {q : LQuery} (h : TinyQ q) : SmallQ q := ⟨by have := h.nodes; omega,h.here⟩
theorem small2 {q x y : LQuery} (hx : TinyQ x) (hy : TinyQ y) (hi : q.inputs = [x,y]) (h : q.exprs.length ≤ 1000000 ∧ q.aggregates.length ≤ 1000000) : SmallQ q := by
 refine ⟨?_,fun z hz=>?_⟩
 ·rw [eE,hi]; have := hx.nodes; have := hy.nodes; simp; omega
 ·rw [eE,hi] at hz
  rcases List.mem_cons.1 hz with rfl | hz
  ·exact h
  ·have hz : z ∈ bJ x ∨ z ∈ bJ y := by simpa using hz
   rcases hz with hz | hz
   ·exact hx.here z hz
   ·exact hy.here z hz
end
end Go.Proofs.YtgaggbdcedpapaaGreat

namespace Go.Proofs.YtgaggbdcedpapaaGreat
noncomputable section
open Go Go.Ab
theorem my {H : Type} : ∀ ds : List (DataW H),(ds.map (fun d=>Rows.uptoBulk d)).sum = Rows.uptoBulkAll ds
 | []=>by simp [Rows.uptoBulkAll]
 | d :: ds=>by simp only [List.map_cons,List.sum_cons,Rows.uptoBulkAll,my ds]
theorem bulk_is : IsBulk (fun _ d=>Rows.uptoBulk d) where
 one := by
  intro H d
  cases d with
  | lit l=>cases l <;> simp [Rows.uptoBulk]
  | nil=>simp [Rows.uptoBulk]
  | ptr d=>simp [Rows.uptoBulk]
  | slice elems spare=>simp [Rows.uptoBulk]
  | agg parts=>simp [Rows.uptoBulk]
  | iface t d=>simp [Rows.uptoBulk]
  | map entries=>simp [Rows.uptoBulk]
  | held h=>simp [Rows.uptoBulk]
 str := by intro H l; simp [Rows.uptoBulk]
 slice := by intro H a b; rw [my]; simp only [Rows.uptoBulk]; omega
 agg := by intro H a; rw [my]; simp only [Rows.uptoBulk]; omega
theorem mc {r : List PV} : ∀ {rs : List (List PV)},r ∈ rs → bj r ≤ eN rs
 | x :: rs,h=>by
  simp only [eN]
  rcases List.mem_cons.1 h with rfl | h
  ·omega
  ·have := mc h; omega
theorem kj {α : Type} {f : α → List PV} {k : Nat} (hf : ∀ x,k ≤ bj (f x)) : ∀ l : List α,k * l.length ≤ eN (l.map f)
 | []=>by simp
 | x :: l=>by
  have := kj hf l
  have := hf x
  simp only [List.map_cons,eN,List.length_cons,Nat.mul_add]
  omega
theorem expr_pos (e : LExpr) : 2 ≤ bj (aH e) := by
 cases e; simp only [aH,bj,PV.bulk]; omega
theorem call_pos (c : LAggregateCall) : 2 ≤ bj (bo c) := by
 simp only [bo,bj,PV.bulk]; omega
theorem smallS_bulk {s : LSchema} {n : Nat} (hn : n ≤ 10000000) (h : bj (dm s) ≤ n) : jW s := by
 intro t ht
 have h1 : eN (s.tables.map aO) ≤ bj (dm s) := by
  simp only [dm,bj,PV.bulk]; omega
 have h2 := mc (List.mem_map_of_mem (f := aO) ht)
 have h3 : eN (t.primaryKey.map aV) ≤ bj (aO t) := by
  simp only [aO,bj,PV.bulk]; omega
 have h4 := kj (f := aV) (k := 1) (fun x=>by simp [bj,PV.bulk]) t.primaryKey
 omega
theorem nodes_bulk : ∀ q : LQuery,(bJ q).length + 1 ≤ bj (aB q) ∧ ∀ x ∈ bJ q,2 * x.exprs.length ≤ bj (aB q) ∧ 2 * x.aggregates.length ≤ bj (aB q) := by
 apply LQuery.ind
 intro q ih
 have e : bj (aB q) = bj (aQ q) := by rw [bE]
 have hr : eN (q.inputs.map aB) + 8 ≤ bj (aQ q) := by
  simp only [aQ,bj,PV.bulk]; omega
 have hsum : ∀ l : List LQuery,(∀ x ∈ l,x ∈ q.inputs) → ((l.map bJ).flatten).length + l.length ≤ eN (l.map aB) := by
  intro l
  induction l with
  | nil=>intro _; simp
  | cons x l ihl =>
   intro hm
   have h1 := (ih x (hm x (by simp))).1
   have h2 := ihl (fun y hy=>hm y (by simp [hy]))
   simp only [List.map_cons,List.flatten_cons,List.length_append,List.length_cons,eN]
   omega
 have h0 := hsum q.inputs (fun _ h=>h)
 rw [e]
 refine ⟨?_,fun x hx=>?_⟩
 ·rw [eE]; simp only [List.length_cons]; omega
 ·rw [eE] at hx
  rcases List.mem_cons.1 hx with rfl | hx
  ·have h1 := kj expr_pos x.exprs
   have h2 := kj call_pos x.aggregates
   constructor
   ·simp only [aQ,bj,PV.bulk]; omega
   ·simp only [aQ,bj,PV.bulk]; omega
  ·simp only [List.mem_flatten,List.mem_map] at hx
   obtain ⟨l,⟨y,hy,rfl⟩,hx⟩ := hx
   have h1 := (ih y hy).2 x hx
   have h2 := mc (List.mem_map_of_mem (f := aB) hy)
   omega
theorem tiny_bulk {q : LQuery} {n : Nat} (hn : n ≤ 1048576) (h : bj (aQ q) ≤ n) : TinyQ q := by
 rw [← bE] at h
 have := nodes_bulk q
 exact ⟨by omega,fun x hx=>by have := this.2 x hx; omega⟩
end
end Go.Proofs.YtgaggbdcedpapaaGreat

namespace Go.Proofs.YtgaggbdcedpapaaGreat
noncomputable section
open Go Go.Ab
theorem args_lt {e a : LExpr} (h : a ∈ e.args) : SizeOf.sizeOf a < SizeOf.sizeOf e := by
 cases e
 have := List.sizeOf_lt_of_mem (show a ∈ _ from h)
 simp only [LExpr.mk.sizeOf_spec,LExpr.args] at *
 omega
end
end Go.Proofs.YtgaggbdcedpapaaGreat

namespace Go.Proofs.YtgaggbdcedpapaaGreat
noncomputable section
open Go Go.Ab
theorem containsR (l : Rows) (p : List LVal → Bool) (f : List LVal → Option Bool) (hf : ∀ x ∈ l,f x = some (p x)) : co l f = some (l.any p) := by
 unfold co dw
 rw [jw p (fun j _=>(j : Int)) l 0 (fun k x hk=>by
  rw [hf x (eR hk),bPs]
  cases p x <;> rfl)]
 rw [← fu]
 unfold aK
 cases hi : l.findIdx? p with
 | none=>rfl
 | some i =>
  have hil : i < l.length := by
   have := List.findIdx?_eq_some_iff_getElem.1 hi
   exact this.1
  simp only [List.getElem?_eq_getElem hil]
  simp [bPs,kp]
end
end Go.Proofs.YtgaggbdcedpapaaGreat

namespace Go.Proofs.YtgaggbdcedpapaaGreat
noncomputable section
open Go Go.Ab
def mF (a b : KR) : Prop := a.1 = b.1 ∧ a.2.2 = b.2.2
theorem typed_alike (k : Int) (x y ok : Bool) : mF (hJ k x ok) (hJ k y ok) := by
 unfold hJ; split <;> exact ⟨rfl,rfl⟩
theorem opTyped_alike (name : List UInt8) (ks : List Int) (x y : Bool) : mF (cO name ks x) (cO name ks y) := by
 unfold cO
 repeat' split
 all_goals first | exact typed_alike _ _ _ _ | exact ⟨rfl,rfl⟩
theorem find_alike : ∀ {us bs : List KR},us.length = bs.length → (∀ i (h : i < us.length) (h' : i < bs.length),mF us[i] bs[i]) → (us.map (·.1) = bs.map (·.1)) ∧ ((us.find? fun r=>r.2.2 != 0).map (·.2.2)) = ((bs.find? fun r=>r.2.2 != 0).map (·.2.2))
 | [],[],_,_=>⟨rfl,rfl⟩
 | [],_ :: _,h,_=>by simp at h
 | _ :: _,[],h,_=>by simp at h
 | a :: us,b :: bs,h,hh=>by
  have h0 := hh 0 (by simp) (by simp)
  simp only [List.getElem_cons_zero] at h0
  obtain ⟨e1,e2⟩ := find_alike (us := us) (bs := bs) (by simpa using h) (fun i h h'=>by
   have := hh (i + 1) (by simpa using h) (by simpa using h')
   simpa using this)
  refine ⟨by rw [List.map_cons,List.map_cons,h0.1,e1],?_⟩
  rw [List.find?_cons,List.find?_cons,h0.2]
  cases (b.2.2 != 0)
  ·exact e2
  ·simp [h0.2]
theorem opKind_alike (name : List UInt8) (i : Int) (x : LVal) {us bs : List KR} (hl : us.length = bs.length) (hh : ∀ i (h : i < us.length) (h' : i < bs.length),mF us[i] bs[i]) : mF (fR name i x us) (fR name i x bs) := by
 obtain ⟨e1,e2⟩ := find_alike hl hh
 unfold fR
 rw [hl]
 split
 ·exact ⟨rfl,rfl⟩
 ·cases ha : us.find? (fun r=>r.2.2 != 0) with
  | some r =>
   rw [ha] at e2
   cases hb : bs.find? (fun r=>r.2.2 != 0) with
   | some r' =>
    rw [hb] at e2
    simp only [Option.map_some,Option.some.injEq] at e2
    simp only [e2]
    exact ⟨rfl,rfl⟩
   | none=>rw [hb] at e2; simp at e2
  | none =>
   rw [ha] at e2
   cases hb : bs.find? (fun r=>r.2.2 != 0) with
   | some r'=>rw [hb] at e2; simp at e2
   | none=>simp only [e1]; exact opTyped_alike _ _ _ _
theorem kind_alike {cols cols' vars : List LCol} (hf : ∀ n,(cX cols n).2 = (cX cols' n).2 ∧ (cX cols n).1.kind = (cX cols' n).1.kind) : ∀ e : LExpr,mF (cd cols vars e) (cd cols' vars e) := by
 intro e
 generalize hk : SizeOf.sizeOf e = k
 induction k using Nat.strongRecOn generalizing e with
 | _ k ih =>
  have ih' : ∀ a ∈ e.args,mF (cd cols vars a) (cd cols' vars a) := fun a ha=>ih _ (hk ▸ args_lt ha) a rfl
  obtain ⟨ki,n,i,x,args⟩ := e
  rw [cd,cd,lA,lA]
  split
  ·exact ⟨rfl,rfl⟩
  split
  ·split <;> exact ⟨rfl,rfl⟩
  split
  ·split <;> exact ⟨rfl,rfl⟩
  split
  ·split
   ·have h1 : (cX (if ki == 4 then vars else cols) n).2 = (cX (if ki == 4 then vars else cols') n).2 ∧ (cX (if ki == 4 then vars else cols) n).1.kind = (cX (if ki == 4 then vars else cols') n).1.kind := by
     split
     ·exact ⟨rfl,rfl⟩
     ·exact hf n
    simp only [h1.1,h1.2]
    generalize cX (if (ki == 4) = true then vars else cols') n = r
    generalize cX (if (ki == 4) = true then vars else cols) n = r'
    split <;> exact ⟨rfl,rfl⟩
   ·exact ⟨rfl,rfl⟩
  split
  ·exact opKind_alike _ _ _ (by simp) (fun i h h'=>by simp only [List.getElem_map]; exact ih' _ (List.getElem_mem _))
  ·exact ⟨rfl,rfl⟩
theorem type_alike {cols cols' vars : List LCol} (hf : ∀ n,(cX cols n).2 = (cX cols' n).2 ∧ (cX cols n).1.kind = (cX cols' n).1.kind) (e : LExpr) : mF (ce cols vars e) (ce cols' vars e) := by
 unfold ce
 split
 ·exact ⟨rfl,rfl⟩
 ·exact kind_alike hf e
theorem find_same {cs ds : List LCol} (hn : cs.map LCol.name = ds.map LCol.name) (hk : cs.map LCol.kind = ds.map LCol.kind) (n : List UInt8) : (cX cs n).2 = (cX ds n).2 ∧ (cX cs n).1.kind = (cX ds n).1.kind := by
 have hi : aK (fun c : LCol=>c.name == n) cs = aK (fun c : LCol=>c.name == n) ds := by
  rw [← ow LCol.name (fun m : List UInt8=>m == n) (fun c : LCol=>c.name == n) (fun _=>rfl) cs,← ow LCol.name (fun m : List UInt8=>m == n) (fun c : LCol=>c.name == n) (fun _=>rfl) ds,hn]
 unfold cX
 rw [hi]
 simp only
 split
 ·exact ⟨rfl,rfl⟩
 ·refine ⟨rfl,?_⟩
  have h1 := congrArg (fun l : List Int=>l[(aK (fun c : LCol=>c.name == n) ds).toNat]?) hk
  simp only [List.getElem?_map] at h1
  simp only [List.getD_eq_getElem?_getD]
  cases h2 : cs[(aK (fun c : LCol=>c.name == n) ds).toNat]? <;> cases h3 : ds[(aK (fun c : LCol=>c.name == n) ds).toNat]? <;> rw [h2,h3] at h1 <;> simp_all
theorem join_same (a b : List LCol) (l l' : Bool) : (cS a b l).map LCol.name = (cS a b l').map LCol.name ∧ (cS a b l).map LCol.kind = (cS a b l').map LCol.kind := by
 unfold cS
 simp [List.map_append,List.map_map,Function.comp_def]
def eh (k : Int) (p : LExpr) (x y : LQuery) : LQuery := LQuery.mk k [] [] [p] [] [] 0 0 [x,y]
theorem pred_same {c : LChecker} {l l' : List LCol} (hf : ∀ n,(cX l n).2 = (cX l' n).2 ∧ (cX l n).1.kind = (cX l' n).1.kind) (e : LExpr) : bu c l e = bu c l' e := by
 have h := type_alike (vars := c.vars) hf e
 unfold bu
 simp only [bn,h.1,h.2]
theorem nH : ∀ (l : List (Int × Int)) (j : Nat) (s : Int × Int),cI 5 j l s = cI 4 j l s
 | [],_,_=>rfl
 | x :: l,j,s=>by
  rw [cI,cI,nH l]
  congr 1
theorem most_same (p : LExpr) (x y : LQuery) : bf (eh 5 p x y) = bf (eh 4 p x y) := by
 rw [iG,iG (eh 4 p x y)]
 have k5 : (eh 5 p x y).kind = 5 := rfl
 have k4 : (eh 4 p x y).kind = 4 := rfl
 rw [k5,k4,nH]
 rfl
theorem pm (p : LExpr) (x y : LQuery) : eG (eh 5 p x y) = eG (eh 4 p x y) := by
 unfold eG
 rw [eE,eE (eh 4 p x y),List.map_cons,List.map_cons]
 rfl
theorem depth_same (p : LExpr) (x y : LQuery) : fe (eh 5 p x y) = fe (eh 4 p x y) := by
 rw [jj,jj (eh 4 p x y)]
 rfl
theorem join_cols {c : LChecker} {p : LExpr} {x y : LQuery} (h : (bI c (eh 4 p x y)).2 = 0) : (bI c (eh 5 p x y)).2 = 0 := by
 have hc := kN h
 have k4 : (eh 4 p x y).kind = 4 := rfl
 have k5 : (eh 5 p x y).kind = 5 := rfl
 have i4 : (eh 4 p x y).inputs = [x,y] := rfl
 have i5 : (eh 5 p x y).inputs = [x,y] := rfl
 have s5 : iQ (eh 5 p x y) = true := by
  simp [iQ,eh,LQuery.kind,LQuery.table,LQuery.names,LQuery.exprs,LQuery.aggregates,LQuery.descending,LQuery.count,LQuery.offset,LQuery.inputs,kV]
 have hall := hc.2.1
 rw [i4] at hall
 have hcol : cy ([x,y].map (bI c)) = ([(bI c x).1,(bI c y).1],0) := by
  have := ph (l := [x,y].map (bI c)) (fun r hr=>by
   obtain ⟨z,hz,rfl⟩ := List.mem_map.1 hr
   exact hall z hz)
  simpa using this
 have o4 := hc.2.2.1
 have o41 := hc.2.2.2.1
 have nd := hc.2.2.2.2
 have len4 := ig c (eh 4 p x y)
 rw [i4] at o4 o41
 unfold fJ at o4 o41
 rw [if_neg (by omega),if_neg (by omega),if_pos (.inl k4)] at o4 o41
 have e5 : fJ c (eh 5 p x y) [(bI c x).1,(bI c y).1] = (cS (bI c x).1 (bI c y).1 true,bu c (cS (bI c x).1 (bI c y).1 true) p) := by
  unfold fJ
  rw [if_neg (by omega),if_neg (by omega),if_pos (.inr k5)]
  rfl
 have o4' : bu c (cS (bI c x).1 (bI c y).1 false) p = 0 := o4
 have o41' : (bI c (eh 4 p x y)).1 = cS (bI c x).1 (bI c y).1 false := o41
 rw [o41'] at nd len4
 have js := join_same (bI c x).1 (bI c y).1 true false
 have hl : (cS (bI c x).1 (bI c y).1 true).length = (cS (bI c x).1 (bI c y).1 false).length := by
  have := congrArg List.length js.1
  simpa using this
 rw [mp,i5]
 unfold kG
 rw [if_neg (by rw [s5]; simp),hcol,if_neg (by simp),e5,if_neg (by
  rw [pred_same (l' := cS (bI c x).1 (bI c y).1 false) (find_same js.1 js.2),o4']
  simp),if_neg (by simp only; omega),if_pos (by simp only; rw [js.1]; exact nd)]
theorem join_runs {s : LSchema} {st : List LRelation} {p : LExpr} {x y : LQuery} {args : List LVal} (h : Runs s st (eh 4 p x y) args) : Runs s st (eh 5 p x y) args := by
 have e : (bJ (eh 5 p x y)).length = (bJ (eh 4 p x y)).length := by
  rw [eE,eE (eh 4 p x y)]
  rfl
 refine ⟨⟨by rw [e]; exact h.size.1,by rw [depth_same]; exact h.size.2.1,by rw [most_same]; exact h.size.2.2⟩,by rw [pm]; exact h.kinds,join_cols h.cols,h.inst,by rw [pm]; exact h.args⟩
theorem join_rows (r : LRun) (k : Int) (hk : k = 4 ∨ k = 5) (p : LExpr) (x y : LQuery) : aM r (eh k p x y) = fL (fun z=>ix (bU (aS r (aR r x ++ aR r y) z) p)) (k == 5) (List.replicate (aR r y).length .nul) (aM r x) (aM r y) := by
 have k4 : (eh k p x y).kind = k := rfl
 rw [de]
 unfold cR
 rw [if_neg (by omega),if_pos (by omega)]
 rfl
def pads (f : List LVal → Bool) (pad : List LVal) (a b : Rows) : Rows := (a.filter fun x=>(ez f x b).isEmpty).map fun x=>x ++ pad
theorem join_perm (f : List LVal → Bool) (pad : List LVal) (b : Rows) : ∀ a : Rows,(fL f true pad a b).Perm (fL f false pad a b ++ pads f pad a b)
 | []=>by simp [fL,pads]
 | x :: a=>by
  have ih := join_perm f pad b a
  unfold fL at ih ⊢
  simp only [List.map_cons,List.flatten_cons]
  by_cases h : ez f x b = []
  ·have e1 : iV f true pad x b = [x ++ pad] := by unfold iV; rw [if_pos ⟨rfl,h⟩]
   have e2 : iV f false pad x b = [] := by unfold iV; rw [if_neg (by simp),h]
   have e3 : pads f pad (x :: a) b = (x ++ pad) :: pads f pad a b := by unfold pads; rw [List.filter_cons,if_pos (by rw [h]; rfl),List.map_cons]
   rw [e1,e2,e3]
   simp only [List.nil_append,List.singleton_append]
   exact (List.Perm.cons _ ih).trans List.perm_middle.symm
  ·have e1 : iV f true pad x b = ez f x b := by unfold iV; rw [if_neg (by simp [h])]
   have e2 : iV f false pad x b = ez f x b := by unfold iV; rw [if_neg (by simp)]
   have e3 : pads f pad (x :: a) b = pads f pad a b := by unfold pads; rw [List.filter_cons,if_neg (by simpa using h)]
   rw [e1,e2,e3,List.append_assoc]
   exact List.Perm.append_left _ ih
theorem join_len (f : List LVal → Bool) (pad : List LVal) (b : Rows) : ∀ a : Rows,a.length ≤ (fL f true pad a b).length
 | []=>by simp
 | x :: a=>by
  have ih := join_len f pad b a
  unfold fL at ih ⊢
  simp only [List.map_cons,List.flatten_cons,List.length_append,List.length_cons]
  have : 1 ≤ (iV f true pad x b).length := by
   unfold iV
   by_cases h : ez f x b = []
   ·rw [if_pos ⟨rfl,h⟩]; simp
   ·rw [if_neg (by simp [h])]; exact List.length_pos_iff.2 h
  omega
theorem strike_run : ∀ (a : Rows) (j : Nat) (left rest : Rows),left.length ≤ 1000000 → left.Perm (a ++ rest) →
  ∃ s2,aE (σ := List (List LVal)) (ρ := Bool) (fun (_ : Nat) (x2 : List LVal) (s2 : List (List LVal)) =>
   af (aW s2 (fun a0=>bC a0 x2)) fun x101 =>
   af (dy (x101.2.length = s2.length) ()) fun (_ : Unit) =>
   cond (decide (x101.1 < (0 : Int)))
    (some (.ret false))
    (af (delI x101.2 x101.1 (IntKind.i64.wrap (x101.1 + (1 : Int)))) fun x108 =>
    some (.next x108))) j a left = some (.next s2) ∧ s2.Perm rest
 | [],j,left,rest,_,hp=>⟨left,rfl,by simpa using hp⟩
 | x :: a,j,left,rest,hl,hp=>by
  rw [aE,idxO left (fun y=>decide (x = y)) _ (fun y _=>by unfold bC; rw [equalRow]; rfl) (by omega),bPs]
  simp only
  rw [cW trivial,bPs]
  have hx : x ∈ left := hp.mem_iff.2 (by simp)
  have hany : decide (aK (fun y=>decide (x = y)) left ≥ 0) = true := by rw [fu,List.any_eq_true]; exact ⟨x,hx,by simp⟩
  have h0 := of_decide_eq_true hany
  rw [decide_eq_false (by omega),cond_false]
  unfold aK at h0 ⊢
  cases hq : left.findIdx? (fun y=>decide (x = y)) with
  | none=>rw [hq] at h0; simp at h0
  | some i =>
   have hil := (List.findIdx?_eq_some_iff_getElem.1 hq).1
   simp only
   rw [ba (by omega) (by omega)]
   have hd : delI left (i : Int) ((i : Int) + 1) = some (left.erase x) := by
    unfold delI
    rw [if_pos ⟨by omega,by omega,by omega⟩,show ((i : Int)).toNat = i from rfl,show ((i : Int) + 1).toNat = i + 1 from by omega,erase_idx hq]
   rw [hd,bPs]
   refine strike_run a (j + 1) (left.erase x) rest (by have := List.length_erase_le (a := x) (l := left); omega) ?_
   have := hp.erase x
   rwa [List.cons_append,List.erase_cons_head] at this
theorem containsV (l : List LVal) (p : LVal → Bool) (f : LVal → Option Bool) (hf : ∀ x ∈ l,f x = some (p x)) : cj l f = some (l.any p) := by
 unfold cj dh
 rw [jw p (fun j _=>(j : Int)) l 0 (fun k x hk=>by
  rw [hf x (eR hk),bPs]
  cases p x <;> rfl)]
 rw [← fu]
 unfold aK
 cases hi : l.findIdx? p with
 | none=>rfl
 | some i =>
  have hil : i < l.length := (List.findIdx?_eq_some_iff_getElem.1 hi).1
  simp only [List.getElem?_eq_getElem hil]
  simp [bPs,kp]
theorem leftJoin_law {s : LSchema} (hs : jW s) (st : List LRelation) {q rA : LQuery} (hq : TinyQ q) (hr : TinyQ rA) (p : LExpr) (args : List LVal) : cM s st q rA p args = some true := by
 unfold cM
 rw [scans_ok,bPs]
 simp only [Bool.not_true,cond_false]
 have s4 : SmallQ (LQuery.mk 4 [] [] [p] [] [] 0 0 [q,rA]) := small2 hq hr rfl ⟨show (1 : Nat) ≤ 1000000 by omega,show (0 : Nat) ≤ 1000000 by omega⟩
 have s5 : SmallQ (LQuery.mk 5 [] [] [p] [] [] 0 0 [q,rA]) := small2 hq hr rfl ⟨show (1 : Nat) ≤ 1000000 by omega,show (0 : Nat) ≤ 1000000 by omega⟩
 obtain ⟨b,hb,hrun⟩ := runs_tot hs st s4 args
 rw [hb,bPs]
 cases b with
 | false=>rfl
 | true =>
  have h4 := hrun rfl
  have h5 : Runs s st (LQuery.mk 5 [] [] [p] [] [] 0 0 [q,rA]) args := join_runs h4
  have h1 : Runs s st q args := h4.sub (by simp [LQuery.inputs])
  simp only [Bool.not_true,cond_false]
  rw [kU hs s4 h4,kU hs s5 h5,kU hs hq.small h1]
  simp only [bPs,bn,Bool.not_true,cond_false]
  have r4 : aM (eP s st args) (LQuery.mk 4 [] [] [p] [] [] 0 0 [q,rA]) = _ := join_rows (eP s st args) 4 (.inl rfl) p q rA
  have r5 : aM (eP s st args) (LQuery.mk 5 [] [] [p] [] [] 0 0 [q,rA]) = _ := join_rows (eP s st args) 5 (.inr rfl) p q rA
  have hlen5 : (aM (eP s st args) (LQuery.mk 5 [] [] [p] [] [] 0 0 [q,rA])).length ≤ 20000 := by
   have hok := nE (r := eP s st args) ⟨rfl,rfl,rfl,h5.instOk hs⟩ _ (h5.qok s5)
   have g1 := hok.len
   have g3 := h5.size.2.2
   have g2 := (eM g3).1
   omega
  have hfit := (nE (r := eP s st args) ⟨rfl,rfl,rfl,h1.instOk hs⟩ q (h1.qok hq.small)).fits
  rw [show ((5 : Int) == 5) = true from rfl] at r5
  rw [show ((4 : Int) == 5) = false from rfl] at r4
  generalize aM (eP s st args) (LQuery.mk 4 [] [] [p] [] [] 0 0 [q,rA]) = A at r4 ⊢
  generalize aM (eP s st args) (LQuery.mk 5 [] [] [p] [] [] 0 0 [q,rA]) = B at r5 hlen5 ⊢
  generalize hf : (fun z=>ix (bU (aS (eP s st args) (aR (eP s st args) q ++ aR (eP s st args) rA) z) p)) = f at r4 r5
  generalize hpad : List.replicate (aR (eP s st args) rA).length LVal.nul = pad at r4 r5
  have hperm := join_perm f pad (aM (eP s st args) rA) (aM (eP s st args) q)
  have hjl := join_len f pad (aM (eP s st args) rA) (aM (eP s st args) q)
  rw [← r4,← r5] at hperm
  rw [← r5] at hjl
  have hpl := hperm.length_eq
  rw [List.length_append] at hpl
  rw [decide_eq_false (by split <;> omega),cond_false]
  obtain ⟨s2,hs2,hp2⟩ := strike_run A 0 B _ (by omega) hperm
  rw [hs2,bPs,gC]
  have hin : ∀ x ∈ s2,∃ y : List LVal,y.length = (aR (eP s st args) q).length ∧ x = y ++ pad := fun x hx=>by
   have := hp2.mem_iff.1 hx
   unfold pads at this
   obtain ⟨y,hy,rfl⟩ := List.mem_map.1 this
   exact ⟨y,(hfit y (List.mem_filter.1 hy).1).1,rfl⟩
  rw [containsR s2 (fun x=>(x.drop (aR (eP s st args) q).length).any fun v=>v.kind != 0) _ (fun x hx=>by
   obtain ⟨y,hy,rfl⟩ := hin x hx
   unfold bR
   rw [lN ⟨by omega,by simp; omega,by omega⟩,bPs,containsV _ (fun v=>v.kind != 0) (fun a0=>some (bv a0)) (fun v _=>rfl),bPs]
   rw [Int.toNat_natCast,Int.toNat_natCast,List.take_length]),bPs]
  have hno : (s2.any fun x=>(x.drop (aR (eP s st args) q).length).any fun v=>v.kind != 0) = false := by
   rw [List.any_eq_false]
   intro x hx
   obtain ⟨y,hy,rfl⟩ := hin x hx
   rw [← hy,List.drop_left,← hpad]
   simp [LVal.nul]
  rw [hno]
  rfl
end
end Go.Proofs.YtgaggbdcedpapaaGreat

namespace Go.Proofs.YtgaggbdcedpapaaGreat
noncomputable section
open Go Go.Ab
theorem own_knob : ownKnob Tryz.prog.godebug = none := by kernel_rfl
theorem laid_out : laidOutB Tryz.prog = true := by kernel_rfl
def lawTypes : List TypeId := [26,22,91,9,39,50,3,4,89,23,142,24,148,53,28,87,40,51,35,29,30,56,31,66,32,33,36]
theorem lawTypes_ok : lawTypes.all (okT Tryz.prog lawTypes) = true := by kernel_rfl
theorem lawTypes_info : ∀ t ∈ lawTypes,∃ i,Tryz.prog.info? t = some i ∧ i.bytes = Tryz.prog.bytesOf t ∧ i.size = Tryz.prog.cellsOf t := infos_of (by kernel_rfl)
theorem sh9 {n : Nat} {pvs : List PV} (h : Sh Tryz.prog n 9 pvs) : ∃ v : List UInt8,pvs = [.str v] := by
 cases n with
 | zero=>simp [Sh] at h
 | succ n=>simp only [Sh,Tryz.underlying9] at h; obtain ⟨m,rfl,_⟩ := h; exact ⟨m,rfl⟩
theorem sh3 {n : Nat} {pvs : List PV} (h : Sh Tryz.prog n 3 pvs) : ∃ v : Int,pvs = [ac v] := by
 cases n with
 | zero=>simp [Sh] at h
 | succ n=>simp only [Sh,Tryz.underlying3] at h; obtain ⟨m,rfl,_⟩ := h; exact ⟨m,rfl⟩
theorem sh4 {n : Nat} {pvs : List PV} (h : Sh Tryz.prog n 4 pvs) : ∃ v : Bool,pvs = [av v] := by
 cases n with
 | zero=>simp [Sh] at h
 | succ n=>simp only [Sh,Tryz.underlying4] at h; obtain ⟨m,rfl⟩ := h; exact ⟨m,rfl⟩
theorem sh50 {n : Nat} {pvs : List PV} (h : Sh Tryz.prog n 50 pvs) : ∃ v : LCol,pvs = au v := by
 cases n with
 | zero=>simp [Sh] at h
 | succ n =>
  simp only [Sh,Tryz.underlying50,List.map_cons,List.map_nil,fq] at h
  obtain ⟨p0,r0,rfl,h0,p1,r1,rfl,h1,p2,r2,rfl,h2,rfl⟩ := h
  obtain ⟨v0,rfl⟩ := sh9 h0
  obtain ⟨v1,rfl⟩ := sh3 h1
  obtain ⟨v2,rfl⟩ := sh4 h2
  exact ⟨LCol.mk v0 v1 v2,rfl⟩
theorem sh39 {n : Nat} {pvs : List PV} (h : Sh Tryz.prog n 39 pvs) : ∃ v : List LCol,pvs = [.list 50 (v.map au)] := by
 cases n with
 | zero=>simp [Sh] at h
 | succ n =>
  simp only [Sh,Tryz.underlying39] at h
  obtain ⟨rows,rfl,hr⟩ := h
  obtain ⟨xs,rfl⟩ := gO (f := au) (fun r hq=>sh50 (hr r hq))
  exact ⟨xs,rfl⟩
theorem sh89 {n : Nat} {pvs : List PV} (h : Sh Tryz.prog n 89 pvs) : ∃ v : List Int,pvs = [.list 3 (v.map aV)] := by
 cases n with
 | zero=>simp [Sh] at h
 | succ n =>
  simp only [Sh,Tryz.underlying89] at h
  obtain ⟨rows,rfl,hr⟩ := h
  obtain ⟨xs,rfl⟩ := gO (f := aV) (fun r hq=>let ⟨v,e⟩ := sh3 (hr r hq); ⟨v,e⟩)
  exact ⟨xs,rfl⟩
theorem sh91 {n : Nat} {pvs : List PV} (h : Sh Tryz.prog n 91 pvs) : ∃ v : LTable,pvs = aO v := by
 cases n with
 | zero=>simp [Sh] at h
 | succ n =>
  simp only [Sh,Tryz.underlying91,List.map_cons,List.map_nil,fq] at h
  obtain ⟨p0,r0,rfl,h0,p1,r1,rfl,h1,p2,r2,rfl,h2,rfl⟩ := h
  obtain ⟨v0,rfl⟩ := sh9 h0
  obtain ⟨v1,rfl⟩ := sh39 h1
  obtain ⟨v2,rfl⟩ := sh89 h2
  exact ⟨LTable.mk v0 v1 v2,rfl⟩
theorem sh22 {n : Nat} {pvs : List PV} (h : Sh Tryz.prog n 22 pvs) : ∃ v : List LTable,pvs = [.list 91 (v.map aO)] := by
 cases n with
 | zero=>simp [Sh] at h
 | succ n =>
  simp only [Sh,Tryz.underlying22] at h
  obtain ⟨rows,rfl,hr⟩ := h
  obtain ⟨xs,rfl⟩ := gO (f := aO) (fun r hq=>sh91 (hr r hq))
  exact ⟨xs,rfl⟩
theorem sh142 {n : Nat} {pvs : List PV} (h : Sh Tryz.prog n 142 pvs) : ∃ v : LForeignKey,pvs = bG v := by
 cases n with
 | zero=>simp [Sh] at h
 | succ n =>
  simp only [Sh,Tryz.underlying142,List.map_cons,List.map_nil,fq] at h
  obtain ⟨p0,r0,rfl,h0,p1,r1,rfl,h1,p2,r2,rfl,h2,rfl⟩ := h
  obtain ⟨v0,rfl⟩ := sh9 h0
  obtain ⟨v1,rfl⟩ := sh89 h1
  obtain ⟨v2,rfl⟩ := sh9 h2
  exact ⟨LForeignKey.mk v0 v1 v2,rfl⟩
theorem sh23 {n : Nat} {pvs : List PV} (h : Sh Tryz.prog n 23 pvs) : ∃ v : List LForeignKey,pvs = [.list 142 (v.map bG)] := by
 cases n with
 | zero=>simp [Sh] at h
 | succ n =>
  simp only [Sh,Tryz.underlying23] at h
  obtain ⟨rows,rfl,hr⟩ := h
  obtain ⟨xs,rfl⟩ := gO (f := bG) (fun r hq=>sh142 (hr r hq))
  exact ⟨xs,rfl⟩
theorem sh53 {n : Nat} {pvs : List PV} (h : Sh Tryz.prog n 53 pvs) : ∃ v : LVal,pvs = ae v := by
 cases n with
 | zero=>simp [Sh] at h
 | succ n =>
  simp only [Sh,Tryz.underlying53,List.map_cons,List.map_nil,fq] at h
  obtain ⟨p0,r0,rfl,h0,p1,r1,rfl,h1,p2,r2,rfl,h2,rfl⟩ := h
  obtain ⟨v0,rfl⟩ := sh3 h0
  obtain ⟨v1,rfl⟩ := sh3 h1
  obtain ⟨v2,rfl⟩ := sh9 h2
  exact ⟨LVal.mk v0 v1 v2,rfl⟩
theorem sh148 {n : Nat} {pvs : List PV} (h : Sh Tryz.prog n 148 pvs) : ∃ v : LConstraint,pvs = bM v := by
 cases n with
 | zero=>simp [Sh] at h
 | succ n =>
  simp only [Sh,Tryz.underlying148,List.map_cons,List.map_nil,fq] at h
  obtain ⟨p0,r0,rfl,h0,p1,r1,rfl,h1,p2,r2,rfl,h2,p3,r3,rfl,h3,p4,r4,rfl,h4,rfl⟩ := h
  obtain ⟨v0,rfl⟩ := sh9 h0
  obtain ⟨v1,rfl⟩ := sh3 h1
  obtain ⟨v2,rfl⟩ := sh9 h2
  obtain ⟨v3,rfl⟩ := sh3 h3
  obtain ⟨v4,rfl⟩ := sh53 h4
  exact ⟨LConstraint.mk v0 v1 v2 v3 v4,rfl⟩
theorem sh24 {n : Nat} {pvs : List PV} (h : Sh Tryz.prog n 24 pvs) : ∃ v : List LConstraint,pvs = [.list 148 (v.map bM)] := by
 cases n with
 | zero=>simp [Sh] at h
 | succ n =>
  simp only [Sh,Tryz.underlying24] at h
  obtain ⟨rows,rfl,hr⟩ := h
  obtain ⟨xs,rfl⟩ := gO (f := bM) (fun r hq=>sh148 (hr r hq))
  exact ⟨xs,rfl⟩
theorem sh26 {n : Nat} {pvs : List PV} (h : Sh Tryz.prog n 26 pvs) : ∃ v : LSchema,pvs = dm v := by
 cases n with
 | zero=>simp [Sh] at h
 | succ n =>
  simp only [Sh,Tryz.underlying26,List.map_cons,List.map_nil,fq] at h
  obtain ⟨p0,r0,rfl,h0,p1,r1,rfl,h1,p2,r2,rfl,h2,rfl⟩ := h
  obtain ⟨v0,rfl⟩ := sh22 h0
  obtain ⟨v1,rfl⟩ := sh23 h1
  obtain ⟨v2,rfl⟩ := sh24 h2
  exact ⟨LSchema.mk v0 v1 v2,rfl⟩
theorem sh51 {n : Nat} {pvs : List PV} (h : Sh Tryz.prog n 51 pvs) : ∃ v : List LVal,pvs = [.list 53 (v.map ae)] := by
 cases n with
 | zero=>simp [Sh] at h
 | succ n =>
  simp only [Sh,Tryz.underlying51] at h
  obtain ⟨rows,rfl,hr⟩ := h
  obtain ⟨xs,rfl⟩ := gO (f := ae) (fun r hq=>sh53 (hr r hq))
  exact ⟨xs,rfl⟩
theorem sh40 {n : Nat} {pvs : List PV} (h : Sh Tryz.prog n 40 pvs) : ∃ v : List (List LVal),pvs = [.list 51 (v.map (ag 53 ae))] := by
 cases n with
 | zero=>simp [Sh] at h
 | succ n =>
  simp only [Sh,Tryz.underlying40] at h
  obtain ⟨rows,rfl,hr⟩ := h
  obtain ⟨xs,rfl⟩ := gO (f := (ag 53 ae)) (fun r hq=>let ⟨v,e⟩ := sh51 (hr r hq); ⟨v,e⟩)
  exact ⟨xs,rfl⟩
theorem sh87 {n : Nat} {pvs : List PV} (h : Sh Tryz.prog n 87 pvs) : ∃ v : LRelation,pvs = bh v := by
 cases n with
 | zero=>simp [Sh] at h
 | succ n =>
  simp only [Sh,Tryz.underlying87,List.map_cons,List.map_nil,fq] at h
  obtain ⟨p0,r0,rfl,h0,p1,r1,rfl,h1,rfl⟩ := h
  obtain ⟨v0,rfl⟩ := sh9 h0
  obtain ⟨v1,rfl⟩ := sh40 h1
  exact ⟨LRelation.mk v0 v1,rfl⟩
theorem sh28 {n : Nat} {pvs : List PV} (h : Sh Tryz.prog n 28 pvs) : ∃ v : List LRelation,pvs = [.list 87 (v.map bh)] := by
 cases n with
 | zero=>simp [Sh] at h
 | succ n =>
  simp only [Sh,Tryz.underlying28] at h
  obtain ⟨rows,rfl,hr⟩ := h
  obtain ⟨xs,rfl⟩ := gO (f := bh) (fun r hq=>sh87 (hr r hq))
  exact ⟨xs,rfl⟩
theorem sh29 {n : Nat} {pvs : List PV} (h : Sh Tryz.prog n 29 pvs) : ∃ v : List (List UInt8),pvs = [.list 9 (v.map bq)] := by
 cases n with
 | zero=>simp [Sh] at h
 | succ n =>
  simp only [Sh,Tryz.underlying29] at h
  obtain ⟨rows,rfl,hr⟩ := h
  obtain ⟨xs,rfl⟩ := gO (f := bq) (fun r hq=>let ⟨v,e⟩ := sh9 (hr r hq); ⟨v,e⟩)
  exact ⟨xs,rfl⟩
theorem sh56 {n : Nat} {pvs : List PV} (h : Sh Tryz.prog n 56 pvs) : ∃ v : LExpr,pvs = aH v := by
 induction n generalizing pvs with
 | zero=>simp [Sh] at h
 | succ n ih =>
  simp only [Sh,Tryz.underlying56,List.map_cons,List.map_nil,fq] at h
  obtain ⟨p0,r0,rfl,h0,p1,r1,rfl,h1,p2,r2,rfl,h2,p3,r3,rfl,h3,p4,r4,rfl,h4,rfl⟩ := h
  obtain ⟨v0,rfl⟩ := sh3 h0
  obtain ⟨v1,rfl⟩ := sh9 h1
  obtain ⟨v2,rfl⟩ := sh3 h2
  obtain ⟨v3,rfl⟩ := sh53 h3
  cases n with
  | zero=>simp [Sh] at h4
  | succ n =>
  simp only [Sh,Tryz.underlying30] at h4
  obtain ⟨rows,rfl,hr4⟩ := h4
  obtain ⟨v4,rfl⟩ := rowsUp (f := aH) (rfl) ih hr4
  exact ⟨LExpr.mk v0 v1 v2 v3 v4,by rw [cP]; rfl⟩
theorem sh30 {n : Nat} {pvs : List PV} (h : Sh Tryz.prog n 30 pvs) : ∃ v : List LExpr,pvs = [.list 56 (v.map aH)] := by
 cases n with
 | zero=>simp [Sh] at h
 | succ n =>
  simp only [Sh,Tryz.underlying30] at h
  obtain ⟨rows,rfl,hr⟩ := h
  obtain ⟨xs,rfl⟩ := gO (f := aH) (fun r hq=>sh56 (hr r hq))
  exact ⟨xs,rfl⟩
theorem sh66 {n : Nat} {pvs : List PV} (h : Sh Tryz.prog n 66 pvs) : ∃ v : LAggregateCall,pvs = bo v := by
 cases n with
 | zero=>simp [Sh] at h
 | succ n =>
  simp only [Sh,Tryz.underlying66,List.map_cons,List.map_nil,fq] at h
  obtain ⟨p0,r0,rfl,h0,p1,r1,rfl,h1,p2,r2,rfl,h2,rfl⟩ := h
  obtain ⟨v0,rfl⟩ := sh9 h0
  obtain ⟨v1,rfl⟩ := sh9 h1
  obtain ⟨v2,rfl⟩ := sh30 h2
  exact ⟨LAggregateCall.mk v0 v1 v2,rfl⟩
theorem sh31 {n : Nat} {pvs : List PV} (h : Sh Tryz.prog n 31 pvs) : ∃ v : List LAggregateCall,pvs = [.list 66 (v.map bo)] := by
 cases n with
 | zero=>simp [Sh] at h
 | succ n =>
  simp only [Sh,Tryz.underlying31] at h
  obtain ⟨rows,rfl,hr⟩ := h
  obtain ⟨xs,rfl⟩ := gO (f := bo) (fun r hq=>sh66 (hr r hq))
  exact ⟨xs,rfl⟩
theorem sh32 {n : Nat} {pvs : List PV} (h : Sh Tryz.prog n 32 pvs) : ∃ v : List Bool,pvs = [.list 4 (v.map bF)] := by
 cases n with
 | zero=>simp [Sh] at h
 | succ n =>
  simp only [Sh,Tryz.underlying32] at h
  obtain ⟨rows,rfl,hr⟩ := h
  obtain ⟨xs,rfl⟩ := gO (f := bF) (fun r hq=>let ⟨v,e⟩ := sh4 (hr r hq); ⟨v,e⟩)
  exact ⟨xs,rfl⟩
theorem sh35 {n : Nat} {pvs : List PV} (h : Sh Tryz.prog n 35 pvs) : ∃ v : LQuery,pvs = aB v := by
 induction n generalizing pvs with
 | zero=>simp [Sh] at h
 | succ n ih =>
  simp only [Sh,Tryz.underlying35,List.map_cons,List.map_nil,fq] at h
  obtain ⟨p0,r0,rfl,h0,p1,r1,rfl,h1,p2,r2,rfl,h2,p3,r3,rfl,h3,p4,r4,rfl,h4,p5,r5,rfl,h5,p6,r6,rfl,h6,p7,r7,rfl,h7,p8,r8,rfl,h8,rfl⟩ := h
  obtain ⟨v0,rfl⟩ := sh3 h0
  obtain ⟨v1,rfl⟩ := sh9 h1
  obtain ⟨v2,rfl⟩ := sh29 h2
  obtain ⟨v3,rfl⟩ := sh30 h3
  obtain ⟨v4,rfl⟩ := sh31 h4
  obtain ⟨v5,rfl⟩ := sh32 h5
  obtain ⟨v6,rfl⟩ := sh3 h6
  obtain ⟨v7,rfl⟩ := sh3 h7
  cases n with
  | zero=>simp [Sh] at h8
  | succ n =>
  simp only [Sh,Tryz.underlying33] at h8
  obtain ⟨rows,rfl,hr8⟩ := h8
  obtain ⟨v8,rfl⟩ := rowsUp (f := aB) (rfl) ih hr8
  exact ⟨LQuery.mk v0 v1 v2 v3 v4 v5 v6 v7 v8,by rw [bE]; rfl⟩
theorem sh36 {n : Nat} {pvs : List PV} (h : Sh Tryz.prog n 36 pvs) : ∃ v : List LVal,pvs = [.list 53 (v.map ae)] := by
 cases n with
 | zero=>simp [Sh] at h
 | succ n =>
  simp only [Sh,Tryz.underlying36] at h
  obtain ⟨rows,rfl,hr⟩ := h
  obtain ⟨xs,rfl⟩ := gO (f := ae) (fun r hq=>sh53 (hr r hq))
  exact ⟨xs,rfl⟩
theorem law_args : ∀ args,ArgsSh Tryz.prog Tryz.f5.params.toList args → bj args ≤ 1048576 → aG Tryz.prog 5 args (.val (.bool true)) := by
 intro args h hN
 rw [Tryz.params5] at h
 simp only [ArgsSh] at h
 obtain ⟨n0,p0,r0,rfl,h0,n1,p1,r1,rfl,h1,n2,p2,r2,rfl,h2,n3,p3,r3,rfl,h3,n4,p4,r4,rfl,h4,n5,p5,r5,rfl,h5,rfl⟩ := h
 obtain ⟨v0,rfl⟩ := sh26 h0
 obtain ⟨v1,rfl⟩ := sh28 h1
 obtain ⟨v2,rfl⟩ := sh35 h2
 obtain ⟨v3,rfl⟩ := sh35 h3
 obtain ⟨v4,rfl⟩ := sh56 h4
 obtain ⟨v5,rfl⟩ := sh36 h5
 have e0 : gw Tryz.prog 26 (dm v0) = .agg (dm v0) := by simp only [gw,Tryz.underlying26]
 rw [e0] at hN ⊢
 have e1 : gw Tryz.prog 28 [.list 87 (v1.map bh)] = .list 87 (v1.map bh) := by simp only [gw,Tryz.underlying28]; rfl
 rw [e1] at hN ⊢
 have e2 : gw Tryz.prog 35 (aB v2) = .agg (aB v2) := by simp only [gw,Tryz.underlying35]
 rw [bE] at e2
 rw [bE v2,e2] at hN ⊢
 have e3 : gw Tryz.prog 35 (aB v3) = .agg (aB v3) := by simp only [gw,Tryz.underlying35]
 rw [bE] at e3
 rw [bE v3,e3] at hN ⊢
 have e4 : gw Tryz.prog 56 (aH v4) = .agg (aH v4) := by simp only [gw,Tryz.underlying56]
 rw [cP] at e4
 rw [cP v4,e4] at hN ⊢
 have e5 : gw Tryz.prog 36 [.list 53 (v5.map ae)] = .list 53 (v5.map ae) := by simp only [gw,Tryz.underlying36]; rfl
 rw [e5] at hN ⊢
 simp only [bj,PV.bulk] at hN
 have hs0 : jW v0 := smallS_bulk (n := 1048576) (by omega) (by omega)
 have hq2 : TinyQ v2 := tiny_bulk (n := 1048576) (by omega) (by omega)
 have hq3 : TinyQ v3 := tiny_bulk (n := 1048576) (by omega) (by omega)
 exact iD v0 v1 v2 v3 v4 v5 true (leftJoin_law hs0 v1 hq2 hq3 v4 v5)
set_option maxRecDepth 100000 in
theorem law_wf : (fun (P : Program) (f : FuncId) (fn : Func) (s : ChangeSpec) (c : OpenClaim)=>(P.funcs.size,f,fn.params.size,s.name,c.func,c.wf (OpenSpec.ofChange s)).2.2.2.2.2) Tryz.prog 5 Tryz.f5 (Rows.OpenSpec.upto Rows.queryLeftJoinExtendsInnerJoinSpec).bare Rows.queryLeftJoinExtendsInnerJoinUptoRow = true := by kernel_rfl
set_option maxRecDepth 100000 in
theorem law_laid : (fun (P : Program) (f : FuncId) (fn : Func) (s : ChangeSpec) (c : OpenClaim)=>(P.funcs.size,f,fn.params.size,s.name,c.func,laidOutB P).2.2.2.2.2) Tryz.prog 5 Tryz.f5 (Rows.OpenSpec.upto Rows.queryLeftJoinExtendsInnerJoinSpec).bare Rows.queryLeftJoinExtendsInnerJoinUptoRow = true := by kernel_rfl
set_option maxRecDepth 100000 in
theorem law_mapsRowed : (fun (P : Program) (f : FuncId) (fn : Func) (s : ChangeSpec) (c : OpenClaim)=>(P.funcs.size,f,fn.params.size,s.name,c.func,mapsRowed P).2.2.2.2.2) Tryz.prog 5 Tryz.f5 (Rows.OpenSpec.upto Rows.queryLeftJoinExtendsInnerJoinSpec).bare Rows.queryLeftJoinExtendsInnerJoinUptoRow = true := by kernel_rfl
set_option maxRecDepth 100000 in
theorem law_rr : (fun (P : Program) (f : FuncId) (fn : Func) (s : ChangeSpec) (c : OpenClaim)=>(P.funcs.size,f,fn.params.size,s.name,c.func,fn.params.all (P.readableRec ·)).2.2.2.2.2) Tryz.prog 5 Tryz.f5 (Rows.OpenSpec.upto Rows.queryLeftJoinExtendsInnerJoinSpec).bare Rows.queryLeftJoinExtendsInnerJoinUptoRow = true := by kernel_rfl
set_option maxRecDepth 100000 in
theorem law_nt : (fun (P : Program) (f : FuncId) (fn : Func) (s : ChangeSpec) (c : OpenClaim)=>(P.funcs.size,f,fn.params.size,s.name,c.func,namedTie P c.named s.vars).2.2.2.2.2) Tryz.prog 5 Tryz.f5 (Rows.OpenSpec.upto Rows.queryLeftJoinExtendsInnerJoinSpec).bare Rows.queryLeftJoinExtendsInnerJoinUptoRow = true := by kernel_rfl
set_option maxRecDepth 100000 in
theorem law_st : (fun (P : Program) (f : FuncId) (fn : Func) (s : ChangeSpec) (c : OpenClaim)=>(P.funcs.size,f,fn.params.size,s.name,c.func,(c.stops == []) && (P.stops == []) && (c.knobs == []) && (P.stopKnobs == [])).2.2.2.2.2) Tryz.prog 5 Tryz.f5 (Rows.OpenSpec.upto Rows.queryLeftJoinExtendsInnerJoinSpec).bare Rows.queryLeftJoinExtendsInnerJoinUptoRow = true := by kernel_rfl
set_option maxRecDepth 100000 in
theorem law_inPlace : (fun (P : Program) (f : FuncId) (fn : Func) (s : ChangeSpec) (c : OpenClaim)=>(P.funcs.size,f,fn.params.size,s.name,c.func,c.inPlace == P.inPlace f).2.2.2.2.2) Tryz.prog 5 Tryz.f5 (Rows.OpenSpec.upto Rows.queryLeftJoinExtendsInnerJoinSpec).bare Rows.queryLeftJoinExtendsInnerJoinUptoRow = true := by kernel_rfl
set_option maxRecDepth 100000 in
theorem law_unf : (fun (P : Program) (f : FuncId) (fn : Func) (s : ChangeSpec) (c : OpenClaim)=>(P.funcs.size,f,fn.params.size,s.name,c.func,c.unfollowed == P.unfollowed f).2.2.2.2.2) Tryz.prog 5 Tryz.f5 (Rows.OpenSpec.upto Rows.queryLeftJoinExtendsInnerJoinSpec).bare Rows.queryLeftJoinExtendsInnerJoinUptoRow = true := by kernel_rfl
set_option maxRecDepth 100000 in
theorem law_rec : (fun (P : Program) (f : FuncId) (fn : Func) (s : ChangeSpec) (c : OpenClaim)=>(P.funcs.size,f,fn.params.size,s.name,c.func,c.recurses == P.recurses f).2.2.2.2.2) Tryz.prog 5 Tryz.f5 (Rows.OpenSpec.upto Rows.queryLeftJoinExtendsInnerJoinSpec).bare Rows.queryLeftJoinExtendsInnerJoinUptoRow = true := by kernel_rfl
set_option maxRecDepth 100000 in
theorem law_named : (fun (P : Program) (f : FuncId) (fn : Func) (s : ChangeSpec) (c : OpenClaim)=>(P.funcs.size,f,fn.params.size,s.name,c.func,c.named == P.varsNamed f).2.2.2.2.2) Tryz.prog 5 Tryz.f5 (Rows.OpenSpec.upto Rows.queryLeftJoinExtendsInnerJoinSpec).bare Rows.queryLeftJoinExtendsInnerJoinUptoRow = true := by kernel_rfl
set_option maxRecDepth 100000 in
theorem law_maps : (fun (P : Program) (f : FuncId) (fn : Func) (s : ChangeSpec) (c : OpenClaim)=>(P.funcs.size,f,fn.params.size,s.name,c.func,(c.maps == (fn.params.toList ++ s.plain.varTypes P).any (P.mapsRec ·)) && (c.ifaces == (fn.params.toList ++ s.plain.varTypes P).any (P.ifacesRec ·)) && (c.mapsOut == P.mapsAmong fn.resultTypes.toList)).2.2.2.2.2) Tryz.prog 5 Tryz.f5 (Rows.OpenSpec.upto Rows.queryLeftJoinExtendsInnerJoinSpec).bare Rows.queryLeftJoinExtendsInnerJoinUptoRow = true := by kernel_rfl
set_option maxRecDepth 100000 in
theorem law_loops : (fun (P : Program) (f : FuncId) (fn : Func) (s : ChangeSpec) (c : OpenClaim)=>(P.funcs.size,f,fn.params.size,s.name,c.func,(c.loops == (fn.params.toList ++ s.plain.varTypes P).any (P.loopsFrom ·))).2.2.2.2.2) Tryz.prog 5 Tryz.f5 (Rows.OpenSpec.upto Rows.queryLeftJoinExtendsInnerJoinSpec).bare Rows.queryLeftJoinExtendsInnerJoinUptoRow = true := by kernel_rfl
set_option maxRecDepth 100000 in
theorem law_wide : (fun (P : Program) (f : FuncId) (fn : Func) (s : ChangeSpec) (c : OpenClaim)=>(P.funcs.size,f,fn.params.size,s.name,c.func,(c.wideKeys == (fn.params.toList ++ s.plain.varTypes P ++ fn.resultTypes.toList).any (P.wideKeysFrom ·))).2.2.2.2.2) Tryz.prog 5 Tryz.f5 (Rows.OpenSpec.upto Rows.queryLeftJoinExtendsInnerJoinSpec).bare Rows.queryLeftJoinExtendsInnerJoinUptoRow = true := by kernel_rfl
set_option maxRecDepth 100000 in
theorem law_rest1 : (fun (P : Program) (f : FuncId) (fn : Func) (s : ChangeSpec) (c : OpenClaim)=>(P.funcs.size,f,fn.params.size,s.name,c.func,s.vars.all (P.varReadable ·) && fn.resultTypes.all (fun t=>P.readableRec t && decide (t < P.types.size)) && (c.ifacesOut == fn.resultTypes.toList.any (P.ifacesRec ·)) && (c.loopsOut == fn.resultTypes.toList.any (P.loopsFrom ·))).2.2.2.2.2) Tryz.prog 5 Tryz.f5 (Rows.OpenSpec.upto Rows.queryLeftJoinExtendsInnerJoinSpec).bare Rows.queryLeftJoinExtendsInnerJoinUptoRow = true := by kernel_rfl
set_option maxRecDepth 100000 in
theorem law_plainKeys : (fun (P : Program) (f : FuncId) (fn : Func) (s : ChangeSpec) (c : OpenClaim)=>(P.funcs.size,f,fn.params.size,s.name,c.func,c.plainKeys == P.plainKeys).2.2.2.2.2) Tryz.prog 5 Tryz.f5 (Rows.OpenSpec.upto Rows.queryLeftJoinExtendsInnerJoinSpec).bare Rows.queryLeftJoinExtendsInnerJoinUptoRow = true := by kernel_rfl
set_option maxRecDepth 100000 in
theorem law_rest2 : (fun (P : Program) (f : FuncId) (fn : Func) (s : ChangeSpec) (c : OpenClaim)=>(P.funcs.size,f,fn.params.size,s.name,c.func,c.shortTexts.isNone && P.stopsHeard && P.mayEnter && (c.lifted == P.liftsFinal) && (P.make == some c.make)).2.2.2.2.2) Tryz.prog 5 Tryz.f5 (Rows.OpenSpec.upto Rows.queryLeftJoinExtendsInnerJoinSpec).bare Rows.queryLeftJoinExtendsInnerJoinUptoRow = true := by kernel_rfl
set_option maxRecDepth 100000 in
theorem law_kinds : (fun (P : Program) (f : FuncId) (fn : Func) (s : ChangeSpec) (c : OpenClaim)=>(P.funcs.size,f,fn.params.size,s.name,c.func,(c.kinds == (if c.domain.isEmpty then [] else fn.params.toList.map fun t=>match P.underlying t with | some (.int k)=>some k | _=>none)) && (c.pinned == c.pinnedBy)).2.2.2.2.2) Tryz.prog 5 Tryz.f5 (Rows.OpenSpec.upto Rows.queryLeftJoinExtendsInnerJoinSpec).bare Rows.queryLeftJoinExtendsInnerJoinUptoRow = true := by kernel_rfl
set_option maxRecDepth 100000 in
theorem law_veil : (fun (P : Program) (f : FuncId) (fn : Func) (s : ChangeSpec) (c : OpenClaim)=>(P.funcs.size,f,fn.params.size,s.name,c.func,(c.veiled == (fn.params.toList ++ s.plain.varTypes P ++ fn.resultTypes.toList).any (P.veiledRec ·)) && c.veiledFits P fn.params.toList (fn.params.toList ++ s.plain.varTypes P ++ fn.resultTypes.toList)).2.2.2.2.2) Tryz.prog 5 Tryz.f5 (Rows.OpenSpec.upto Rows.queryLeftJoinExtendsInnerJoinSpec).bare Rows.queryLeftJoinExtendsInnerJoinUptoRow = true := by kernel_rfl
set_option maxRecDepth 100000 in
theorem law_facts : joinedFacts Tryz.prog 5 Tryz.f5 (Rows.OpenSpec.upto Rows.queryLeftJoinExtendsInnerJoinSpec).bare Rows.queryLeftJoinExtendsInnerJoinUptoRow = true := joined_of law_wf law_laid law_mapsRowed law_rr law_nt law_st law_inPlace law_unf law_rec law_named law_maps law_loops law_wide law_rest1 law_plainKeys law_rest2 law_kinds law_veil
set_option maxRecDepth 100000 in
theorem law_lifted (os : Os) (started : os.Started) (H : Type) (enc : TypeId × Value → H) (F : Stop.Interp) :
  ReturnsInHanded {} Tryz.checked os 5 .any ((Rows.OpenSpec.upto Rows.queryLeftJoinExtendsInnerJoinSpec).pre6 enc Tryz.prog Tryz.f5 Rows.queryLeftJoinExtendsInnerJoinUptoRow.domain false) (((Rows.OpenSpec.upto Rows.queryLeftJoinExtendsInnerJoinSpec).at F).post enc Tryz.prog Tryz.f5 false true false false) := by
 refine returnsInHanded_of_cond_sized (C := Tryz.checked) (s := Rows.OpenSpec.upto Rows.queryLeftJoinExtendsInnerJoinSpec) (k := Rows.uptoSmall) rfl own_knob started (by kernel_rfl) Tryz.func5
  (OpenSpec.witness (enc := enc) (C := Tryz.checked) (s := Rows.OpenSpec.upto Rows.queryLeftJoinExtendsInnerJoinSpec) (k := Rows.uptoSmall) rfl false ⟨#[],#[.agg #[.slice none 0 0,.slice none 0 0,.slice none 0 0],.slice none 0 0,.agg #[.int .i64 0,.string ⟨#[]⟩,.slice none 0 0,.slice none 0 0,.slice none 0 0,.slice none 0 0,.int .i64 0,.int .i64 0,.slice none 0 0],.agg #[.int .i64 0,.string ⟨#[]⟩,.slice none 0 0,.slice none 0 0,.slice none 0 0,.slice none 0 0,.int .i64 0,.int .i64 0,.slice none 0 0],.agg #[.int .i64 0,.string ⟨#[]⟩,.int .i64 0,.int .i64 0,.int .i64 0,.string ⟨#[]⟩,.slice none 0 0],.slice none 0 0],[]⟩ 8 (by kernel_rfl) (by kernel_rfl) (by kernel_rfl)
   (x := ([.agg [.nil,.nil,.nil],.nil,.agg [.lit (.int .i64 0),.lit (.string []),.nil,.nil,.nil,.nil,.lit (.int .i64 0),.lit (.int .i64 0),.nil],.agg [.lit (.int .i64 0),.lit (.string []),.nil,.nil,.nil,.nil,.lit (.int .i64 0),.lit (.int .i64 0),.nil],.agg [.lit (.int .i64 0),.lit (.string []),.lit (.int .i64 0),.agg [.lit (.int .i64 0),.lit (.int .i64 0),.lit (.string [])],.nil],.nil],[],[])) (by kernel_rfl) rfl (by kernel_rfl)) ?_
 intro W base args ds gs before hval hW _ hk hsz _
 have hN : ((ds ++ gs).map (fun d=>Rows.uptoBulk d)).sum ≤ 1048576 := by
  rw [my]; exact of_decide_eq_true hk
 refine law_callsB (s := Rows.queryLeftJoinExtendsInnerJoinSpec) (tb := 4) bulk_is laid_out rfl ?_ rfl Tryz.underlying4 ?_ lawTypes_ok lawTypes_info ?_ law_args hval hW hsz hN
 ·rw [Tryz.params5]
  intro t ht
  simp only [List.mem_cons,List.mem_nil_iff,or_false] at ht
  rcases ht with rfl | rfl | rfl | rfl | rfl | rfl <;> exact ⟨by kernel_rfl,of_decide_eq_true (by kernel_rfl)⟩
 ·intro ds hlen
  rw [Tryz.params5] at hlen
  match ds,hlen with
  | [d0,d1,d2,d3,d4,d5],_=>rfl
 ·rw [Tryz.params5]
  intro t ht
  simp only [List.mem_cons,List.mem_nil_iff,or_false] at ht
  rcases ht with rfl | rfl | rfl | rfl | rfl | rfl <;> simp [lawTypes]
theorem queryLeftJoinExtendsInnerJoinUpto_holds : Rows.QueryLeftJoinExtendsInnerJoinUptoSaid :=
 OpenClaim.holds_of_cond 5 Tryz.f5 rfl rfl rfl rfl rfl rfl rfl ⟨rfl,rfl,rfl,rfl,rfl⟩ rfl rfl rfl rfl rfl (by kernel_rfl) Tryz.func5 law_facts
  (of_decide_eq_true (by kernel_rfl)) (by unfold Func.isWrapper; rw [if_neg (by decide +kernel)]; exact ⟨rfl,rfl⟩)
  (fun os started H enc _ F=>law_lifted os started H enc F)
end
end Go.Proofs.YtgaggbdcedpapaaGreat
