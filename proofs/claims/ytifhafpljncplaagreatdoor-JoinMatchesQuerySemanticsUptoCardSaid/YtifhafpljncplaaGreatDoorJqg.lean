/- joinMatchesQuerySemanticsUpto_holds, part 7: the layer, the plain functions and what they compute; conditions as in the statement. -/
import Derived.Test.YtifhafpljncplaaGreatDoorJqf
set_option maxHeartbeats 4000000
namespace Go.Proofs.YtifhafpljncplaaGreatDoor
noncomputable section
open Go Go.Ab
theorem rowLen {cols : List LCol} {row : Rq} (h : dY cols row) (hc : cols.length ≤ 20) : row.length ≤ 20 := by rw [h.1]; exact hc
theorem scan_run (st : List LRelation) (name : List UInt8) : af (aE (σ := Unit) (ρ := (Rows)) (fun (_ : Nat) (x1 : LRelation) (_ : Unit)=>cond (x1.table == name) (some (.ret x1.rows)) (some (.next ()))) 0 st ()) (fun fl1=>fl1.thenR fun (_ : Unit)=>some []) =
  some (match st.find? fun x=>x.table == name with | some x=>x.rows | none=>[]) := by
 rw [lQ (fun x : LRelation=>x.table == name) (fun _ x=>x.rows) st 0 (fun k x _=>by cases x.table == name <;> rfl)]
 rcases find_idx (fun x : LRelation=>x.table == name) st with ⟨h1,h2⟩ | ⟨x,h1,h2,h3⟩
 ·rw [h1]
  unfold aK at h2
  cases hf : st.findIdx? (fun x=>x.table == name) with
  | none=>rfl
  | some i=>rw [hf] at h2; simp only at h2; omega
 ·rw [h1]
  unfold aK at h2 h3
  cases hf : st.findIdx? (fun x=>x.table == name) with
  | none=>rw [hf] at h2; simp at h2
  | some i =>
   rw [hf] at h3
   simp only [Int.toNat_natCast] at h3
   simp only [h3]
   rfl
theorem limit_run (l : Rows) (q : LQuery) (hl : l.length ≤ 1000000) (hc : 0 ≤ q.count) (ho : 0 ≤ q.offset) :
  oH l (if (l.length : Int) < q.offset then (l.length : Int) else q.offset) (IntKind.i64.wrap ((if (l.length : Int) < q.offset then (l.length : Int) else q.offset) + (if (IntKind.i64.wrap ((l.length : Int) - (if (l.length : Int) < q.offset then (l.length : Int) else q.offset))) < q.count then (IntKind.i64.wrap ((l.length : Int) - (if (l.length : Int) < q.offset then (l.length : Int) else q.offset))) else q.count))) = some (qT q l) := by
 obtain ⟨o,ho'⟩ : ∃ o : Nat,q.offset = o := ⟨q.offset.toNat,by omega⟩
 obtain ⟨c,hc'⟩ : ∃ c : Nat,q.count = c := ⟨q.count.toNat,by omega⟩
 unfold qT
 rw [ho',hc',Int.toNat_natCast,Int.toNat_natCast]
 by_cases h1 : (l.length : Int) < (o : Int)
 ·rw [zp h1,bq (n := (l.length : Int) - (l.length : Int)) (by omega) (by omega)]
  have e : (if (l.length : Int) - (l.length : Int) < (c : Int) then (l.length : Int) - (l.length : Int) else (c : Int)) = 0 := by split <;> omega
  rw [e,bq (by omega) (by omega),qI ⟨by omega,by omega,by omega⟩]
  congr 1
  rw [List.drop_of_length_le (by simp only [List.length_take]; omega)]
  symm
  exact List.drop_of_length_le (by simp only [List.length_take]; omega)
 ·rw [zy h1,bq (n := (l.length : Int) - (o : Int)) (by omega) (by omega)]
  by_cases h2 : (l.length : Int) - (o : Int) < (c : Int)
  ·rw [zp h2,bq (by omega) (by omega),qI ⟨by omega,by omega,by omega⟩]
   rw [Int.toNat_natCast,List.take_of_length_le (i := ((o : Int) + ((l.length : Int) - (o : Int))).toNat) (by omega),List.take_of_length_le (i := o + c) (by omega)]
  ·rw [zy h2,bq (by omega) (by omega),qI ⟨by omega,by omega,by omega⟩]
   rw [Int.toNat_natCast,show ((o : Int) + (c : Int)).toNat = o + c from by omega]
theorem join_run2 (r : LRun) (q : LQuery) (ca cb : List LCol) (e : LExpr) (he : aJ q.exprs 0 = some e) (hee : e = e0Q q) (a b : Rows) (ha : ∀ x ∈ a,x.length ≤ 20) (hb : ∀ x ∈ b,x.length ≤ 20) (hcb : cb.length ≤ 20) (hsz : a.length * max 1 b.length ≤ 30000) (_hk : q.kind = 4 ∨ q.kind = 5) :
  af (aE (σ := List LCol × Rows) (ρ := Empty) (fun (_ : Nat) (x1 : Rq) (s1 : List LCol × Rows) =>
  af (aE (σ := Rows × Bool) (ρ := Empty) (fun (_ : Nat) (x6 : Rq) (s6 : Rows × Bool) =>
   af (bl ([x1,x6] : Rows)) fun x58 =>
   af (aJ q.exprs 0) fun (x65 : LExpr) =>
   bp (aS r s1.1 x58) fun x62 =>
   bp (bR x62 x65) fun x67 =>
   bp (ir x67) fun x68 =>
   cond x68
    (af (dh 24 s6.1 ([x58] : Rows)) fun (x72 : Rows) =>
    some (.next (x72,true)))
    (some (.next (s6.1,s6.2)))) 0 b (s1.2,false)) fun fl6=>fl6.thenP fun (s6 : Rows × Bool) =>
  bp (
   cond (!s6.2)
    ((q.kind == (5 : Int)))
    (false)) fun (t7 : Bool) =>
  cond t7
   (af (pj 32 (cb.length : Int)) fun (_ : Unit) =>
   af (bl ([x1,(List.replicate (cb.length : Int).toNat (LVal.mk 0 0 []))] : Rows)) fun x87 =>
   af (dh 24 s6.1 ([x87] : Rows)) fun (x89 : Rows) =>
   some (.next (s1.1,x89)))
   (some (.next (s1.1,s6.1)))) 0 a (ca ++ cb,[])) (fun fl1=>fl1.thenP fun (s1 : List LCol × Rows)=>some s1.2) = some (jM (ie r (ca ++ cb) q) (q.kind == 5) (List.replicate cb.length .nul) a b) := by
 have hpl : ∀ k,k ≤ a.length → (jM (ie r (ca ++ cb) q) (q.kind == 5) (List.replicate cb.length .nul) (a.take k) b).length ≤ 30000 := fun k hk=>by
  have h1 := sR (ie r (ca ++ cb) q) (q.kind == 5) (List.replicate cb.length .nul) (a.take k) b
  rw [List.length_take,Nat.min_eq_left hk] at h1
  exact Nat.le_trans h1 (Nat.le_trans (Nat.mul_le_mul_right _ hk) hsz)
 rw [rMa (xs := a) (s := (ca ++ cb,[])) (fun k=>(ca ++ cb,jM (ie r (ca ++ cb) q) (q.kind == 5) (List.replicate cb.length .nul) (a.take k) b)) rfl (fun k x hkx=>by
  have hkl := (zg.1 hkx).1
  have hxm := gI hkx
  have hbl : b.length ≤ 30000 := by
   have h1 : 1 * max 1 b.length ≤ a.length * max 1 b.length := Nat.mul_le_mul_right _ (by omega)
   omega
  have h2 := hpl k (by omega)
  simp only
  rw [match_run (ie r (ca ++ cb) q) e r (ca ++ cb) q.exprs he (fun z=>by rw [hee]; rfl) x (by have := ha x hxm; omega) b _ false (fun y hy=>by have := hb y hy; omega) (by omega),bPs,bM]
  have hs : jM (ie r (ca ++ cb) q) (q.kind == 5) (List.replicate cb.length .nul) (a.take (k + 1)) b = jM (ie r (ca ++ cb) q) (q.kind == 5) (List.replicate cb.length .nul) (a.take k) b ++ padR (ie r (ca ++ cb) q) (q.kind == 5) (List.replicate cb.length .nul) x b := by
   unfold jM
   rw [List.take_add_one,hkx,List.map_append,List.flatten_append]
   simp
  rw [hs]
  simp only [bE,Bool.false_or]
  have hml : (gF (ie r (ca ++ cb) q) x b).length ≤ 30000 := by unfold gF; exact Nat.le_trans (List.length_filter_le _ _) (by simpa using hbl)
  cases hm : gF (ie r (ca ++ cb) q) x b with
  | nil =>
   by_cases h5 : q.kind = 5
   ·have e5 : (q.kind == 5) = true := kx h5
    simp only [e5,List.isEmpty_nil,Bool.not_true,Bool.not_false,zc]
    rw [rz ⟨by omega,by omega,by unfold maxLen; omega⟩,bPs,concat2 x _ (by have := ha x hxm; omega) (by simp; omega),bPs]
    rw [e5] at h2
    rw [ce (by decide) (by simp at h2 ⊢; omega),bPs]
    unfold padR
    rw [zp ⟨rfl,hm⟩]
    simp [LVal.nul]
   ·have e5 : (q.kind == 5) = false := cE h5
    simp only [e5,List.isEmpty_nil,Bool.not_true,Bool.not_false,zc,zd]
    unfold padR
    rw [zy (by simp),hm]
  | cons z zs =>
   simp only [List.isEmpty_cons,Bool.not_false,Bool.not_true,zd]
   unfold padR
   rw [zy (by rw [hm]; simp),hm])]
 rw [bPs,bM,List.take_length]
theorem rows_ev {r : LRun} (hr : RunOk r) : ∀ q : LQuery,QOk r q → ∃ N,∀ n,N ≤ n → eW n r q = some (aZ r q) := by
 refine LQuery.ind fun q ih h=>?_
 have hs := shape_ok (mf h.cols).1
 obtain ⟨ho,hcol⟩ := colsR_out h
 have hself := h.small.self
 have hm := (gD h.most).1
 obtain ⟨N,hN⟩ := ev_all (p := fun x n=>eW n r x = some (aZ r x)) q.inputs (fun x hx=>ih x hx (h.sub hx))
 have hall : ∀ x ∈ q.inputs,RowsOk r x := fun x hx=>ru hr x (h.sub hx)
 have hsz : ∀ x ∈ q.inputs,(aZ r x).length ≤ 20000 := fun x hx=>by
  have h1 := (hall x hx).len
  have h2 := (gD h.most).2 x hx
  have h3 := (gD h2).1
  omega
 have hrow : ∀ x ∈ q.inputs,∀ row ∈ aZ r x,row.length ≤ 20 := fun x hx row hrow=>rowLen ((hall x hx).fits row hrow) (ja _ x)
 refine ⟨N + 2,fun n hn=>?_⟩
 obtain ⟨n,rfl⟩ : ∃ k,n = k + 2 := ⟨n - 2,by omega⟩
 rw [eW]
 simp only [kw]
 have kk : q.kind = 1 ∨ q.kind = 2 ∨ q.kind = 3 ∨ q.kind = 4 ∨ q.kind = 5 ∨ q.kind = 6 ∨ q.kind = 7 ∨ q.kind = 8 ∨ q.kind = 9 ∨ q.kind = 10 := by have := hs.kind; omega
 rcases kk with k | k | k | k | k | k | k | k | k | k
 ·rw [kx k,zc,scan_run,ep]
  unfold dI
  rw [zp k] <;>
   rfl
 all_goals have har := hs.arity
 all_goals rw [k] at har
 all_goals simp only [pN] at har
 ·-- filter
  obtain ⟨x,hi⟩ := one (q := q) (by simpa using har)
  have hxm : x ∈ q.inputs := by rw [hi]; simp
  have e : aZ r q = (aZ r x).filter (ie r (be r x) q) := by rw [ep,hi]; unfold dI; rw [zy (by omega),zy (by omega),zy (by omega),zy (by omega),zp k]; rfl
  have hx := hN (n + 1) (by omega) x hxm
  rw [k,hi,e]
  simp only [aJ,bE]
  simp only [show ((2 : Int) == 1) = false from rfl,show ((2 : Int) == 4) = false from rfl,show ((2 : Int) == 5) = false from rfl,show ((2 : Int) == 6) = false from rfl,show ((2 : Int) == 7) = false from rfl,show ((2 : Int) == 2) = true from rfl,zd,zc,Int.le_refl,if_true,Int.toNat_zero,List.getElem?_cons_zero,bPs]
  rw [hx,bPs,lz (h.small.sub hxm),bPs]
  rw [deleteFunc_eq (aZ r x) (fun a=>!ie r (be r x) q a) _ (fun a _=>by
   unfold iB
   rw [e0_get (by rw [hs.one (.inl k)]; omega)]
   rfl) (by have := hsz x hxm; omega),bPs]
  simp
 ·-- project
  obtain ⟨x,hi⟩ := one (q := q) (by simpa using har)
  have hxm : x ∈ q.inputs := by rw [hi]; simp
  have e : aZ r q = (aZ r x).map fun y=>q.exprs.map fun e=>bR (aS r (be r x) y) e := by rw [ep,hi]; unfold dI; rw [zy (by omega),zy (by omega),zy (by omega),zy (by omega),zy (by omega),zp k]; rfl
  have hx := hN (n + 1) (by omega) x hxm
  rw [k,hi,e]
  simp only [aJ,bE]
  simp only [show ((3 : Int) == 1) = false from rfl,show ((3 : Int) == 4) = false from rfl,show ((3 : Int) == 5) = false from rfl,show ((3 : Int) == 6) = false from rfl,show ((3 : Int) == 7) = false from rfl,show ((3 : Int) == 2) = false from rfl,show ((3 : Int) == 3) = true from rfl,zd,zc,Int.le_refl,if_true,Int.toNat_zero,List.getElem?_cons_zero,bPs]
  rw [hx,bPs,lz (h.small.sub hxm),bPs]
  rw [rN (xs := aZ r x) (fun y=>q.exprs.map fun e=>bR (aS r (be r x) y) e) (fun i y hy=>by
   have hil := (zg.1 hy).1
   have := hsz x hxm
   rw [rp r _ _ _ (by omega),bPs,ce (by decide) (by simp; omega),bPs]),bPs,bM]
 ·-- inner join
  obtain ⟨x,y,hi⟩ := two (q := q) (by simpa using har)
  have hxm : x ∈ q.inputs := by rw [hi]; simp
  have hym : y ∈ q.inputs := by rw [hi]; simp
  have hmq := nE h.most (by omega) hi
  rw [zy (by omega),zp (.inl k)] at hmq
  have e : aZ r q = jM (ie r (be r x ++ be r y) q) (q.kind == 5) (List.replicate (be r y).length .nul) (aZ r x) (aZ r y) := by rw [ep,hi]; unfold dI; rw [zy (by omega),zp (.inl k)]; rfl
  have hx := hN n (by omega) x hxm
  have hy := hN n (by omega) y hym
  have hprod : (aZ r x).length * max 1 (aZ r y).length ≤ 30000 := by
   have h1m : ((max 1 (aZ r y).length : Nat) : Int) ≤ dg 1 (bD y).1 := by have := jn 1 (bD y).1; have := oj 1 (bD y).1; have := (hall y hym).len; omega
   have h2 : (((aZ r x).length * max 1 (aZ r y).length : Nat) : Int) ≤ (bD x).1 * dg 1 (bD y).1 := by
    rw [Int.natCast_mul]
    exact Int.mul_le_mul (hall x hxm).len h1m (by omega) (by have := (hall x hxm).pos; omega)
   have := h.most
   omega
  rw [cE (show q.kind ≠ 1 by omega),kx k]
  simp only [zd,zc,bE]
  rw [gB]
  simp only [ju]
  rw [hi]
  have g0 : aJ [x,y] 0 = some x := rfl
  have g1 : aJ [x,y] 1 = some y := rfl
  simp only [g0,g1,bPs]
  rw [hx,hy]
  simp only [bPs]
  rw [lz (h.small.sub hxm),lz (h.small.sub hym)]
  simp only [bPs]
  rw [ce (by decide) (by have := ja ⟨r.s,r.vars⟩ x; have := ja ⟨r.s,r.vars⟩ y; unfold be; omega),bPs]
  have he1 : q.exprs.length = 1 := hs.one (.inr (.inl k))
  rw [join_run2 r q (be r x) (be r y) (e0Q q) (e0_get (by omega)) rfl (aZ r x) (aZ r y) (hrow x hxm) (hrow y hym) (ja _ y) hprod (.inl k),bPs,e]
 ·-- left join
  obtain ⟨x,y,hi⟩ := two (q := q) (by simpa using har)
  have hxm : x ∈ q.inputs := by rw [hi]; simp
  have hym : y ∈ q.inputs := by rw [hi]; simp
  have hmq := nE h.most (by omega) hi
  rw [zy (by omega),zp (.inr k)] at hmq
  have e : aZ r q = jM (ie r (be r x ++ be r y) q) (q.kind == 5) (List.replicate (be r y).length .nul) (aZ r x) (aZ r y) := by rw [ep,hi]; unfold dI; rw [zy (by omega),zp (.inr k)]; rfl
  have hx := hN n (by omega) x hxm
  have hy := hN n (by omega) y hym
  have hprod : (aZ r x).length * max 1 (aZ r y).length ≤ 30000 := by
   have h1m : ((max 1 (aZ r y).length : Nat) : Int) ≤ dg 1 (bD y).1 := by have := jn 1 (bD y).1; have := oj 1 (bD y).1; have := (hall y hym).len; omega
   have h2 : (((aZ r x).length * max 1 (aZ r y).length : Nat) : Int) ≤ (bD x).1 * dg 1 (bD y).1 := by
    rw [Int.natCast_mul]
    exact Int.mul_le_mul (hall x hxm).len h1m (by omega) (by have := (hall x hxm).pos; omega)
   have := h.most
   omega
  rw [cE (show q.kind ≠ 1 by omega),cE (show q.kind ≠ 4 by omega),kx k]
  simp only [zd,zc,bE]
  rw [gB]
  simp only [ju]
  rw [hi]
  have g0 : aJ [x,y] 0 = some x := rfl
  have g1 : aJ [x,y] 1 = some y := rfl
  simp only [g0,g1,bPs]
  rw [hx,hy]
  simp only [bPs]
  rw [lz (h.small.sub hxm),lz (h.small.sub hym)]
  simp only [bPs]
  rw [ce (by decide) (by have := ja ⟨r.s,r.vars⟩ x; have := ja ⟨r.s,r.vars⟩ y; unfold be; omega),bPs]
  have he1 : q.exprs.length = 1 := hs.one (.inr (.inr k))
  rw [join_run2 r q (be r x) (be r y) (e0Q q) (e0_get (by omega)) rfl (aZ r x) (aZ r y) (hrow x hxm) (hrow y hym) (ja _ y) hprod (.inr k),bPs,e]
 ·-- union
  obtain ⟨x,y,hi⟩ := two (q := q) (by simpa using har)
  have hxm : x ∈ q.inputs := by rw [hi]; simp
  have hym : y ∈ q.inputs := by rw [hi]; simp
  have e : aZ r q = aZ r x ++ aZ r y := by rw [ep,hi]; unfold dI; rw [zy (by omega),zy (by omega),zp k]; rfl
  have hx := hN (n + 1) (by omega) x hxm
  have hy := hN (n + 1) (by omega) y hym
  rw [cE (show q.kind ≠ 1 by omega),cE (show q.kind ≠ 4 by omega),cE (show q.kind ≠ 5 by omega),kx k,hi]
  have g0 : aJ [x,y] 0 = some x := rfl
  have g1 : aJ [x,y] 1 = some y := rfl
  simp only [zd,zc,bE,g0,g1,bPs]
  have := hsz x hxm
  have := hsz y hym
  rw [hx,hy]
  simp only [bPs]
  rw [ce (by decide) (by omega),bPs,e]
 ·-- difference
  obtain ⟨x,y,hi⟩ := two (q := q) (by simpa using har)
  have hxm : x ∈ q.inputs := by rw [hi]; simp
  have hym : y ∈ q.inputs := by rw [hi]; simp
  have e : aZ r q = lS (aZ r x) (aZ r y) := by rw [ep,hi]; unfold dI; rw [zy (by omega),zy (by omega),zy (by omega),zp k]; rfl
  have hx := hN (n + 1) (by omega) x hxm
  have hy := hN (n + 1) (by omega) y hym
  rw [cE (show q.kind ≠ 1 by omega),cE (show q.kind ≠ 4 by omega),cE (show q.kind ≠ 5 by omega),cE (show q.kind ≠ 6 by omega),kx k,hi]
  have g0 : aJ [x,y] 0 = some x := rfl
  have g1 : aJ [x,y] 1 = some y := rfl
  simp only [zd,zc,bE,g0,g1,bPs]
  have := hsz x hxm
  have := hsz y hym
  rw [hx,hy]
  simp only [bPs]
  rw [less_eq _ _ (by omega) (by omega),bPs,e]
 ·-- aggregation
  obtain ⟨x,hi⟩ := one (q := q) (by simpa using har)
  have hxm : x ∈ q.inputs := by rw [hi]; simp
  have e : aZ r q = nZ r (be r x) q (aZ r x) := by rw [ep,hi]; unfold dI; rw [zy (by omega),zy (by omega),zy (by omega),zy (by omega),zy (by omega),zy (by omega),zp k]; rfl
  have hx := hN (n + 1) (by omega) x hxm
  rw [cE (show q.kind ≠ 1 by omega),cE (show q.kind ≠ 4 by omega),cE (show q.kind ≠ 5 by omega),cE (show q.kind ≠ 6 by omega),cE (show q.kind ≠ 7 by omega),cE (show q.kind ≠ 2 by omega),cE (show q.kind ≠ 3 by omega),kx k,hi]
  have g0 : aJ [x] 0 = some x := rfl
  simp only [zd,zc,bE,g0,bPs]
  rw [hx,bPs,lz (h.small.sub hxm),bPs]
  have := hsz x hxm
  rw [group_eq r _ q _ (by omega) hself.1 hself.2,bPs,e]
 ·-- sort
  obtain ⟨x,hi⟩ := one (q := q) (by simpa using har)
  have hxm : x ∈ q.inputs := by rw [hi]; simp
  have := hsz x hxm
  obtain ⟨l',hsort,_⟩ := sort_ok r q (be r x) (aZ r x) (by omega) hself.1
  have e : aZ r q = l' := by rw [ep,hi]; unfold dI; rw [zy (by omega),zy (by omega),zy (by omega),zy (by omega),zy (by omega),zy (by omega),zy (by omega),zp k]; show (fM r q (be r x) (aZ r x)).getD [] = l'; rw [hsort]; rfl
  have hx := hN (n + 1) (by omega) x hxm
  rw [cE (show q.kind ≠ 1 by omega),cE (show q.kind ≠ 4 by omega),cE (show q.kind ≠ 5 by omega),cE (show q.kind ≠ 6 by omega),cE (show q.kind ≠ 7 by omega),cE (show q.kind ≠ 2 by omega),cE (show q.kind ≠ 3 by omega),cE (show q.kind ≠ 8 by omega),kx k,hi]
  have g0 : aJ [x] 0 = some x := rfl
  simp only [zd,zc,bE,g0,bPs]
  rw [hx,bPs,lz (h.small.sub hxm),bPs,hsort,bPs,e]
 ·-- limit
  obtain ⟨x,hi⟩ := one (q := q) (by simpa using har)
  have hxm : x ∈ q.inputs := by rw [hi]; simp
  have e : aZ r q = qT q (aZ r x) := by rw [ep,hi]; unfold dI; rw [zy (by omega),zy (by omega),zy (by omega),zy (by omega),zy (by omega),zy (by omega),zy (by omega),zy (by omega)]; rfl
  have hx := hN (n + 1) (by omega) x hxm
  rw [cE (show q.kind ≠ 1 by omega),cE (show q.kind ≠ 4 by omega),cE (show q.kind ≠ 5 by omega),cE (show q.kind ≠ 6 by omega),cE (show q.kind ≠ 7 by omega),cE (show q.kind ≠ 2 by omega),cE (show q.kind ≠ 3 by omega),cE (show q.kind ≠ 8 by omega),cE (show q.kind ≠ 9 by omega),hi]
  have g0 : aJ [x] 0 = some x := rfl
  simp only [zd,bE,g0,bPs]
  rw [hx,bPs,lz (h.small.sub hxm),bPs]
  have := hsz x hxm
  rw [limit_run _ q (by omega) (hs.limit k).1 (hs.limit k).2,bPs,e]
theorem rows_eq {r : LRun} (hr : RunOk r) {q : LQuery} (h : QOk r q) : lY r q = some (aZ r q) := by
 obtain ⟨N,hN⟩ := rows_ev hr q h
 exact qC N hN
def SizeOk (q : LQuery) : Prop := (cq q).length ≤ 24 ∧ hC q ≤ 12 ∧ (bD q).2 ≤ 20000
instance (q : LQuery) : Decidable (SizeOk q) := by unfold SizeOk; infer_instance
theorem check_eq {s : LSchema} {vars : List LCol} {q : LQuery} (h : SmallQ q) : ∃ cs e,gd s vars q = some (cs,e) ∧ (e = 0 ↔ SizeOk q ∧ pq (iL q) ∧ (fo ⟨s,vars⟩ q).2 = 0) ∧ (e = 0 → cs = (fo ⟨s,vars⟩ q).1) := by
 unfold gd
 rw [nodes_ok q h.nodes,bPs]
 by_cases h1 : (cq q).length ≤ 24
 ·rw [zf (show ¬ ((cq q).length : Int) > 24 from by omega),zd,depth_ok q h.nodes,bPs]
  by_cases h2 : hC q ≤ 12
  ·rw [zf (show ¬ hC q > 12 from by omega),zd]
   unfold fX
   rw [most_ok,bPs,bPs]
   by_cases h3 : (bD q).2 ≤ 20000
   ·rw [zf (show ¬ (bD q).2 > 20000 from by omega),bPs,zd,kinds_ok h.nodes,bPs]
    cases hb : (dO q).2.1 with
    | true =>
     refine ⟨[],13,rfl,⟨fun h=>by omega,fun hh=>?_⟩,fun h=>by omega⟩
     rw [kinds_bad.2 hh.2.1] at hb
     cases hb
    | false =>
     have hk := kinds_bad.1 hb
     simp only [zd]
     rw [cols_ok _ q h]
     refine ⟨(fo ⟨s,vars⟩ q).1,(fo ⟨s,vars⟩ q).2,rfl,⟨fun h0=>⟨⟨h1,h2,h3⟩,hk,h0⟩,fun hh=>hh.2.2⟩,fun _=>rfl⟩
   ·rw [zt (show (bD q).2 > 20000 from by omega)]
    exact ⟨[],2,rfl,⟨fun h=>by omega,fun hh=>absurd hh.1.2.2 h3⟩,fun h=>by omega⟩
  ·rw [zt (show hC q > 12 from by omega)]
   exact ⟨[],2,rfl,⟨fun h=>by omega,fun hh=>absurd hh.1.2.1 h2⟩,fun h=>by omega⟩
 ·rw [zt (show ((cq q).length : Int) > 24 from by omega)]
  exact ⟨[],2,rfl,⟨fun h=>by omega,fun hh=>absurd hh.1.1 h1⟩,fun h=>by omega⟩
abbrev iW (s : LSchema) (st : List LRelation) (args : Rq) : LRun := LRun.mk s st args [] [] []
structure Runs (s : LSchema) (st : List LRelation) (q : LQuery) (args : Rq) : Prop where
 size : SizeOk q
 kinds : pq (iL q)
 cols : (fo ⟨s,[]⟩ q).2 = 0
 inst : fy s st = some 0
 args : ArgsOk (iL q) args
theorem Runs.instOk {s : LSchema} {st : List LRelation} {q : LQuery} {args : Rq} (h : Runs s st q args) (hs : ot s) : InstOk s st := by
 obtain ⟨e,he,hok⟩ := conforms hs st
 rw [h.inst] at he
 cases he
 exact hok rfl
theorem Runs.qok {s : LSchema} {st : List LRelation} {q : LQuery} {args : Rq} (h : Runs s st q args) (hq : SmallQ q) : QOk (iW s st args) q :=
 ⟨hq,h.cols,h.size.2.2,fun i k hm x hx=>(h.args.args i k hm).2.1 i x (Nat.le_refl _) hx⟩
theorem Runs.sub {s : LSchema} {st : List LRelation} {q x : LQuery} {args : Rq} (h : Runs s st q args) (hx : x ∈ q.inputs) : Runs s st x args := by
 have hp := params_sub hx
 refine ⟨⟨?_,?_,(gD h.size.2.2).2 x hx⟩,fun i k k' a b=>h.kinds i k k' (hp _ a) (hp _ b),(mf h.cols).2.1 x hx,h.inst,h.args.sub hp⟩
 ·have := lA hx; have := h.size.1; omega
 ·have := depthQ_sub hx; have := h.size.2.1; omega
theorem runs_tot {s : LSchema} (hs : ot s) (st : List LRelation) {q : LQuery} (hq : SmallQ q) (args : Rq) : ∃ b,jp s st q args = some b ∧ (b = true → Runs s st q args) := by
 unfold jp jX
 rw [size_ok,bPs]
 obtain ⟨v,hv⟩ := validate_tot hs
 obtain ⟨cs,e,hc,he,_⟩ := check_eq (s := s) (vars := []) hq
 obtain ⟨f,hf,_⟩ := conforms hs st
 obtain ⟨g,hg,hga⟩ := args_ok hq.nodes args
 unfold lX
 rw [hv,hc,hf,hg]
 simp only [bPs]
 by_cases c1 : mN q 400 < 0
 ·rw [zt c1]; exact ⟨false,rfl,fun h=>by cases h⟩
 rw [zf c1,zd,bPs]
 by_cases c2 : v = 0
 ·rw [np c2,zd,bPs]
  by_cases c3 : e = 0
  ·rw [kx c3,zc]
   by_cases c4 : (args.length : Int) ≤ 20
   ·rw [zt c4,zc]
    by_cases c5 : f = 0
    ·rw [kx c5,zc]
     refine ⟨g == 0,rfl,fun hg0=>?_⟩
     have hg0 : g = 0 := by simpa using hg0
     obtain ⟨a,b,c⟩ := he.1 c3
     exact ⟨a,b,c,by rw [hf,c5],hga.1 hg0⟩
    ·rw [cE c5]; exact ⟨false,rfl,fun h=>by cases h⟩
   ·rw [zf c4]; exact ⟨false,rfl,fun h=>by cases h⟩
  ·rw [cE c3]; exact ⟨false,rfl,fun h=>by cases h⟩
 ·rw [me c2]; exact ⟨false,rfl,fun h=>by cases h⟩
theorem qx {s : LSchema} (hs : ot s) {st : List LRelation} {q : LQuery} (hq : SmallQ q) {args : Rq} (h : Runs s st q args) :
  eY s st q args = some (LResult.mk (be (iW s st args) q) (aZ (iW s st args) q),true) := by
 unfold eY kq ix
 obtain ⟨cs,e,hc,he,hcs⟩ := check_eq (s := s) (vars := []) hq
 obtain ⟨g,hg,hga⟩ := args_ok hq.nodes args
 have e0 := he.2 ⟨h.size,h.kinds,h.cols⟩
 have g0 := hga.2 h.args
 have hr : RunOk (iW s st args) := ⟨rfl,rfl,rfl,h.instOk hs⟩
 have hok := ru hr q (h.qok hq)
 have hlen : (aZ (iW s st args) q).length ≤ 20000 := by
  have h1 := hok.len
  have h2 := h.size.2.2
  have h3 := (gD h2).1
  omega
 rw [hc,hg,h.inst]
 simp only [bPs]
 rw [np e0,np g0,zd,zd]
 simp only [aE,bPs,bM,bne_self_eq_false,zd]
 rw [rows_eq hr (h.qok hq),bPs]
 rw [rN (xs := aZ (iW s st args) q) id (fun k x hk=>by
  have := (zg.1 hk).1
  rw [ce (by decide) (by simp; omega),bPs]
  rfl),bPs,bM,bPs,bPs,hcs e0]
 simp [be]
structure TinyQ (q : LQuery) : Prop where
 nodes : (cq q).length ≤ 2000000
 here : ∀ x ∈ cq q,x.exprs.length ≤ 1000000 ∧ x.aggregates.length ≤ 1000000
theorem TinyQ.small {q : LQuery} (h : TinyQ q) : SmallQ q := ⟨by have := h.nodes; omega,h.here⟩
theorem small2 {q x y : LQuery} (hx : TinyQ x) (hy : TinyQ y) (hi : q.inputs = [x,y]) (h : q.exprs.length ≤ 1000000 ∧ q.aggregates.length ≤ 1000000) : SmallQ q := by
 refine ⟨?_,fun z hz=>?_⟩
 ·rw [je,hi]; have := hx.nodes; have := hy.nodes; simp; omega
 ·rw [je,hi] at hz
  rcases List.mem_cons.1 hz with rfl | hz
  ·exact h
  ·have hz : z ∈ cq x ∨ z ∈ cq y := by simpa using hz
   rcases hz with hz | hz
   ·exact hx.here z hz
   ·exact hy.here z hz
theorem qp {H : Type} : ∀ ds : List (DataW H),(ds.map (fun d=>Rows.uptoBulk d)).sum = Rows.uptoBulkAll ds
 | []=>by simp [Rows.uptoBulkAll]
 | d :: ds=>by simp only [List.map_cons,List.sum_cons,Rows.uptoBulkAll,qp ds]
theorem bulk_is : IsBulk (fun _ d=>Rows.uptoBulk d) where
 one := by
  intro H d
  cases d with
  | lit l=>cases l <;> simp [Rows.uptoBulk]
  | nil=>simp [Rows.uptoBulk]
  | ptr d=>simp [Rows.uptoBulk]
  | slice elems spare=>simp [Rows.uptoBulk]
  | agg parts=>simp [Rows.uptoBulk]
  | iface t d=>simp [Rows.uptoBulk]
  | map entries=>simp [Rows.uptoBulk]
  | held h=>simp [Rows.uptoBulk]
 str := by intro H l; simp [Rows.uptoBulk]
 slice := by intro H a b; rw [qp]; simp only [Rows.uptoBulk]; omega
 agg := by intro H a; rw [qp]; simp only [Rows.uptoBulk]; omega
theorem pA {r : List PV} : ∀ {rs : List (List PV)},r ∈ rs → bI r ≤ fV rs
 | x :: rs,h=>by
  simp only [fV]
  rcases List.mem_cons.1 h with rfl | h
  ·omega
  ·have := pA h; omega
theorem mU {α : Type} {f : α → List PV} {k : Nat} (hf : ∀ x,k ≤ bI (f x)) : ∀ l : List α,k * l.length ≤ fV (l.map f)
 | []=>by simp
 | x :: l=>by
  have := mU hf l
  have := hf x
  simp only [List.map_cons,fV,List.length_cons,Nat.mul_add]
  omega
theorem expr_pos (e : LExpr) : 2 ≤ bI (eA e) := by
 cases e; simp only [eA,bI,PV.bulk]; omega
theorem call_pos (c : LAggregateCall) : 2 ≤ bI (kS c) := by
 simp only [kS,bI,PV.bulk]; omega
theorem smallS_bulk {s : LSchema} {n : Nat} (hn : n ≤ 10000000) (h : bI (bW s) ≤ n) : ot s := by
 intro t ht
 have h1 : fV (s.tables.map cD) ≤ bI (bW s) := by
  simp only [bW,bI,PV.bulk]; omega
 have h2 := pA (List.mem_map_of_mem (f := cD) ht)
 have h3 : fV (t.primaryKey.map bG) ≤ bI (cD t) := by
  simp only [cD,bI,PV.bulk]; omega
 have h4 := mU (f := bG) (k := 1) (fun x=>by simp [bI,PV.bulk]) t.primaryKey
 omega
theorem nodes_bulk : ∀ q : LQuery,(cq q).length + 1 ≤ bI (bV q) ∧ ∀ x ∈ cq q,2 * x.exprs.length ≤ bI (bV q) ∧ 2 * x.aggregates.length ≤ bI (bV q) := by
 apply LQuery.ind
 intro q ih
 have e : bI (bV q) = bI (aG q) := by rw [bQ]
 have hr : fV (q.inputs.map bV) + 8 ≤ bI (aG q) := by
  simp only [aG,bI,PV.bulk]; omega
 have hsum : ∀ l : List LQuery,(∀ x ∈ l,x ∈ q.inputs) → ((l.map cq).flatten).length + l.length ≤ fV (l.map bV) := by
  intro l
  induction l with
  | nil=>intro _; simp
  | cons x l ihl =>
   intro hm
   have h1 := (ih x (hm x (by simp))).1
   have h2 := ihl (fun y hy=>hm y (by simp [hy]))
   simp only [List.map_cons,List.flatten_cons,List.length_append,List.length_cons,fV]
   omega
 have h0 := hsum q.inputs (fun _ h=>h)
 rw [e]
 refine ⟨?_,fun x hx=>?_⟩
 ·rw [je]; simp only [List.length_cons]; omega
 ·rw [je] at hx
  rcases List.mem_cons.1 hx with rfl | hx
  ·have h1 := mU expr_pos x.exprs
   have h2 := mU call_pos x.aggregates
   constructor
   ·simp only [aG,bI,PV.bulk]; omega
   ·simp only [aG,bI,PV.bulk]; omega
  ·simp only [List.mem_flatten,List.mem_map] at hx
   obtain ⟨l,⟨y,hy,rfl⟩,hx⟩ := hx
   have h1 := (ih y hy).2 x hx
   have h2 := pA (List.mem_map_of_mem (f := bV) hy)
   omega
theorem tiny_bulk {q : LQuery} {n : Nat} (hn : n ≤ 1048576) (h : bI (aG q) ≤ n) : TinyQ q := by
 rw [← bQ] at h
 have := nodes_bulk q
 exact ⟨by omega,fun x hx=>by have := this.2 x hx; omega⟩
theorem gX {a b : List UInt8} (h : a.length + b.length ≤ 1000000000000000000) : kP a b = some (a ++ b) := by
 unfold kP
 rw [zp (by unfold fg; omega)]
theorem rangeM_collect {α β ρ : Type} {step : Nat → α → List β → Option (Flow (List β) ρ)} {xs : List α} (f : α → β) (p : α → Bool) (out : ρ) (hs : ∀ k x,xs[k]? = some x → step k x ((xs.take k).map f) = some (if p x then .ret out else .next ((xs.take k).map f ++ [f x]))) :
  aE step 0 xs [] = some (if xs.any p then .ret out else .next (xs.map f)) := by
 obtain ⟨fl,h1,h2⟩ := eC (step := step) (fun j s=>s = (xs.take j).map f ∧ (xs.take j).any p = false) (fun r=>r = out ∧ xs.any p = true) xs 0 [] ⟨by simp,by simp⟩ (fun k x s hk hI=>by
  rw [Nat.zero_add] at hI ⊢
  obtain ⟨rfl,hn⟩ := hI
  refine ⟨_,hs k x hk,?_⟩
  have e1 : xs.take (k + 1) = xs.take k ++ [x] := by rw [List.take_add_one,hk]; rfl
  cases hp : p x with
  | true=>exact ⟨rfl,List.any_eq_true.2 ⟨x,List.mem_of_getElem? hk,hp⟩⟩
  | false=>exact ⟨by rw [e1]; simp,by rw [e1]; simp [hn,hp]⟩)
 rw [h1]
 cases fl with
 | next s =>
  simp only [Nat.zero_add,List.take_length] at h2
  rw [h2.1,zy (by rw [h2.2]; simp)]
 | brk s=>exact absurd h2 (by simp)
 | ret r=>rw [h2.1,zp h2.2]
theorem ua {α ρ : Type} {step : Nat → α → Unit → Option (Flow Unit ρ)} {xs : List α} (p : α → Bool) (out : ρ) (hs : ∀ k x,xs[k]? = some x → step k x () = some (if p x then .ret out else .next ())) :
  aE step 0 xs () = some (if xs.any p then .ret out else .next ()) := by
 obtain ⟨fl,h1,h2⟩ := eC (step := step) (fun j s=>(xs.take j).any p = false) (fun r=>r = out ∧ xs.any p = true) xs 0 () (by simp) (fun k x s hk hI=>by
  rw [Nat.zero_add] at hI ⊢
  refine ⟨_,hs k x hk,?_⟩
  have e1 : xs.take (k + 1) = xs.take k ++ [x] := by rw [List.take_add_one,hk]; rfl
  cases hp : p x with
  | true=>exact ⟨rfl,List.any_eq_true.2 ⟨x,List.mem_of_getElem? hk,hp⟩⟩
  | false=>simp only [Bool.false_eq_true,if_false]; rw [e1]; simp [hI,hp])
 rw [h1]
 cases fl with
 | next s =>
  simp only [Nat.zero_add,List.take_length] at h2
  rw [zy (by rw [h2]; simp)]
 | brk s=>exact absurd h2 (by simp)
 | ret r=>rw [h2.1,zp h2.2]
def vat (r : Rq) (k : Int) : LVal := r.getD k.toNat (LVal.mk 0 0 [])
def Idx (r : Rq) (at_ : List Int) : Prop := ∀ k ∈ at_,0 ≤ k ∧ k < r.length
def lF (r : Rq) (at_ : List Int) : Rq × Bool := if at_.any (fun k=>(vat r k).kind == (0 : Int)) then ([],false) else (at_.map (vat r),true)
theorem vat_get {r : Rq} {k : Int} (h0 : 0 ≤ k) (h1 : k < r.length) : aJ r k = some (vat r k) := by
 have hlt : k.toNat < r.length := by omega
 rw [lq h0 (ze hlt)]
 simp [vat,hlt]
theorem key_eq {r : Rq} {at_ : List Int} (hi : Idx r at_) (hl : at_.length ≤ 1000000) : ji r at_ = some (lF r at_) := by
 unfold ji
 rw [rangeM_collect (vat r) (fun k=>(vat r k).kind == (0 : Int)) ([],false) (fun k x hk=>?_)]
 ·unfold lF
  split
  ·rename_i h; simp
  ·rename_i h; simp
 ·obtain ⟨h0,h1⟩ := hi x (List.mem_of_getElem? hk)
  have hkl : k < at_.length := (zg.1 hk).1
  rw [vat_get h0 h1,bPs]
  cases hz : (vat r x).kind == (0 : Int) with
  | true=>simp
  | false =>
   rw [zd,bPs,pr (by simp; omega) (by simp; unfold maxLen; omega),bPs]
   simp
structure ValidJ (a b : Rz) (on : LJoinalgoCondition) : Prop where
 lens : on.left.length = on.right.length
 w0 : 0 ≤ on.rightWidth
 w1 : on.rightWidth ≤ 20
 left : ∀ r ∈ a,Idx r on.left
 right : ∀ r ∈ b,Idx r on.right
 width : ∀ r ∈ b,(r.length : Int) = on.rightWidth
 pos : (∀ k ∈ on.left,0 ≤ k) ∧ ∀ k ∈ on.right,0 ≤ k
def ls (v : LVal) : Prop := (-9223372036854775808 ≤ v.kind ∧ v.kind ≤ 9223372036854775807) ∧ (-9223372036854775808 ≤ v.int ∧ v.int ≤ 9223372036854775807) ∧ v.text.length ≤ 2 ^ 47
def ValsOk (l : Rz) : Prop := ∀ r ∈ l,∀ v ∈ r,ls v
theorem itoaL_ok {n : Int} (h : -9223372036854775808 ≤ n ∧ n ≤ 9223372036854775807) : ∃ l,mX n = some l ∧ l.length ≤ 21 := ⟨_,cO h,pB n h.1 h.2⟩
theorem text_tot {k : Rq} (h : ∀ v ∈ k,ls v) (hl : k.length ≤ 20) : ∃ t,dD k = some t := by
 unfold dD
 obtain ⟨fl,h1,h2⟩ := eC (step := fun (_ : Nat) (x1 : LVal) (s1 : List UInt8) =>
  af (mX x1.kind) fun x15 =>
  af (kP x15 ([44] : List UInt8)) fun (x16 : List UInt8) =>
  af (mX x1.int) fun x19 =>
  af (kP x16 x19) fun (x20 : List UInt8) =>
  af (kP x20 ([44] : List UInt8)) fun (x21 : List UInt8) =>
  af (mX (x1.text.length : Int)) fun x25 =>
  af (kP x21 x25) fun (x26 : List UInt8) =>
  af (kP x26 ([44] : List UInt8)) fun (x27 : List UInt8) =>
  af (kP x27 x1.text) fun (x30 : List UInt8) =>
  af (kP s1 x30) fun (x31 : List UInt8) =>
  some (Flow.next (ρ := Empty) x31)) (fun j (s : List UInt8)=>s.length ≤ j * 200000000000000) (fun _=>False) k 0 [] (by simp) (fun j x s hj hI=>by
   simp only [Nat.zero_add] at hI ⊢
   have hjl := (zg.1 hj).1
   obtain ⟨v1,v2,v3⟩ := h x (List.mem_of_getElem? hj)
   obtain ⟨a,ea,la⟩ := itoaL_ok v1
   obtain ⟨b,eb,lb⟩ := itoaL_ok v2
   obtain ⟨c,ec,lc⟩ := itoaL_ok (n := (x.text.length : Int)) ⟨by omega,by omega⟩
   have hj20 : j * 200000000000000 ≤ 20 * 200000000000000 := Nat.mul_le_mul_right _ (by omega)
   rw [ea,bPs,gX (by simp; omega),bPs,eb,bPs,gX (by simp; omega),bPs,gX (by simp; omega),bPs,ec,bPs,gX (by simp; omega),bPs,gX (by simp; omega),bPs,
    gX (by simp; omega),bPs,gX (by simp; omega),bPs]
   exact ⟨_,rfl,by simp only [List.length_append,List.length_cons,List.length_nil]; rw [Nat.add_mul]; omega⟩)
 rw [h1,bPs]
 cases fl with
 | next s=>exact ⟨s,rfl⟩
 | brk s=>exact absurd h2 (by simp)
 | ret r=>exact r.elim
def txtN (k : Rq) : List UInt8 := (dD k).getD []
theorem txtN_eq {k : Rq} (h : ∀ v ∈ k,ls v) (hl : k.length ≤ 20) : dD k = some (txtN k) := by
 obtain ⟨t,ht⟩ := text_tot h hl
 unfold txtN
 rw [ht]
 rfl
theorem vat_mem {r : Rq} {k : Int} (h0 : 0 ≤ k) (h1 : k < r.length) : vat r k ∈ r := by
 unfold vat
 have h : k.toNat < r.length := by omega
 rw [List.getD_eq_getElem?_getD,ze h]
 exact List.getElem_mem h
theorem keyN_vals {r : Rq} {at_ : List Int} (hr : ∀ v ∈ r,ls v) (hi : Idx r at_) : ∀ v ∈ (lF r at_).1,ls v := by
 intro v hv
 unfold lF at hv
 split at hv
 ·simp at hv
 ·simp only [List.mem_map] at hv
  obtain ⟨k,hk,rfl⟩ := hv
  exact hr _ (vat_mem (hi k hk).1 (hi k hk).2)
theorem keyN_len {r : Rq} {at_ : List Int} : (lF r at_).1.length ≤ at_.length := by
 unfold lF
 split
 ·simp
 ·simp
theorem validate_zero {a b : Rz} {on : LJoinalgoCondition} (ha : a.length ≤ 400) (hb : b.length ≤ 400) (hv : ValidJ a b on) : ij a b on = some 0 := by
 unfold ij
 have hw0 := hv.w0
 have hw1 := hv.w1
 have hl := hv.lens
 have inner : ∀ (rows : Rz) (at_ : List Int),(∀ r ∈ rows,Idx r at_) → (rows = [] → ∀ k ∈ at_,0 ≤ k) → aE (σ := Unit) (ρ := Int) (fun (_ : Nat) (x5 : Int) (_ : Unit)=>cond (decide (x5 < (0 : Int))) (some (.ret 3)) (af (bP rows (fun a0=>some (dQ a0 x5))) fun x63=>cond x63 (some (.ret 3)) (some (.next ())))) 0 at_ () = some (.next ()) := by
  intro rows at_ h1 h2
  rw [ua (fun _=>false) 3 (fun k x hk=>?_)]
  ·simp
  have hx := List.mem_of_getElem? hk
  have h0 : 0 ≤ x := by
   cases rows with
   | nil=>exact h2 rfl x hx
   | cons r rows=>exact (h1 r (by simp) x hx).1
  rw [zf (by omega),zd,gY,bPs]
  have : rows.any (fun a0=>dQ a0 x) = false := by
   rw [List.any_eq_false]
   intro r hr
   have := h1 r hr x hx
   unfold dQ
   simp only [decide_eq_true_eq]
   omega
  rw [this]
  rfl
 simp only [bE]
 rw [zf (show ¬ (a.length : Int) > 400 from by omega),zd,zf (show ¬ (b.length : Int) > 400 from by omega),zd,zf (show ¬ on.rightWidth > 20 from by omega),zd,
  np (by omega),zd,zf (show ¬ on.rightWidth < 0 from by omega),zd,qc (by simp),bPs]
 have e2 : (List.range ((([LAnon109.mk a on.left,LAnon109.mk b on.right] : List LAnon109).length : Int)).toNat) = [0,1] := rfl
 rw [e2]
 rw [ua (fun _=>false) 3 (fun k x hk=>?_)]
 ·rw [gY]
  have hW : b.any (fun a0=>eI a0 on) = false := by
   rw [List.any_eq_false]
   intro r hr
   have := hv.width r hr
   unfold eI
   simp only [bne_iff_ne,ne_eq,Decidable.not_not]
   exact this
  simp [hW]
 ·match k,hk with
  | 0,hk =>
   have g0 : aJ [LAnon109.mk a on.left,LAnon109.mk b on.right] ((0 : Nat) : Int) = some (LAnon109.mk a on.left) := rfl
   simp only [g0,bPs,inner a on.left hv.left (fun _=>hv.pos.1)]
   rfl
  | 1,hk =>
   have g1 : aJ [LAnon109.mk a on.left,LAnon109.mk b on.right] ((1 : Nat) : Int) = some (LAnon109.mk b on.right) := rfl
   simp only [g1,bPs,inner b on.right hv.right (fun _=>hv.pos.2)]
   rfl
  | k + 2,hk=>simp at hk
def kt (r : Rq) (at_ : List Int) : Option (List UInt8) := if (lF r at_).2 = true then some (txtN (lF r at_).1) else none
def pw (b : Rz) (at_ : List Int) (t : List UInt8) : Rz := b.filter fun y=>decide (kt y at_ = some t)
def pm (at_ : List Int) (m : List (List UInt8 × Rz)) (y : Rq) : List (List UInt8 × Rz) := match kt y at_ with
 | some t=>iF m t (jB [] m t ++ [y])
 | none=>m
theorem hmap_get (at_ : List Int) (t : List UInt8) : ∀ (b : Rz) (m : List (List UInt8 × Rz)),jB [] (b.foldl (pm at_) m) t = jB [] m t ++ pw b at_ t
 | [],m=>by simp [pw]
 | y :: b,m=>by
  rw [List.foldl_cons,hmap_get at_ t b]
  unfold pw pm
  rw [List.filter_cons]
  cases hk : kt y at_ with
  | none=>simp
  | some u =>
   simp only [zo,decide_eq_true_eq]
   by_cases hu : u = t
   ·subst hu
    rw [zp rfl]
    unfold jB
    rw [mfind_put,zp rfl]
    simp
   ·rw [zy hu]
    unfold jB
    rw [mfind_put,zy hu]
def gu (b : Rz) (on : LJoinalgoCondition) (x : Rq) : Rz := match kt x on.left with
 | some t=>pw b on.right t
 | none=>[]
def lD (b : Rz) (on : LJoinalgoCondition) (x : Rq) : Rz :=
 if on.outer = true ∧ gu b on x = [] then [x ++ List.replicate on.rightWidth.toNat LVal.nul] else (gu b on x).map fun y=>x ++ y
theorem ub {b : Rz} {at_ : List Int} {t : List UInt8} : (pw b at_ t).length ≤ b.length := List.length_filter_le _ _
theorem hrows_len {b : Rz} {on : LJoinalgoCondition} {x : Rq} : (gu b on x).length ≤ b.length := by
 unfold gu
 split
 ·exact ub
 ·simp
theorem hrows_mem {b : Rz} {on : LJoinalgoCondition} {x y : Rq} (h : y ∈ gu b on x) : y ∈ b := by
 unfold gu at h
 split at h
 ·exact (List.mem_filter.1 h).1
 ·simp at h
theorem hjoin_len {b : Rz} {on : LJoinalgoCondition} {x : Rq} : (lD b on x).length ≤ b.length + 1 := by
 unfold lD
 split
 ·simp
 ·have := hrows_len (b := b) (on := on) (x := x)
  rw [zl]; omega
theorem flat_len {b : Rz} {on : LJoinalgoCondition} (hb : b.length ≤ 400) : ∀ l : Rz,((l.map (lD b on)).flatten).length ≤ l.length * 401
 | []=>by simp
 | x :: l=>by
  have h1 := flat_len (b := b) (on := on) hb l
  have h2 := hjoin_len (b := b) (on := on) (x := x)
  simp only [List.map_cons,List.flatten_cons,List.length_append,List.length_cons,Nat.add_mul]
  omega
theorem pairN {x y : Rq} (h : x.length + y.length ≤ 2000000) : jT x y = some (x ++ y) := by
 unfold jT
 rw [iI _ (by simp; omega) (by simp; unfold maxLen; omega)]
 simp
theorem aloneN {x : Rq} {on : LJoinalgoCondition} (h : x.length ≤ 1100000) (h0 : 0 ≤ on.rightWidth) (h1 : on.rightWidth ≤ 20) : jq x on = some (x ++ List.replicate on.rightWidth.toNat LVal.nul) := by
 unfold jq
 rw [rz (by unfold maxLen; omega),bPs,iI _ (by simp; omega) (by simp; unfold maxLen; omega)]
 simp [LVal.nul]
theorem hash_eq {a b : Rz} {on : LJoinalgoCondition} (ha : a.length ≤ 400) (hb : b.length ≤ 400) (hv : ValidJ a b on) (va : ValsOk a) (vb : ValsOk b) (hl1 : on.left.length ≤ 20) (wa : ∀ x ∈ a,x.length ≤ 1000) :
  im a b on = some ((a.map (lD b on)).flatten,0) := by
 have hl2 : on.right.length ≤ 20 := by have := hv.lens; omega
 unfold im
 rw [validate_zero ha hb hv,bPs,np rfl,zd]
 rw [rMa (S := fun k=>(b.take k).foldl (pm on.right) []) (by simp) (fun k y hk=>by
  have hy := List.mem_of_getElem? hk
  have hkl := (zg.1 hk).1
  rw [key_eq (hv.right y hy) (by omega),bPs,List.take_add_one,hk,List.foldl_append]
  simp only [Option.toList_some,List.foldl_cons,List.foldl_nil]
  have hkt : kt y on.right = if (lF y on.right).2 = true then some (txtN (lF y on.right).1) else none := rfl
  have hlen : ∀ t,(jB [] ((b.take k).foldl (pm on.right) []) t).length ≤ 400 := fun t=>by
   rw [hmap_get]
   have h1 := ub (b := b.take k) (at_ := on.right) (t := t)
   have h2 : (b.take k).length ≤ 400 := by rw [List.length_take]; omega
   have h3 : jB [] ([] : List (List UInt8 × Rz)) t = [] := rfl
   rw [h3,List.nil_append]
   omega
  generalize (b.take k).foldl (pm on.right) [] = m at hlen ⊢
  unfold pm
  rw [hkt]
  cases hk2 : (lF y on.right).2 with
  | false=>rfl
  | true =>
   have hl := hlen (txtN (lF y on.right).1)
   rw [zc,txtN_eq (keyN_vals (vb y hy) (hv.right y hy)) (Nat.le_trans keyN_len hl2),bPs,bPs]
   rw [pr (by simp only [List.length_cons,List.length_nil]; omega) (by simp only [List.length_cons,List.length_nil]; unfold maxLen; omega),bPs]
   rfl),bPs,bM,List.take_length]
 rw [rMa (S := fun k=>((a.take k).map (lD b on)).flatten) (by simp) (fun k x hk=>by
  have hx := List.mem_of_getElem? hk
  have hkl := (zg.1 hk).1
  have hxl := wa x hx
  rw [key_eq (hv.left x hx) (by omega),bPs,List.take_add_one,hk,List.map_append,List.flatten_append]
  have hS : (((a.take k).map (lD b on)).flatten).length ≤ 160400 := by
   have h1 := flat_len (b := b) (on := on) hb (a.take k)
   have h2 : (a.take k).length ≤ 400 := by rw [List.length_take]; omega
   have h3 : (a.take k).length * 401 ≤ 400 * 401 := Nat.mul_le_mul_right _ h2
   omega
  generalize hs : ((a.take k).map (lD b on)).flatten = s at hS ⊢
  have hl : (cond (lF x on.left).2 (af (dD (lF x on.left).1) fun x71=>some (jB [] (b.foldl (pm on.right) []) x71)) (some [])) = some (gu b on x) := by
   unfold gu kt
   cases hk2 : (lF x on.left).2 with
   | false=>rfl
   | true =>
    rw [zc,txtN_eq (keyN_vals (va x hx) (hv.left x hx)) (Nat.le_trans keyN_len hl1),bPs,hmap_get]
    rfl
  rw [hl,bPs]
  have hrl := hrows_len (b := b) (on := on) (x := x)
  rw [rMa (S := fun j=>s ++ ((gu b on x).take j).map fun y=>x ++ y) (by simp) (fun j y hj=>by
   have hy := List.mem_of_getElem? hj
   have hjl := (zg.1 hj).1
   have hyw : (y.length : Int) = on.rightWidth := hv.width y (hrows_mem hy)
   have hw1 := hv.w1
   rw [pairN (by omega),bPs,pr (by simp only [List.length_append,zl,List.length_take,List.length_cons,List.length_nil]; omega) (by simp only [List.length_append,zl,List.length_take,List.length_cons,List.length_nil]; unfold maxLen; omega),bPs]
   rw [List.take_add_one,hj]
   simp),bPs,bM,List.take_length,bE]
  have hj1 : (Option.toList (some x)).map (lD b on) = [lD b on x] := rfl
  rw [hj1,List.flatten_cons,List.flatten_nil,List.append_nil]
  unfold lD
  cases ho : on.outer with
  | false =>
   rw [zy (by simp)]
   cases (((gu b on x).length : Int) == 0) <;> rfl
  | true =>
   by_cases hn : gu b on x = []
   ·rw [zp ⟨rfl,hn⟩,hn]
    rw [show ((([] : Rz).length : Int) == 0) = true from rfl,zc,zc,aloneN (by omega) hv.w0 hv.w1,bPs]
    rw [pr (by simp only [List.map_nil,List.append_nil,List.length_cons,List.length_nil]; omega) (by simp only [List.map_nil,List.append_nil,List.length_cons,List.length_nil]; unfold maxLen; omega),bPs]
    simp
   ·rw [zy (fun h=>hn h.2),cE (by have h0 := List.length_pos_iff.2 hn; omega)]
    rfl),bPs,bM,List.take_length]
def oe (l : List UInt8) : Nat := l.foldl (fun acc c=>acc * 10 + (c.toNat - 48)) 0
theorem tY (l : List UInt8) (c : UInt8) : oe (l ++ [c]) = oe l * 10 + (c.toNat - 48) := by
 unfold oe
 rw [List.foldl_append]
 rfl
theorem qg {k : Nat} (h : k < 10) : (UInt8.ofNat (48 + k)).toNat = 48 + k := by
 rw [UInt8.toNat_ofNat']
 omega
theorem mr (u : Nat) : oe (Lib.decDigits u) = u ∧ ∀ c ∈ Lib.decDigits u,48 ≤ c.toNat := by
 induction u using Nat.strongRecOn with
 | _ u ih =>
  rw [Lib.decDigits]
  split
  ·rename_i h
   refine ⟨?_,fun c hc=>?_⟩
   ·show oe ([] ++ [_]) = u
    rw [tY,qg h]
    simp [oe]
   ·simp only [List.mem_singleton] at hc
    rw [hc,qg h]
    omega
  ·rename_i h
   obtain ⟨h1,h2⟩ := ih (u / 10) (by omega)
   have h3 : u % 10 < 10 := Nat.mod_lt _ (by omega)
   refine ⟨?_,fun c hc=>?_⟩
   ·rw [tY,h1,qg h3]
    omega
   ·rcases List.mem_append.1 hc with hc | hc
    ·exact h2 c hc
    ·simp only [List.mem_singleton] at hc
     rw [hc,qg h3]
     omega
theorem pt {n : Int} : (44 : UInt8) ∉ Lib.itoa n := by
 intro h
 unfold Lib.itoa at h
 split at h
 ·rcases List.mem_cons.1 h with h | h
  ·cases h
  ·have := (mr _).2 _ h
   exact absurd this (by decide)
 ·have := (mr _).2 _ h
  exact absurd this (by decide)
theorem itoa_inj {n m : Int} (h : Lib.itoa n = Lib.itoa m) : n = m := by
 unfold Lib.itoa at h
 split at h <;> split at h
 ·rename_i h1 h2
  have h3 : Lib.decDigits n.natAbs = Lib.decDigits m.natAbs := by simpa using h
  have h4 := congrArg oe h3
  rw [(mr _).1,(mr _).1] at h4
  omega
 ·exfalso
  have : (45 : UInt8) ∈ Lib.decDigits m.toNat := by rw [← h]; simp
  exact absurd ((mr _).2 _ this) (by decide)
 ·exfalso
  have : (45 : UInt8) ∈ Lib.decDigits n.toNat := by rw [h]; simp
  exact absurd ((mr _).2 _ this) (by decide)
 ·have h4 := congrArg oe h
  rw [(mr _).1,(mr _).1] at h4
  omega
theorem qy {a a' r r' : List UInt8} (ha : (44 : UInt8) ∉ a) (ha' : (44 : UInt8) ∉ a') (h : a ++ 44 :: r = a' ++ 44 :: r') : a = a' ∧ r = r' := by
 induction a generalizing a' with
 | nil =>
  cases a' with
  | nil=>simpa using h
  | cons c a' =>
   simp only [List.nil_append,List.cons_append,List.cons.injEq] at h
   exact absurd (by rw [h.1]; simp) ha'
 | cons c a ih =>
  cases a' with
  | nil =>
   simp only [List.nil_append,List.cons_append,List.cons.injEq] at h
   exact absurd (by rw [h.1]; simp) ha
  | cons d a' =>
   simp only [List.cons_append,List.cons.injEq] at h
   obtain ⟨h1,h2⟩ := ih (fun hc=>ha (by simp [hc])) (fun hc=>ha' (by simp [hc])) h.2
   exact ⟨by rw [h.1,h1],h2⟩
theorem text_one {v : LVal} (h : ls v) : txtN [v] = Lib.itoa v.kind ++ 44 :: (Lib.itoa v.int ++ 44 :: (Lib.itoa (v.text.length : Int) ++ 44 :: v.text)) := by
 obtain ⟨h1,h2,h3⟩ := h
 have i1 : mX v.kind = some (Lib.itoa v.kind) := cO h1
 have i2 : mX v.int = some (Lib.itoa v.int) := cO h2
 have i3 : mX (v.text.length : Int) = some (Lib.itoa (v.text.length : Int)) := cO ⟨by omega,by omega⟩
 have l1 := pB v.kind h1.1 h1.2
 have l2 := pB v.int h2.1 h2.2
 have l3 := pB (v.text.length : Int) (by omega) (by omega)
 have : dD [v] = some (Lib.itoa v.kind ++ 44 :: (Lib.itoa v.int ++ 44 :: (Lib.itoa (v.text.length : Int) ++ 44 :: v.text))) := by
  unfold dD
  rw [aE,i1,bPs,gX (by simp; omega),bPs,i2,bPs,gX (by simp; omega),bPs,gX (by simp; omega),bPs,i3,bPs,gX (by simp; omega),bPs,gX (by simp; omega),bPs,
   gX (by simp; omega),bPs,gX (by simp; omega),bPs]
  simp [aE]
 unfold txtN
 rw [this]
 rfl
theorem text_inj {v w : LVal} (hv : ls v) (hw : ls w) (h : txtN [v] = txtN [w]) : v = w := by
 rw [text_one hv,text_one hw] at h
 obtain ⟨h1,h⟩ := qy pt pt h
 obtain ⟨h2,h⟩ := qy pt pt h
 obtain ⟨h3,h⟩ := qy pt pt h
 obtain ⟨a,b,c⟩ := v
 obtain ⟨a',b',c'⟩ := w
 simp only at h1 h2 h
 rw [itoa_inj h1,itoa_inj h2,h]
theorem eqLoop {α : Type} [DecidableEq α] (x y : List α) (hl : x.length = y.length) (g : α → α → Option Bool) (hg : ∀ a ∈ x,∀ b,g a b = some (decide (a = b))) :
  af (aE (σ := Unit) (ρ := (Bool)) (fun (j1 : Nat) (x1 : α) (_ : Unit)=>af (aJ y (j1 : Int)) fun (x24 : α)=>af (g x1 x24) fun x29=>cond (!x29) (some (.ret false)) (some (.next ()))) 0 x ()) (fun fl1=>fl1.thenR fun (_ : Unit)=>some true) = some (decide (x = y)) := by
 obtain ⟨fl,hfl,hr⟩ := eC (step := fun (j1 : Nat) (x1 : α) (_ : Unit)=>af (aJ y (j1 : Int)) fun (x24 : α)=>af (g x1 x24) fun x29=>cond (!x29) (some (Flow.ret false)) (some (.next ())))
   (fun j _=>x.take j = y.take j) (fun r=>r = false ∧ x ≠ y) x 0 () (by simp) (fun k v s hk hI=>by
    simp only [Nat.zero_add] at hI ⊢
    have hkl := (zg.1 hk).1
    rw [hO (by omega),bPs,hg v (gI hk),bPs]
    by_cases hv : v = y[k]
    ·rw [zt hv]
     refine ⟨_,rfl,?_⟩
     simp only
     rw [List.take_add_one,List.take_add_one,hk,ze (by omega),hI,hv]
    ·rw [zf hv]
     refine ⟨_,rfl,rfl,fun he=>hv ?_⟩
     subst he
     exact (zg.1 hk).2.symm)
 rw [hfl,bPs]
 cases fl with
 | brk s=>exact absurd hr (by simp)
 | ret r=>rw [oK,hr.1,zf hr.2]
 | next s =>
  simp only [Nat.zero_add,List.take_length] at hr
  rw [hl,List.take_length] at hr
  rw [jb,zt hr]
theorem sameRows_eq (a b : Rows) : gV a b = some (decide (a = b)) := by
 unfold gV co
 by_cases hl : a.length = b.length
 ·rw [pl,zt hl,Bool.not_true,zd,eqLoop a b hl _ (fun x _ y=>by unfold gq; rw [equalRow]; rfl),bPs]
 ·rw [pl,zf hl,zf (fun h=>hl (by rw [h]))]
  rfl
def joinQ (k : Int) (p : LExpr) (x y : LQuery) : LQuery := LQuery.mk k [] [] [p] [] [] 0 0 [x,y]
theorem join_rows (r : LRun) (k : Int) (hk : k = 4 ∨ k = 5) (p : LExpr) (x y : LQuery) : aZ r (joinQ k p x y) = jM (fun z=>ir (bR (aS r (be r x ++ be r y) z) p)) (k == 5) (List.replicate (be r y).length .nul) (aZ r x) (aZ r y) := by
 have k4 : (joinQ k p x y).kind = k := rfl
 rw [ep]
 unfold dI
 rw [zy (by omega),zp (by omega)]
 rfl
theorem idxOf_left {α : Type} {p : α → Bool} {a b : List α} (h : 0 ≤ aK p a) : aK p (a ++ b) = aK p a := by
 unfold aK at h ⊢
 rw [List.findIdx?_append]
 cases hq : a.findIdx? p with
 | none=>rw [hq] at h; simp at h
 | some i=>rfl
theorem idxOf_right {α : Type} {p : α → Bool} {a b : List α} (ha : ∀ x ∈ a,p x = false) (h : 0 ≤ aK p b) : aK p (a ++ b) = (a.length : Int) + aK p b := by
 unfold aK at h ⊢
 rw [List.findIdx?_append,List.findIdx?_eq_none_iff.2 ha]
 cases hq : b.findIdx? p with
 | none=>rw [hq] at h; simp at h
 | some i=>simp; omega
theorem reckon_eq (s t : LVal) : ir (bA [61] [s,t]) = (!(s.kind == 0) && (!(t.kind == 0) && decide (s = t))) := by
 have h : bA [61] [s,t] = if (s.kind == 0 || t.kind == 0) = true then .nul else lW (decide (s = t)) := by
  unfold bA
  rw [zy (by simp [bK]),zy (by decide),zy (by decide),zy (by decide),zy (by decide)]
  simp only [List.any_cons,List.any_nil,Bool.or_false]
  split
  ·rfl
  ·rfl
 rw [h]
 cases hs : (s.kind == 0) with
 | true=>rfl
 | false =>
  cases ht : (t.kind == 0) with
  | true=>rfl
  | false =>
   by_cases hst : s = t
   ·rw [zt hst]; rfl
   ·rw [zf hst]; rfl
theorem kt_one (u : Rq) (k : Int) : kt u [k] = if (vat u k).kind = 0 then none else some (txtN [vat u k]) := by
 unfold kt lF
 simp only [List.any_cons,List.any_nil,Bool.or_false]
 by_cases h : (vat u k).kind = 0
 ·rw [zp h,kx h]; rfl
 ·rw [zy h,cE h]; rfl
def eqE (x y : List UInt8) : LExpr := LExpr.mk 5 [61] 0 (LVal.mk 0 0 []) [LExpr.mk 2 x 0 (LVal.mk 0 0 []) [],LExpr.mk 2 y 0 (LVal.mk 0 0 []) []]
theorem col_val {env : LEnv} {n : List UInt8} {j : Int} (hj : aK (fun c : LCol=>c.name == n) env.cols = j) (h0 : 0 ≤ j) (h1 : j < env.row.length) : bR env (LExpr.mk 2 n 0 (LVal.mk 0 0 []) []) = vat env.row j := by
 rw [bR]
 simp only [show ((2 : Int) == 1) = false from rfl,show ((2 : Int) == 2) = true from rfl,if_true,Bool.false_eq_true,if_false]
 rw [hj,zp ⟨h0,h1⟩]
 rfl
theorem on_eq {A B : List LCol} {x y : List UInt8} (hk : 0 ≤ aK (fun c : LCol=>c.name == x) A) (hl : 0 ≤ aK (fun c : LCol=>c.name == y) B) (hy : ∀ c ∈ A,(c.name == y) = false) {u v : Rq} (hu : u.length = A.length) (hv : v.length = B.length) (r : LRun)
  (ou : ∀ z ∈ u,ls z) (ov : ∀ z ∈ v,ls z) :
  ir (bR (aS r (A ++ B) (u ++ v)) (eqE x y)) = (match kt u [aK (fun c : LCol=>c.name == x) A] with | some t=>decide (kt v [aK (fun c : LCol=>c.name == y) B] = some t) | none=>false) := by
 have l1 := nF (p := fun c : LCol=>c.name == x) (l := A)
 have l2 := nF (p := fun c : LCol=>c.name == y) (l := B)
 have e1 : bR (aS r (A ++ B) (u ++ v)) (eqE x y) = bA [61] [bR (aS r (A ++ B) (u ++ v)) (LExpr.mk 2 x 0 (LVal.mk 0 0 []) []),bR (aS r (A ++ B) (u ++ v)) (LExpr.mk 2 y 0 (LVal.mk 0 0 []) [])] := by
  unfold eqE
  rw [bR]
  simp [evalEs]
 rw [e1,reckon_eq]
 rw [col_val (j := aK (fun c : LCol=>c.name == x) A) (idxOf_left hk) hk (by show _ < ((u ++ v).length : Int); rw [List.length_append]; omega),
  col_val (j := (A.length : Int) + aK (fun c : LCol=>c.name == y) B) (idxOf_right hy hl) (by omega) (by show _ < ((u ++ v).length : Int); rw [List.length_append]; omega)]
 have v1 : vat (aS r (A ++ B) (u ++ v)).row (aK (fun c : LCol=>c.name == x) A) = vat u (aK (fun c : LCol=>c.name == x) A) := by
  show vat (u ++ v) _ = _
  unfold vat
  rw [List.getD_eq_getElem?_getD,List.getD_eq_getElem?_getD,List.getElem?_append_left (by omega)]
 have v2 : vat (aS r (A ++ B) (u ++ v)).row ((A.length : Int) + aK (fun c : LCol=>c.name == y) B) = vat v (aK (fun c : LCol=>c.name == y) B) := by
  show vat (u ++ v) _ = _
  unfold vat
  rw [List.getD_eq_getElem?_getD,List.getD_eq_getElem?_getD,List.getElem?_append_right (by omega)]
  congr 2
  omega
 rw [v1,v2,kt_one,kt_one]
 have o1 := ou _ (vat_mem hk (by omega))
 have o2 := ov _ (vat_mem hl (by omega))
 generalize vat u (aK (fun c : LCol=>c.name == x) A) = p at o1 ⊢
 generalize vat v (aK (fun c : LCol=>c.name == y) B) = q at o2 ⊢
 by_cases hp : p.kind = 0
 ·rw [zp hp,kx hp]; rfl
 ·rw [zy hp,cE hp]
  by_cases hq : q.kind = 0
  ·rw [zp hq,kx hq]; simp
  ·rw [zy hq,cE hq]
   simp only [Bool.not_false,Bool.true_and,zo]
   by_cases hpq : p = q
   ·rw [zt hpq,hpq]; simp
   ·rw [zf hpq]
    symm
    rw [decide_eq_false_iff_not]
    exact fun h=>hpq (text_inj o2 o1 h).symm
theorem fits_ok {v : LVal} {k : Int} {nl : Bool} (h : fC v k nl) : ls v := by
 have h1 := h.1
 obtain ⟨a,b,c⟩ := v
 unfold eG at h1
 simp only at h1
 unfold ls
 simp only
 by_cases k0 : a = 0
 ·subst k0
  simp only [if_true,decide_eq_true_eq,LVal.mk.injEq] at h1
  obtain ⟨_,rfl,rfl⟩ := h1
  exact ⟨by omega,by omega,by simp⟩
 rw [zy k0] at h1
 by_cases k1 : a = 1
 ·subst k1
  simp only [if_true,Bool.and_eq_true,beq_iff_eq,decide_eq_true_eq] at h1
  obtain ⟨⟨rfl,h2⟩,h3⟩ := h1
  exact ⟨by omega,by omega,by simp⟩
 rw [zy k1] at h1
 by_cases k2 : a = 2
 ·subst k2
  simp only [if_true,Bool.and_eq_true,beq_iff_eq,Bool.or_eq_true] at h1
  obtain ⟨rfl,h2⟩ := h1
  exact ⟨by omega,by omega,by simp⟩
 rw [zy k2] at h1
 by_cases k3 : a = 3
 ·subst k3
  simp only [if_true,Bool.and_eq_true,beq_iff_eq,decide_eq_true_eq] at h1
  obtain ⟨rfl,h2⟩ := h1
  exact ⟨by omega,by omega,by omega⟩
 ·rw [zy k3] at h1; cases h1
theorem rf {cols : List LCol} {row : Rq} (h : dY cols row) : ∀ z ∈ row,ls z := by
 intro z hz
 obtain ⟨i,hi⟩ := List.getElem?_of_mem hz
 have hl := (zg.1 hi).1
 have hc : i < cols.length := by rw [← h.1]; exact hl
 exact fits_ok (h.2 i cols[i] z (ze hc) hi)
theorem hjoin_pad {A B : List LCol} {x y : List UInt8} (hk : 0 ≤ aK (fun c : LCol=>c.name == x) A) (hl : 0 ≤ aK (fun c : LCol=>c.name == y) B) (hy : ∀ c ∈ A,(c.name == y) = false) (r : LRun) {b : Rows} (hb : ∀ v ∈ b,dY B v) {u : Rq} (hu : dY A u) (outer : Bool) :
  lD b (LJoinalgoCondition.mk [aK (fun c : LCol=>c.name == x) A] [aK (fun c : LCol=>c.name == y) B] outer (B.length : Int)) u = padR (fun z=>ir (bR (aS r (A ++ B) z) (eqE x y))) outer (List.replicate B.length .nul) u b := by
 have hm : gF (fun z=>ir (bR (aS r (A ++ B) z) (eqE x y))) u b = (gu b (LJoinalgoCondition.mk [aK (fun c : LCol=>c.name == x) A] [aK (fun c : LCol=>c.name == y) B] outer (B.length : Int)) u).map fun v=>u ++ v := by
  unfold gF
  rw [List.filter_map]
  congr 1
  have e : b.filter ((fun z=>ir (bR (aS r (A ++ B) z) (eqE x y))) ∘ fun v=>u ++ v) = b.filter (fun v=>match kt u [aK (fun c : LCol=>c.name == x) A] with | some t=>decide (kt v [aK (fun c : LCol=>c.name == y) B] = some t) | none=>false) := by
   refine List.filter_congr fun v hv=>?_
   exact on_eq hk hl hy hu.1 (hb v hv).1 r (rf hu) (rf (hb v hv))
  rw [e]
  unfold gu pw
  simp only
  cases kt u [aK (fun c : LCol=>c.name == x) A] with
  | some t=>rfl
  | none=>simp
 unfold lD padR
 rw [hm]
 simp only [List.map_eq_nil_iff,Int.toNat_natCast]
theorem joinQuery_law {s : LSchema} (hs : ot s) (st : List LRelation) {q rA : LQuery} (hq : TinyQ q) (hr : TinyQ rA) (x y : List UInt8) (outer : Bool) (args : Rq) : dX s st q rA x y outer args = some true := by
 unfold dX
 rw [bE,show (!sampleV) = false from rfl,zd,bE]
 generalize hkd : (bif outer then (5 : Int) else 4) = kd
 have hkd2 : kd = 4 ∨ kd = 5 := by cases outer <;> simp at hkd <;> omega
 have hk5 : (kd == 5) = outer := by cases outer <;> simp at hkd <;> subst hkd <;> rfl
 have hE : LExpr.mk 5 [61] 0 (LVal.mk 0 0 []) [(LExpr.mk 2 x 0 (LVal.mk 0 0 []) []),(LExpr.mk 2 y 0 (LVal.mk 0 0 []) [])] = eqE x y := rfl
 rw [hE]
 have sj : SmallQ (LQuery.mk kd [] [] [eqE x y] [] [] 0 0 [q,rA]) := small2 hq hr rfl ⟨show (1 : Nat) ≤ 1000000 by omega,show (0 : Nat) ≤ 1000000 by omega⟩
 obtain ⟨b,hb,hrun⟩ := runs_tot hs st sj args
 rw [hb,bPs]
 cases b with
 | false=>rfl
 | true =>
  have hj := hrun rfl
  have h1 : Runs s st q args := hj.sub (by simp [LQuery.inputs])
  have h2 : Runs s st rA args := hj.sub (by simp [LQuery.inputs])
  simp only [Bool.not_true,zd]
  rw [qx hs hq.small h1,qx hs hr.small h2,qx hs sj hj]
  simp only [bPs,bE,Bool.not_true,zd]
  have gu : aZ (iW s st args) (LQuery.mk kd [] [] [eqE x y] [] [] 0 0 [q,rA]) = _ := join_rows (iW s st args) kd hkd2 (eqE x y) q rA
  have f1 := (ru (r := iW s st args) ⟨rfl,rfl,rfl,h1.instOk hs⟩ q (h1.qok hq.small)).fits
  have f2 := (ru (r := iW s st args) ⟨rfl,rfl,rfl,h2.instOk hs⟩ rA (h2.qok hr.small)).fits
  have c1 : (be (iW s st args) q).length ≤ 20 := ja ⟨s,[]⟩ q
  have c2 : (be (iW s st args) rA).length ≤ 20 := ja ⟨s,[]⟩ rA
  have hnd := (mf hj.cols).2.2.2.2
  have hcols : (fo ⟨s,[]⟩ (LQuery.mk kd [] [] [eqE x y] [] [] 0 0 [q,rA])).1 = iq (be (iW s st args) q) (be (iW s st args) rA) (kd == 5) := by
   have := (mf hj.cols).2.2.2.1
   rw [this]
   unfold iD
   have k0 : (LQuery.mk kd [] [] [eqE x y] [] [] 0 0 [q,rA]).kind = kd := rfl
   rw [k0,zy (by omega),zy (by omega),zp hkd2]
   rfl
  rw [hcols] at hnd
  rw [show (fun a0=>some (bY a0 x)) = (fun c : LCol=>some (c.name == x)) from rfl,show (fun a0=>some (bZ a0 y)) = (fun c : LCol=>some (c.name == y)) from rfl,
   gv,bPs,gv,bPs]
  generalize be (iW s st args) q = A at *
  generalize be (iW s st args) rA = B at *
  generalize aZ (iW s st args) q = ra at *
  generalize aZ (iW s st args) rA = rb at *
  by_cases d1 : aK (fun c : LCol=>c.name == x) A < 0
  ·rw [zt d1]; rfl
  rw [zf d1,zd]
  by_cases d2 : aK (fun c : LCol=>c.name == y) B < 0
  ·rw [zt d2]; rfl
  rw [zf d2,zd]
  by_cases d3 : (ra.length : Int) > 400
  ·rw [zt d3]; rfl
  rw [zf d3,zd]
  by_cases d4 : (rb.length : Int) > 400
  ·rw [zt d4]; rfl
  rw [zf d4,zd]
  have l1 := nF (p := fun c : LCol=>c.name == x) (l := A)
  have l2 := nF (p := fun c : LCol=>c.name == y) (l := B)
  have hy : ∀ c ∈ A,(c.name == y) = false := by
   intro c hc
   cases hcy : (c.name == y) with
   | false=>rfl
   | true =>
    exfalso
    unfold iq at hnd
    rw [List.map_append,List.map_map] at hnd
    have hdis := (List.nodup_append.1 hnd).2.2
    obtain ⟨z,hz1,hz2⟩ := mp (p := fun c : LCol=>c.name == y) (l := B) (by omega)
    refine hdis c.name (List.mem_map_of_mem hc) z.name (List.mem_map.2 ⟨z,List.mem_of_getElem? hz1,rfl⟩) ?_
    have e1 : c.name = y := by simpa using hcy
    have e2 : z.name = y := by simpa using hz2
    rw [e1,e2]
  have hv : ValidJ ra rb (LJoinalgoCondition.mk [aK (fun c : LCol=>c.name == x) A] [aK (fun c : LCol=>c.name == y) B] outer (B.length : Int)) := by
   refine ⟨rfl,by simp,by simp only; omega,fun r hr k hk=>?_,fun r hr k hk=>?_,fun r hr=>by simp only; rw [(f2 r hr).1],fun k hk=>?_,fun k hk=>?_⟩
   ·simp only [List.mem_singleton] at hk; have := (f1 r hr).1; omega
   ·simp only [List.mem_singleton] at hk; have := (f2 r hr).1; omega
   ·simp only [List.mem_singleton] at hk; omega
   ·simp only [List.mem_singleton] at hk; omega
  rw [hash_eq (by omega) (by omega) hv (fun r hr=>rf (f1 r hr)) (fun r hr=>rf (f2 r hr)) (by simp) (fun r hr=>by have := (f1 r hr).1; omega),bPs]
  simp only
  rw [show ((0 : Int) == 0) = true from rfl,zc,sameRows_eq,bPs]
  have hend : (ra.map (lD rb (LJoinalgoCondition.mk [aK (fun c : LCol=>c.name == x) A] [aK (fun c : LCol=>c.name == y) B] outer (B.length : Int)))).flatten = aZ (iW s st args) (LQuery.mk kd [] [] [eqE x y] [] [] 0 0 [q,rA]) := by
   rw [gu,hk5]
   unfold jM
   congr 1
   exact List.map_congr_left fun u hu=>hjoin_pad (by omega) (by omega) hy _ f2 (f1 u hu) outer
  rw [hend,zt rfl]
theorem own_knob : ownKnob Tryz.prog.godebug = none := by kernel_rfl
theorem laid_out : laidOutB Tryz.prog = true := by kernel_rfl
def lawTypes : List TypeId := [26,22,65,9,43,51,3,4,56,23,143,24,149,39,28,68,44,61,35,29,30,41,31,140,32,33,36]
theorem lawTypes_ok : lawTypes.all (okT Tryz.prog lawTypes) = true := by kernel_rfl
theorem lawTypes_info : ∀ t ∈ lawTypes,∃ i,Tryz.prog.info? t = some i ∧ i.bytes = Tryz.prog.bytesOf t ∧ i.size = Tryz.prog.cellsOf t := infos_of (by kernel_rfl)
theorem sh9 {n : Nat} {pvs : List PV} (h : Sh Tryz.prog n 9 pvs) : ∃ v : List UInt8,pvs = [.str v] := by
 cases n with
 | zero=>simp [Sh] at h
 | succ n=>simp only [Sh,Tryz.underlying9] at h; obtain ⟨m,rfl,_⟩ := h; exact ⟨m,rfl⟩
theorem sh3 {n : Nat} {pvs : List PV} (h : Sh Tryz.prog n 3 pvs) : ∃ v : Int,pvs = [am v] := by
 cases n with
 | zero=>simp [Sh] at h
 | succ n=>simp only [Sh,Tryz.underlying3] at h; obtain ⟨m,rfl,_⟩ := h; exact ⟨m,rfl⟩
theorem sh4 {n : Nat} {pvs : List PV} (h : Sh Tryz.prog n 4 pvs) : ∃ v : Bool,pvs = [aC v] := by
 cases n with
 | zero=>simp [Sh] at h
 | succ n=>simp only [Sh,Tryz.underlying4] at h; obtain ⟨m,rfl⟩ := h; exact ⟨m,rfl⟩
theorem sh51 {n : Nat} {pvs : List PV} (h : Sh Tryz.prog n 51 pvs) : ∃ v : LCol,pvs = aN v := by
 cases n with
 | zero=>simp [Sh] at h
 | succ n =>
  simp only [Sh,Tryz.underlying51,List.map_cons,List.map_nil,gK] at h
  obtain ⟨p0,r0,rfl,h0,p1,r1,rfl,h1,p2,r2,rfl,h2,rfl⟩ := h
  obtain ⟨v0,rfl⟩ := sh9 h0
  obtain ⟨v1,rfl⟩ := sh3 h1
  obtain ⟨v2,rfl⟩ := sh4 h2
  exact ⟨LCol.mk v0 v1 v2,rfl⟩
theorem sh43 {n : Nat} {pvs : List PV} (h : Sh Tryz.prog n 43 pvs) : ∃ v : List LCol,pvs = [.list 51 (v.map aN)] := by
 cases n with
 | zero=>simp [Sh] at h
 | succ n =>
  simp only [Sh,Tryz.underlying43] at h
  obtain ⟨rows,rfl,hr⟩ := h
  obtain ⟨xs,rfl⟩ := jv (f := aN) (fun r hq=>sh51 (hr r hq))
  exact ⟨xs,rfl⟩
theorem sh56 {n : Nat} {pvs : List PV} (h : Sh Tryz.prog n 56 pvs) : ∃ v : List Int,pvs = [.list 3 (v.map bG)] := by
 cases n with
 | zero=>simp [Sh] at h
 | succ n =>
  simp only [Sh,Tryz.underlying56] at h
  obtain ⟨rows,rfl,hr⟩ := h
  obtain ⟨xs,rfl⟩ := jv (f := bG) (fun r hq=>let ⟨v,e⟩ := sh3 (hr r hq); ⟨v,e⟩)
  exact ⟨xs,rfl⟩
theorem sh65 {n : Nat} {pvs : List PV} (h : Sh Tryz.prog n 65 pvs) : ∃ v : LTable,pvs = cD v := by
 cases n with
 | zero=>simp [Sh] at h
 | succ n =>
  simp only [Sh,Tryz.underlying65,List.map_cons,List.map_nil,gK] at h
  obtain ⟨p0,r0,rfl,h0,p1,r1,rfl,h1,p2,r2,rfl,h2,rfl⟩ := h
  obtain ⟨v0,rfl⟩ := sh9 h0
  obtain ⟨v1,rfl⟩ := sh43 h1
  obtain ⟨v2,rfl⟩ := sh56 h2
  exact ⟨LTable.mk v0 v1 v2,rfl⟩
theorem sh22 {n : Nat} {pvs : List PV} (h : Sh Tryz.prog n 22 pvs) : ∃ v : List LTable,pvs = [.list 65 (v.map cD)] := by
 cases n with
 | zero=>simp [Sh] at h
 | succ n =>
  simp only [Sh,Tryz.underlying22] at h
  obtain ⟨rows,rfl,hr⟩ := h
  obtain ⟨xs,rfl⟩ := jv (f := cD) (fun r hq=>sh65 (hr r hq))
  exact ⟨xs,rfl⟩
theorem sh143 {n : Nat} {pvs : List PV} (h : Sh Tryz.prog n 143 pvs) : ∃ v : LForeignKey,pvs = jL v := by
 cases n with
 | zero=>simp [Sh] at h
 | succ n =>
  simp only [Sh,Tryz.underlying143,List.map_cons,List.map_nil,gK] at h
  obtain ⟨p0,r0,rfl,h0,p1,r1,rfl,h1,p2,r2,rfl,h2,rfl⟩ := h
  obtain ⟨v0,rfl⟩ := sh9 h0
  obtain ⟨v1,rfl⟩ := sh56 h1
  obtain ⟨v2,rfl⟩ := sh9 h2
  exact ⟨LForeignKey.mk v0 v1 v2,rfl⟩
theorem sh23 {n : Nat} {pvs : List PV} (h : Sh Tryz.prog n 23 pvs) : ∃ v : List LForeignKey,pvs = [.list 143 (v.map jL)] := by
 cases n with
 | zero=>simp [Sh] at h
 | succ n =>
  simp only [Sh,Tryz.underlying23] at h
  obtain ⟨rows,rfl,hr⟩ := h
  obtain ⟨xs,rfl⟩ := jv (f := jL) (fun r hq=>sh143 (hr r hq))
  exact ⟨xs,rfl⟩
theorem sh39 {n : Nat} {pvs : List PV} (h : Sh Tryz.prog n 39 pvs) : ∃ v : LVal,pvs = ae v := by
 cases n with
 | zero=>simp [Sh] at h
 | succ n =>
  simp only [Sh,Tryz.underlying39,List.map_cons,List.map_nil,gK] at h
  obtain ⟨p0,r0,rfl,h0,p1,r1,rfl,h1,p2,r2,rfl,h2,rfl⟩ := h
  obtain ⟨v0,rfl⟩ := sh3 h0
  obtain ⟨v1,rfl⟩ := sh3 h1
  obtain ⟨v2,rfl⟩ := sh9 h2
  exact ⟨LVal.mk v0 v1 v2,rfl⟩
theorem sh149 {n : Nat} {pvs : List PV} (h : Sh Tryz.prog n 149 pvs) : ∃ v : LConstraint,pvs = kU v := by
 cases n with
 | zero=>simp [Sh] at h
 | succ n =>
  simp only [Sh,Tryz.underlying149,List.map_cons,List.map_nil,gK] at h
  obtain ⟨p0,r0,rfl,h0,p1,r1,rfl,h1,p2,r2,rfl,h2,p3,r3,rfl,h3,p4,r4,rfl,h4,rfl⟩ := h
  obtain ⟨v0,rfl⟩ := sh9 h0
  obtain ⟨v1,rfl⟩ := sh3 h1
  obtain ⟨v2,rfl⟩ := sh9 h2
  obtain ⟨v3,rfl⟩ := sh3 h3
  obtain ⟨v4,rfl⟩ := sh39 h4
  exact ⟨LConstraint.mk v0 v1 v2 v3 v4,rfl⟩
theorem sh24 {n : Nat} {pvs : List PV} (h : Sh Tryz.prog n 24 pvs) : ∃ v : List LConstraint,pvs = [.list 149 (v.map kU)] := by
 cases n with
 | zero=>simp [Sh] at h
 | succ n =>
  simp only [Sh,Tryz.underlying24] at h
  obtain ⟨rows,rfl,hr⟩ := h
  obtain ⟨xs,rfl⟩ := jv (f := kU) (fun r hq=>sh149 (hr r hq))
  exact ⟨xs,rfl⟩
theorem sh26 {n : Nat} {pvs : List PV} (h : Sh Tryz.prog n 26 pvs) : ∃ v : LSchema,pvs = bW v := by
 cases n with
 | zero=>simp [Sh] at h
 | succ n =>
  simp only [Sh,Tryz.underlying26,List.map_cons,List.map_nil,gK] at h
  obtain ⟨p0,r0,rfl,h0,p1,r1,rfl,h1,p2,r2,rfl,h2,rfl⟩ := h
  obtain ⟨v0,rfl⟩ := sh22 h0
  obtain ⟨v1,rfl⟩ := sh23 h1
  obtain ⟨v2,rfl⟩ := sh24 h2
  exact ⟨LSchema.mk v0 v1 v2,rfl⟩
theorem sh61 {n : Nat} {pvs : List PV} (h : Sh Tryz.prog n 61 pvs) : ∃ v : Rq,pvs = [.list 39 (v.map ae)] := by
 cases n with
 | zero=>simp [Sh] at h
 | succ n =>
  simp only [Sh,Tryz.underlying61] at h
  obtain ⟨rows,rfl,hr⟩ := h
  obtain ⟨xs,rfl⟩ := jv (f := ae) (fun r hq=>sh39 (hr r hq))
  exact ⟨xs,rfl⟩
theorem sh44 {n : Nat} {pvs : List PV} (h : Sh Tryz.prog n 44 pvs) : ∃ v : Rz,pvs = [.list 61 (v.map (al 39 ae))] := by
 cases n with
 | zero=>simp [Sh] at h
 | succ n =>
  simp only [Sh,Tryz.underlying44] at h
  obtain ⟨rows,rfl,hr⟩ := h
  obtain ⟨xs,rfl⟩ := jv (f := (al 39 ae)) (fun r hq=>let ⟨v,e⟩ := sh61 (hr r hq); ⟨v,e⟩)
  exact ⟨xs,rfl⟩
theorem sh68 {n : Nat} {pvs : List PV} (h : Sh Tryz.prog n 68 pvs) : ∃ v : LRelation,pvs = dw v := by
 cases n with
 | zero=>simp [Sh] at h
 | succ n =>
  simp only [Sh,Tryz.underlying68,List.map_cons,List.map_nil,gK] at h
  obtain ⟨p0,r0,rfl,h0,p1,r1,rfl,h1,rfl⟩ := h
  obtain ⟨v0,rfl⟩ := sh9 h0
  obtain ⟨v1,rfl⟩ := sh44 h1
  exact ⟨LRelation.mk v0 v1,rfl⟩
theorem sh28 {n : Nat} {pvs : List PV} (h : Sh Tryz.prog n 28 pvs) : ∃ v : List LRelation,pvs = [.list 68 (v.map dw)] := by
 cases n with
 | zero=>simp [Sh] at h
 | succ n =>
  simp only [Sh,Tryz.underlying28] at h
  obtain ⟨rows,rfl,hr⟩ := h
  obtain ⟨xs,rfl⟩ := jv (f := dw) (fun r hq=>sh68 (hr r hq))
  exact ⟨xs,rfl⟩
theorem sh29 {n : Nat} {pvs : List PV} (h : Sh Tryz.prog n 29 pvs) : ∃ v : List (List UInt8),pvs = [.list 9 (v.map nG)] := by
 cases n with
 | zero=>simp [Sh] at h
 | succ n =>
  simp only [Sh,Tryz.underlying29] at h
  obtain ⟨rows,rfl,hr⟩ := h
  obtain ⟨xs,rfl⟩ := jv (f := nG) (fun r hq=>let ⟨v,e⟩ := sh9 (hr r hq); ⟨v,e⟩)
  exact ⟨xs,rfl⟩
theorem sh41 {n : Nat} {pvs : List PV} (h : Sh Tryz.prog n 41 pvs) : ∃ v : LExpr,pvs = eA v := by
 induction n generalizing pvs with
 | zero=>simp [Sh] at h
 | succ n ih =>
  simp only [Sh,Tryz.underlying41,List.map_cons,List.map_nil,gK] at h
  obtain ⟨p0,r0,rfl,h0,p1,r1,rfl,h1,p2,r2,rfl,h2,p3,r3,rfl,h3,p4,r4,rfl,h4,rfl⟩ := h
  obtain ⟨v0,rfl⟩ := sh3 h0
  obtain ⟨v1,rfl⟩ := sh9 h1
  obtain ⟨v2,rfl⟩ := sh3 h2
  obtain ⟨v3,rfl⟩ := sh39 h3
  cases n with
  | zero=>simp [Sh] at h4
  | succ n =>
  simp only [Sh,Tryz.underlying30] at h4
  obtain ⟨rows,rfl,hr4⟩ := h4
  obtain ⟨v4,rfl⟩ := rowsUp (f := eA) (rfl) ih hr4
  exact ⟨LExpr.mk v0 v1 v2 v3 v4,by rw [dK]; rfl⟩
theorem sh30 {n : Nat} {pvs : List PV} (h : Sh Tryz.prog n 30 pvs) : ∃ v : List LExpr,pvs = [.list 41 (v.map eA)] := by
 cases n with
 | zero=>simp [Sh] at h
 | succ n =>
  simp only [Sh,Tryz.underlying30] at h
  obtain ⟨rows,rfl,hr⟩ := h
  obtain ⟨xs,rfl⟩ := jv (f := eA) (fun r hq=>sh41 (hr r hq))
  exact ⟨xs,rfl⟩
theorem sh140 {n : Nat} {pvs : List PV} (h : Sh Tryz.prog n 140 pvs) : ∃ v : LAggregateCall,pvs = kS v := by
 cases n with
 | zero=>simp [Sh] at h
 | succ n =>
  simp only [Sh,Tryz.underlying140,List.map_cons,List.map_nil,gK] at h
  obtain ⟨p0,r0,rfl,h0,p1,r1,rfl,h1,p2,r2,rfl,h2,rfl⟩ := h
  obtain ⟨v0,rfl⟩ := sh9 h0
  obtain ⟨v1,rfl⟩ := sh9 h1
  obtain ⟨v2,rfl⟩ := sh30 h2
  exact ⟨LAggregateCall.mk v0 v1 v2,rfl⟩
theorem sh31 {n : Nat} {pvs : List PV} (h : Sh Tryz.prog n 31 pvs) : ∃ v : List LAggregateCall,pvs = [.list 140 (v.map kS)] := by
 cases n with
 | zero=>simp [Sh] at h
 | succ n =>
  simp only [Sh,Tryz.underlying31] at h
  obtain ⟨rows,rfl,hr⟩ := h
  obtain ⟨xs,rfl⟩ := jv (f := kS) (fun r hq=>sh140 (hr r hq))
  exact ⟨xs,rfl⟩
theorem sh32 {n : Nat} {pvs : List PV} (h : Sh Tryz.prog n 32 pvs) : ∃ v : List Bool,pvs = [.list 4 (v.map rBool)] := by
 cases n with
 | zero=>simp [Sh] at h
 | succ n =>
  simp only [Sh,Tryz.underlying32] at h
  obtain ⟨rows,rfl,hr⟩ := h
  obtain ⟨xs,rfl⟩ := jv (f := rBool) (fun r hq=>let ⟨v,e⟩ := sh4 (hr r hq); ⟨v,e⟩)
  exact ⟨xs,rfl⟩
theorem sh35 {n : Nat} {pvs : List PV} (h : Sh Tryz.prog n 35 pvs) : ∃ v : LQuery,pvs = bV v := by
 induction n generalizing pvs with
 | zero=>simp [Sh] at h
 | succ n ih =>
  simp only [Sh,Tryz.underlying35,List.map_cons,List.map_nil,gK] at h
  obtain ⟨p0,r0,rfl,h0,p1,r1,rfl,h1,p2,r2,rfl,h2,p3,r3,rfl,h3,p4,r4,rfl,h4,p5,r5,rfl,h5,p6,r6,rfl,h6,p7,r7,rfl,h7,p8,r8,rfl,h8,rfl⟩ := h
  obtain ⟨v0,rfl⟩ := sh3 h0
  obtain ⟨v1,rfl⟩ := sh9 h1
  obtain ⟨v2,rfl⟩ := sh29 h2
  obtain ⟨v3,rfl⟩ := sh30 h3
  obtain ⟨v4,rfl⟩ := sh31 h4
  obtain ⟨v5,rfl⟩ := sh32 h5
  obtain ⟨v6,rfl⟩ := sh3 h6
  obtain ⟨v7,rfl⟩ := sh3 h7
  cases n with
  | zero=>simp [Sh] at h8
  | succ n =>
  simp only [Sh,Tryz.underlying33] at h8
  obtain ⟨rows,rfl,hr8⟩ := h8
  obtain ⟨v8,rfl⟩ := rowsUp (f := bV) (rfl) ih hr8
  exact ⟨LQuery.mk v0 v1 v2 v3 v4 v5 v6 v7 v8,by rw [bQ]; rfl⟩
theorem sh36 {n : Nat} {pvs : List PV} (h : Sh Tryz.prog n 36 pvs) : ∃ v : Rq,pvs = [.list 39 (v.map ae)] := by
 cases n with
 | zero=>simp [Sh] at h
 | succ n =>
  simp only [Sh,Tryz.underlying36] at h
  obtain ⟨rows,rfl,hr⟩ := h
  obtain ⟨xs,rfl⟩ := jv (f := ae) (fun r hq=>sh39 (hr r hq))
  exact ⟨xs,rfl⟩
theorem law_args : ∀ args,ArgsSh Tryz.prog Tryz.f3.params.toList args → bI args ≤ 1048576 → aI Tryz.prog 3 args (.val (.bool true)) := by
 intro args h hN
 rw [Tryz.params3] at h
 simp only [ArgsSh] at h
 obtain ⟨n0,p0,r0,rfl,h0,n1,p1,r1,rfl,h1,n2,p2,r2,rfl,h2,n3,p3,r3,rfl,h3,n4,p4,r4,rfl,h4,n5,p5,r5,rfl,h5,n6,p6,r6,rfl,h6,n7,p7,r7,rfl,h7,rfl⟩ := h
 obtain ⟨v0,rfl⟩ := sh26 h0
 obtain ⟨v1,rfl⟩ := sh28 h1
 obtain ⟨v2,rfl⟩ := sh35 h2
 obtain ⟨v3,rfl⟩ := sh35 h3
 obtain ⟨v4,rfl⟩ := sh9 h4
 obtain ⟨v5,rfl⟩ := sh9 h5
 obtain ⟨v6,rfl⟩ := sh4 h6
 obtain ⟨v7,rfl⟩ := sh36 h7
 have e0 : gP Tryz.prog 26 (bW v0) = .agg (bW v0) := by simp only [gP,Tryz.underlying26]
 rw [e0] at hN ⊢
 have e1 : gP Tryz.prog 28 [.list 68 (v1.map dw)] = .list 68 (v1.map dw) := by simp only [gP,Tryz.underlying28]; rfl
 rw [e1] at hN ⊢
 have e2 : gP Tryz.prog 35 (bV v2) = .agg (bV v2) := by simp only [gP,Tryz.underlying35]
 rw [bQ] at e2
 rw [bQ v2,e2] at hN ⊢
 have e3 : gP Tryz.prog 35 (bV v3) = .agg (bV v3) := by simp only [gP,Tryz.underlying35]
 rw [bQ] at e3
 rw [bQ v3,e3] at hN ⊢
 have e4 : gP Tryz.prog 9 [.str v4] = .str v4 := by simp only [gP,Tryz.underlying9]; rfl
 rw [e4] at hN ⊢
 have e5 : gP Tryz.prog 9 [.str v5] = .str v5 := by simp only [gP,Tryz.underlying9]; rfl
 rw [e5] at hN ⊢
 have e6 : gP Tryz.prog 4 [aC v6] = aC v6 := by simp only [gP,Tryz.underlying4]; rfl
 rw [e6] at hN ⊢
 have e7 : gP Tryz.prog 36 [.list 39 (v7.map ae)] = .list 39 (v7.map ae) := by simp only [gP,Tryz.underlying36]; rfl
 rw [e7] at hN ⊢
 simp only [bI,PV.bulk] at hN
 have hs0 : ot v0 := smallS_bulk (n := 1048576) (by omega) (by omega)
 have hq2 : TinyQ v2 := tiny_bulk (n := 1048576) (by omega) (by omega)
 have hq3 : TinyQ v3 := tiny_bulk (n := 1048576) (by omega) (by omega)
 exact kW v0 v1 v2 v3 v4 v5 v6 v7 true (joinQuery_law hs0 v1 hq2 hq3 v4 v5 v6 v7)
set_option maxRecDepth 100000 in
theorem law_wf : (fun (P : Program) (f : FuncId) (fn : Func) (s : ChangeSpec) (c : OpenClaim)=>(P.funcs.size,f,fn.params.size,s.name,c.func,c.wf (OpenSpec.ofChange s)).2.2.2.2.2) Tryz.prog 3 Tryz.f3 (Rows.OpenSpec.upto Rows.joinMatchesQuerySemanticsSpec).bare Rows.joinMatchesQuerySemanticsUptoRow = true := by kernel_rfl
set_option maxRecDepth 100000 in
theorem law_laid : (fun (P : Program) (f : FuncId) (fn : Func) (s : ChangeSpec) (c : OpenClaim)=>(P.funcs.size,f,fn.params.size,s.name,c.func,laidOutB P).2.2.2.2.2) Tryz.prog 3 Tryz.f3 (Rows.OpenSpec.upto Rows.joinMatchesQuerySemanticsSpec).bare Rows.joinMatchesQuerySemanticsUptoRow = true := by kernel_rfl
set_option maxRecDepth 100000 in
theorem law_mapsRowed : (fun (P : Program) (f : FuncId) (fn : Func) (s : ChangeSpec) (c : OpenClaim)=>(P.funcs.size,f,fn.params.size,s.name,c.func,mapsRowed P).2.2.2.2.2) Tryz.prog 3 Tryz.f3 (Rows.OpenSpec.upto Rows.joinMatchesQuerySemanticsSpec).bare Rows.joinMatchesQuerySemanticsUptoRow = true := by kernel_rfl
set_option maxRecDepth 100000 in
theorem law_rr : (fun (P : Program) (f : FuncId) (fn : Func) (s : ChangeSpec) (c : OpenClaim)=>(P.funcs.size,f,fn.params.size,s.name,c.func,fn.params.all (P.readableRec ·)).2.2.2.2.2) Tryz.prog 3 Tryz.f3 (Rows.OpenSpec.upto Rows.joinMatchesQuerySemanticsSpec).bare Rows.joinMatchesQuerySemanticsUptoRow = true := by kernel_rfl
set_option maxRecDepth 100000 in
theorem law_nt : (fun (P : Program) (f : FuncId) (fn : Func) (s : ChangeSpec) (c : OpenClaim)=>(P.funcs.size,f,fn.params.size,s.name,c.func,namedTie P c.named s.vars).2.2.2.2.2) Tryz.prog 3 Tryz.f3 (Rows.OpenSpec.upto Rows.joinMatchesQuerySemanticsSpec).bare Rows.joinMatchesQuerySemanticsUptoRow = true := by kernel_rfl
set_option maxRecDepth 100000 in
theorem law_st : (fun (P : Program) (f : FuncId) (fn : Func) (s : ChangeSpec) (c : OpenClaim)=>(P.funcs.size,f,fn.params.size,s.name,c.func,(c.stops == []) && (P.stops == []) && (c.knobs == []) && (P.stopKnobs == [])).2.2.2.2.2) Tryz.prog 3 Tryz.f3 (Rows.OpenSpec.upto Rows.joinMatchesQuerySemanticsSpec).bare Rows.joinMatchesQuerySemanticsUptoRow = true := by kernel_rfl
set_option maxRecDepth 100000 in
theorem law_inPlace : (fun (P : Program) (f : FuncId) (fn : Func) (s : ChangeSpec) (c : OpenClaim)=>(P.funcs.size,f,fn.params.size,s.name,c.func,c.inPlace == P.inPlace f).2.2.2.2.2) Tryz.prog 3 Tryz.f3 (Rows.OpenSpec.upto Rows.joinMatchesQuerySemanticsSpec).bare Rows.joinMatchesQuerySemanticsUptoRow = true := by kernel_rfl
set_option maxRecDepth 100000 in
theorem law_unf : (fun (P : Program) (f : FuncId) (fn : Func) (s : ChangeSpec) (c : OpenClaim)=>(P.funcs.size,f,fn.params.size,s.name,c.func,c.unfollowed == P.unfollowed f).2.2.2.2.2) Tryz.prog 3 Tryz.f3 (Rows.OpenSpec.upto Rows.joinMatchesQuerySemanticsSpec).bare Rows.joinMatchesQuerySemanticsUptoRow = true := by kernel_rfl
set_option maxRecDepth 100000 in
theorem law_rec : (fun (P : Program) (f : FuncId) (fn : Func) (s : ChangeSpec) (c : OpenClaim)=>(P.funcs.size,f,fn.params.size,s.name,c.func,c.recurses == P.recurses f).2.2.2.2.2) Tryz.prog 3 Tryz.f3 (Rows.OpenSpec.upto Rows.joinMatchesQuerySemanticsSpec).bare Rows.joinMatchesQuerySemanticsUptoRow = true := by kernel_rfl
set_option maxRecDepth 100000 in
theorem law_named : (fun (P : Program) (f : FuncId) (fn : Func) (s : ChangeSpec) (c : OpenClaim)=>(P.funcs.size,f,fn.params.size,s.name,c.func,c.named == P.varsNamed f).2.2.2.2.2) Tryz.prog 3 Tryz.f3 (Rows.OpenSpec.upto Rows.joinMatchesQuerySemanticsSpec).bare Rows.joinMatchesQuerySemanticsUptoRow = true := by kernel_rfl
set_option maxRecDepth 100000 in
theorem law_maps : (fun (P : Program) (f : FuncId) (fn : Func) (s : ChangeSpec) (c : OpenClaim)=>(P.funcs.size,f,fn.params.size,s.name,c.func,(c.maps == (fn.params.toList ++ s.plain.varTypes P).any (P.mapsRec ·)) && (c.ifaces == (fn.params.toList ++ s.plain.varTypes P).any (P.ifacesRec ·)) && (c.mapsOut == P.mapsAmong fn.resultTypes.toList)).2.2.2.2.2) Tryz.prog 3 Tryz.f3 (Rows.OpenSpec.upto Rows.joinMatchesQuerySemanticsSpec).bare Rows.joinMatchesQuerySemanticsUptoRow = true := by kernel_rfl
set_option maxRecDepth 100000 in
theorem law_loops : (fun (P : Program) (f : FuncId) (fn : Func) (s : ChangeSpec) (c : OpenClaim)=>(P.funcs.size,f,fn.params.size,s.name,c.func,(c.loops == (fn.params.toList ++ s.plain.varTypes P).any (P.loopsFrom ·))).2.2.2.2.2) Tryz.prog 3 Tryz.f3 (Rows.OpenSpec.upto Rows.joinMatchesQuerySemanticsSpec).bare Rows.joinMatchesQuerySemanticsUptoRow = true := by kernel_rfl
set_option maxRecDepth 100000 in
theorem law_wide : (fun (P : Program) (f : FuncId) (fn : Func) (s : ChangeSpec) (c : OpenClaim)=>(P.funcs.size,f,fn.params.size,s.name,c.func,(c.wideKeys == (fn.params.toList ++ s.plain.varTypes P ++ fn.resultTypes.toList).any (P.wideKeysFrom ·))).2.2.2.2.2) Tryz.prog 3 Tryz.f3 (Rows.OpenSpec.upto Rows.joinMatchesQuerySemanticsSpec).bare Rows.joinMatchesQuerySemanticsUptoRow = true := by kernel_rfl
set_option maxRecDepth 100000 in
theorem law_rest1 : (fun (P : Program) (f : FuncId) (fn : Func) (s : ChangeSpec) (c : OpenClaim)=>(P.funcs.size,f,fn.params.size,s.name,c.func,s.vars.all (P.varReadable ·) && fn.resultTypes.all (fun t=>P.readableRec t && decide (t < P.types.size)) && (c.ifacesOut == fn.resultTypes.toList.any (P.ifacesRec ·)) && (c.loopsOut == fn.resultTypes.toList.any (P.loopsFrom ·))).2.2.2.2.2) Tryz.prog 3 Tryz.f3 (Rows.OpenSpec.upto Rows.joinMatchesQuerySemanticsSpec).bare Rows.joinMatchesQuerySemanticsUptoRow = true := by kernel_rfl
set_option maxRecDepth 100000 in
theorem law_plainKeys : (fun (P : Program) (f : FuncId) (fn : Func) (s : ChangeSpec) (c : OpenClaim)=>(P.funcs.size,f,fn.params.size,s.name,c.func,c.plainKeys == P.plainKeys).2.2.2.2.2) Tryz.prog 3 Tryz.f3 (Rows.OpenSpec.upto Rows.joinMatchesQuerySemanticsSpec).bare Rows.joinMatchesQuerySemanticsUptoRow = true := by kernel_rfl
set_option maxRecDepth 100000 in
theorem law_rest2 : (fun (P : Program) (f : FuncId) (fn : Func) (s : ChangeSpec) (c : OpenClaim)=>(P.funcs.size,f,fn.params.size,s.name,c.func,c.shortTexts.isNone && P.stopsHeard && P.mayEnter && (c.lifted == P.liftsFinal) && (P.make == some c.make)).2.2.2.2.2) Tryz.prog 3 Tryz.f3 (Rows.OpenSpec.upto Rows.joinMatchesQuerySemanticsSpec).bare Rows.joinMatchesQuerySemanticsUptoRow = true := by kernel_rfl
set_option maxRecDepth 100000 in
theorem law_kinds : (fun (P : Program) (f : FuncId) (fn : Func) (s : ChangeSpec) (c : OpenClaim)=>(P.funcs.size,f,fn.params.size,s.name,c.func,(c.kinds == (if c.domain.isEmpty then [] else fn.params.toList.map fun t=>match P.underlying t with | some (.int k)=>some k | _=>none)) && (c.pinned == c.pinnedBy)).2.2.2.2.2) Tryz.prog 3 Tryz.f3 (Rows.OpenSpec.upto Rows.joinMatchesQuerySemanticsSpec).bare Rows.joinMatchesQuerySemanticsUptoRow = true := by kernel_rfl
set_option maxRecDepth 100000 in
theorem law_veil : (fun (P : Program) (f : FuncId) (fn : Func) (s : ChangeSpec) (c : OpenClaim)=>(P.funcs.size,f,fn.params.size,s.name,c.func,(c.veiled == (fn.params.toList ++ s.plain.varTypes P ++ fn.resultTypes.toList).any (P.veiledRec ·)) && c.veiledFits P fn.params.toList (fn.params.toList ++ s.plain.varTypes P ++ fn.resultTypes.toList)).2.2.2.2.2) Tryz.prog 3 Tryz.f3 (Rows.OpenSpec.upto Rows.joinMatchesQuerySemanticsSpec).bare Rows.joinMatchesQuerySemanticsUptoRow = true := by kernel_rfl
set_option maxRecDepth 100000 in
theorem law_facts : joinedFacts Tryz.prog 3 Tryz.f3 (Rows.OpenSpec.upto Rows.joinMatchesQuerySemanticsSpec).bare Rows.joinMatchesQuerySemanticsUptoRow = true := joined_of law_wf law_laid law_mapsRowed law_rr law_nt law_st law_inPlace law_unf law_rec law_named law_maps law_loops law_wide law_rest1 law_plainKeys law_rest2 law_kinds law_veil
theorem gl_of {W : World} (hL : laidMet Tryz.prog Rows.joinMatchesQuerySemanticsUptoRow.laid W) : Gl W [] := by
 have h0 : laidMet Tryz.prog Rows.joinMatchesQuerySemanticsUptoRow.laid W := hL
 have hp : Lib.TabIs Tryz.prog W "internal/strconv.uint64pow10" .u64 Lib.pow10Tab :=
  Lib.tabIs_of_head (t := 261) (e := 172) (n := 20) (g := 1) (by kernel_rfl) (by kernel_rfl) Tryz.underlying261 Tryz.underlying172 (by kernel_rfl) (by kernel_rfl) h0.tail.tail
 have ht : ∃ t fz,W.heap[1]? = some (.cells (Lib.pow10Tab.map fun v=>Value.int .u64 v).toArray t fz) := by
  simp only [Lib.TabIs,World.var?,g_pow,Option.bind_some] at hp
  split at hp
  ·rename_i cs t fz hc
   exact ⟨t,fz,by rw [hc,Option.some.inj hp]⟩
  ·cases hp
 refine ⟨⟨?_,?_,?_⟩,?_⟩
 ·intro b hb; simp [glI] at hb
 ·intro x hx
  simp only [glT,List.mem_singleton] at hx
  subst hx
  exact ht
 ·intro b hb; simp [glN] at hb
 ·intro b hb
  refine ⟨?_,by simp⟩
  simp only [glB,glI,glT,glN,List.map_cons,List.map_nil,List.nil_append,List.append_nil,List.mem_cons,List.mem_nil_iff,or_false] at hb
  obtain ⟨t,fz,ht⟩ := ht
  subst hb
  exact (Array.getElem?_eq_some_iff.1 ht).1
def putVar (h : Array Go.Obj) (g : Nat) (cs : Array Value) : Array Go.Obj := h.modify g fun
 | .cells _ t fz=>.cells cs t fz
 | o=>o
def lowBlk : Nat := (World.holding Tryz.prog default ⟨#[],#[],[]⟩).heap.size
def sU (os : Os) : World :=
 let w0 := World.holding Tryz.prog os ⟨#[.cells #[.string ⟨#[118,97,108,117,101,32,111,117,116,32,111,102,32,114,97,110,103,101]⟩] 296,.cells #[.string ⟨#[105,110,118,97,108,105,100,32,115,121,110,116,97,120]⟩] 296],#[],[]⟩
 { w0 with heap := (putVar (putVar (putVar (putVar (putVar w0.heap 2 #[.int .u8 0,.int .u8 1,.int .u8 28,.int .u8 2,.int .u8 29,.int .u8 14,.int .u8 24,.int .u8 3,.int .u8 30,.int .u8 22,.int .u8 20,.int .u8 15,.int .u8 25,.int .u8 17,.int .u8 4,.int .u8 8,.int .u8 31,.int .u8 27,.int .u8 13,.int .u8 23,.int .u8 21,.int .u8 19,.int .u8 16,.int .u8 7,.int .u8 26,.int .u8 12,.int .u8 18,.int .u8 6,.int .u8 11,.int .u8 5,.int .u8 10,.int .u8 9]) 3 #[.int .u8 0,.int .u8 1,.int .u8 56,.int .u8 2,.int .u8 57,.int .u8 49,.int .u8 28,.int .u8 3,.int .u8 61,.int .u8 58,.int .u8 42,.int .u8 50,.int .u8 38,.int .u8 29,.int .u8 17,.int .u8 4,.int .u8 62,.int .u8 47,.int .u8 59,.int .u8 36,.int .u8 45,.int .u8 43,.int .u8 51,.int .u8 22,.int .u8 53,.int .u8 39,.int .u8 33,.int .u8 30,.int .u8 24,.int .u8 18,.int .u8 12,.int .u8 5,.int .u8 63,.int .u8 55,.int .u8 48,.int .u8 27,.int .u8 60,.int .u8 41,.int .u8 37,.int .u8 16,.int .u8 46,.int .u8 35,.int .u8 44,.int .u8 21,.int .u8 52,.int .u8 32,.int .u8 23,.int .u8 11,.int .u8 54,.int .u8 26,.int .u8 40,.int .u8 15,.int .u8 34,.int .u8 20,.int .u8 31,.int .u8 10,.int .u8 25,.int .u8 14,.int .u8 19,.int .u8 9,.int .u8 13,.int .u8 8,.int .u8 7,.int .u8 6]) 1 #[.int .u64 1,.int .u64 10,.int .u64 100,.int .u64 1000,.int .u64 10000,.int .u64 100000,.int .u64 1000000,.int .u64 10000000,.int .u64 100000000,.int .u64 1000000000,.int .u64 10000000000,.int .u64 100000000000,.int .u64 1000000000000,.int .u64 10000000000000,.int .u64 100000000000000,.int .u64 1000000000000000,.int .u64 10000000000000000,.int .u64 100000000000000000,.int .u64 1000000000000000000,.int .u64 10000000000000000000]) 5 #[.iface 294 (.pointer (some ⟨lowBlk,0,none⟩))]) 4 #[.iface 294 (.pointer (some ⟨lowBlk + 1,0,none⟩))]) }
set_option maxRecDepth 100000 in
theorem laid_met (os : Os) : laidMet Tryz.prog Rows.joinMatchesQuerySemanticsUptoRow.laid ((sU os).forCall (fun _ _=>0) ⟨#[],#[.agg #[.slice none 0 0,.slice none 0 0,.slice none 0 0],.slice none 0 0,.agg #[.int .i64 0,.string ⟨#[]⟩,.slice none 0 0,.slice none 0 0,.slice none 0 0,.slice none 0 0,.int .i64 0,.int .i64 0,.slice none 0 0],.agg #[.int .i64 0,.string ⟨#[]⟩,.slice none 0 0,.slice none 0 0,.slice none 0 0,.slice none 0 0,.int .i64 0,.int .i64 0,.slice none 0 0],.string ⟨#[]⟩,.string ⟨#[]⟩,.bool false,.slice none 0 0],[]⟩).memory :=
 laidMet_of_run' 8 (by kernel_rfl) (by kernel_rfl)
theorem law_reads (os : Os) {H : Type} (enc : TypeId × Value → H) : ∃ mO,DataW.whole enc Tryz.prog ((sU os).forCall (fun _ _=>0) ⟨#[],#[.agg #[.slice none 0 0,.slice none 0 0,.slice none 0 0],.slice none 0 0,.agg #[.int .i64 0,.string ⟨#[]⟩,.slice none 0 0,.slice none 0 0,.slice none 0 0,.slice none 0 0,.int .i64 0,.int .i64 0,.slice none 0 0],.agg #[.int .i64 0,.string ⟨#[]⟩,.slice none 0 0,.slice none 0 0,.slice none 0 0,.slice none 0 0,.int .i64 0,.int .i64 0,.slice none 0 0],.string ⟨#[]⟩,.string ⟨#[]⟩,.bool false,.slice none 0 0],[]⟩).memory Tryz.f3.params.toList (Rows.OpenSpec.upto Rows.joinMatchesQuerySemanticsSpec).vars false (#[.agg #[.slice none 0 0,.slice none 0 0,.slice none 0 0],.slice none 0 0,.agg #[.int .i64 0,.string ⟨#[]⟩,.slice none 0 0,.slice none 0 0,.slice none 0 0,.slice none 0 0,.int .i64 0,.int .i64 0,.slice none 0 0],.agg #[.int .i64 0,.string ⟨#[]⟩,.slice none 0 0,.slice none 0 0,.slice none 0 0,.slice none 0 0,.int .i64 0,.int .i64 0,.slice none 0 0],.string ⟨#[]⟩,.string ⟨#[]⟩,.bool false,.slice none 0 0] : Array Value).toList 8 = some ([.agg [.nil,.nil,.nil],.nil,.agg [.lit (.int .i64 0),.lit (.string []),.nil,.nil,.nil,.nil,.lit (.int .i64 0),.lit (.int .i64 0),.nil],.agg [.lit (.int .i64 0),.lit (.string []),.nil,.nil,.nil,.nil,.lit (.int .i64 0),.lit (.int .i64 0),.nil],.lit (.string []),.lit (.string []),.lit (.bool false),.nil],[],mO) :=
 ⟨[],by kernel_rfl⟩
set_option maxRecDepth 100000 in
theorem law_lifted (os : Os) (started : os.Started) (H : Type) (enc : TypeId × Value → H) (F : Stop.Interp) :
  ReturnsInHanded {} Tryz.checked os 3 .any ((Rows.OpenSpec.upto Rows.joinMatchesQuerySemanticsSpec).preRow enc Tryz.prog Tryz.f3 Rows.joinMatchesQuerySemanticsUptoRow.domain false Rows.joinMatchesQuerySemanticsUptoRow.laid) (((Rows.OpenSpec.upto Rows.joinMatchesQuerySemanticsSpec).at F).post enc Tryz.prog Tryz.f3 false true false false) := by
 obtain ⟨mO,hx⟩ := law_reads os enc
 refine returnsInHanded_of_row (C := Tryz.checked) (s := Rows.OpenSpec.upto Rows.joinMatchesQuerySemanticsSpec) own_knob started (by kernel_rfl) Tryz.func3
  (witness_row_at (enc := enc) (C := Tryz.checked) false (sU os) #[.agg #[.slice none 0 0,.slice none 0 0,.slice none 0 0],.slice none 0 0,.agg #[.int .i64 0,.string ⟨#[]⟩,.slice none 0 0,.slice none 0 0,.slice none 0 0,.slice none 0 0,.int .i64 0,.int .i64 0,.slice none 0 0],.agg #[.int .i64 0,.string ⟨#[]⟩,.slice none 0 0,.slice none 0 0,.slice none 0 0,.slice none 0 0,.int .i64 0,.int .i64 0,.slice none 0 0],.string ⟨#[]⟩,.string ⟨#[]⟩,.bool false,.slice none 0 0] rfl (by kernel_rfl) (by kernel_rfl) (by kernel_rfl)
   (OpenSpec.preRow_of_cond 8 hx (by kernel_rfl) (fun k hk=>by obtain rfl := Option.some.inj hk; kernel_rfl) (by kernel_rfl) (laid_met os))) ?_
 intro W base args ds gs before hval hW _ hk hsz hL _ _
 have hN : ((ds ++ gs).map (fun d=>Rows.uptoBulk d)).sum ≤ 1048576 := by
  rw [qp]; exact of_decide_eq_true (hk Rows.uptoSmall rfl)
 refine law_callsB (s := Rows.joinMatchesQuerySemanticsSpec) (tb := 4) bulk_is laid_out rfl ?_ rfl Tryz.underlying4 ?_ lawTypes_ok lawTypes_info ?_ law_args hval hW (gl_of hL) hsz hN
 ·rw [Tryz.params3]
  intro t ht
  simp only [List.mem_cons,List.mem_nil_iff,or_false] at ht
  rcases ht with rfl | rfl | rfl | rfl | rfl | rfl | rfl | rfl <;> exact ⟨by kernel_rfl,of_decide_eq_true (by kernel_rfl)⟩
 ·intro ds hlen
  rw [Tryz.params3] at hlen
  match ds,hlen with
  | [d0,d1,d2,d3,d4,d5,d6,d7],_=>rfl
 ·rw [Tryz.params3]
  intro t ht
  simp only [List.mem_cons,List.mem_nil_iff,or_false] at ht
  rcases ht with rfl | rfl | rfl | rfl | rfl | rfl | rfl | rfl <;> simp [lawTypes]
theorem law_said : Rows.JoinMatchesQuerySemanticsUptoSaid :=
 OpenClaim.holds_of_cond 3 Tryz.f3 rfl rfl rfl rfl rfl rfl rfl ⟨rfl,rfl,rfl,rfl,rfl⟩ rfl rfl rfl rfl rfl (by kernel_rfl) Tryz.func3 law_facts
  (of_decide_eq_true (by kernel_rfl)) (by unfold Func.isWrapper; first | (rw [zp (by decide +kernel)]; kernel_rfl) | (rw [zy (by decide +kernel)]; exact ⟨rfl,rfl⟩))
  (fun os started H enc _ F=>by rw [OpenClaim.pre_eq_preRow]; exact law_lifted os started H enc F)
theorem law_plain (f : FuncId) (fn : Func) (hf : Tryz.pinned.checked.prog.funcNamed "stemma/stemkeep3.JoinMatchesQuerySemantics" = some f) (hfn : Tryz.pinned.checked.prog.funcs[f]? = some fn) :
  true = Tryz.pinned.checked.prog.looks [] ∧ ∀ (j : Nat) t,fn.params[j]? = some t → Tryz.pinned.checked.prog.wantsStandIn t = false := by
 obtain rfl : f = 3 := Option.some.inj ((show Tryz.prog.funcNamed "stemma/stemkeep3.JoinMatchesQuerySemantics" = some 3 by kernel_rfl).symm.trans hf) |>.symm
 obtain rfl : fn = Tryz.f3 := (Option.some.inj (Tryz.func3.symm.trans hfn)).symm
 refine ⟨by kernel_rfl,fun j t ht=>?_⟩
 have hall : (Tryz.f3.params.toList.all fun u=>!Tryz.prog.wantsStandIn u) = true := by kernel_rfl
 have hm : t ∈ Tryz.f3.params.toList := by simpa using Array.mem_of_getElem? ht
 exact (show Tryz.prog.wantsStandIn t = false by simpa using List.all_eq_true.1 hall t hm)
theorem joinMatchesQuerySemanticsUpto_holds : Rows.JoinMatchesQuerySemanticsUptoCardSaid :=
 Claim7.holds_tied_plain_at .later [] _ _ _ _ law_said (fun _ h=>by cases h) (by kernel_rfl) (fun _ h=>by cases h) joinMatchesQuerySemanticsUpto_row_tie rfl ⟨rfl,rfl⟩ (by kernel_rfl) rfl law_plain (by kernel_rfl)
end
end Go.Proofs.YtifhafpljncplaaGreatDoor
