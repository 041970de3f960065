/- pushFiltersReachesFixpointUpto_holds, part 6: the layer, the plain functions and what they compute; conditions as in the statement. -/
import Derived.Test.YtppmcepdcpmpcaaGreatDoorPfe
set_option maxHeartbeats 4000000
namespace Go.Proofs.YtppmcepdcpmpcaaGreatDoor
noncomputable section
open Go Go.Ab
inductive ArgsE : LExpr → Prop
 | mk {e : LExpr} (h : e.args.length ≤ 1000000) (h' : ∀ a ∈ e.args,ArgsE a) : ArgsE e
theorem ArgsE.len {e : LExpr} (h : ArgsE e) : e.args.length ≤ 1000000 := by cases h with | mk h _=>exact h
theorem ArgsE.sub {e a : LExpr} (h : ArgsE e) (ha : a ∈ e.args) : ArgsE a := by cases h with | mk _ h'=>exact h' a ha
theorem argsE_bulk (e : LExpr) : aW (am e) ≤ 1048576 → ArgsE e := by
 induction e using LExpr.ind with
 | _ e ih =>
  intro hb
  have h1 := fC oQ e.args
  have h2 := pm e
  exact .mk (by omega) fun a ha=>ih a ha (by have := bulk_arg ha; omega)
theorem subst_idA : ∀ (n : Nat) (e : LExpr),SizeOf.sizeOf e ≤ n → ArgsE e → bp (n + 1) e [] [] = some e
 | 0,e,h,_=>by cases e; simp at h
 | n + 1,e,h,hb=>by
  have ih := fun a (ha : a ∈ e.args)=>subst_idA n a (by have := args_lt ha; omega) (hb.sub ha)
  have hl := hb.len
  rw [bp]
  unfold dW
  have hi : bH [] e.name = some (-1) := rfl
  rw [hi]
  have hr := rMa (step := fun (_ : Nat) (x2 : LExpr) (s2 : List LExpr)=>ag (bp (n + 1) x2 [] []) fun x45=>ag (cq 88 s2 ([x45] : List LExpr)) fun (x47 : List LExpr)=>some (Flow.next (ρ := Empty) x47)) (xs := e.args) (s := [])
   (fun k=>e.args.take k) (by simp) (fun k x hk=>by
    have hkl := (zg.1 hk).1
    rw [ih x (cO hk),bPs,cK (by decide) (by simp; omega),bPs,List.take_add_one,hk]
    rfl)
  rw [hr]
  cases e.kind == 2 <;> cases e <;> simp [bPs,Flow.thenR,Flow.thenP,LExpr.kind,LExpr.name,LExpr.index,LExpr.value,LExpr.args]
theorem pH {e : LExpr} (h : ArgsE e) : ∀ m,SizeOf.sizeOf e + 2 ≤ m → fW m e = some e := fun m hm=>by
 obtain ⟨m,rfl⟩ : ∃ k,m = k + 2 := ⟨m - 2,by omega⟩
 rw [fW]
 unfold kH
 show (ag (bp (m + 1) e [] []) fun x4=>some x4) = some e
 rw [subst_idA m e (by omega) h]
 rfl
theorem lM {e : LExpr} (h : ArgsE e) : eg e = some e := gA _ (pH h)
theorem subst_ev (names : List (List UInt8)) {l : List LExpr} (hl : ∀ x ∈ l,ArgsE x) (e : LExpr) : ArgsE e → ∃ N r,(∀ n,N ≤ n → bp n e names l = some r) ∧ ArgsE r := by
 induction e using LExpr.ind with
 | _ e ih =>
  intro he
  have hall : ∀ a ∈ e.args,∃ N r,(∀ n,N ≤ n → bp n a names l = some r) ∧ ArgsE r := fun a ha=>ih a ha (he.sub ha)
  let g : LExpr → LExpr := fun a=>(cD a names l).getD a
  have hg : ∀ a ∈ e.args,(∃ N,∀ n,N ≤ n → bp n a names l = some (g a)) ∧ ArgsE (g a) := fun a ha=>by
   obtain ⟨N,r,h1,h2⟩ := hall a ha
   have : g a = r := by show (cD a names l).getD a = r; rw [show cD a names l = some r from gA N h1]; rfl
   rw [this]
   exact ⟨⟨N,h1⟩,h2⟩
  obtain ⟨N,hN⟩ := jU (p := fun a n=>bp n a names l = some (g a)) e.args fun a ha=>(hg a ha).1
  have hidx : bH names e.name = some (bJ (fun x=>e.name == x) names) := by
   unfold bH
   exact idxF2
  -- the arguments,one by one
  have loop : ∀ n,N ≤ n → aH (σ := List LExpr) (ρ := Empty) (fun (_ : Nat) (x2 : LExpr) (s2 : List LExpr) =>
    ag ((fun b0 b1 b2=>bp n b0 b1 b2) x2 names l) fun x45 =>
    ag (cq 88 s2 ([x45] : List LExpr)) fun (x47 : List LExpr) =>
    some (.next x47)) 0 e.args [] = some (.next (e.args.map g)) := fun n hn=>gL g (fun k x hk=>by
   have hkl := (zg.1 hk).1
   have := he.len
   dsimp only
   rw [hN n hn x (cO hk),bPs,cK (by decide) (by simp; omega),bPs])
  have hargs : ArgsE (LExpr.mk e.kind e.name e.index e.value (e.args.map g)) := by
   refine .mk (by simp only [LExpr.args,zl]; exact he.len) fun a ha=>?_
   simp only [LExpr.args,List.mem_map] at ha
   obtain ⟨b,hb,rfl⟩ := ha
   exact (hg b hb).2
  by_cases hcase : e.kind = 2 ∧ 0 ≤ bJ (fun x=>e.name == x) names ∧ bJ (fun x=>e.name == x) names < (l.length : Int)
  ·obtain ⟨hk,h0,h1⟩ := hcase
   have hlt : (bJ (fun x=>e.name == x) names).toNat < l.length := by omega
   have hx := hl _ (List.getElem_mem hlt)
   refine ⟨SizeOf.sizeOf l[(bJ (fun x=>e.name == x) names).toNat] + 3,l[(bJ (fun x=>e.name == x) names).toNat],fun n hn=>?_,hx⟩
   obtain ⟨n,rfl⟩ : ∃ k,n = k + 1 := ⟨n - 1,by omega⟩
   rw [bp]
   unfold dW
   rw [gS hk,zc,hidx,bPs,zt h0,zc,zt h1,zc,je h0 (ze hlt),bPs]
   dsimp only
   rw [pH hx n (by omega)]
   rfl
  ·refine ⟨N + 1,LExpr.mk e.kind e.name e.index e.value (e.args.map g),fun n hn=>?_,hargs⟩
   obtain ⟨n,rfl⟩ : ∃ k,n = k + 1 := ⟨n - 1,by omega⟩
   rw [bp]
   unfold dW
   rw [hidx,loop n (by omega)]
   by_cases hk : e.kind = 2
   ·rw [gS hk,zc,bPs]
    by_cases h0 : 0 ≤ bJ (fun x=>e.name == x) names
    ·rw [zt h0,zc,zf (fun h1=>hcase ⟨hk,h0,h1⟩),zd]
     rfl
    ·rw [zf h0,zd]
     rfl
   ·rw [fK hk,zd]
    rfl
structure NodeOk (x : LQuery) : Prop where
 exprs : x.exprs.length ≤ 1000000
 aggs : x.aggregates.length ≤ 1000000
 ins : x.inputs.length ≤ 1000000
 args : ∀ e ∈ x.exprs,ArgsE e
 calls : ∀ a ∈ x.aggregates,a.args.length ≤ 1000000 ∧ ∀ e ∈ a.args,ArgsE e
def GQ (q : LQuery) : Prop := ∀ x ∈ bP q,NodeOk x
theorem GQ.self {q : LQuery} (h : GQ q) : NodeOk q := h q (oN q)
theorem GQ.sub {q x : LQuery} (h : GQ q) (hx : x ∈ q.inputs) : GQ x := fun y hy=>h y (nE hx hy)
theorem GQ.mk {q : LQuery} (h : NodeOk q) (hx : ∀ x ∈ q.inputs,GQ x) : GQ q := fun y hy=>by
 rw [eh] at hy
 rcases List.mem_cons.1 hy with rfl | hy
 ·exact h
 ·obtain ⟨l,hl,hy⟩ := List.mem_flatten.1 hy
  obtain ⟨x,hx',rfl⟩ := List.mem_map.1 hl
  exact hx x hx' y hy
theorem GQ.small {q : LQuery} (h : GQ q) (hn : (bP q).length ≤ 10000000) : SmallQ q := ⟨hn,fun x hx=>⟨(h x hx).exprs,(h x hx).aggs⟩⟩
theorem query_pos (q : LQuery) : 2 ≤ aW (ap q) := by rw [aK]; simp only [ao,aW,PV.bulk,ac]; omega
theorem gq_bulk : ∀ q : LQuery,aW (ao q) ≤ 1048576 → GQ q := by
 refine LQuery.ind fun q ih hb=>?_
 have h1 := fC (f := am) oQ q.exprs
 have h2 := fC (f := aO) call_pos q.aggregates
 have h3 := fC (f := ap) query_pos q.inputs
 have hb' := hb
 simp only [ao,aW,PV.bulk] at hb'
 refine GQ.mk ⟨by omega,by omega,by omega,fun e he=>argsE_bulk e (Nat.le_trans (ph he) hb),fun a ha=>?_⟩ (fun x hx=>ih x hx (Nat.le_trans (bulk_sub hx) hb))
 have hba := Nat.le_trans (bulk_agg ha) hb
 have hla := args_len a
 exact ⟨by omega,fun e he=>argsE_bulk e (Nat.le_trans (bulk_args he) hba)⟩
theorem exprs_eqA {l : List LExpr} (hl : l.length ≤ 1000000) (hb : ∀ e ∈ l,ArgsE e) : eQ l = some l := by
 unfold eQ
 rw [gL (xs := l) id (fun k x hk=>by
  have hlt := (zg.1 hk).1
  rw [lM (hb x (cO hk)),bPs,cK (by decide) (by simp; omega),bPs]
  rfl),bPs,bV,List.map_id]
theorem loopE {q : LQuery} (h : NodeOk q) : aH (σ := List LExpr) (ρ := Empty) (fun (_ : Nat) (x1 : LExpr) (s1 : List LExpr) =>
  ag (eg x1) fun x32 =>
  ag (cq 88 s1 ([x32] : List LExpr)) fun (x34 : List LExpr) =>
  some (.next x34)) 0 q.exprs [] = some (.next q.exprs) := by
 rw [gL (xs := q.exprs) id (fun k x hk=>by
  have hlt := (zg.1 hk).1
  have := h.exprs
  rw [lM (h.args x (cO hk)),bPs,cK (by decide) (by simp; omega),bPs]
  rfl),List.map_id]
theorem loopA {q : LQuery} (h : NodeOk q) : aH (σ := List LAggregateCall) (ρ := Empty) (fun (_ : Nat) (x2 : LAggregateCall) (s2 : List LAggregateCall) =>
  ag (eQ x2.args) fun x52 =>
  ag (cq 56 s2 ([(LAggregateCall.mk x2.name x2.function x52)] : List LAggregateCall)) fun (x55 : List LAggregateCall) =>
  some (.next x55)) 0 q.aggregates [] = some (.next q.aggregates) := by
 rw [gL (xs := q.aggregates) id (fun k x hk=>by
  have hlt := (zg.1 hk).1
  have := h.aggs
  obtain ⟨ha,hb⟩ := h.calls x (cO hk)
  rw [exprs_eqA ha hb,bPs,cK (by decide) (by simp; omega),bPs]
  rfl),List.map_id]
theorem cloneG_ev : ∀ q : LQuery,GQ q → ∃ N,∀ n,N ≤ n → gB n q = some q := by
 refine LQuery.ind fun q ih h=>?_
 obtain ⟨N,hN⟩ := jU (p := fun x n=>gB n x = some x) q.inputs fun x hx=>ih x hx (h.sub hx)
 refine ⟨N + 1,fun n hn=>?_⟩
 obtain ⟨n,rfl⟩ : ∃ k,n = k + 1 := ⟨n - 1,by omega⟩
 rw [gB]
 unfold kg
 rw [loopE h.self,bPs,bV,loopA h.self,bPs,bV]
 rw [gL (xs := q.inputs) id (fun k x hk=>by
  have hlt := (zg.1 hk).1
  have := h.self.ins
  dsimp only
  rw [hN n (by omega) x (cO hk),bPs,cK (by decide) (by simp; omega),bPs]
  rfl),bPs,bV,List.map_id]
 cases q
 rfl
theorem cloneG {q : LQuery} (h : GQ q) : gE q = some q := by
 obtain ⟨N,h⟩ := cloneG_ev q h
 exact gA N h
theorem loopI {q : LQuery} (h : GQ q) : aH (σ := List LQuery) (ρ := Empty) (fun (_ : Nat) (x3 : LQuery) (s3 : List LQuery) =>
  ag (gE x3) fun x68 =>
  ag (cq 160 s3 ([x68] : List LQuery)) fun (x70 : List LQuery) =>
  some (.next x70)) 0 q.inputs [] = some (.next q.inputs) := by
 rw [gL (xs := q.inputs) id (fun k x hk=>by
  have hlt := (zg.1 hk).1
  have := h.self.ins
  rw [cloneG (h.sub (cO hk)),bPs,cK (by decide) (by simp; omega),bPs]
  rfl),List.map_id]
theorem cloneI {q : LQuery} (h : GQ q) : fw q = some q := by
 unfold fw
 rw [loopE h.self,bPs,bV,loopA h.self,bPs,bV,loopI h,bPs,bV]
 cases q
 rfl
theorem cloneB {q x : LQuery} (h : GQ q) (hx : q.inputs = [x]) : ir q x = some (q,x) := by
 unfold ir
 rw [loopE h.self,bPs,bV,loopA h.self,bPs,bV,show aT [x] 0 = some x from rfl,bPs,cloneI (h.sub (by rw [hx]; simp)),bPs,← hx]
 cases q
 rfl
def bv (e : LExpr) : Nat := (e.args.attach.map fun x=>bv x.1).sum + 1
termination_by SizeOf.sizeOf e
decreasing_by exact args_lt x.2
theorem ig (e : LExpr) : bv e = (e.args.map bv).sum + 1 := by
 rw [bv,List.attach_map_val (f := bv)]
theorem oR (e : LExpr) : 1 ≤ bv e := by rw [ig]; omega
theorem sum_mem {α : Type} {f : α → Nat} {l : List α} {x : α} (h : x ∈ l) : f x ≤ (l.map f).sum := by
 induction l with
 | nil=>simp at h
 | cons y l ih =>
  simp only [List.map_cons,List.sum_cons]
  rcases List.mem_cons.1 h with rfl | h
  ·omega
  ·have := ih h; omega
theorem sum_len {α : Type} {f : α → Nat} {l : List α} (hf : ∀ x ∈ l,1 ≤ f x) : l.length ≤ (l.map f).sum := by
 induction l with
 | nil=>simp
 | cons y l ih =>
  have h1 := hf y (by simp)
  have h2 := ih fun x hx=>hf x (by simp [hx])
  simp only [List.map_cons,List.sum_cons,List.length_cons]
  omega
theorem sum_mul {α : Type} {f g : α → Nat} {M : Nat} {l : List α} (h : ∀ x ∈ l,f x ≤ g x * M) : (l.map f).sum ≤ (l.map g).sum * M := by
 induction l with
 | nil=>simp
 | cons y l ih =>
  have h1 := h y (by simp)
  have h2 := ih fun x hx=>h x (by simp [hx])
  simp only [List.map_cons,List.sum_cons,Nat.add_mul]
  omega
theorem sum_drop {α : Type} {f : α → Nat} {xs : List α} {j : Nat} {x : α} (h : xs[j]? = some x) : ((xs.drop j).map f).sum = f x + ((xs.drop (j + 1)).map f).sum := by
 obtain ⟨hlt,he⟩ := zg.1 h
 rw [List.drop_eq_getElem_cons hlt,he,List.map_cons,List.sum_cons]
theorem lk {e a : LExpr} (h : a ∈ e.args) : bv a + 1 ≤ bv e := by
 rw [ig e]
 have := sum_mem (f := bv) h
 omega
theorem jz (e : LExpr) : bv e ≤ 1000000 → ArgsE e := by
 induction e using LExpr.ind with
 | _ e ih =>
  intro h
  have h1 := sum_len (f := bv) (l := e.args) fun x _=>oR x
  have h2 := ig e
  exact .mk (by omega) fun a ha=>ih a ha (by have := lk ha; omega)
theorem cntE_bulk (e : LExpr) : bv e ≤ aW (am e) := by
 induction e using LExpr.ind with
 | _ e ih =>
  have h1 := pm e
  have h2 : ∀ l : List LExpr,(∀ x ∈ l,bv x ≤ aW (am x)) → (l.map bv).sum ≤ cP (l.map am) := by
   intro l hl
   induction l with
   | nil=>simp [cP]
   | cons y l ihl =>
    have a := hl y (by simp)
    have b := ihl fun x hx=>hl x (by simp [hx])
    simp only [List.map_cons,List.sum_cons,cP]
    omega
  have h3 := h2 e.args ih
  rw [ig]
  omega
theorem size_cnt (e : LExpr) : bv e ≤ 1000000 → (ez e).1 = (bv e : Int) := by
 induction e using LExpr.ind with
 | _ e ih =>
  intro h
  rw [sizeE_eq]
  have hc := ig e
  have key : ∀ (l : List LExpr) (a : Int × Int),(∀ x ∈ l,(ez x).1 = (bv x : Int)) → 0 ≤ a.1 → a.1 + ((l.map bv).sum : Int) ≤ 1000000 → ((l.map ez).foldl iy a).1 = a.1 + ((l.map bv).sum : Int) := by
   intro l
   induction l with
   | nil=>intro a _ _ _; simp
   | cons y l ihl =>
    intro a hl h0 h1
    have hy := hl y (by simp)
    have hp := oR y
    simp only [List.map_cons,List.sum_cons,List.foldl_cons] at h1 ⊢
    have hw : (iy a (ez y)).1 = a.1 + (bv y : Int) := by
     unfold iy
     simp only
     rw [hy,show wr (a.1 + (bv y : Int)) = IntKind.i64.wrap (a.1 + (bv y : Int)) from rfl,gN (by omega) (by omega)]
    rw [ihl (iy a (ez y)) (fun x hx=>hl x (by simp [hx])) (by rw [hw]; omega) (by rw [hw]; omega),hw]
    omega
  rw [key e.args (1,0) (fun x hx=>ih x hx (by have := lk hx; omega)) (by decide) (by simp only; omega)]
  simp only
  omega
theorem type_cnt {cols vars : List LCol} {e : LExpr} (h : bv e ≤ 1000000) (ht : (dA cols vars e).2.2 = 0) : bv e ≤ 60 := by
 unfold dA at ht
 by_cases c : (ez e).1 > 60 ∨ (ez e).2 > 12
 ·rw [zp c] at ht
  exact absurd ht (by decide)
 ·have := size_cnt e h
  omega
theorem pred_cnt {c : LChecker} {l : List LCol} {e : LExpr} (h : bv e ≤ 1000000) (ht : ca c l e = 0) : bv e ≤ 60 := by
 refine type_cnt (cols := l) (vars := c.vars) h ?_
 unfold ca at ht
 rw [bG] at ht
 by_cases k : (dA l c.vars e).2.2 = 0
 ·exact k
 ·rw [fK k,zd] at ht
  exact ht
theorem subst_evC (names : List (List UInt8)) {l : List LExpr} {M : Nat} (hM : 1 ≤ M) (hl : ∀ x ∈ l,ArgsE x ∧ bv x ≤ M) (e : LExpr) : ArgsE e → ∃ N r,(∀ n,N ≤ n → bp n e names l = some r) ∧ bv r ≤ bv e * M := by
 induction e using LExpr.ind with
 | _ e ih =>
  intro he
  have hall : ∀ a ∈ e.args,∃ N r,(∀ n,N ≤ n → bp n a names l = some r) ∧ bv r ≤ bv a * M := fun a ha=>ih a ha (he.sub ha)
  let g : LExpr → LExpr := fun a=>(cD a names l).getD a
  have hg : ∀ a ∈ e.args,(∃ N,∀ n,N ≤ n → bp n a names l = some (g a)) ∧ bv (g a) ≤ bv a * M := fun a ha=>by
   obtain ⟨N,r,h1,h2⟩ := hall a ha
   have : g a = r := by show (cD a names l).getD a = r; rw [show cD a names l = some r from gA N h1]; rfl
   rw [this]
   exact ⟨⟨N,h1⟩,h2⟩
  obtain ⟨N,hN⟩ := jU (p := fun a n=>bp n a names l = some (g a)) e.args fun a ha=>(hg a ha).1
  have hidx : bH names e.name = some (bJ (fun x=>e.name == x) names) := by
   unfold bH
   exact idxF2
  have loop : ∀ n,N ≤ n → aH (σ := List LExpr) (ρ := Empty) (fun (_ : Nat) (x2 : LExpr) (s2 : List LExpr) =>
    ag ((fun b0 b1 b2=>bp n b0 b1 b2) x2 names l) fun x45 =>
    ag (cq 88 s2 ([x45] : List LExpr)) fun (x47 : List LExpr) =>
    some (.next x47)) 0 e.args [] = some (.next (e.args.map g)) := fun n hn=>gL g (fun k x hk=>by
   have hkl := (zg.1 hk).1
   have := he.len
   dsimp only
   rw [hN n hn x (cO hk),bPs,cK (by decide) (by simp; omega),bPs])
  have hcnt : bv (LExpr.mk e.kind e.name e.index e.value (e.args.map g)) ≤ bv e * M := by
   rw [ig,ig e]
   show ((e.args.map g).map bv).sum + 1 ≤ _
   rw [List.map_map,Nat.add_mul]
   have := sum_mul (f := bv ∘ g) (g := bv) (M := M) (l := e.args) fun a ha=>(hg a ha).2
   omega
  by_cases hcase : e.kind = 2 ∧ 0 ≤ bJ (fun x=>e.name == x) names ∧ bJ (fun x=>e.name == x) names < (l.length : Int)
  ·obtain ⟨hk,h0,h1⟩ := hcase
   have hlt : (bJ (fun x=>e.name == x) names).toNat < l.length := by omega
   obtain ⟨hx,hxM⟩ := hl _ (List.getElem_mem hlt)
   refine ⟨SizeOf.sizeOf l[(bJ (fun x=>e.name == x) names).toNat] + 3,l[(bJ (fun x=>e.name == x) names).toNat],fun n hn=>?_,Nat.le_trans hxM (Nat.le_mul_of_pos_left M (oR e))⟩
   obtain ⟨n,rfl⟩ : ∃ k,n = k + 1 := ⟨n - 1,by omega⟩
   rw [bp]
   unfold dW
   rw [gS hk,zc,hidx,bPs,zt h0,zc,zt h1,zc,je h0 (ze hlt),bPs]
   dsimp only
   rw [pH hx n (by omega)]
   rfl
  ·refine ⟨N + 1,LExpr.mk e.kind e.name e.index e.value (e.args.map g),fun n hn=>?_,hcnt⟩
   obtain ⟨n,rfl⟩ : ∃ k,n = k + 1 := ⟨n - 1,by omega⟩
   rw [bp]
   unfold dW
   rw [hidx,loop n (by omega)]
   by_cases hk : e.kind = 2
   ·rw [gS hk,zc,bPs]
    by_cases h0 : 0 ≤ bJ (fun x=>e.name == x) names
    ·rw [zt h0,zc,zf (fun h1=>hcase ⟨hk,h0,h1⟩),zd]
     rfl
    ·rw [zf h0,zd]
     rfl
   ·rw [fK hk,zd]
    rfl
theorem oD (names : List (List UInt8)) {l : List LExpr} {M : Nat} (hM : 1 ≤ M) (hl : ∀ x ∈ l,ArgsE x ∧ bv x ≤ M) {e : LExpr} (he : ArgsE e) : ∃ r,cD e names l = some r ∧ bv r ≤ bv e * M := by
 obtain ⟨N,r,h1,h2⟩ := subst_evC names hM hl e he
 exact ⟨r,gA N h1,h2⟩
theorem conj_cnt (e : LExpr) : ∀ c ∈ dp e,bv c ≤ bv e := by
 induction e using LExpr.ind with
 | _ e ih =>
  intro c hc
  by_cases h : lF e = true
  ·obtain ⟨_,_,a,b,hab⟩ := md h
   rw [mM h hab] at hc
   rcases List.mem_append.1 hc with hc | hc
   ·have h1 := ih a (by rw [hab]; simp) c hc
    have h2 : bv a + 1 ≤ bv e := lk (by rw [hab]; simp)
    omega
   ·have h1 := ih b (by rw [hab]; simp) c hc
    have h2 : bv b + 1 ≤ bv e := lk (by rw [hab]; simp)
    omega
  ·rw [lu,zy h] at hc
   rw [List.mem_singleton.1 hc]
   exact Nat.le_refl _
theorem conj_sum (e : LExpr) : ((dp e).map bv).sum ≤ bv e := by
 induction e using LExpr.ind with
 | _ e ih =>
  by_cases h : lF e = true
  ·obtain ⟨_,_,a,b,hab⟩ := md h
   have h1 := ih a (by rw [hab]; simp)
   have h2 := ih b (by rw [hab]; simp)
   rw [mM h hab,List.map_append,List.sum_append,ig e,hab]
   simp only [List.map_cons,List.map_nil,List.sum_cons,List.sum_nil]
   omega
  ·rw [lu,zy h]
   simp
theorem nw (e : LExpr) : (dp e).length ≤ bv e := Nat.le_trans (sum_len (f := bv) fun x _=>oR x) (conj_sum e)
theorem conj_atom (e : LExpr) : ∀ c ∈ dp e,dp c = [c] := by
 induction e using LExpr.ind with
 | _ e ih =>
  intro c hc
  by_cases h : lF e = true
  ·obtain ⟨_,_,a,b,hab⟩ := md h
   rw [mM h hab] at hc
   rcases List.mem_append.1 hc with hc | hc
   ·exact ih a (by rw [hab]; simp) c hc
   ·exact ih b (by rw [hab]; simp) c hc
  ·rw [lu,zy h] at hc
   rw [List.mem_singleton.1 hc,lu,zy h]
theorem conj_evC (e : LExpr) : bv e ≤ 1000000 → ∃ N,∀ n,N ≤ n → eU n e = some (dp e) := by
 induction e using LExpr.ind with
 | _ e ih =>
  intro hb
  by_cases h : lF e = true
  ·obtain ⟨hk,hn,a,b,hab⟩ := md h
   have ha : bv a + 1 ≤ bv e := lk (by rw [hab]; simp)
   have hb' : bv b + 1 ≤ bv e := lk (by rw [hab]; simp)
   obtain ⟨N1,h1⟩ := ih a (by rw [hab]; simp) (by omega)
   obtain ⟨N2,h2⟩ := ih b (by rw [hab]; simp) (by omega)
   refine ⟨N1 + N2 + 1,fun n hn'=>?_⟩
   obtain ⟨n,rfl⟩ : ∃ k,n = k + 1 := ⟨n - 1,by omega⟩
   have la := nw a
   have lb := nw b
   have g0 : aT [a,b] 0 = some a := rfl
   have g1 : aT [a,b] 1 = some b := rfl
   rw [eU]
   unfold gZ
   rw [hk,hn,hab,mM h hab]
   simp only [beq_self_eq_true,zc,bG,g0,g1,bPs,h1 n (by omega),h2 n (by omega)]
   rw [show ((([a,b] : List LExpr).length : Int) == 2) = true from rfl,zc,cK (by decide) (by omega)]
   rfl
  ·refine ⟨1,fun n hn'=>?_⟩
   obtain ⟨n,rfl⟩ : ∃ k,n = k + 1 := ⟨n - 1,by omega⟩
   have hc : (cond (e.kind == (5 : Int)) (cond (e.name == ([97,110,100] : List UInt8)) (((e.args.length : Int) == (2 : Int))) (false)) (false)) = false := by
    have h' : lF e = false := by simpa using h
    unfold lF at h'
    rw [← h']
    rw [show ((e.args.length : Int) == (2 : Int)) = (e.args.length == 2) from natE _ 2]
    cases e.kind == (5 : Int) <;> cases e.name == ([97,110,100] : List UInt8) <;> rfl
   rw [eU]
   unfold gZ
   rw [hc,bG,zd,lM (jz e hb),lu,zy h]
   rfl
theorem conj_okC {e : LExpr} (hb : bv e ≤ 1000000) : fR e = some (dp e) := by
 obtain ⟨N,h⟩ := conj_evC e hb
 exact gA N h
theorem pX {x : LExpr} {xs : List LExpr} (hl : ∀ y ∈ x :: xs,ArgsE y) :
  ∃ r,cz (x :: xs) = some r ∧ bv r + 1 = ((x :: xs).map fun y=>bv y + 1).sum ∧ (dp r).length = ((x :: xs).map fun y=>(dp y).length).sum := by
 unfold cz
 have hx := hl x (by simp)
 rw [show (((x :: xs).length : Int) == (0 : Int)) = false from by simp; omega,zd,show aT (x :: xs) 0 = some x from rfl,bPs,lM hx,bPs]
 have hs : kI (x :: xs) 1 ((x :: xs).length : Int) = some xs := by
  unfold kI
  rw [zp ⟨by omega,by simp only [List.length_cons]; omega,by omega⟩]
  simp
 rw [hs,bPs]
 refine pI (R := fun r=>bv r + 1 = ((x :: xs).map fun y=>bv y + 1).sum ∧ (dp r).length = ((x :: xs).map fun y=>(dp y).length).sum)
  (fun j s=>bv s + 1 = ((x :: xs.take j).map fun y=>bv y + 1).sum ∧ (dp s).length = ((x :: xs.take j).map fun y=>(dp y).length).sum)
  (by simp) (fun j y s hj hI=>?_) (fun s hI=>⟨s,rfl,by rw [List.take_length] at hI; exact hI⟩)
 have hy := hl y (by simp [cO hj])
 refine ⟨_,by rw [lM hy,bPs],?_,?_⟩
 ·rw [ig,List.take_add_one,hj]
  simp only [LExpr.args,List.map_cons,List.map_nil,List.sum_cons,List.sum_nil,Option.toList_some,List.map_append,List.sum_append] at hI ⊢
  omega
 ·rw [mM (e := LExpr.mk 5 [97,110,100] 0 (LVal.mk 0 0 []) [s,y]) rfl rfl,List.length_append,List.take_add_one,hj]
  simp only [List.map_cons,List.map_nil,List.sum_cons,List.sum_nil,Option.toList_some,List.map_append,List.sum_append] at hI ⊢
  omega
theorem names_totC (e : LExpr) : ∀ l : List (List UInt8),l.length + bv e ≤ 10000000 → ∃ l',eN e 2 l = some l' ∧ l'.length ≤ l.length + bv e := by
 induction e using LExpr.ind with
 | _ e ih =>
  intro l hl
  have hb := ig e
  rw [(names_both e).2]
  unfold fv
  obtain ⟨b,hb1⟩ := contO l e.name (by omega)
  have ht : ∃ b2,(cond (e.kind == (2 : Int)) (ag (co l e.name) fun x17=>ag (lQ (x17.2.length = l.length) ()) fun (_ : Unit)=>some (x17.2,(!x17.1))) (some (l,false))) = some (l,b2) := by
   cases e.kind == (2 : Int) with
   | true=>exact ⟨!b,by rw [zc,hb1,bPs,oI rfl,bPs]⟩
   | false=>exact ⟨false,rfl⟩
  obtain ⟨b2,ht⟩ := ht
  rw [ht,bPs]
  have hu : ∃ l1,(cond b2 (ag (cq 16 l ([e.name] : List (List UInt8))) fun (x24 : List (List UInt8))=>some x24) (some l)) = some l1 ∧ l1.length ≤ l.length + 1 := by
   cases b2 with
   | true=>exact ⟨l ++ [e.name],by rw [zc,cK (by decide) (by simp; omega),bPs],by simp⟩
   | false=>exact ⟨l,rfl,by omega⟩
  obtain ⟨l1,hu,hu1⟩ := hu
  simp only
  rw [hu,bPs]
  refine pI (R := fun l' : List (List UInt8)=>l'.length ≤ l.length + bv e) (fun j s=>s.length + ((e.args.drop j).map bv).sum ≤ l.length + bv e) (by rw [List.drop_zero]; omega) (fun j x s hj hI=>?_) (fun s hI=>?_)
  ·rw [sum_drop hj] at hI
   obtain ⟨l',h1,h2⟩ := ih x (cO hj) s (by omega)
   exact ⟨l',by rw [h1,bPs],by omega⟩
  ·exact ⟨s,rfl,by omega⟩
theorem nN {e : LExpr} (hb : bv e ≤ 1000000) (l : List (List UInt8)) : ∃ b,dN e l = some b := by
 obtain ⟨ns,hn,_⟩ := names_totC e [] (by simp; omega)
 have hn : iK e = some ns := by unfold iK; rw [hn,bPs]
 unfold dN
 have hcf : cI ns (fun a0=>eZ a0 l) = some (decide (bJ (fun a0=>!decide (a0 ∈ l)) ns ≥ 0)) := by
  unfold cI dC
  rw [idxF (p := fun a0=>!decide (a0 ∈ l)) (fun y _=>by unfold eZ; rw [containsS,bPs]),bPs]
 rw [hn,bPs,hcf,bPs]
 exact ⟨_,rfl⟩
abbrev nQ (q : LQuery) : Nat := (bP q).length
theorem nQ1 {q x : LQuery} (h : q.inputs = [x]) : nQ q = nQ x + 1 := by unfold nQ; rw [eh,h]; simp
theorem nQ2 {q x y : LQuery} (h : q.inputs = [x,y]) : nQ q = nQ x + nQ y + 1 := by unfold nQ; rw [eh,h]; simp
structure GC (q : LQuery) : Prop where
 g : GQ q
 c : ∀ x ∈ bP q,∀ e ∈ x.exprs,bv e ≤ 1000000
theorem GC.sub {q x : LQuery} (h : GC q) (hx : x ∈ q.inputs) : GC x := ⟨h.g.sub hx,fun y hy=>h.c y (nE hx hy)⟩
theorem GC.self {q : LQuery} (h : GC q) : ∀ e ∈ q.exprs,bv e ≤ 1000000 := h.c q (oN q)
theorem GC.mk' {q : LQuery} (h : NodeOk q) (hc : ∀ e ∈ q.exprs,bv e ≤ 1000000) (hx : ∀ x ∈ q.inputs,GC x) : GC q := ⟨GQ.mk h fun x hx'=>(hx x hx').g,fun y hy=>by
 rw [eh] at hy
 rcases List.mem_cons.1 hy with rfl | hy
 ·exact hc
 ·obtain ⟨l,hl,hy⟩ := List.mem_flatten.1 hy
  obtain ⟨x,hx',rfl⟩ := List.mem_map.1 hl
  exact (hx x hx').c y hy⟩
theorem gc_bulk {q : LQuery} (h : aW (ao q) ≤ 1048576) (h1 : aW (ao q) ≤ 1000000 ∨ ∀ x ∈ bP q,∀ e ∈ x.exprs,bv e ≤ 1000000) : GC q := by
 refine ⟨gq_bulk q h,?_⟩
 rcases h1 with h1 | h1
 ·intro x hx e he
  have ht : ∀ q : LQuery,aW (ao q) ≤ 1000000 → ∀ x ∈ bP q,∀ e ∈ x.exprs,bv e ≤ 1000000 := by
   refine LQuery.ind fun q ih hb x hx e he=>?_
   rw [eh] at hx
   rcases List.mem_cons.1 hx with rfl | hx
   ·exact Nat.le_trans (cntE_bulk e) (Nat.le_trans (ph he) hb)
   ·obtain ⟨l,hl,hx⟩ := List.mem_flatten.1 hx
    obtain ⟨y,hy,rfl⟩ := List.mem_map.1 hl
    exact ih y hy (Nat.le_trans (bulk_sub hy) hb) x hx e he
  exact ht q h1 x hx e he
 ·exact h1
theorem oP {q : LQuery} (h : GC q) {l : List LQuery} (hl : l.length ≤ 1000000) (hi : ∀ x ∈ l,GC x) : GC (LQuery.mk q.kind q.table q.names q.exprs q.aggregates q.descending q.count q.offset l) :=
 GC.mk' ⟨h.g.self.exprs,h.g.self.aggs,hl,h.g.self.args,h.g.self.calls⟩ h.self hi
theorem ju {e : LExpr} {x : LQuery} (he : bv e ≤ 1000000) (hx : GC x) : GC (aF e x) ∧ nQ (aF e x) = nQ x + 1 := by
 unfold aF
 exact ⟨GC.mk' ⟨by simp [LQuery.exprs],by simp [LQuery.aggregates],by simp [LQuery.inputs],by simpa [LQuery.exprs] using jz e he,by simp [LQuery.aggregates]⟩ (by simpa [LQuery.exprs] using he) (by simpa [LQuery.inputs] using hx),nQ1 rfl⟩
structure CP (s : LSchema) (q : LQuery) : Prop where
 gc : GC q
 size : SizeOk q
 kinds : oi (jc q)
 cols : (dE ⟨s,[]⟩ q).2 = 0
theorem CP.n24 {s : LSchema} {q : LQuery} (h : CP s q) : nQ q ≤ 24 := h.size.1
theorem CP.sub {s : LSchema} {q x : LQuery} (h : CP s q) (hx : x ∈ q.inputs) : CP s x := by
 have hp := params_sub hx
 refine ⟨h.gc.sub hx,⟨?_,?_,(most_inv h.size.2.2).2 x hx⟩,fun i k k' a b=>h.kinds i k k' (hp _ a) (hp _ b),(oE h.cols).2.1 x hx⟩
 ·have := iW hx; have := h.size.1; omega
 ·have := depthQ_sub hx; have := h.size.2.1; omega
theorem pM {s : LSchema} {q : LQuery} (h : GC q) (hn : nQ q ≤ 1000000) : ∃ cs e,cb s q = some (cs,e) ∧ (e = 0 → CP s q) := by
 obtain ⟨cs,e,hc,he,hcs⟩ := check_eq (s := s) (vars := []) (h.g.small (by show nQ q ≤ _; omega))
 refine ⟨cs,e,by unfold cb; rw [hc,bPs],fun h0=>?_⟩
 obtain ⟨a,b,c⟩ := he.1 h0
 exact ⟨h,a,b,c⟩
theorem CP.check {s : LSchema} {q : LQuery} (h : CP s q) : cb s q = some ((dE ⟨s,[]⟩ q).1,0) := by
 obtain ⟨cs,e,hc,he,hcs⟩ := check_eq (s := s) (vars := []) (h.gc.g.small (by have := h.n24; show nQ q ≤ _; omega))
 have e0 : e = 0 := he.2 ⟨h.size,h.kinds,h.cols⟩
 unfold cb
 rw [hc,bPs,e0,hcs e0]
theorem CP.shape {s : LSchema} {q : LQuery} (h : CP s q) : ShapeOk q := shape_ok (oE h.cols).1
theorem CP.one {s : LSchema} {q : LQuery} (h : CP s q) (hk : q.kind = 2 ∨ q.kind = 3 ∨ q.kind = 8 ∨ q.kind = 9 ∨ q.kind = 10) : ∃ x,q.inputs = [x] ∧ CP s x := by
 obtain ⟨x,hx⟩ := Go.Proofs.YtppmcepdcpmpcaaGreatDoor.one (by rw [h.shape.arity]; rcases hk with k | k | k | k | k <;> rw [k] <;> rfl : q.inputs.length = 1)
 exact ⟨x,hx,h.sub (by rw [hx]; simp)⟩
theorem CP.two {s : LSchema} {q : LQuery} (h : CP s q) (hk : q.kind = 4 ∨ q.kind = 5 ∨ q.kind = 6 ∨ q.kind = 7) : ∃ x y,q.inputs = [x,y] ∧ CP s x ∧ CP s y := by
 obtain ⟨x,y,hx⟩ := Go.Proofs.YtppmcepdcpmpcaaGreatDoor.two (by rw [h.shape.arity]; rcases hk with k | k | k | k <;> rw [k] <;> rfl : q.inputs.length = 2)
 exact ⟨x,y,hx,h.sub (by rw [hx]; simp),h.sub (by rw [hx]; simp)⟩
theorem e0_in {q : LQuery} (hl : q.exprs.length = 1) : e0Q q ∈ q.exprs := e0_mem hl
theorem CP.pred {s : LSchema} {q : LQuery} (h : CP s q) (hk : q.kind = 2) : aT q.exprs 0 = some (e0Q q) ∧ bv (e0Q q) ≤ 60 := by
 have hl := h.shape.one (.inl hk)
 refine ⟨e0_get (by omega),?_⟩
 have h1 := (oE h.cols).2.2.1
 unfold kn at h1
 rw [zy (by omega),zp hk] at h1
 exact pred_cnt (h.gc.self _ (e0_in hl)) h1
theorem CP.named {s : LSchema} {q : LQuery} (h : CP s q) (hk : q.kind = 3 ∨ q.kind = 8) : ∀ e ∈ q.exprs,bv e ≤ 60 := by
 have h1 := (oE h.cols).2.2.1
 unfold kn at h1
 rw [zy (by omega),zy (by omega),zy (by omega),zy (by omega),zp hk] at h1
 have h2 : (cv [] ((q.inputs.map fun x=>(dE ⟨s,[]⟩ x).1).getD 0 []) q.exprs q.names).2 = 0 := by
  unfold namedQ at h1
  by_cases c : (cv (⟨s,[]⟩ : LChecker).vars ((q.inputs.map fun x=>(dE ⟨s,[]⟩ x).1).getD 0 []) q.exprs q.names).2 = 0
  ·exact c
  ·rw [zp c] at h1; exact h1
 have key : ∀ (es : List LExpr) (ns : List (List UInt8)) (cols : List LCol),es.length = ns.length → (cv [] cols es ns).2 = 0 → ∀ e ∈ es,(dA cols [] e).2.2 = 0 := by
  intro es
  induction es with
  | nil=>intro ns cols _ _ e he; simp at he
  | cons x es ih =>
   intro ns cols hl h e he
   cases ns with
   | nil=>simp at hl
   | cons n ns =>
    rw [cv] at h
    by_cases c1 : cR n = false
    ·rw [zp c1] at h; exact absurd h (by decide)
    ·rw [zy c1] at h
     by_cases c2 : (dA cols [] x).2.2 = 0
     ·rw [zy (by simpa using c2)] at h
      by_cases c3 : (dA cols [] x).1 = 0
      ·rw [zp c3] at h; exact absurd h (by decide)
      ·rw [zy c3] at h
       by_cases c4 : (cv [] cols es ns).2 = 0
       ·rcases List.mem_cons.1 he with rfl | he
        ·exact c2
        ·exact ih ns cols (by simpa using hl) c4 e he
       ·rw [zp c4] at h; exact absurd h c4
     ·rw [zp c2] at h; exact absurd h c2
 exact fun e he=>type_cnt (h.gc.self e he) (key q.exprs q.names _ (h.shape.named hk) h2 e he)
theorem me {s : LSchema} {q : LQuery} (h : CP s q) : ∃ l,bR (LRewriteRewriter.mk s) q = some l ∧ l.length ≤ 20 := by
 unfold bR
 rw [h.check,bPs]
 have hc := colsQ_len ⟨s,[]⟩ q
 have hm := gL (ρ := Empty) (step := fun (_ : Nat) (x1 : LCol) (s1 : List (List UInt8)) =>
  ag (cq 16 s1 ([x1.name] : List (List UInt8))) fun (x27 : List (List UInt8)) =>
  some (.next x27)) (xs := (dE ⟨s,[]⟩ q).1) LCol.name (fun k x hk=>by
  have hlt := (zg.1 hk).1
  rw [cK (by decide) (by simp; omega),bPs])
 simp only
 rw [hm,bPs]
 exact ⟨_,rfl,by simpa using hc⟩
abbrev gI (e : LExpr) : Nat := (dp e).length
def bT (x : LQuery) (l : List LQuery) : LQuery := LQuery.mk x.kind x.table x.names x.exprs x.aggregates x.descending x.count x.offset l
def Over (a a' : LQuery) : Prop := a' = a ∨ ∃ c,a' = aF c a ∧ gI c ≤ 4000
inductive All2 {α β : Type} (R : α → β → Prop) : List α → List β → Prop
 | nil : All2 R [] []
 | cons {a : α} {b : β} {l : List α} {r : List β} (h : R a b) (t : All2 R l r) : All2 R (a :: l) (b :: r)
inductive Moves (e : LExpr) (x : LQuery) : LQuery → Prop
 | merge {e' : LExpr} {y : LQuery} (hk : x.kind = 2) (hi : x.inputs = [y]) (hc : gI e' = gI (e0Q x) + gI e) : Moves e x (aF e' y)
 | down {l : List LQuery} (hk : x.kind ≠ 2) (hl : All2 Over x.inputs l) : Moves e x (bT x l)
 | rest {l : List LQuery} {r : LExpr} (hk : x.kind ≠ 2) (hl : All2 Over x.inputs l) (hr : gI r < gI e) : Moves e x (aF r (bT x l))
def WRes (e : LExpr) (x : LQuery) (k : Nat) (o : Option (LQuery × Bool)) : Prop := ∃ r,o = some r ∧ (r.2 = true → GC r.1 ∧ nQ r.1 ≤ k ∧ Moves e x r.1)
theorem WRes.nil {e : LExpr} {x : LQuery} {k : Nat} : WRes e x k (some ((LQuery.mk 0 [] [] [] [] [] 0 0 []),false)) := ⟨_,rfl,fun h=>by cases h⟩
theorem kE {c : LExpr} {a : LQuery} (h : bv c ≤ 4000) : Over a (aF c a) := .inr ⟨c,rfl,Nat.le_trans (nw c) h⟩
theorem into_okC {s : LSchema} {q : LQuery} (h : CP s q) (hk : q.kind = 6 ∨ q.kind = 7) {c : LExpr} (hc : bv c ≤ 60) :
  ∃ r,er (LRewriteRewriter.mk s) c q = some r ∧ GC r ∧ nQ r ≤ nQ q + 2 ∧ Moves c q r := by
 obtain ⟨x,y,hxy,hx,hy⟩ := h.two (by omega)
 unfold er
 obtain ⟨lx,hlx,_⟩ := me hx
 obtain ⟨ly,hly,hl20⟩ := me hy
 have i0 : aT q.inputs 0 = some x := by rw [hxy]; rfl
 have i1 : aT q.inputs 1 = some y := by rw [hxy]; rfl
 rw [i0,bPs,i1,bPs,hlx,bPs,hly,bPs]
 have hm := gL (ρ := Empty) (step := fun (_ : Nat) (x1 : List UInt8) (s1 : List LExpr) =>
  ag (cq 88 s1 ([(LExpr.mk 2 x1 0 (LVal.mk 0 0 []) [])] : List LExpr)) fun (x34 : List LExpr) =>
  some (.next x34)) (xs := ly) (fun n=>LExpr.mk 2 n 0 (LVal.mk 0 0 []) []) (fun k x hk=>by
  have hlt := (zg.1 hk).1
  rw [cK (by decide) (by simp; omega),bPs])
 rw [hm,bPs,bV,bPs,bPs,bG]
 obtain ⟨c2,hc2,ha2⟩ := oD lx (l := ly.map fun n=>LExpr.mk 2 n 0 (LVal.mk 0 0 []) []) (M := 1) (Nat.le_refl _) (fun e he=>by
  obtain ⟨n,_,rfl⟩ := List.mem_map.1 he
  exact ⟨.mk (by simp [LExpr.args]) (by simp [LExpr.args]),by rw [ig]; simp [LExpr.args]⟩) (jz c (by omega))
 rw [hc2,bPs,bG]
 obtain ⟨g1,n1⟩ := ju (e := c) (by omega) hx.gc
 obtain ⟨g2,n2⟩ := ju (e := c2) (by omega) hy.gc
 refine ⟨_,rfl,oP h.gc (by simp) (by intro z hz; simp at hz; rcases hz with rfl | rfl <;> assumption),?_,.down (l := [aF c x,aF c2 y]) (by omega) ?_⟩
 ·have e1 := nQ2 hxy
  have e2 := nQ2 (q := LQuery.mk q.kind q.table q.names q.exprs q.aggregates q.descending q.count q.offset [aF c x,aF c2 y]) rfl
  omega
 ·rw [hxy]
  exact .cons (kE (by omega)) (.cons (kE (by omega)) .nil)
theorem side_okC {s : LSchema} {q : LQuery} (h : CP s q) (hk : q.kind = 4 ∨ q.kind = 5) {c : LExpr} (hb : bv c ≤ 60) : WRes c q (nQ q + 3) (ep (LRewriteRewriter.mk s) c q) := by
 obtain ⟨x,y,hxy,hx,hy⟩ := h.two (by omega)
 unfold ep
 obtain ⟨lx,hlx,_⟩ := me hx
 obtain ⟨ly,hly,_⟩ := me hy
 have i0 : aT q.inputs 0 = some x := by rw [hxy]; rfl
 have i1 : aT q.inputs 1 = some y := by rw [hxy]; rfl
 have hcl := nw c
 have hcs := conj_sum c
 have e1 := nQ2 hxy
 rw [i0,bPs,i1,bPs,hlx,bPs,hly,bPs,conj_okC (by omega),bPs]
 have hsub : ∀ l : List LExpr,(∀ e ∈ l,e ∈ dp c) → (∀ e ∈ l,ArgsE e) ∧ (l.map fun y=>(dp y).length).sum = l.length := fun l hl=>by
  refine ⟨fun e he=>jz e (by have := conj_cnt c e (hl e he); omega),?_⟩
  induction l with
  | nil=>rfl
  | cons z l ihl =>
   have h1 := conj_atom c z (hl z (by simp))
   have h2 := ihl fun e he=>hl e (by simp [he])
   simp only [List.map_cons,List.sum_cons,List.length_cons,h1,h2,List.length_nil]
   omega
 have csum : ∀ l : List LExpr,(l.map fun y=>bv y + 1).sum ≤ 120 → l.length ≤ 120 := fun l hl=>Nat.le_trans (sum_len (f := fun y=>bv y + 1) fun z _=>by omega) hl
 refine pI (R := fun r : LQuery × Bool=>r.2 = true → GC r.1 ∧ nQ r.1 ≤ nQ q + 3 ∧ Moves c q r.1)
  (fun j s1=>(s1.1.length + s1.2.1.length + s1.2.2.length = j ∧ (s1.1.map fun y=>bv y + 1).sum + (s1.2.1.map fun y=>bv y + 1).sum + (s1.2.2.map fun y=>bv y + 1).sum + (((dp c).drop j).map fun y=>bv y + 1).sum ≤ 120) ∧ (∀ e ∈ s1.1,e ∈ dp c) ∧ (∀ e ∈ s1.2.1,e ∈ dp c) ∧ ∀ e ∈ s1.2.2,e ∈ dp c)
  ⟨⟨by simp,?_⟩,by simp,by simp,by simp⟩ (fun j e s1 hj hI=>?_) (fun s1 hI=>?_)
 ·have : ∀ l : List LExpr,(l.map fun y=>bv y + 1).sum = (l.map bv).sum + l.length := fun l=>by
   induction l with
   | nil=>rfl
   | cons z l ihl=>simp only [List.map_cons,List.sum_cons,List.length_cons,ihl]; omega
  simp only [List.drop_zero,List.map_nil,List.sum_nil,this]
  omega
 ·have hlt := (zg.1 hj).1
  obtain ⟨⟨l1,hs⟩,h1,h2,h3⟩ := hI
  rw [sum_drop hj] at hs
  have heb : bv e ≤ 1000000 := by have := conj_cnt c e (cO hj); omega
  obtain ⟨b1,hb1⟩ := nN heb lx
  obtain ⟨b2,hb2⟩ := nN heb ly
  have add : ∀ l : List LExpr,(∀ e ∈ l,e ∈ dp c) → ∀ z ∈ l ++ [e],z ∈ dp c := fun l hl z hz=>by
   rcases List.mem_append.1 hz with hz | hz
   ·exact hl z hz
   ·rw [List.mem_singleton.1 hz]; exact cO hj
  have app : ∀ l : List LExpr,l.length ≤ j → cq 88 l [e] = some (l ++ [e]) := fun l hl=>cK (by decide) (by simp; omega)
  rw [hb1,bPs]
  cases b1 with
  | true =>
   rw [zc,app _ (by omega),bPs]
   exact ⟨_,rfl,⟨by simp only [List.length_append,List.length_cons,List.length_nil]; omega,by simp only [List.map_append,List.sum_append,List.map_cons,List.map_nil,List.sum_cons,List.sum_nil]; omega⟩,add _ h1,h2,h3⟩
  | false =>
   rw [zd,hb2,bPs]
   have : ∃ t,(cond b2 (some (q.kind == (4 : Int))) (some false)) = some t := by cases b2 <;> exact ⟨_,rfl⟩
   obtain ⟨t,ht⟩ := this
   rw [ht,bPs]
   cases t with
   | true =>
    rw [zc,app _ (by omega),bPs]
    exact ⟨_,rfl,⟨by simp only [List.length_append,List.length_cons,List.length_nil]; omega,by simp only [List.map_append,List.sum_append,List.map_cons,List.map_nil,List.sum_cons,List.sum_nil]; omega⟩,h1,add _ h2,h3⟩
   | false =>
    rw [zd,app _ (by omega),bPs]
    exact ⟨_,rfl,⟨by simp only [List.length_append,List.length_cons,List.length_nil]; omega,by simp only [List.map_append,List.sum_append,List.map_cons,List.map_nil,List.sum_cons,List.sum_nil]; omega⟩,h1,h2,add _ h3⟩
 ·obtain ⟨⟨l1,hs⟩,h1,h2,h3⟩ := hI
  have hl1 := csum s1.1 (by omega)
  have hl2 := csum s1.2.1 (by omega)
  have w0 : IntKind.i64.wrap ((s1.1.length : Int) + (s1.2.1.length : Int)) = (s1.1.length : Int) + (s1.2.1.length : Int) := gN (by omega) (by omega)
  by_cases hz : s1.1.length + s1.2.1.length = 0
  ·rw [gS (by rw [w0]; omega),zc]
   exact ⟨_,rfl,fun h=>by cases h⟩
  ·rw [fK (by rw [w0]; omega),zd]
   have mk : ∀ l : List LExpr,(∀ e ∈ l,e ∈ dp c) → (l.map fun y=>bv y + 1).sum ≤ 120 → 0 < l.length → ∃ r,cz l = some r ∧ bv r ≤ 120 ∧ gI r = l.length := fun l hl hls hpos=>by
    cases l with
    | nil=>simp at hpos
    | cons z l =>
     obtain ⟨g1,g2⟩ := hsub _ hl
     obtain ⟨r,hr,hr1,hr2⟩ := pX g1
     exact ⟨r,hr,by omega,by show (dp r).length = _; rw [hr2,g2]⟩
   have hA : ∃ x',(cond (decide ((s1.1.length : Int) > (0 : Int)))
     (ag (cz s1.1) fun x73 =>
     bq (aF x73 x) fun x78 =>
     bq (q.inputs.set ((0 : Int).toNat) x78) fun (y7 : List LQuery) =>
     some y7)
     (some q.inputs)) = some [x',y] ∧ GC x' ∧ nQ x' ≤ nQ x + 1 ∧ Over x x' := by
    by_cases hp : (s1.1.length : Int) > 0
    ·obtain ⟨c1,hc1,ha1,_⟩ := mk s1.1 h1 (by omega) (by omega)
     obtain ⟨g1,n1⟩ := ju (e := c1) (by omega) hx.gc
     rw [zt hp,zc,hc1,bPs,bG,bG,hxy]
     exact ⟨_,rfl,g1,by omega,kE (by omega)⟩
    ·rw [zf hp,zd]
     exact ⟨x,by rw [hxy],hx.gc,by omega,.inl rfl⟩
   obtain ⟨x',hA1,hA2,hA3,hA4⟩ := hA
   simp only [bPs]
   rw [hA1,bPs]
   have hB : ∃ y',(cond (decide ((s1.2.1.length : Int) > (0 : Int)))
     (ag (aT [x',y] (1 : Int)) fun (x89 : LQuery) =>
     ag (cz s1.2.1) fun x86 =>
     bq (aF x86 x89) fun x91 =>
     ag (aT [x',y] (1 : Int)) fun (_ : LQuery) =>
     bq ([x',y].set ((1 : Int).toNat) x91) fun (y10 : List LQuery) =>
     some y10)
     (some [x',y])) = some [x',y'] ∧ GC y' ∧ nQ y' ≤ nQ y + 1 ∧ Over y y' := by
    by_cases hp : (s1.2.1.length : Int) > 0
    ·obtain ⟨c1,hc1,ha1,_⟩ := mk s1.2.1 h2 (by omega) (by omega)
     obtain ⟨g1,n1⟩ := ju (e := c1) (by omega) hy.gc
     rw [zt hp,zc,show aT [x',y] (1 : Int) = some y from rfl,bPs,hc1,bPs,bG,bPs,bG]
     exact ⟨_,rfl,g1,by omega,kE (by omega)⟩
    ·rw [zf hp,zd]
     exact ⟨y,rfl,hy.gc,by omega,.inl rfl⟩
   obtain ⟨y',hB1,hB2,hB3,hB4⟩ := hB
   rw [hB1,bPs]
   have gw : GC (bT q [x',y']) := oP h.gc (by simp) (by intro z hz; simp at hz; rcases hz with rfl | rfl <;> assumption)
   have e2 := nQ2 (q := bT q [x',y']) rfl
   have fa : All2 Over q.inputs [x',y'] := by rw [hxy]; exact .cons hA4 (.cons hB4 .nil)
   by_cases hp : (s1.2.2.length : Int) > 0
   ·obtain ⟨c1,hc1,ha1,hn1⟩ := mk s1.2.2 h3 (by omega) (by omega)
    obtain ⟨g1,n1⟩ := ju (e := c1) (by omega) gw
    rw [zt hp,zc,hc1,bPs,bG]
    exact ⟨_,rfl,fun _=>⟨g1,by show nQ (aF c1 (bT q [x',y'])) ≤ _; omega,.rest (by omega) fa (by show gI c1 < (dp c).length; omega)⟩⟩
   ·rw [zf hp,zd]
    exact ⟨_,rfl,fun _=>⟨gw,by show nQ (bT q [x',y']) ≤ _; omega,.down (by omega) fa⟩⟩
theorem mk_self {q : LQuery} {l : List LQuery} (h : q.inputs = l) : LQuery.mk q.kind q.table q.names q.exprs q.aggregates q.descending q.count q.offset l = q := by
 subst h; cases q; rfl
theorem CQ.n24 {s : LSchema} {q : LQuery} (h : CQ s q) : nQ q ≤ 24 := h.size.1
section
variable {s : LSchema} {q : LQuery} (h : CQ s q) (k1 : q.kind ≠ 1)
include h k1
end
theorem where_totC {s : LSchema} {q x : LQuery} (h : CP s q) (hk : q.kind = 2) (hq : q.inputs = [x]) {rule : Int} (hr : rule ≠ 2) : WRes (e0Q q) x (nQ q + 3) (ef (LRewriteRewriter.mk s) q x rule) := by
 have hx : CP s x := h.sub (by rw [hq]; simp)
 obtain ⟨e0,hb⟩ := h.pred hk
 have nq := nQ1 hq
 unfold ef
 rw [e0,bPs]
 have put : ∀ {k : Int},x.kind = k → (k = 3 ∨ k = 8 ∨ k = 9) → ∃ y,x.inputs = [y] ∧ aT x.inputs (0 : Int) = some y ∧ ∀ {e : LExpr},bv e ≤ 4000 → GC (LQuery.mk x.kind x.table x.names x.exprs x.aggregates x.descending x.count x.offset (x.inputs.set ((0 : Int).toNat) (aF e y))) ∧
   nQ (LQuery.mk x.kind x.table x.names x.exprs x.aggregates x.descending x.count x.offset (x.inputs.set ((0 : Int).toNat) (aF e y))) ≤ nQ q + 3 ∧ Moves (e0Q q) x (LQuery.mk x.kind x.table x.names x.exprs x.aggregates x.descending x.count x.offset (x.inputs.set ((0 : Int).toNat) (aF e y))) := by
  intro k hk1 hk2
  obtain ⟨y,hxy,hy⟩ := hx.one (by omega)
  refine ⟨y,hxy,by rw [hxy]; rfl,fun {e} he=>?_⟩
  obtain ⟨g1,n1⟩ := ju (e := e) (by omega) hy.gc
  have es : x.inputs.set ((0 : Int).toNat) (aF e y) = [aF e y] := by rw [hxy]; rfl
  rw [es]
  refine ⟨oP hx.gc (by simp) (by simpa using g1),?_,.down (l := [aF e y]) (by omega) (by rw [hxy]; exact .cons (kE he) .nil)⟩
  have e2 := nQ1 (q := LQuery.mk x.kind x.table x.names x.exprs x.aggregates x.descending x.count x.offset [aF e y]) rfl
  have e3 := nQ1 hxy
  omega
 rw [bG]
 by_cases c1 : rule = 1 ∧ x.kind = 2
 ·rw [gS c1.1,zc,gS c1.2,zc]
  obtain ⟨y,hxy,hy⟩ := hx.one (.inl c1.2)
  obtain ⟨f0,fb⟩ := hx.pred c1.2
  obtain ⟨c,hc,hc1,hc2⟩ := pX (x := e0Q x) (xs := [e0Q q]) (by intro e he; simp at he; rcases he with rfl | rfl <;> exact jz _ (by omega))
  simp only [List.map_cons,List.map_nil,List.sum_cons,List.sum_nil] at hc1 hc2
  rw [f0,bPs,show aT x.inputs (0 : Int) = some y from by rw [hxy]; rfl,bPs,hc,bPs,bG]
  obtain ⟨g1,n1⟩ := ju (e := c) (by omega) hy.gc
  have e3 := nQ1 hxy
  exact ⟨_,rfl,fun _=>⟨g1,by simp only; omega,.merge c1.2 hxy (by show (dp c).length = (dp (e0Q x)).length + (dp (e0Q q)).length; omega)⟩⟩
 rw [show (cond (rule == (1 : Int)) (x.kind == (2 : Int)) false) = false from by
  by_cases r1 : rule = 1
  ·rw [gS r1,zc]; exact fK fun hk=>c1 ⟨r1,hk⟩
  ·rw [fK r1,zd],zd]
 rw [fK hr,zd,bG]
 by_cases c3 : rule = 3 ∧ x.kind = 3
 ·rw [gS c3.1,zc,gS c3.2,zc]
  obtain ⟨y,hxy,i0,hput⟩ := put c3.2 (.inl rfl)
  obtain ⟨c,hc,hcc⟩ := oD x.names (l := x.exprs) (M := 60) (by decide) (fun e he=>⟨hx.gc.g.self.args e he,hx.named (.inl c3.2) e he⟩) (jz (e0Q q) (by omega))
  rw [i0,bPs,hc,bPs,bG,bPs,bG]
  have : bv (e0Q q) * 60 ≤ 60 * 60 := Nat.mul_le_mul_right 60 hb
  exact ⟨_,rfl,fun _=>hput (by omega)⟩
 rw [show (cond (rule == (3 : Int)) (x.kind == (3 : Int)) false) = false from by
  by_cases r1 : rule = 3
  ·rw [gS r1,zc]; exact fK fun hk=>c3 ⟨r1,hk⟩
  ·rw [fK r1,zd],zd,bG,bG]
 by_cases c6 : (rule = 6 ∧ x.kind = 6) ∨ (rule = 7 ∧ x.kind = 7)
 ·have ht : (cond (cond (rule == (6 : Int)) (x.kind == (6 : Int)) false) (cond (rule == (6 : Int)) (x.kind == (6 : Int)) false) (cond (rule == (7 : Int)) (x.kind == (7 : Int)) false)) = true := by
   rcases c6 with ⟨r,k⟩ | ⟨r,k⟩ <;> rw [r,k] <;> rfl
  rw [ht,zc]
  obtain ⟨r,hr,g1,n1,m1⟩ := into_okC hx (by omega) hb
  rw [hr,bPs]
  exact ⟨_,rfl,fun _=>⟨g1,by simp only; omega,m1⟩⟩
 have ht : (cond (cond (rule == (6 : Int)) (x.kind == (6 : Int)) false) (cond (rule == (6 : Int)) (x.kind == (6 : Int)) false) (cond (rule == (7 : Int)) (x.kind == (7 : Int)) false)) = false := by
  have h6 : (cond (rule == (6 : Int)) (x.kind == (6 : Int)) false) = false := by
   by_cases r1 : rule = 6
   ·rw [gS r1,zc]; exact fK fun hk=>c6 (.inl ⟨r1,hk⟩)
   ·rw [fK r1,zd]
  have h7 : (cond (rule == (7 : Int)) (x.kind == (7 : Int)) false) = false := by
   by_cases r1 : rule = 7
   ·rw [gS r1,zc]; exact fK fun hk=>c6 (.inr ⟨r1,hk⟩)
   ·rw [fK r1,zd]
  rw [h6,h7,zd]
 rw [ht,zd,bG]
 by_cases c9 : rule = 9 ∧ x.kind = 9
 ·rw [gS c9.1,zc,gS c9.2,zc]
  obtain ⟨y,hxy,i0,hput⟩ := put c9.2 (.inr (.inr rfl))
  rw [i0,bPs,bG,bPs,bG]
  exact ⟨_,rfl,fun _=>hput (by omega)⟩
 rw [show (cond (rule == (9 : Int)) (x.kind == (9 : Int)) false) = false from by
  by_cases r1 : rule = 9
  ·rw [gS r1,zc]; exact fK fun hk=>c9 ⟨r1,hk⟩
  ·rw [fK r1,zd],zd]
 have h8 : ∃ t,(cond (rule == (8 : Int)) (cond (x.kind == (8 : Int)) (ag (dN (e0Q q) x.names) fun x132=>cond x132 (some (decide ((x.exprs.length : Int) > (0 : Int)))) (some false)) (some false)) (some false)) = some t ∧ (t = true → x.kind = 8) := by
  obtain ⟨b,hb8⟩ := nN (e := e0Q q) (by omega) x.names
  by_cases r1 : rule = 8
  ·rw [gS r1,zc]
   by_cases k8 : x.kind = 8
   ·rw [gS k8,zc,hb8,bPs]
    cases b with
    | true=>exact ⟨_,rfl,fun _=>k8⟩
    | false=>exact ⟨_,rfl,fun _=>k8⟩
   ·rw [fK k8,zd]; exact ⟨_,rfl,fun h=>by cases h⟩
  ·rw [fK r1,zd]; exact ⟨_,rfl,fun h=>by cases h⟩
 obtain ⟨t,ht8,hk8⟩ := h8
 rw [ht8,bPs]
 cases t with
 | true =>
  rw [zc]
  obtain ⟨y,hxy,i0,hput⟩ := put (hk8 rfl) (.inr (.inl rfl))
  obtain ⟨c,hc,hcc⟩ := oD x.names (l := x.exprs) (M := 60) (by decide) (fun e he=>⟨hx.gc.g.self.args e he,hx.named (.inr (hk8 rfl)) e he⟩) (jz (e0Q q) (by omega))
  rw [i0,bPs,hc,bPs,bG,bPs,bG]
  have : bv (e0Q q) * 60 ≤ 60 * 60 := Nat.mul_le_mul_right 60 hb
  exact ⟨_,rfl,fun _=>hput (by omega)⟩
 | false =>
  rw [zd,bG,bG]
  by_cases c4 : (rule = 4 ∧ x.kind = 4) ∨ (rule = 5 ∧ x.kind = 5)
  ·have ht : (cond (cond (rule == (4 : Int)) (x.kind == (4 : Int)) false) (cond (rule == (4 : Int)) (x.kind == (4 : Int)) false) (cond (rule == (5 : Int)) (x.kind == (5 : Int)) false)) = true := by
    rcases c4 with ⟨r,k⟩ | ⟨r,k⟩ <;> rw [r,k] <;> rfl
   rw [ht,zc]
   obtain ⟨r,hr,hh⟩ := side_okC hx (by omega) hb
   rw [hr,bPs]
   exact ⟨_,rfl,fun h2=>by
    obtain ⟨g1,n1,m1⟩ := hh h2
    exact ⟨g1,by simp only; omega,m1⟩⟩
  ·have ht : (cond (cond (rule == (4 : Int)) (x.kind == (4 : Int)) false) (cond (rule == (4 : Int)) (x.kind == (4 : Int)) false) (cond (rule == (5 : Int)) (x.kind == (5 : Int)) false)) = false := by
    have h4 : (cond (rule == (4 : Int)) (x.kind == (4 : Int)) false) = false := by
     by_cases r1 : rule = 4
     ·rw [gS r1,zc]; exact fK fun hk=>c4 (.inl ⟨r1,hk⟩)
     ·rw [fK r1,zd]
    have h5 : (cond (rule == (5 : Int)) (x.kind == (5 : Int)) false) = false := by
     by_cases r1 : rule = 5
     ·rw [gS r1,zc]; exact fK fun hk=>c4 (.inr ⟨r1,hk⟩)
     ·rw [fK r1,zd]
    rw [h4,h5,zd]
   rw [ht,zd]
   exact WRes.nil
theorem apply_push {s : LSchema} {q : LQuery} (h : GC q) (hn : nQ q ≤ 1000000) (hk : q.kind = 2) {rule : Int} (hr : 1 ≤ rule ∧ rule ≤ 9 ∧ rule ≠ 2) :
  ∃ r,dD s q rule = some r ∧ (r.2 = true → ∃ x,q.inputs = [x] ∧ nQ q ≤ 24 ∧ nQ r.1 ≤ 24 ∧ GC r.1 ∧ Moves (e0Q q) x r.1) := by
 suffices hw : ∃ r,gG s q rule = some r ∧ (r.2 = true → ∃ x,q.inputs = [x] ∧ nQ q ≤ 24 ∧ nQ r.1 ≤ 24 ∧ GC r.1 ∧ Moves (e0Q q) x r.1) by
  obtain ⟨r,h1,h2⟩ := hw
  unfold dD
  rw [h1]
  exact ⟨r,rfl,h2⟩
 obtain ⟨cs,e,hc,hcp⟩ := pM (s := s) h hn
 unfold gG
 rw [hc,bPs,bG]
 simp only
 by_cases he : e = 0
 ·have hp := hcp he
  obtain ⟨x,hx,hxc⟩ := hp.one (.inl hk)
  rw [lh he,zd,fK (show q.kind ≠ 1 by omega),zd,show oneI q.inputs = some x from by rw [hx]; rfl,bPs,cloneB h.g hx,bPs,bG]
  simp only
  rw [zt (show rule ≥ 1 from hr.1),zc,zt hr.2.1,zc,gS hk,zc,mk_self hx]
  obtain ⟨r,hr2,hh⟩ := where_totC hp hk hx hr.2.2
  have hn24 := hp.n24
  rw [hr2,bPs,bPs]
  cases ht : r.2 with
  | false=>exact ⟨_,rfl,fun h=>by cases h⟩
  | true =>
   obtain ⟨g1,n1,m1⟩ := hh ht
   obtain ⟨cs2,e2,hc2,hcp2⟩ := pM (s := s) g1 (by omega)
   simp only [Bool.not_true,zd]
   rw [hc2,bPs]
   simp only
   by_cases he2 : e2 = 0
   ·rw [lh he2,zd]
    exact ⟨_,rfl,fun _=>⟨x,hx,hn24,(hcp2 he2).n24,g1,m1⟩⟩
   ·rw [ma he2,zc]
    exact ⟨_,rfl,fun h=>by cases h⟩
 ·rw [ma he,zc]
  exact ⟨_,rfl,fun h=>by cases h⟩
theorem All2.len {α β : Type} {R : α → β → Prop} {l : List α} {r : List β} (h : All2 R l r) : l.length = r.length := by
 induction h with
 | nil=>rfl
 | cons _ _ ih=>simp [ih]
theorem All2.sumEq {α β : Type} {R : α → β → Prop} {f : α → Nat} {g : β → Nat} {l : List α} {r : List β} (h : All2 R l r) (hR : ∀ a b,R a b → g b = f a) : (r.map g).sum = (l.map f).sum := by
 induction h with
 | nil=>rfl
 | cons h _ ih=>simp only [List.map_cons,List.sum_cons,ih,hR _ _ h]
theorem All2.sumLe {α β : Type} {R : α → β → Prop} {f : α → Nat} {g : β → Nat} {l : List α} {r : List β} (h : All2 R l r) (hR : ∀ a b,R a b → g b ≤ f a) : (r.map g).sum ≤ (l.map f).sum := by
 induction h with
 | nil=>exact Nat.le_refl _
 | cons h _ ih=>have := hR _ _ h; simp only [List.map_cons,List.sum_cons]; omega
theorem All2.mono {α β : Type} {R S : α → β → Prop} {l : List α} {r : List β} (h : All2 R l r) (hR : ∀ a b,R a b → S a b) : All2 S l r := by
 induction h with
 | nil=>exact .nil
 | cons h _ ih=>exact .cons (hR _ _ h) ih
theorem All2.mem {α β : Type} {R : α → β → Prop} {l : List α} {r : List β} (h : All2 R l r) {b : β} (hb : b ∈ r) : ∃ a ∈ l,R a b := by
 induction h with
 | nil=>simp at hb
 | @cons a b' l r h t ih =>
  rcases List.mem_cons.1 hb with rfl | hb
  ·exact ⟨a,by simp,h⟩
  ·obtain ⟨a',h1,h2⟩ := ih hb
   exact ⟨a',by simp [h1],h2⟩
theorem All2.self {α : Type} {R : α → α → Prop} : ∀ {l : List α},(∀ x ∈ l,R x x) → All2 R l l
 | [],_=>.nil
 | x :: l,h=>.cons (h x (by simp)) (All2.self fun y hy=>h y (by simp [hy]))
theorem All2.build {α β : Type} {R : α → β → Prop} : ∀ {l : List α},(∀ a ∈ l,∃ b,R a b) → ∃ r,All2 R l r
 | [],_=>⟨[],.nil⟩
 | x :: l,h=>by
  obtain ⟨b,hb⟩ := h x (by simp)
  obtain ⟨r,hr⟩ := All2.build fun y hy=>h y (List.mem_cons_of_mem x hy)
  exact ⟨b :: r,.cons hb hr⟩
def wQ (q : LQuery) : Nat := if q.kind = 2 then max 1 (q.inputs.attach.map fun x=>wQ x.1).sum else 4001 * (q.inputs.attach.map fun x=>wQ x.1).sum + 1
termination_by SizeOf.sizeOf q
decreasing_by all_goals exact LQuery.inputs_lt x.2
theorem mj (q : LQuery) : wQ q = if q.kind = 2 then max 1 (q.inputs.map wQ).sum else 4001 * (q.inputs.map wQ).sum + 1 := by
 rw [wQ,List.attach_map_val (f := wQ)]
def skQ (q : LQuery) : Nat := if q.kind = 2 then max 1 (q.inputs.attach.map fun x=>skQ x.1).sum else (q.inputs.attach.map fun x=>skQ x.1).sum + 1
termination_by SizeOf.sizeOf q
decreasing_by all_goals exact LQuery.inputs_lt x.2
theorem jT (q : LQuery) : skQ q = if q.kind = 2 then max 1 (q.inputs.map skQ).sum else (q.inputs.map skQ).sum + 1 := by
 rw [skQ,List.attach_map_val (f := skQ)]
def eK (q : LQuery) : Nat := (if q.kind = 2 then (gI (e0Q q) + 1) * wQ q else 0) + (q.inputs.attach.map fun x=>eK x.1).sum
termination_by SizeOf.sizeOf q
decreasing_by all_goals exact LQuery.inputs_lt x.2
theorem ky (q : LQuery) : eK q = (if q.kind = 2 then (gI (e0Q q) + 1) * wQ q else 0) + (q.inputs.map eK).sum := by
 rw [eK,List.attach_map_val (f := eK)]
theorem wQ_pos (q : LQuery) : 1 ≤ wQ q := by rw [mj]; split <;> omega
theorem nY (q : LQuery) : 1 ≤ skQ q := by rw [jT]; split <;> omega
theorem nQ_sum (q : LQuery) : nQ q = (q.inputs.map nQ).sum + 1 := by
 unfold nQ
 rw [eh,List.length_cons,List.length_flatten,List.map_map]
 rfl
theorem skQ_le : ∀ q : LQuery,skQ q ≤ nQ q := by
 refine LQuery.ind fun q ih=>?_
 rw [jT,nQ_sum]
 have h : (q.inputs.map skQ).sum ≤ (q.inputs.map nQ).sum := (All2.self (R := fun a b=>a = b ∧ a ∈ q.inputs) (l := q.inputs) fun x hx=>⟨rfl,hx⟩).sumLe (f := nQ) (g := skQ) fun a b hab=>by rw [← hab.1]; exact ih a hab.2
 split <;> omega
theorem ql (e : LExpr) (x : LQuery) : wQ (aF e x) = wQ x ∧ skQ (aF e x) = skQ x ∧ eK (aF e x) = (gI e + 1) * wQ x + eK x := by
 have h1 := wQ_pos x
 have h2 := nY x
 have hk : (aF e x).kind = 2 := rfl
 have hi : (aF e x).inputs = [x] := rfl
 have he : e0Q (aF e x) = e := rfl
 have w : wQ (aF e x) = wQ x := by
  rw [mj,zp hk,hi]; simp only [List.map_cons,List.map_nil,List.sum_cons,List.sum_nil]; omega
 refine ⟨w,?_,?_⟩
 ·rw [jT,zp hk,hi]; simp only [List.map_cons,List.map_nil,List.sum_cons,List.sum_nil]; omega
 ·rw [ky,zp hk,hi,w,he]; simp only [List.map_cons,List.map_nil,List.sum_cons,List.sum_nil]; omega
structure Like (a b : LQuery) : Prop where
 w : wQ b = wQ a
 sk : skQ b = skQ a
 pot : eK b ≤ eK a
theorem Like.refl (a : LQuery) : Like a a := ⟨rfl,rfl,Nat.le_refl _⟩
theorem Like.trans {a b c : LQuery} (h : Like a b) (h' : Like b c) : Like a c := ⟨h'.w.trans h.w,h'.sk.trans h.sk,Nat.le_trans h'.pot h.pot⟩
theorem pL {q : LQuery} {l : List LQuery} (h : All2 Like q.inputs l) : Like q (bT q l) := by
 have hw : (l.map wQ).sum = (q.inputs.map wQ).sum := h.sumEq fun a b k=>k.w
 have hs : (l.map skQ).sum = (q.inputs.map skQ).sum := h.sumEq fun a b k=>k.sk
 have hp : (l.map eK).sum ≤ (q.inputs.map eK).sum := h.sumLe fun a b k=>k.pot
 have w : wQ (bT q l) = wQ q := by
  rw [mj,mj q]; show (if q.kind = 2 then max 1 (l.map wQ).sum else 4001 * (l.map wQ).sum + 1) = _; rw [hw]
 refine ⟨w,?_,?_⟩
 ·rw [jT,jT q]; show (if q.kind = 2 then max 1 (l.map skQ).sum else (l.map skQ).sum + 1) = _; rw [hs]
 ·rw [ky,ky q]; show (if q.kind = 2 then (gI (e0Q q) + 1) * wQ (bT q l) else 0) + (l.map eK).sum ≤ _; rw [w]; omega
theorem over_w {a b : LQuery} (h : Over a b) : wQ b = wQ a ∧ skQ b = skQ a ∧ eK b ≤ eK a + 4001 * wQ a := by
 rcases h with rfl | ⟨c,rfl,hc⟩
 ·exact ⟨rfl,rfl,by omega⟩
 ·obtain ⟨h1,h2,h3⟩ := ql c a
  refine ⟨h1,h2,?_⟩
  rw [h3]
  have := Nat.mul_le_mul_right (wQ a) (show gI c + 1 ≤ 4001 by omega)
  omega
theorem qn {α : Type} {f g : α → Nat} {k : Nat} : ∀ l : List α,(l.map fun a=>f a + k * g a).sum = (l.map f).sum + k * (l.map g).sum
 | []=>rfl
 | x :: l=>by simp only [List.map_cons,List.sum_cons,qn l,Nat.mul_add]; omega
theorem down_w {x : LQuery} {l : List LQuery} (hk : x.kind ≠ 2) (hl : All2 Over x.inputs l) : wQ (bT x l) = wQ x ∧ skQ (bT x l) = skQ x ∧ eK (bT x l) < eK x + wQ x := by
 have hw : (l.map wQ).sum = (x.inputs.map wQ).sum := hl.sumEq fun a b k=>(over_w k).1
 have hs : (l.map skQ).sum = (x.inputs.map skQ).sum := hl.sumEq fun a b k=>(over_w k).2.1
 have hp : (l.map eK).sum ≤ (x.inputs.map fun a=>eK a + 4001 * wQ a).sum := hl.sumLe fun a b k=>(over_w k).2.2
 rw [qn] at hp
 have hk' : (bT x l).kind ≠ 2 := hk
 have hi : (bT x l).inputs = l := rfl
 refine ⟨?_,?_,?_⟩
 ·rw [mj,mj x,zy hk,zy hk',hi,hw]
 ·rw [jT,jT x,zy hk,zy hk',hi,hs]
 ·rw [ky,ky x,mj x,zy hk,zy hk',zy hk,hi]
  omega
theorem moves_w {q x z : LQuery} (hk : q.kind = 2) (hi : q.inputs = [x]) (h : Moves (e0Q q) x z) : wQ z = wQ q ∧ skQ z = skQ q ∧ eK z < eK q := by
 have h1 := wQ_pos x
 have h2 := nY x
 have hw : wQ q = wQ x := by rw [mj,zp hk,hi]; simp only [List.map_cons,List.map_nil,List.sum_cons,List.sum_nil]; omega
 have hs : skQ q = skQ x := by rw [jT,zp hk,hi]; simp only [List.map_cons,List.map_nil,List.sum_cons,List.sum_nil]; omega
 have hp : eK q = (gI (e0Q q) + 1) * wQ x + eK x := by rw [ky,zp hk,hi,hw]; simp only [List.map_cons,List.map_nil,List.sum_cons,List.sum_nil]; omega
 rw [hw,hs,hp]
 cases h with
 | @merge e' y hk2 hi2 hc =>
  obtain ⟨a1,a2,a3⟩ := ql e' y
  have b1 := wQ_pos y
  have b2 := nY y
  have cw : wQ x = wQ y := by rw [mj,zp hk2,hi2]; simp only [List.map_cons,List.map_nil,List.sum_cons,List.sum_nil]; omega
  have cs : skQ x = skQ y := by rw [jT,zp hk2,hi2]; simp only [List.map_cons,List.map_nil,List.sum_cons,List.sum_nil]; omega
  have cp : eK x = (gI (e0Q x) + 1) * wQ y + eK y := by rw [ky,zp hk2,hi2,cw]; simp only [List.map_cons,List.map_nil,List.sum_cons,List.sum_nil]; omega
  refine ⟨a1.trans cw.symm,a2.trans cs.symm,?_⟩
  rw [a3,cp,cw,hc]
  simp only [Nat.add_mul]
  omega
 | down hk2 hl =>
  obtain ⟨a1,a2,a3⟩ := down_w hk2 hl
  refine ⟨a1,a2,?_⟩
  have := Nat.le_mul_of_pos_left (wQ x) (show 0 < gI (e0Q q) + 1 by omega)
  omega
 | @rest l r hk2 hl hr =>
  obtain ⟨a1,a2,a3⟩ := down_w hk2 hl
  obtain ⟨b1,b2,b3⟩ := ql r (bT x l)
  refine ⟨b1.trans a1,b2.trans a2,?_⟩
  rw [b3,a1]
  have := Nat.mul_le_mul_right (wQ x) (show gI r + 1 ≤ gI (e0Q q) by omega)
  rw [Nat.add_mul (gI (e0Q q))]
  omega
abbrev jM : List Int := [1,3,4,5,6,7,8,9]
def Stuck (s : LSchema) (q : LQuery) : Prop := ∀ rule ∈ jM,∃ y,dD s q rule = some (y,false)
def Step (s : LSchema) (q z : LQuery) : Prop := ∃ l1 r l2,jM = l1 ++ r :: l2 ∧ (∀ rule ∈ l1,∃ y,dD s q rule = some (y,false)) ∧ dD s q r = some (z,true)
theorem rule_in {r : Int} (h : r ∈ jM) : 1 ≤ r ∧ r ≤ 9 ∧ r ≠ 2 := by
 simp only [jM,List.mem_cons,List.mem_nil_iff,or_false] at h
 omega
theorem stuck_or {s : LSchema} {q : LQuery} (h : GC q) (hn : nQ q ≤ 1000000) (hk : q.kind = 2) : Stuck s q ∨ ∃ z x,Step s q z ∧ q.inputs = [x] ∧ nQ q ≤ 24 ∧ nQ z ≤ 24 ∧ GC z ∧ Moves (e0Q q) x z := by
 have key : ∀ l2 l1 : List Int,jM = l1 ++ l2 → (∀ rule ∈ l1,∃ y,dD s q rule = some (y,false)) → Stuck s q ∨ ∃ z x,Step s q z ∧ q.inputs = [x] ∧ nQ q ≤ 24 ∧ nQ z ≤ 24 ∧ GC z ∧ Moves (e0Q q) x z := by
  intro l2
  induction l2 with
  | nil=>intro l1 he h1; left; intro rule hr; exact h1 rule (by rw [he,List.append_nil] at hr; exact hr)
  | cons r l2 ih =>
   intro l1 he h1
   obtain ⟨⟨z,ok⟩,hz,hh⟩ := apply_push (s := s) h hn hk (rule_in (show r ∈ jM by rw [he]; simp))
   cases ok with
   | true =>
    obtain ⟨x,g1,g2,g3,g4,g5⟩ := hh rfl
    exact .inr ⟨z,x,⟨l1,r,l2,he,h1,hz⟩,g1,g2,g3,g4,g5⟩
   | false =>
    refine ih (l1 ++ [r]) (by rw [he]; simp) fun rule hr=>?_
    rcases List.mem_append.1 hr with hr | hr
    ·exact h1 rule hr
    ·rw [List.mem_singleton.1 hr]; exact ⟨z,hz⟩
 exact key jM [] rfl (by simp)
inductive Pushed (s : LSchema) : LQuery → Prop
 | mk {q : LQuery} (hi : ∀ x ∈ q.inputs,Pushed s x) (hf : q.kind = 2 → Stuck s q) : Pushed s q
theorem Pushed.sub {s : LSchema} {q x : LQuery} (h : Pushed s q) (hx : x ∈ q.inputs) : Pushed s x := by cases h with | mk hi _=>exact hi x hx
theorem Pushed.stuck {s : LSchema} {q : LQuery} (h : Pushed s q) (hk : q.kind = 2) : Stuck s q := by cases h with | mk _ hf=>exact hf hk
structure PushLike (s : LSchema) (To : LQuery → LQuery → Prop) : Prop where
 node : ∀ {q : LQuery} {rs : List LQuery},q.kind ≠ 2 → GC q → All2 To q.inputs rs → To q (bT q rs)
 via : ∀ {q r : LQuery} {rs : List LQuery},q.kind = 2 → GC q → GC (bT q rs) → All2 To q.inputs rs → All2 To rs rs → To (bT q rs) r → To q r
 stuck : ∀ {q : LQuery},q.kind = 2 → GC q → All2 To q.inputs q.inputs → Stuck s q → To q q
 step : ∀ {q z r : LQuery},q.kind = 2 → GC q → All2 To q.inputs q.inputs → Step s q z → To z r → To q r
section
variable {s : LSchema} {To : LQuery → LQuery → Prop}
theorem oU (q : LQuery) : bT q q.inputs = q := by cases q; rfl
theorem lN (T : PushLike s To) : ∀ q : LQuery,Pushed s q → GC q → To q q := by
 refine LQuery.ind fun q ih h hg=>?_
 have ha : All2 To q.inputs q.inputs := All2.self fun x hx=>ih x hx (h.sub hx) (hg.sub hx)
 by_cases hk : q.kind = 2
 ·exact T.stuck hk hg ha (h.stuck hk)
 ·have := T.node hk hg ha
  rwa [oU] at this
structure Out (s : LSchema) (To : LQuery → LQuery → Prop) (q r : LQuery) : Prop where
 to : To q r
 pushed : Pushed s r
 gc : GC r
 like : Like q r
theorem gc_with {q : LQuery} (hg : GC q) {l : List LQuery} (hl : q.inputs.length = l.length) (h : ∀ x ∈ l,GC x) : GC (bT q l) := oP hg (by have := hg.g.self.ins; omega) h
theorem out_node (T : PushLike s To) {q : LQuery} {rs : List LQuery} (hk : q.kind ≠ 2) (hg : GC q) (h : All2 (Out s To) q.inputs rs) : Out s To q (bT q rs) := by
 refine ⟨T.node hk hg (h.mono fun _ _ k=>k.to),.mk (fun x hx=>?_) (fun h2=>absurd h2 hk),gc_with hg h.len fun x hx=>?_,pL (h.mono fun _ _ k=>k.like)⟩
 ·obtain ⟨a,_,k⟩ := h.mem hx; exact k.pushed
 ·obtain ⟨a,_,k⟩ := h.mem hx; exact k.gc
theorem nQ_with (q : LQuery) (l : List LQuery) : nQ (bT q l) = (l.map nQ).sum + 1 := nQ_sum _
theorem stage (T : PushLike s To) (p : Nat) : ∀ z : LQuery,eK z = p → z.kind = 2 → GC z → nQ z ≤ 1000000 → (∀ y ∈ z.inputs,Pushed s y) →
  ∃ r,Out s To z r ∧ nQ r ≤ max (nQ z) (26 * skQ z) := by
 induction p using Nat.strongRecOn with
 | _ p IH =>
  intro z hp hk hg hn hi
  have ha : All2 To z.inputs z.inputs := All2.self fun x hx=>lN T x (hi x hx) (hg.sub hx)
  rcases stuck_or (s := s) hg hn hk with hst | ⟨z1,x,hstep,hx,n0,n1,g1,hm⟩
  ·exact ⟨z,⟨T.stuck hk hg ha hst,.mk hi fun _=>hst,hg,Like.refl z⟩,by omega⟩
  ·obtain ⟨w1,s1,p1⟩ := moves_w hk hx hm
   have hsk := nY z
   have hpx : Pushed s x := hi x (by rw [hx]; simp)
   suffices hr : ∃ r,Out s To z1 r ∧ nQ r ≤ 26 * skQ z by
    obtain ⟨r,hr,hn'⟩ := hr
    exact ⟨r,⟨T.step hk hg ha hstep hr.to,hr.pushed,hr.gc,⟨hr.like.w.trans w1,hr.like.sk.trans s1,by have := hr.like.pot; omega⟩⟩,by omega⟩
   -- the inputs of what lies below
   have below : ∀ l : List LQuery,All2 Over x.inputs l → (∀ a ∈ l,GC a ∧ nQ a ≤ 24 ∧ eK a < p) → ∃ rs,All2 (fun a r=>Out s To a r ∧ nQ r ≤ 26 * skQ a) l rs := fun l hl hb=>by
    refine All2.build fun a' ha'=>?_
    obtain ⟨a,hax,hov⟩ := hl.mem ha'
    obtain ⟨ga,na,pa⟩ := hb a' ha'
    have hsa := nY a'
    have hpa := hpx.sub hax
    rcases hov with rfl | ⟨c,rfl,_⟩
    ·exact ⟨a',⟨lN T a' hpa ga,hpa,ga,Like.refl a'⟩,by omega⟩
    ·obtain ⟨r,hr,hn'⟩ := IH _ pa _ rfl rfl ga (by omega) (fun y hy=>by
      have : y = a := by simpa [aF,LQuery.inputs] using hy
      rw [this]; exact hpa)
     exact ⟨r,hr,by omega⟩
   have inner : ∀ l : List LQuery,x.kind ≠ 2 → All2 Over x.inputs l → GC (bT x l) → nQ (bT x l) ≤ 24 → eK (bT x l) < p → ∃ J,Out s To (bT x l) J ∧ J.inputs.length = l.length ∧ nQ J + 25 ≤ 26 * skQ (bT x l) := fun l hkx hl gl nl pl=>by
    have hw := nQ_with x l
    have hpot : eK (bT x l) = (l.map eK).sum := by
     rw [ky,zy (show (bT x l).kind ≠ 2 from hkx)]
     show 0 + (l.map eK).sum = _
     omega
    obtain ⟨rs,hrs⟩ := below l hl fun a ha=>⟨gl.sub (q := bT x l) ha,by have := sum_mem (f := nQ) ha; omega,by have := sum_mem (f := eK) ha; omega⟩
    have ho := out_node T (q := bT x l) hkx gl (hrs.mono fun _ _ k=>k.1)
    refine ⟨_,ho,hrs.len.symm,?_⟩
    have h1 : (rs.map nQ).sum ≤ (l.map fun a=>0 + 26 * skQ a).sum := hrs.sumLe fun a b k=>by have := k.2; omega
    rw [qn (f := fun _ : LQuery=>0)] at h1
    have h2 : (l.map fun _ : LQuery=>0).sum = 0 := by
     clear h1 ho hrs hpot hw gl nl pl hl
     induction l with
     | nil=>rfl
     | cons a l ih=>simp only [List.map_cons,List.sum_cons,ih]
    have h3 := nQ_with (bT x l) rs
    have h4 : skQ (bT x l) = (l.map skQ).sum + 1 := by
     rw [jT,zy (show (bT x l).kind ≠ 2 from hkx)]
     rfl
    omega
   cases hm with
   | @merge e' y hk2 hi2 hc =>
    obtain ⟨r,hr,hn'⟩ := IH _ (by omega) _ rfl rfl g1 (by omega) (fun y' hy=>by
     have : y' = y := by simpa [aF,LQuery.inputs] using hy
     rw [this]; exact hpx.sub (by rw [hi2]; simp))
    exact ⟨r,hr,by omega⟩
   | @down l hk2 hl =>
    obtain ⟨J,hJ,_,hnJ⟩ := inner l hk2 hl g1 n1 (by omega)
    exact ⟨J,hJ,by omega⟩
   | @rest l r0 hk2 hl hr0 =>
    obtain ⟨b1,b2,b3⟩ := ql r0 (bT x l)
    have hnw : nQ (aF r0 (bT x l)) = nQ (bT x l) + 1 := nQ1 rfl
    have gJ : GC (bT x l) := g1.sub (q := aF r0 (bT x l)) (by simp [aF,LQuery.inputs])
    obtain ⟨J,hJ,_,hnJ⟩ := inner l hk2 hl gJ (by omega) (by omega)
    have e2 : bT (aF r0 (bT x l)) [J] = aF r0 J := rfl
    have hlk : Like (aF r0 (bT x l)) (aF r0 J) := by
     rw [← e2]; exact pL (.cons hJ.like .nil)
    have g2 : GC (aF r0 J) := by
     rw [← e2]; exact gc_with g1 rfl (by simpa using hJ.gc)
    have hn2 : nQ (aF r0 J) = nQ J + 1 := nQ1 rfl
    have hsz : skQ (bT x l) = skQ z := by omega
    have hbig : nQ J ≤ 1000 := by
     have : skQ (bT x l) ≤ nQ (bT x l) := skQ_le _
     omega
    obtain ⟨r,hr,hn'⟩ := IH (eK (aF r0 J)) (by have := hlk.pot; omega) _ rfl rfl g2 (by omega) (fun y' hy=>by
     have : y' = J := by simpa [aF,LQuery.inputs] using hy
     rw [this]; exact hJ.pushed)
    have hsk2 := hlk.sk
    refine ⟨r,⟨T.via (q := aF r0 (bT x l)) (rs := [J]) rfl g1 g2 (.cons hJ.to .nil) (.cons (lN T J hJ.pushed hJ.gc) .nil) hr.to,hr.pushed,hr.gc,hlk.trans hr.like⟩,by omega⟩
theorem push_all (T : PushLike s To) : ∀ q : LQuery,GC q → nQ q ≤ 1000 → ∃ r,Out s To q r ∧ nQ r ≤ 700 * nQ q := by
 refine LQuery.ind fun q ih hg hn=>?_
 obtain ⟨rs,hrs⟩ := All2.build (R := fun a r=>Out s To a r ∧ nQ r ≤ 700 * nQ a) (l := q.inputs) fun x hx=>ih x hx (hg.sub hx) (by have := iW hx; show nQ x ≤ _; unfold nQ at hn ⊢; omega)
 have ho := hrs.mono (S := Out s To) fun _ _ k=>k.1
 have h1 : (rs.map nQ).sum ≤ (q.inputs.map fun a=>0 + 700 * nQ a).sum := hrs.sumLe fun a b k=>by have := k.2; omega
 rw [qn (f := fun _ : LQuery=>0)] at h1
 have h2 : (q.inputs.map fun _ : LQuery=>0).sum = 0 := by
  generalize q.inputs = l
  induction l with
  | nil=>rfl
  | cons a l ih=>simp only [List.map_cons,List.sum_cons,ih]
 have h3 := nQ_with q rs
 have h4 := nQ_sum q
 by_cases hk : q.kind = 2
 ·have g2 : GC (bT q rs) := gc_with hg ho.len fun x hx=>by obtain ⟨a,_,k⟩ := ho.mem hx; exact k.gc
  have hpi : ∀ y ∈ rs,Pushed s y := fun y hy=>by obtain ⟨a,_,k⟩ := ho.mem hy; exact k.pushed
  have hlk : Like q (bT q rs) := pL (ho.mono fun _ _ k=>k.like)
  obtain ⟨r,hr,hn'⟩ := stage T _ (bT q rs) rfl hk g2 (by omega) hpi
  refine ⟨r,⟨T.via hk hg g2 (ho.mono fun _ _ k=>k.to) (All2.self fun x hx=>lN T x (hpi x hx) (g2.sub (q := bT q rs) hx)) hr.to,hr.pushed,hr.gc,hlk.trans hr.like⟩,?_⟩
  have h5 := hlk.sk
  have h6 := skQ_le q
  omega
 ·exact ⟨_,out_node T hk hg ho,by omega⟩
end
theorem eqLoop {α : Type} {xs : List α} {f : α → α → Option Bool} (h : ∀ x ∈ xs,f x x = some true) :
  (cond ((xs.length : Int) != (xs.length : Int)) (some false) (ag (aH (σ := Unit) (ρ := Bool) (fun (j1 : Nat) (x1 : α) (_ : Unit) =>
   ag (aT xs (j1 : Int)) fun (x24 : α) =>
   ag (f x1 x24) fun x29 =>
   cond (!x29)
    (some (.ret false))
    (some (.next ()))) 0 xs ()) fun fl1=>fl1.thenR fun (_ : Unit)=>some true)) = some true := by
 rw [lh rfl,zd,rMa (xs := xs) (fun _=>()) rfl (fun k x hk=>by rw [lv hk,bPs,h x (cO hk),bPs]; rfl)]
 rfl
theorem eqLoop2 {α : Type} [BEq α] [ReflBEq α] (xs : List α) :
  (cond ((xs.length : Int) != (xs.length : Int)) (some false) (ag (aH (σ := Unit) (ρ := Bool) (fun (j1 : Nat) (x1 : α) (_ : Unit) =>
   ag (aT xs (j1 : Int)) fun (x24 : α) =>
   cond (!(x1 == x24))
    (some (.ret false))
    (some (.next ()))) 0 xs ()) fun fl1=>fl1.thenR fun (_ : Unit)=>some true)) = some true := by
 rw [lh rfl,zd,rMa (xs := xs) (fun _=>()) rfl (fun k x hk=>by rw [lv hk,bPs,BEq.rfl]; rfl)]
 rfl
theorem exprEq_ev (e : LExpr) : ∃ N,∀ n,N ≤ n → gk n e e = some true := by
 induction e using LExpr.ind with
 | _ e ih =>
  obtain ⟨N,hN⟩ := jU (p := fun x n=>gk n x x = some true) e.args ih
  refine ⟨N + 1,fun n hn=>?_⟩
  obtain ⟨n,rfl⟩ : ∃ k,n = k + 1 := ⟨n - 1,by omega⟩
  rw [gk]
  unfold kF
  have hl : ba e.args e.args (fun a0 a1=>gk n a0 a1) = some true := by
   unfold ba
   exact eqLoop fun x hx=>hN n (by omega) x hx
  dsimp only
  rw [hl]
  simp only [BEq.rfl,Bool.and_true,zc,bPs]
theorem exprEq (e : LExpr) : gV e e = some true := by
 obtain ⟨N,hN⟩ := exprEq_ev e
 exact gA N hN
theorem exprsEq (l : List LExpr) : ba l l (fun a0 a1=>gV a0 a1) = some true := by
 unfold ba
 exact eqLoop fun x _=>exprEq x
theorem callEq (x : LAggregateCall) : fA x x = some true := by
 unfold fA
 rw [exprsEq]
 simp only [BEq.rfl,zc,bPs]
theorem queryEq_ev : ∀ q : LQuery,∃ N,∀ n,N ≤ n → fI n q q = some true := by
 refine LQuery.ind fun q ih=>?_
 obtain ⟨N,hN⟩ := jU (p := fun x n=>fI n x x = some true) q.inputs ih
 refine ⟨N + 1,fun n hn=>?_⟩
 obtain ⟨n,rfl⟩ : ∃ k,n = k + 1 := ⟨n - 1,by omega⟩
 rw [fI]
 unfold kd
 have h1 : dq q.names q.names = some true := by
  unfold dq
  exact eqLoop2 q.names
 have h2 : ec q.descending q.descending = some true := by
  unfold ec
  exact eqLoop2 q.descending
 have h3 : aZ q.aggregates q.aggregates (fun a0 a1=>fA a0 a1) = some true := by
  unfold aZ
  exact eqLoop fun x _=>callEq x
 have h4 : bt q.inputs q.inputs (fun a0 a1=>fI n a0 a1) = some true := by
  unfold bt
  exact eqLoop fun x hx=>hN n (by omega) x hx
 dsimp only
 rw [h1,h2,exprsEq,h3,h4]
 simp only [BEq.rfl,zc,bPs]
theorem cntE_bulk2 (e : LExpr) : 2 * bv e ≤ aW (am e) := by
 induction e using LExpr.ind with
 | _ e ih =>
  have h1 := pm e
  have h2 : ∀ l : List LExpr,(∀ x ∈ l,2 * bv x ≤ aW (am x)) → 2 * (l.map bv).sum ≤ cP (l.map am) := by
   intro l hl
   induction l with
   | nil=>simp [cP]
   | cons y l ihl =>
    have a := hl y (by simp)
    have b := ihl fun x hx=>hl x (by simp [hx])
    simp only [List.map_cons,List.sum_cons,cP]
    omega
  have h3 := h2 e.args ih
  rw [ig]
  omega
theorem cnt_nodes : ∀ q : LQuery,aW (ao q) ≤ 1048576 → ∀ x ∈ bP q,∀ e ∈ x.exprs,bv e ≤ 1000000 := by
 refine LQuery.ind fun q ih hb x hx e he=>?_
 rw [eh] at hx
 rcases List.mem_cons.1 hx with rfl | hx
 ·have h1 := cntE_bulk2 e
  have h2 := ph he
  omega
 ·obtain ⟨l,hl,hx⟩ := List.mem_flatten.1 hx
  obtain ⟨y,hy,rfl⟩ := List.mem_map.1 hl
  exact ih y hy (Nat.le_trans (bulk_sub hy) hb) x hx e he
theorem gc_of {q : LQuery} (h : aW (ao q) ≤ 1048576) : GC q := gc_bulk h (.inr (cnt_nodes q h))
theorem All2.get {α β : Type} {R : α → β → Prop} {l : List α} {r : List β} (h : All2 R l r) {k : Nat} {a : α} (hk : l[k]? = some a) : ∃ b,r[k]? = some b ∧ R a b := by
 induction h generalizing k with
 | nil=>simp at hk
 | cons h _ ih =>
  cases k with
  | zero=>exact ⟨_,rfl,by simpa using (Option.some.inj hk) ▸ h⟩
  | succ k=>exact ih (by simpa using hk)
theorem All2.ev {α β : Type} {p : Nat → α → β → Prop} {l : List α} {r : List β} (h : All2 (fun a b=>∃ N,∀ n,N ≤ n → p n a b) l r) : ∃ N,∀ n,N ≤ n → All2 (p n) l r := by
 induction h with
 | nil=>exact ⟨0,fun _ _=>.nil⟩
 | cons h _ ih =>
  obtain ⟨a,ha⟩ := h
  obtain ⟨b,hb⟩ := ih
  exact ⟨a + b,fun n hn=>.cons (ha n (by omega)) (hb n (by omega))⟩
theorem pS {α σ ρ : Type} {step : Nat → α → σ → Option (Flow σ ρ)} {r : ρ} {s : σ} : ∀ (m j : Nat) (xs : List α),m < xs.length → (∀ k x,k < m → xs[k]? = some x → step (j + k) x s = some (.next s)) →
  (∀ x,xs[m]? = some x → step (j + m) x s = some (.ret r)) → aH step j xs s = some (.ret r)
 | m,j,[],h,_,_=>by simp at h
 | 0,j,x :: xs,_,_,h2=>by
  have := h2 x rfl
  rw [aH,show step j x s = some (.ret r) from this]
 | m + 1,j,x :: xs,h,h1,h2=>by
  rw [aH,show step j x s = some (.next s) from h1 0 x (by omega) rfl]
  refine pS m (j + 1) xs (by simpa using h) (fun k y hk hy=>?_) (fun y hy=>?_)
  ·rw [show j + 1 + k = j + (k + 1) by omega]
   exact h1 (k + 1) y (by omega) (by simpa using hy)
  ·rw [show j + 1 + m = j + (m + 1) by omega]
   exact h2 y (by simpa using hy)
theorem push_loop {rc : LSchema → LQuery → Option LQuery} {s : LSchema} {xs rs : List LQuery} (h : All2 (fun a r=>rc s a = some r) xs rs) :
  aH (σ := List LQuery) (ρ := Empty) (fun (j1 : Nat) (_ : Nat) (s1 : List LQuery) =>
   ag (aT s1 (j1 : Int)) fun (x19 : LQuery) =>
   ag (rc s x19) fun x26 =>
   ag (aT s1 (j1 : Int)) fun (_ : LQuery) =>
   bq (s1.set ((j1 : Int).toNat) x26) fun (y4 : List LQuery) =>
   some (.next y4)) 0 (List.range xs.length) xs = some (.next rs) := by
 have hl := h.len
 rw [rMa (xs := List.range xs.length) (s := xs) (fun k=>rs.take k ++ xs.drop k) (by simp) (fun k i hk=>by
  have hkl : k < xs.length := by simpa using (zg.1 hk).1
  obtain ⟨b,hb,hr⟩ := h.get (ze hkl)
  have htl : (rs.take k).length = k := by rw [List.length_take]; omega
  have hg : aT (rs.take k ++ xs.drop k) (k : Int) = some xs[k] := je (by omega) (by
   rw [Int.toNat_natCast,List.getElem?_append_right (by omega),htl,Nat.sub_self,List.getElem?_drop,Nat.add_zero,ze hkl])
  rw [hg,bPs,hr,bPs,bPs,bG,Int.toNat_natCast,List.set_append_right _ _ (by omega),htl,Nat.sub_self,List.drop_eq_getElem_cons hkl,List.set_cons_zero,List.take_add_one,hb]
  simp)]
 rw [List.length_range,List.drop_length,List.append_nil,List.take_of_length_le (by omega)]
def tailQ (rc : LSchema → LQuery → Option LQuery) (s : LSchema) (x : LQuery) : Option LQuery :=
 cond (x.kind != (2 : Int))
  (some (LQuery.mk x.kind x.table x.names x.exprs x.aggregates x.descending x.count x.offset x.inputs))
  (ag (jV (([1,3,4,5,6,7,8,9] : List Int).length : Int)) fun (n5 : Nat) =>
  ag (aH (σ := List LQuery) (ρ := (LQuery)) (fun (j5 : Nat) (_ : Nat) (s5 : List LQuery) =>
   ag (aT ([1,3,4,5,6,7,8,9] : List Int) (j5 : Int)) fun (x37 : Int) =>
   ag (dD s (LQuery.mk x.kind x.table x.names x.exprs x.aggregates x.descending x.count x.offset s5) x37) fun x43 =>
   cond x43.2
    (ag (rc s x43.1) fun x49 =>
    some (.ret x49))
    (some (.next s5))) 0 (List.range n5) x.inputs) fun fl5=>fl5.thenR fun (s5 : List LQuery) =>
  some (LQuery.mk x.kind x.table x.names x.exprs x.aggregates x.descending x.count x.offset s5))
theorem lP {rc : LSchema → LQuery → Option LQuery} {s : LSchema} {q : LQuery} {rs : List LQuery} (hq : GC q) (h : All2 (fun a r=>rc s a = some r) q.inputs rs) : io rc s q = tailQ rc s (bT q rs) := by
 unfold io
 have := hq.g.self.ins
 rw [cloneI hq.g,bPs,nG (by omega),bPs,Int.toNat_natCast,push_loop h,bPs,bV]
 rfl
theorem tail_node {rc : LSchema → LQuery → Option LQuery} {s : LSchema} {x : LQuery} (h : x.kind ≠ 2) : tailQ rc s x = some x := by
 unfold tailQ
 rw [ma h,zc]
 cases x
 rfl
theorem mk_eta (x : LQuery) : LQuery.mk x.kind x.table x.names x.exprs x.aggregates x.descending x.count x.offset x.inputs = x := by cases x; rfl
theorem rule_get {k : Nat} (h : k < 8) : ∃ r,aT ([1,3,4,5,6,7,8,9] : List Int) (k : Int) = some r ∧ jM[k]? = some r := by
 obtain ⟨r,hr⟩ : ∃ r,jM[k]? = some r := ⟨jM[k]'(by simpa using h),ze _⟩
 exact ⟨r,je (by omega) (by rw [Int.toNat_natCast]; exact hr),hr⟩
theorem tail_stuck {rc : LSchema → LQuery → Option LQuery} {s : LSchema} {x : LQuery} (hk : x.kind = 2) (h : Stuck s x) : tailQ rc s x = some x := by
 unfold tailQ
 rw [lh hk,zd,nG (by decide),bPs]
 rw [rMa (s := x.inputs) (fun _=>x.inputs) rfl (fun k i hi=>by
  have hk8 : k < 8 := by simpa using (zg.1 hi).1
  obtain ⟨r,hr,hr2⟩ := rule_get hk8
  obtain ⟨y,hy⟩ := h r (cO hr2)
  rw [hr,bPs,mk_eta,hy,bPs,zd])]
 rw [bPs,jf,mk_eta]
theorem tail_step {rc : LSchema → LQuery → Option LQuery} {s : LSchema} {x z r : LQuery} (hk : x.kind = 2) (h : Step s x z) (hr : rc s z = some r) : tailQ rc s x = some r := by
 obtain ⟨l1,ru,l2,he,h1,h2⟩ := h
 have hlen : l1.length < 8 := by
  have := congrArg List.length he
  simp only [List.length_append,List.length_cons,List.length_nil] at this
  omega
 unfold tailQ
 rw [lh hk,zd,nG (by decide),bPs]
 rw [pS (r := r) l1.length 0 _ (by simpa using hlen) (fun k i hkl hi=>by
  obtain ⟨r1,hr1,hr2⟩ := rule_get (k := k) (by omega)
  rw [he,List.getElem?_append_left hkl] at hr2
  obtain ⟨y,hy⟩ := h1 r1 (cO hr2)
  rw [Nat.zero_add,hr1,bPs,mk_eta,hy,bPs,zd]) (fun i hi=>by
  obtain ⟨r1,hr1,hr2⟩ := rule_get hlen
  rw [he,List.getElem?_append_right (Nat.le_refl _),Nat.sub_self] at hr2
  obtain rfl : ru = r1 := Option.some.inj hr2
  rw [Nat.zero_add,hr1,bPs,mk_eta,h2,bPs,zc,hr,bPs])]
 rfl
abbrev ToP (s : LSchema) (q r : LQuery) : Prop := ∃ N,∀ n,N ≤ n → cj n s q = some r
theorem push_like (s : LSchema) : PushLike s (ToP s) where
 node := fun {q rs} hk hg h=>by
  obtain ⟨N,hN⟩ := All2.ev (p := fun n a r=>cj n s a = some r) h
  refine ⟨N + 1,fun n hn=>?_⟩
  obtain ⟨n,rfl⟩ : ∃ k,n = k + 1 := ⟨n - 1,by omega⟩
  rw [cj,lP hg (hN n (by omega)),tail_node (show (bT q rs).kind ≠ 2 from hk)]
 via := fun {q r rs} hk hg hg2 h h2 ⟨M,hM⟩=>by
  obtain ⟨N,hN⟩ := All2.ev (p := fun n a r=>cj n s a = some r) h
  obtain ⟨N2,hN2⟩ := All2.ev (p := fun n a r=>cj n s a = some r) h2
  refine ⟨N + N2 + M + 1,fun n hn=>?_⟩
  have e := hM n (by omega)
  obtain ⟨n,rfl⟩ : ∃ k,n = k + 1 := ⟨n - 1,by omega⟩
  rw [cj,lP (q := bT q rs) hg2 (hN2 n (by omega))] at e
  rw [cj,lP hg (hN n (by omega))]
  exact e
 stuck := fun {q} hk hg h hst=>by
  obtain ⟨N,hN⟩ := All2.ev (p := fun n a r=>cj n s a = some r) h
  refine ⟨N + 1,fun n hn=>?_⟩
  obtain ⟨n,rfl⟩ : ∃ k,n = k + 1 := ⟨n - 1,by omega⟩
  rw [cj,lP hg (hN n (by omega)),oU,tail_stuck hk hst]
 step := fun {q z r} hk hg h hst ⟨M,hM⟩=>by
  obtain ⟨N,hN⟩ := All2.ev (p := fun n a r=>cj n s a = some r) h
  refine ⟨N + M + 1,fun n hn=>?_⟩
  obtain ⟨n,rfl⟩ : ∃ k,n = k + 1 := ⟨n - 1,by omega⟩
  rw [cj,lP hg (hN n (by omega)),oU,tail_step hk hst (hM n (by omega))]
theorem queryEq (q : LQuery) : lU q q = some true := by
 obtain ⟨N,hN⟩ := queryEq_ev q
 exact gA N hN
theorem rk {s : LSchema} {q : LQuery} (hg : GC q) (hn : nQ q ≤ 1000) : ∃ p,cf s q = some p ∧ cf s p = some p := by
 obtain ⟨r,ho,hr⟩ := push_all (push_like s) q hg hn
 obtain ⟨N,hN⟩ := ho.to
 obtain ⟨M,hM⟩ := lN (push_like s) r ho.pushed ho.gc
 have e1 : jj s q = some r := gA N hN
 have e2 : jj s r = some r := gA M hM
 obtain ⟨cs,e,hc,_⟩ := pM (s := s) ho.gc (by omega)
 have f1 : cf s q = some (cond (e != 0) q r) := by
  unfold cf
  rw [e1,bPs,hc,bPs,cloneG hg.g]
  cases (e != 0) <;> rfl
 have f2 : cf s r = some r := by
  unfold cf
  rw [e2,bPs,hc,bPs,cloneG ho.gc.g]
  cases (e != 0) <;> rfl
 cases h : (e != 0) with
 | true=>exact ⟨q,by rw [f1,h]; rfl,by rw [f1,h]; rfl⟩
 | false=>exact ⟨r,by rw [f1,h]; rfl,f2⟩
theorem qV {s : LSchema} (hs : SmallS s) {q : LQuery} (hq : aW (ao q) ≤ 1048576) : cS s q = some true := by
 unfold cS
 rw [bG,show (!sampleV) = false from rfl,zd]
 obtain ⟨b,hb,hcq⟩ := valid_tot hs hq
 rw [hb,bPs]
 cases b with
 | false=>rfl
 | true =>
  have h := hcq rfl
  have hn : nQ q ≤ 24 := h.n24
  obtain ⟨p,h1,h2⟩ := rk (s := s) (gc_of hq) (by omega)
  rw [Bool.not_true,zd,h1,bPs,h2,bPs,queryEq,bPs]
theorem own_knob : ownKnob Tryz.prog.godebug = none := by kernel_rfl
theorem laid_out : laidOutB Tryz.prog = true := by kernel_rfl
def lawTypes : List TypeId := [26,22,71,9,60,68,3,4,44,23,135,24,141,73,33,27,28,91,29,88,30,31]
theorem lawTypes_ok : lawTypes.all (okT Tryz.prog lawTypes) = true := by kernel_rfl
theorem lawTypes_info : ∀ t ∈ lawTypes,∃ i,Tryz.prog.info? t = some i ∧ i.bytes = Tryz.prog.bytesOf t ∧ i.size = Tryz.prog.cellsOf t := infos_of (by kernel_rfl)
theorem sh9 {n : Nat} {pvs : List PV} (h : Sh Tryz.prog n 9 pvs) : ∃ v : List UInt8,pvs = [.str v] := by
 cases n with
 | zero=>simp [Sh] at h
 | succ n=>simp only [Sh,Tryz.underlying9] at h; obtain ⟨m,rfl,_⟩ := h; exact ⟨m,rfl⟩
theorem sh3 {n : Nat} {pvs : List PV} (h : Sh Tryz.prog n 3 pvs) : ∃ v : Int,pvs = [ac v] := by
 cases n with
 | zero=>simp [Sh] at h
 | succ n=>simp only [Sh,Tryz.underlying3] at h; obtain ⟨m,rfl,_⟩ := h; exact ⟨m,rfl⟩
theorem sh4 {n : Nat} {pvs : List PV} (h : Sh Tryz.prog n 4 pvs) : ∃ v : Bool,pvs = [au v] := by
 cases n with
 | zero=>simp [Sh] at h
 | succ n=>simp only [Sh,Tryz.underlying4] at h; obtain ⟨m,rfl⟩ := h; exact ⟨m,rfl⟩
theorem sh68 {n : Nat} {pvs : List PV} (h : Sh Tryz.prog n 68 pvs) : ∃ v : LCol,pvs = bg v := by
 cases n with
 | zero=>simp [Sh] at h
 | succ n =>
  simp only [Sh,Tryz.underlying68,List.map_cons,List.map_nil,fB] at h
  obtain ⟨p0,r0,rfl,h0,p1,r1,rfl,h1,p2,r2,rfl,h2,rfl⟩ := h
  obtain ⟨v0,rfl⟩ := sh9 h0
  obtain ⟨v1,rfl⟩ := sh3 h1
  obtain ⟨v2,rfl⟩ := sh4 h2
  exact ⟨LCol.mk v0 v1 v2,rfl⟩
theorem sh60 {n : Nat} {pvs : List PV} (h : Sh Tryz.prog n 60 pvs) : ∃ v : List LCol,pvs = [.list 68 (v.map bg)] := by
 cases n with
 | zero=>simp [Sh] at h
 | succ n =>
  simp only [Sh,Tryz.underlying60] at h
  obtain ⟨rows,rfl,hr⟩ := h
  obtain ⟨xs,rfl⟩ := js (f := bg) (fun r hq=>sh68 (hr r hq))
  exact ⟨xs,rfl⟩
theorem sh44 {n : Nat} {pvs : List PV} (h : Sh Tryz.prog n 44 pvs) : ∃ v : List Int,pvs = [.list 3 (v.map bE)] := by
 cases n with
 | zero=>simp [Sh] at h
 | succ n =>
  simp only [Sh,Tryz.underlying44] at h
  obtain ⟨rows,rfl,hr⟩ := h
  obtain ⟨xs,rfl⟩ := js (f := bE) (fun r hq=>let ⟨v,e⟩ := sh3 (hr r hq); ⟨v,e⟩)
  exact ⟨xs,rfl⟩
theorem sh71 {n : Nat} {pvs : List PV} (h : Sh Tryz.prog n 71 pvs) : ∃ v : LTable,pvs = cJ v := by
 cases n with
 | zero=>simp [Sh] at h
 | succ n =>
  simp only [Sh,Tryz.underlying71,List.map_cons,List.map_nil,fB] at h
  obtain ⟨p0,r0,rfl,h0,p1,r1,rfl,h1,p2,r2,rfl,h2,rfl⟩ := h
  obtain ⟨v0,rfl⟩ := sh9 h0
  obtain ⟨v1,rfl⟩ := sh60 h1
  obtain ⟨v2,rfl⟩ := sh44 h2
  exact ⟨LTable.mk v0 v1 v2,rfl⟩
theorem sh22 {n : Nat} {pvs : List PV} (h : Sh Tryz.prog n 22 pvs) : ∃ v : List LTable,pvs = [.list 71 (v.map cJ)] := by
 cases n with
 | zero=>simp [Sh] at h
 | succ n =>
  simp only [Sh,Tryz.underlying22] at h
  obtain ⟨rows,rfl,hr⟩ := h
  obtain ⟨xs,rfl⟩ := js (f := cJ) (fun r hq=>sh71 (hr r hq))
  exact ⟨xs,rfl⟩
theorem sh135 {n : Nat} {pvs : List PV} (h : Sh Tryz.prog n 135 pvs) : ∃ v : LForeignKey,pvs = gu v := by
 cases n with
 | zero=>simp [Sh] at h
 | succ n =>
  simp only [Sh,Tryz.underlying135,List.map_cons,List.map_nil,fB] at h
  obtain ⟨p0,r0,rfl,h0,p1,r1,rfl,h1,p2,r2,rfl,h2,rfl⟩ := h
  obtain ⟨v0,rfl⟩ := sh9 h0
  obtain ⟨v1,rfl⟩ := sh44 h1
  obtain ⟨v2,rfl⟩ := sh9 h2
  exact ⟨LForeignKey.mk v0 v1 v2,rfl⟩
theorem sh23 {n : Nat} {pvs : List PV} (h : Sh Tryz.prog n 23 pvs) : ∃ v : List LForeignKey,pvs = [.list 135 (v.map gu)] := by
 cases n with
 | zero=>simp [Sh] at h
 | succ n =>
  simp only [Sh,Tryz.underlying23] at h
  obtain ⟨rows,rfl,hr⟩ := h
  obtain ⟨xs,rfl⟩ := js (f := gu) (fun r hq=>sh135 (hr r hq))
  exact ⟨xs,rfl⟩
theorem sh73 {n : Nat} {pvs : List PV} (h : Sh Tryz.prog n 73 pvs) : ∃ v : LVal,pvs = eM v := by
 cases n with
 | zero=>simp [Sh] at h
 | succ n =>
  simp only [Sh,Tryz.underlying73,List.map_cons,List.map_nil,fB] at h
  obtain ⟨p0,r0,rfl,h0,p1,r1,rfl,h1,p2,r2,rfl,h2,rfl⟩ := h
  obtain ⟨v0,rfl⟩ := sh3 h0
  obtain ⟨v1,rfl⟩ := sh3 h1
  obtain ⟨v2,rfl⟩ := sh9 h2
  exact ⟨LVal.mk v0 v1 v2,rfl⟩
theorem sh141 {n : Nat} {pvs : List PV} (h : Sh Tryz.prog n 141 pvs) : ∃ v : LConstraint,pvs = it v := by
 cases n with
 | zero=>simp [Sh] at h
 | succ n =>
  simp only [Sh,Tryz.underlying141,List.map_cons,List.map_nil,fB] at h
  obtain ⟨p0,r0,rfl,h0,p1,r1,rfl,h1,p2,r2,rfl,h2,p3,r3,rfl,h3,p4,r4,rfl,h4,rfl⟩ := h
  obtain ⟨v0,rfl⟩ := sh9 h0
  obtain ⟨v1,rfl⟩ := sh3 h1
  obtain ⟨v2,rfl⟩ := sh9 h2
  obtain ⟨v3,rfl⟩ := sh3 h3
  obtain ⟨v4,rfl⟩ := sh73 h4
  exact ⟨LConstraint.mk v0 v1 v2 v3 v4,rfl⟩
theorem sh24 {n : Nat} {pvs : List PV} (h : Sh Tryz.prog n 24 pvs) : ∃ v : List LConstraint,pvs = [.list 141 (v.map it)] := by
 cases n with
 | zero=>simp [Sh] at h
 | succ n =>
  simp only [Sh,Tryz.underlying24] at h
  obtain ⟨rows,rfl,hr⟩ := h
  obtain ⟨xs,rfl⟩ := js (f := it) (fun r hq=>sh141 (hr r hq))
  exact ⟨xs,rfl⟩
theorem sh26 {n : Nat} {pvs : List PV} (h : Sh Tryz.prog n 26 pvs) : ∃ v : LSchema,pvs = aD v := by
 cases n with
 | zero=>simp [Sh] at h
 | succ n =>
  simp only [Sh,Tryz.underlying26,List.map_cons,List.map_nil,fB] at h
  obtain ⟨p0,r0,rfl,h0,p1,r1,rfl,h1,p2,r2,rfl,h2,rfl⟩ := h
  obtain ⟨v0,rfl⟩ := sh22 h0
  obtain ⟨v1,rfl⟩ := sh23 h1
  obtain ⟨v2,rfl⟩ := sh24 h2
  exact ⟨LSchema.mk v0 v1 v2,rfl⟩
theorem sh27 {n : Nat} {pvs : List PV} (h : Sh Tryz.prog n 27 pvs) : ∃ v : List (List UInt8),pvs = [.list 9 (v.map aE)] := by
 cases n with
 | zero=>simp [Sh] at h
 | succ n =>
  simp only [Sh,Tryz.underlying27] at h
  obtain ⟨rows,rfl,hr⟩ := h
  obtain ⟨xs,rfl⟩ := js (f := aE) (fun r hq=>let ⟨v,e⟩ := sh9 (hr r hq); ⟨v,e⟩)
  exact ⟨xs,rfl⟩
theorem sh91 {n : Nat} {pvs : List PV} (h : Sh Tryz.prog n 91 pvs) : ∃ v : LExpr,pvs = am v := by
 induction n generalizing pvs with
 | zero=>simp [Sh] at h
 | succ n ih =>
  simp only [Sh,Tryz.underlying91,List.map_cons,List.map_nil,fB] at h
  obtain ⟨p0,r0,rfl,h0,p1,r1,rfl,h1,p2,r2,rfl,h2,p3,r3,rfl,h3,p4,r4,rfl,h4,rfl⟩ := h
  obtain ⟨v0,rfl⟩ := sh3 h0
  obtain ⟨v1,rfl⟩ := sh9 h1
  obtain ⟨v2,rfl⟩ := sh3 h2
  obtain ⟨v3,rfl⟩ := sh73 h3
  cases n with
  | zero=>simp [Sh] at h4
  | succ n =>
  simp only [Sh,Tryz.underlying28] at h4
  obtain ⟨rows,rfl,hr4⟩ := h4
  obtain ⟨v4,rfl⟩ := rowsUp (f := am) (rfl) ih hr4
  exact ⟨LExpr.mk v0 v1 v2 v3 v4,by rw [aQ]; rfl⟩
theorem sh28 {n : Nat} {pvs : List PV} (h : Sh Tryz.prog n 28 pvs) : ∃ v : List LExpr,pvs = [.list 91 (v.map am)] := by
 cases n with
 | zero=>simp [Sh] at h
 | succ n =>
  simp only [Sh,Tryz.underlying28] at h
  obtain ⟨rows,rfl,hr⟩ := h
  obtain ⟨xs,rfl⟩ := js (f := am) (fun r hq=>sh91 (hr r hq))
  exact ⟨xs,rfl⟩
theorem sh88 {n : Nat} {pvs : List PV} (h : Sh Tryz.prog n 88 pvs) : ∃ v : LAggregateCall,pvs = aO v := by
 cases n with
 | zero=>simp [Sh] at h
 | succ n =>
  simp only [Sh,Tryz.underlying88,List.map_cons,List.map_nil,fB] at h
  obtain ⟨p0,r0,rfl,h0,p1,r1,rfl,h1,p2,r2,rfl,h2,rfl⟩ := h
  obtain ⟨v0,rfl⟩ := sh9 h0
  obtain ⟨v1,rfl⟩ := sh9 h1
  obtain ⟨v2,rfl⟩ := sh28 h2
  exact ⟨LAggregateCall.mk v0 v1 v2,rfl⟩
theorem sh29 {n : Nat} {pvs : List PV} (h : Sh Tryz.prog n 29 pvs) : ∃ v : List LAggregateCall,pvs = [.list 88 (v.map aO)] := by
 cases n with
 | zero=>simp [Sh] at h
 | succ n =>
  simp only [Sh,Tryz.underlying29] at h
  obtain ⟨rows,rfl,hr⟩ := h
  obtain ⟨xs,rfl⟩ := js (f := aO) (fun r hq=>sh88 (hr r hq))
  exact ⟨xs,rfl⟩
theorem sh30 {n : Nat} {pvs : List PV} (h : Sh Tryz.prog n 30 pvs) : ∃ v : List Bool,pvs = [.list 4 (v.map aV)] := by
 cases n with
 | zero=>simp [Sh] at h
 | succ n =>
  simp only [Sh,Tryz.underlying30] at h
  obtain ⟨rows,rfl,hr⟩ := h
  obtain ⟨xs,rfl⟩ := js (f := aV) (fun r hq=>let ⟨v,e⟩ := sh4 (hr r hq); ⟨v,e⟩)
  exact ⟨xs,rfl⟩
theorem sh33 {n : Nat} {pvs : List PV} (h : Sh Tryz.prog n 33 pvs) : ∃ v : LQuery,pvs = ap v := by
 induction n generalizing pvs with
 | zero=>simp [Sh] at h
 | succ n ih =>
  simp only [Sh,Tryz.underlying33,List.map_cons,List.map_nil,fB] at h
  obtain ⟨p0,r0,rfl,h0,p1,r1,rfl,h1,p2,r2,rfl,h2,p3,r3,rfl,h3,p4,r4,rfl,h4,p5,r5,rfl,h5,p6,r6,rfl,h6,p7,r7,rfl,h7,p8,r8,rfl,h8,rfl⟩ := h
  obtain ⟨v0,rfl⟩ := sh3 h0
  obtain ⟨v1,rfl⟩ := sh9 h1
  obtain ⟨v2,rfl⟩ := sh27 h2
  obtain ⟨v3,rfl⟩ := sh28 h3
  obtain ⟨v4,rfl⟩ := sh29 h4
  obtain ⟨v5,rfl⟩ := sh30 h5
  obtain ⟨v6,rfl⟩ := sh3 h6
  obtain ⟨v7,rfl⟩ := sh3 h7
  cases n with
  | zero=>simp [Sh] at h8
  | succ n =>
  simp only [Sh,Tryz.underlying31] at h8
  obtain ⟨rows,rfl,hr8⟩ := h8
  obtain ⟨v8,rfl⟩ := rowsUp (f := ap) (rfl) ih hr8
  exact ⟨LQuery.mk v0 v1 v2 v3 v4 v5 v6 v7 v8,by rw [aK]; rfl⟩
theorem law_args : ∀ args,ArgsSh Tryz.prog Tryz.f3.params.toList args → aW args ≤ 1048576 → aS Tryz.prog 3 args (.val (.bool true)) := by
 intro args h hN
 rw [Tryz.params3] at h
 simp only [ArgsSh] at h
 obtain ⟨n0,p0,r0,rfl,h0,n1,p1,r1,rfl,h1,rfl⟩ := h
 obtain ⟨v0,rfl⟩ := sh26 h0
 obtain ⟨v1,rfl⟩ := sh33 h1
 have e0 : kL Tryz.prog 26 (aD v0) = .agg (aD v0) := by simp only [kL,Tryz.underlying26]
 rw [e0] at hN ⊢
 have e1 : kL Tryz.prog 33 (ap v1) = .agg (ap v1) := by simp only [kL,Tryz.underlying33]
 rw [aK] at e1
 rw [aK v1,e1] at hN ⊢
 simp only [aW,PV.bulk] at hN
 have hs0 : SmallS v0 := smallS_bulk (n := 1048576) (by omega) (by omega)
 have hq : aW (ao v1) ≤ 1048576 := by omega
 exact jg v0 v1 true (qV hs0 hq)
set_option maxRecDepth 100000 in
theorem law_wf : (fun (P : Program) (f : FuncId) (fn : Func) (s : ChangeSpec) (c : OpenClaim)=>(P.funcs.size,f,fn.params.size,s.name,c.func,c.wf (OpenSpec.ofChange s)).2.2.2.2.2) Tryz.prog 3 Tryz.f3 (Rows.OpenSpec.upto Rows.pushFiltersReachesFixpointSpec).bare Rows.pushFiltersReachesFixpointUptoRow = true := by kernel_rfl
set_option maxRecDepth 100000 in
theorem law_laid : (fun (P : Program) (f : FuncId) (fn : Func) (s : ChangeSpec) (c : OpenClaim)=>(P.funcs.size,f,fn.params.size,s.name,c.func,laidOutB P).2.2.2.2.2) Tryz.prog 3 Tryz.f3 (Rows.OpenSpec.upto Rows.pushFiltersReachesFixpointSpec).bare Rows.pushFiltersReachesFixpointUptoRow = true := by kernel_rfl
set_option maxRecDepth 100000 in
theorem law_mapsRowed : (fun (P : Program) (f : FuncId) (fn : Func) (s : ChangeSpec) (c : OpenClaim)=>(P.funcs.size,f,fn.params.size,s.name,c.func,mapsRowed P).2.2.2.2.2) Tryz.prog 3 Tryz.f3 (Rows.OpenSpec.upto Rows.pushFiltersReachesFixpointSpec).bare Rows.pushFiltersReachesFixpointUptoRow = true := by kernel_rfl
set_option maxRecDepth 100000 in
theorem law_rr : (fun (P : Program) (f : FuncId) (fn : Func) (s : ChangeSpec) (c : OpenClaim)=>(P.funcs.size,f,fn.params.size,s.name,c.func,fn.params.all (P.readableRec ·)).2.2.2.2.2) Tryz.prog 3 Tryz.f3 (Rows.OpenSpec.upto Rows.pushFiltersReachesFixpointSpec).bare Rows.pushFiltersReachesFixpointUptoRow = true := by kernel_rfl
set_option maxRecDepth 100000 in
theorem law_nt : (fun (P : Program) (f : FuncId) (fn : Func) (s : ChangeSpec) (c : OpenClaim)=>(P.funcs.size,f,fn.params.size,s.name,c.func,namedTie P c.named s.vars).2.2.2.2.2) Tryz.prog 3 Tryz.f3 (Rows.OpenSpec.upto Rows.pushFiltersReachesFixpointSpec).bare Rows.pushFiltersReachesFixpointUptoRow = true := by kernel_rfl
set_option maxRecDepth 100000 in
theorem law_st : (fun (P : Program) (f : FuncId) (fn : Func) (s : ChangeSpec) (c : OpenClaim)=>(P.funcs.size,f,fn.params.size,s.name,c.func,(c.stops == []) && (P.stops == []) && (c.knobs == []) && (P.stopKnobs == [])).2.2.2.2.2) Tryz.prog 3 Tryz.f3 (Rows.OpenSpec.upto Rows.pushFiltersReachesFixpointSpec).bare Rows.pushFiltersReachesFixpointUptoRow = true := by kernel_rfl
set_option maxRecDepth 100000 in
theorem law_inPlace : (fun (P : Program) (f : FuncId) (fn : Func) (s : ChangeSpec) (c : OpenClaim)=>(P.funcs.size,f,fn.params.size,s.name,c.func,c.inPlace == P.inPlace f).2.2.2.2.2) Tryz.prog 3 Tryz.f3 (Rows.OpenSpec.upto Rows.pushFiltersReachesFixpointSpec).bare Rows.pushFiltersReachesFixpointUptoRow = true := by kernel_rfl
set_option maxRecDepth 100000 in
theorem law_unf : (fun (P : Program) (f : FuncId) (fn : Func) (s : ChangeSpec) (c : OpenClaim)=>(P.funcs.size,f,fn.params.size,s.name,c.func,c.unfollowed == P.unfollowed f).2.2.2.2.2) Tryz.prog 3 Tryz.f3 (Rows.OpenSpec.upto Rows.pushFiltersReachesFixpointSpec).bare Rows.pushFiltersReachesFixpointUptoRow = true := by kernel_rfl
set_option maxRecDepth 100000 in
theorem law_rec : (fun (P : Program) (f : FuncId) (fn : Func) (s : ChangeSpec) (c : OpenClaim)=>(P.funcs.size,f,fn.params.size,s.name,c.func,c.recurses == P.recurses f).2.2.2.2.2) Tryz.prog 3 Tryz.f3 (Rows.OpenSpec.upto Rows.pushFiltersReachesFixpointSpec).bare Rows.pushFiltersReachesFixpointUptoRow = true := by kernel_rfl
set_option maxRecDepth 100000 in
theorem law_named : (fun (P : Program) (f : FuncId) (fn : Func) (s : ChangeSpec) (c : OpenClaim)=>(P.funcs.size,f,fn.params.size,s.name,c.func,c.named == P.varsNamed f).2.2.2.2.2) Tryz.prog 3 Tryz.f3 (Rows.OpenSpec.upto Rows.pushFiltersReachesFixpointSpec).bare Rows.pushFiltersReachesFixpointUptoRow = true := by kernel_rfl
set_option maxRecDepth 100000 in
theorem law_maps : (fun (P : Program) (f : FuncId) (fn : Func) (s : ChangeSpec) (c : OpenClaim)=>(P.funcs.size,f,fn.params.size,s.name,c.func,(c.maps == (fn.params.toList ++ s.plain.varTypes P).any (P.mapsRec ·)) && (c.ifaces == (fn.params.toList ++ s.plain.varTypes P).any (P.ifacesRec ·)) && (c.mapsOut == P.mapsAmong fn.resultTypes.toList)).2.2.2.2.2) Tryz.prog 3 Tryz.f3 (Rows.OpenSpec.upto Rows.pushFiltersReachesFixpointSpec).bare Rows.pushFiltersReachesFixpointUptoRow = true := by kernel_rfl
set_option maxRecDepth 100000 in
theorem law_loops : (fun (P : Program) (f : FuncId) (fn : Func) (s : ChangeSpec) (c : OpenClaim)=>(P.funcs.size,f,fn.params.size,s.name,c.func,(c.loops == (fn.params.toList ++ s.plain.varTypes P).any (P.loopsFrom ·))).2.2.2.2.2) Tryz.prog 3 Tryz.f3 (Rows.OpenSpec.upto Rows.pushFiltersReachesFixpointSpec).bare Rows.pushFiltersReachesFixpointUptoRow = true := by kernel_rfl
set_option maxRecDepth 100000 in
theorem law_wide : (fun (P : Program) (f : FuncId) (fn : Func) (s : ChangeSpec) (c : OpenClaim)=>(P.funcs.size,f,fn.params.size,s.name,c.func,(c.wideKeys == (fn.params.toList ++ s.plain.varTypes P ++ fn.resultTypes.toList).any (P.wideKeysFrom ·))).2.2.2.2.2) Tryz.prog 3 Tryz.f3 (Rows.OpenSpec.upto Rows.pushFiltersReachesFixpointSpec).bare Rows.pushFiltersReachesFixpointUptoRow = true := by kernel_rfl
set_option maxRecDepth 100000 in
theorem law_rest1 : (fun (P : Program) (f : FuncId) (fn : Func) (s : ChangeSpec) (c : OpenClaim)=>(P.funcs.size,f,fn.params.size,s.name,c.func,s.vars.all (P.varReadable ·) && fn.resultTypes.all (fun t=>P.readableRec t && decide (t < P.types.size)) && (c.ifacesOut == fn.resultTypes.toList.any (P.ifacesRec ·)) && (c.loopsOut == fn.resultTypes.toList.any (P.loopsFrom ·))).2.2.2.2.2) Tryz.prog 3 Tryz.f3 (Rows.OpenSpec.upto Rows.pushFiltersReachesFixpointSpec).bare Rows.pushFiltersReachesFixpointUptoRow = true := by kernel_rfl
set_option maxRecDepth 100000 in
theorem law_plainKeys : (fun (P : Program) (f : FuncId) (fn : Func) (s : ChangeSpec) (c : OpenClaim)=>(P.funcs.size,f,fn.params.size,s.name,c.func,c.plainKeys == P.plainKeys).2.2.2.2.2) Tryz.prog 3 Tryz.f3 (Rows.OpenSpec.upto Rows.pushFiltersReachesFixpointSpec).bare Rows.pushFiltersReachesFixpointUptoRow = true := by kernel_rfl
set_option maxRecDepth 100000 in
theorem law_rest2 : (fun (P : Program) (f : FuncId) (fn : Func) (s : ChangeSpec) (c : OpenClaim)=>(P.funcs.size,f,fn.params.size,s.name,c.func,c.shortTexts.isNone && P.stopsHeard && P.mayEnter && (c.lifted == P.liftsFinal) && (P.make == some c.make)).2.2.2.2.2) Tryz.prog 3 Tryz.f3 (Rows.OpenSpec.upto Rows.pushFiltersReachesFixpointSpec).bare Rows.pushFiltersReachesFixpointUptoRow = true := by kernel_rfl
set_option maxRecDepth 100000 in
theorem law_kinds : (fun (P : Program) (f : FuncId) (fn : Func) (s : ChangeSpec) (c : OpenClaim)=>(P.funcs.size,f,fn.params.size,s.name,c.func,(c.kinds == (if c.domain.isEmpty then [] else fn.params.toList.map fun t=>match P.underlying t with | some (.int k)=>some k | _=>none)) && (c.pinned == c.pinnedBy)).2.2.2.2.2) Tryz.prog 3 Tryz.f3 (Rows.OpenSpec.upto Rows.pushFiltersReachesFixpointSpec).bare Rows.pushFiltersReachesFixpointUptoRow = true := by kernel_rfl
set_option maxRecDepth 100000 in
theorem law_veil : (fun (P : Program) (f : FuncId) (fn : Func) (s : ChangeSpec) (c : OpenClaim)=>(P.funcs.size,f,fn.params.size,s.name,c.func,(c.veiled == (fn.params.toList ++ s.plain.varTypes P ++ fn.resultTypes.toList).any (P.veiledRec ·)) && c.veiledFits P fn.params.toList (fn.params.toList ++ s.plain.varTypes P ++ fn.resultTypes.toList)).2.2.2.2.2) Tryz.prog 3 Tryz.f3 (Rows.OpenSpec.upto Rows.pushFiltersReachesFixpointSpec).bare Rows.pushFiltersReachesFixpointUptoRow = true := by kernel_rfl
set_option maxRecDepth 100000 in
theorem law_facts : joinedFacts Tryz.prog 3 Tryz.f3 (Rows.OpenSpec.upto Rows.pushFiltersReachesFixpointSpec).bare Rows.pushFiltersReachesFixpointUptoRow = true := joined_of law_wf law_laid law_mapsRowed law_rr law_nt law_st law_inPlace law_unf law_rec law_named law_maps law_loops law_wide law_rest1 law_plainKeys law_rest2 law_kinds law_veil
theorem gl_all (W : World) : Gl W [] := by
 refine ⟨⟨?_,?_,?_⟩,?_⟩
 ·intro b hb; simp [glI] at hb
 ·intro b hb; simp [glT] at hb
 ·intro b hb; simp [glN] at hb
 ·intro b hb; simp [glB,glI,glT,glN] at hb
def putVar (h : Array Go.Obj) (g : Nat) (cs : Array Value) : Array Go.Obj := h.modify g fun
 | .cells _ t fz=>.cells cs t fz
 | o=>o
def lowBlk : Nat := (World.holding Tryz.prog default ⟨#[],#[],[]⟩).heap.size
def pU (os : Os) : World :=
 let w0 := World.holding Tryz.prog os ⟨#[.cells #[.string ⟨#[118,97,108,117,101,32,111,117,116,32,111,102,32,114,97,110,103,101]⟩] 363,.cells #[.string ⟨#[105,110,118,97,108,105,100,32,115,121,110,116,97,120]⟩] 363],#[],[]⟩
 { w0 with heap := (putVar (putVar (putVar (putVar (putVar w0.heap 4 #[.int .u8 0,.int .u8 1,.int .u8 28,.int .u8 2,.int .u8 29,.int .u8 14,.int .u8 24,.int .u8 3,.int .u8 30,.int .u8 22,.int .u8 20,.int .u8 15,.int .u8 25,.int .u8 17,.int .u8 4,.int .u8 8,.int .u8 31,.int .u8 27,.int .u8 13,.int .u8 23,.int .u8 21,.int .u8 19,.int .u8 16,.int .u8 7,.int .u8 26,.int .u8 12,.int .u8 18,.int .u8 6,.int .u8 11,.int .u8 5,.int .u8 10,.int .u8 9]) 5 #[.int .u8 0,.int .u8 1,.int .u8 56,.int .u8 2,.int .u8 57,.int .u8 49,.int .u8 28,.int .u8 3,.int .u8 61,.int .u8 58,.int .u8 42,.int .u8 50,.int .u8 38,.int .u8 29,.int .u8 17,.int .u8 4,.int .u8 62,.int .u8 47,.int .u8 59,.int .u8 36,.int .u8 45,.int .u8 43,.int .u8 51,.int .u8 22,.int .u8 53,.int .u8 39,.int .u8 33,.int .u8 30,.int .u8 24,.int .u8 18,.int .u8 12,.int .u8 5,.int .u8 63,.int .u8 55,.int .u8 48,.int .u8 27,.int .u8 60,.int .u8 41,.int .u8 37,.int .u8 16,.int .u8 46,.int .u8 35,.int .u8 44,.int .u8 21,.int .u8 52,.int .u8 32,.int .u8 23,.int .u8 11,.int .u8 54,.int .u8 26,.int .u8 40,.int .u8 15,.int .u8 34,.int .u8 20,.int .u8 31,.int .u8 10,.int .u8 25,.int .u8 14,.int .u8 19,.int .u8 9,.int .u8 13,.int .u8 8,.int .u8 7,.int .u8 6]) 3 #[.int .u64 1,.int .u64 10,.int .u64 100,.int .u64 1000,.int .u64 10000,.int .u64 100000,.int .u64 1000000,.int .u64 10000000,.int .u64 100000000,.int .u64 1000000000,.int .u64 10000000000,.int .u64 100000000000,.int .u64 1000000000000,.int .u64 10000000000000,.int .u64 100000000000000,.int .u64 1000000000000000,.int .u64 10000000000000000,.int .u64 100000000000000000,.int .u64 1000000000000000000,.int .u64 10000000000000000000]) 2 #[.iface 361 (.pointer (some ⟨lowBlk,0,none⟩))]) 1 #[.iface 361 (.pointer (some ⟨lowBlk + 1,0,none⟩))]) }
set_option maxRecDepth 100000 in
theorem laid_met (os : Os) : laidMet Tryz.prog Rows.pushFiltersReachesFixpointUptoRow.laid ((pU os).forCall (fun _ _=>0) ⟨#[],#[.agg #[.slice none 0 0,.slice none 0 0,.slice none 0 0],.agg #[.int .i64 0,.string ⟨#[]⟩,.slice none 0 0,.slice none 0 0,.slice none 0 0,.slice none 0 0,.int .i64 0,.int .i64 0,.slice none 0 0]],[]⟩).memory :=
 laidMet_of_run' 8 (by kernel_rfl) (by kernel_rfl)
theorem law_reads (os : Os) {H : Type} (enc : TypeId × Value → H) : ∃ kD,DataW.whole enc Tryz.prog ((pU os).forCall (fun _ _=>0) ⟨#[],#[.agg #[.slice none 0 0,.slice none 0 0,.slice none 0 0],.agg #[.int .i64 0,.string ⟨#[]⟩,.slice none 0 0,.slice none 0 0,.slice none 0 0,.slice none 0 0,.int .i64 0,.int .i64 0,.slice none 0 0]],[]⟩).memory Tryz.f3.params.toList (Rows.OpenSpec.upto Rows.pushFiltersReachesFixpointSpec).vars false (#[.agg #[.slice none 0 0,.slice none 0 0,.slice none 0 0],.agg #[.int .i64 0,.string ⟨#[]⟩,.slice none 0 0,.slice none 0 0,.slice none 0 0,.slice none 0 0,.int .i64 0,.int .i64 0,.slice none 0 0]] : Array Value).toList 8 = some ([.agg [.nil,.nil,.nil],.agg [.lit (.int .i64 0),.lit (.string []),.nil,.nil,.nil,.nil,.lit (.int .i64 0),.lit (.int .i64 0),.nil]],[],kD) :=
 ⟨[],by kernel_rfl⟩
set_option maxRecDepth 100000 in
theorem law_lifted (os : Os) (started : os.Started) (H : Type) (enc : TypeId × Value → H) (F : Stop.Interp) :
  ReturnsInHanded {} Tryz.checked os 3 .any ((Rows.OpenSpec.upto Rows.pushFiltersReachesFixpointSpec).preRow enc Tryz.prog Tryz.f3 Rows.pushFiltersReachesFixpointUptoRow.domain false Rows.pushFiltersReachesFixpointUptoRow.laid) (((Rows.OpenSpec.upto Rows.pushFiltersReachesFixpointSpec).at F).post enc Tryz.prog Tryz.f3 false true false false) := by
 obtain ⟨kD,hx⟩ := law_reads os enc
 refine returnsInHanded_of_row (C := Tryz.checked) (s := Rows.OpenSpec.upto Rows.pushFiltersReachesFixpointSpec) own_knob started (by kernel_rfl) Tryz.func3
  (witness_row_at (enc := enc) (C := Tryz.checked) false (pU os) #[.agg #[.slice none 0 0,.slice none 0 0,.slice none 0 0],.agg #[.int .i64 0,.string ⟨#[]⟩,.slice none 0 0,.slice none 0 0,.slice none 0 0,.slice none 0 0,.int .i64 0,.int .i64 0,.slice none 0 0]] rfl (by kernel_rfl) (by kernel_rfl) (by kernel_rfl)
   (OpenSpec.preRow_of_cond 8 hx (by kernel_rfl) (fun k hk=>by obtain rfl := Option.some.inj hk; kernel_rfl) (by kernel_rfl) (laid_met os))) ?_
 intro W base args ds gs before hval hW _ hk hsz _ _ _
 have hN : ((ds ++ gs).map (fun d=>Rows.uptoBulk d)).sum ≤ 1048576 := by
  rw [nC]; exact of_decide_eq_true (hk Rows.uptoSmall rfl)
 refine law_callsB (s := Rows.pushFiltersReachesFixpointSpec) (tb := 4) bulk_is laid_out rfl ?_ rfl Tryz.underlying4 ?_ lawTypes_ok lawTypes_info ?_ law_args hval hW (gl_all W) hsz hN
 ·rw [Tryz.params3]
  intro t ht
  simp only [List.mem_cons,List.mem_nil_iff,or_false] at ht
  rcases ht with rfl | rfl <;> exact ⟨by kernel_rfl,of_decide_eq_true (by kernel_rfl)⟩
 ·intro ds hlen
  rw [Tryz.params3] at hlen
  match ds,hlen with
  | [d0,d1],_=>rfl
 ·rw [Tryz.params3]
  intro t ht
  simp only [List.mem_cons,List.mem_nil_iff,or_false] at ht
  rcases ht with rfl | rfl <;> simp [lawTypes]
theorem law_said : Rows.PushFiltersReachesFixpointUptoSaid :=
 OpenClaim.holds_of_cond 3 Tryz.f3 rfl rfl rfl rfl rfl rfl rfl ⟨rfl,rfl,rfl,rfl,rfl⟩ rfl rfl rfl rfl rfl (by kernel_rfl) Tryz.func3 law_facts
  (of_decide_eq_true (by kernel_rfl)) (by unfold Func.isWrapper; first | (rw [zp (by decide +kernel)]; kernel_rfl) | (rw [zy (by decide +kernel)]; exact ⟨rfl,rfl⟩))
  (fun os started H enc _ F=>by rw [OpenClaim.pre_eq_preRow]; exact law_lifted os started H enc F)
theorem law_plain (f : FuncId) (fn : Func) (hf : Tryz.pinned.checked.prog.funcNamed "stemma/stemkeep3.PushFiltersReachesFixpoint" = some f) (hfn : Tryz.pinned.checked.prog.funcs[f]? = some fn) :
  true = Tryz.pinned.checked.prog.looks [] ∧ ∀ (j : Nat) t,fn.params[j]? = some t → Tryz.pinned.checked.prog.wantsStandIn t = false := by
 obtain rfl : f = 3 := Option.some.inj ((show Tryz.prog.funcNamed "stemma/stemkeep3.PushFiltersReachesFixpoint" = some 3 by kernel_rfl).symm.trans hf) |>.symm
 obtain rfl : fn = Tryz.f3 := (Option.some.inj (Tryz.func3.symm.trans hfn)).symm
 refine ⟨by kernel_rfl,fun j t ht=>?_⟩
 have hall : (Tryz.f3.params.toList.all fun u=>!Tryz.prog.wantsStandIn u) = true := by kernel_rfl
 have hm : t ∈ Tryz.f3.params.toList := by simpa using Array.mem_of_getElem? ht
 exact (show Tryz.prog.wantsStandIn t = false by simpa using List.all_eq_true.1 hall t hm)
theorem pushFiltersReachesFixpointUpto_holds : Rows.PushFiltersReachesFixpointUptoCardSaid :=
 Claim7.holds_tied_plain_at .later [] _ _ _ _ law_said (fun _ h=>by cases h) (by kernel_rfl) (fun _ h=>by cases h) pushFiltersReachesFixpointUpto_row_tie rfl ⟨rfl,rfl⟩ (by kernel_rfl) rfl law_plain (by kernel_rfl)
end
end Go.Proofs.YtppmcepdcpmpcaaGreatDoor
