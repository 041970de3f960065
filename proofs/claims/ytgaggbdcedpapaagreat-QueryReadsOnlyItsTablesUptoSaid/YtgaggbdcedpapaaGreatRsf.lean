/- queryReadsOnlyItsTablesUpto_holds, part 6: the layer, the plain functions and what they compute; conditions as in the statement. -/
import Derived.Test.YtgaggbdcedpapaaGreatRse
set_option maxHeartbeats 4000000
namespace Go.Proofs.YtgaggbdcedpapaaGreat
noncomputable section
open Go Go.Ab
theorem LExpr.args_lt {e x : LExpr} (h : x ∈ e.args) : SizeOf.sizeOf x < SizeOf.sizeOf e := by
 cases e
 simp only [LExpr.args] at h
 have := List.sizeOf_lt_of_mem h
 simp only [LExpr.mk.sizeOf_spec]
 omega
theorem LExpr.ind {p : LExpr → Prop} (h : ∀ e : LExpr,(∀ x ∈ e.args,p x) → p e) : ∀ e,p e := by
 intro e
 generalize hn : SizeOf.sizeOf e = n
 induction n using Nat.strongRecOn generalizing e with
 | _ n ih=>exact h e fun x hx=>ih _ (hn ▸ LExpr.args_lt hx) x rfl
def iZ (e : LExpr) : List (Nat × Int) := if e.kind = 3 ∧ 0 ≤ e.index ∧ e.index < 8 then [(e.index.toNat,e.value.kind)] else []
def dd (e : LExpr) : List (Nat × Int) := iZ e ++ (e.args.attach.map fun x=>dd x.1).flatten
termination_by SizeOf.sizeOf e
decreasing_by exact LExpr.args_lt x.2
theorem md (e : LExpr) : dd e = iZ e ++ (e.args.map dd).flatten := by
 rw [dd,List.attach_map_val (f := dd)]
abbrev PSt := List Int × Bool × List Bool
def iH (out : List Int) (i : Nat) : List Int := out ++ List.replicate (i + 1 - out.length) 0
def fe (s : PSt) (p : Nat × Int) : PSt :=
 ((iH s.1 p.1).set p.1 p.2,s.2.1 || (s.2.2.getD p.1 false && (iH s.1 p.1).getD p.1 0 != p.2),s.2.2.set p.1 true)
def POk (s : PSt) : Prop := s.1.length ≤ 8 ∧ s.2.2.length = 8
theorem mW (out : List Int) (i : Nat) : (iH out i).length = max out.length (i + 1) := by simp [iH]; omega
theorem pstep_ok {s : PSt} {p : Nat × Int} (h : POk s) (hp : p.1 < 8) : POk (fe s p) := by
 refine ⟨?_,by simp [fe,h.2]⟩
 show ((iH s.1 p.1).set p.1 p.2).length ≤ 8
 rw [List.length_set,mW]
 have := h.1
 omega
theorem mq : ∀ e : LExpr,∀ p ∈ dd e,p.1 < 8 := by
 refine LExpr.ind fun e ih p hp=>?_
 rw [md,List.mem_append] at hp
 rcases hp with hp | hp
 ·unfold iZ at hp
  split at hp
  ·rename_i h; simp at hp; subst hp; simp; omega
  ·simp at hp
 ·obtain ⟨l,hl,hp⟩ := List.mem_flatten.1 hp
  obtain ⟨x,hx,rfl⟩ := List.mem_map.1 hl
  exact ih x hx p hp
theorem lF : ∀ {l : List (Nat × Int)} {s : PSt},POk s → (∀ p ∈ l,p.1 < 8) → POk (l.foldl fe s)
 | [],_,h,_=>h
 | p :: l,s,h,hl=>lF (l := l) (pstep_ok h (hl p (by simp))) fun q hq=>hl q (by simp [hq])
theorem pad_while (i : Nat) (hi : i < 8) : ∀ (n : Nat) (out : List Int),i + 1 - out.length = n → out.length ≤ 8 →
  whileM (σ := List Int) (ρ := Empty) (fun (s7 : List Int)=>cond (decide ((s7.length : Int) ≤ (i : Int))) (ai (dT 8 s7 ([0] : List Int)) fun (x28 : List Int)=>some (.next x28)) (some (.brk s7))) out = some (.next (iH out i))
 | 0,out,hn,ho=>by
  refine eQ (fl := .brk out) ?_ ?_
  ·have : ¬ ((out.length : Int) ≤ (i : Int)) := by omega
   simp [this]
  ·simp [iH,hn]
 | n + 1,out,hn,ho=>by
  refine eQ (fl := .next (out ++ [0])) ?_ ?_
  ·have : (out.length : Int) ≤ (i : Int) := by omega
   simp only [this,decide_true,zc]
   rw [cB (by decide) (by simp; omega)]
   rfl
  ·have := pad_while i hi n (out ++ [0]) (by simp; omega) (by simp; omega)
   simp only
   rw [this]
   simp only [iH,List.length_append,List.length_singleton,List.append_assoc,hn]
   rw [show i + 1 - (out.length + 1) = n from by omega,show (List.replicate (n + 1) (0 : Int)) = [0] ++ List.replicate n 0 from rfl]
theorem arrI_at {xs : List Bool} {i : Nat} (h : xs.length = 8) (hi : i < 8) : arrI 8 xs (i : Int) = some (xs.getD i false) := by
 have : xs[i]? = some (xs.getD i false) := by rw [List.getD_eq_getElem?_getD,ze (by omega)]; rfl
 exact arrI_eq (by omega) (by simpa using this)
theorem getI_at {xs : List Int} {i : Nat} (h : i < xs.length) : aG xs (i : Int) = some (xs.getD i 0) := by
 have : xs[i]? = some (xs.getD i 0) := by rw [List.getD_eq_getElem?_getD,ze h]; rfl
 exact kl this
theorem look_ok : ∀ e : LExpr,∃ N,∀ n,N ≤ n → ∀ s : PSt,POk s → dG n e s.1 s.2.1 s.2.2 = some ((dd e).foldl fe s) := by
 refine LExpr.ind fun e ih=>?_
 obtain ⟨N,hN⟩ := ev_all (p := fun x n=>∀ s : PSt,POk s → dG n x s.1 s.2.1 s.2.2 = some ((dd x).foldl fe s)) e.args ih
 refine ⟨N + 1,fun n hn s hs=>?_⟩
 obtain ⟨n,rfl⟩ : ∃ k,n = k + 1 := ⟨n - 1,by omega⟩
 rw [dG]
 simp only [gT]
 have h1 : POk ((iZ e).foldl fe s) := lF hs fun p hp=>mq e p (by rw [md]; simp [hp])
 have hloop : ∀ s : PSt,POk s → ai (aW (σ := List Int × Bool × List Bool) (ρ := Empty) (fun (_ : Nat) (x11 : LExpr) (s11 : List Int × Bool × List Bool) =>
   ai (dG n x11 s11.1 s11.2.1 s11.2.2) fun x66=>some (.next (x66.1,x66.2.1,x66.2.2))) 0 e.args (s.1,s.2.1,s.2.2)) (fun fl11=>fl11.thenP fun (s11 : List Int × Bool × List Bool)=>some (s11.1,s11.2.1,s11.2.2)) =
   some (((e.args.map dd).flatten).foldl fe s) := by
  intro s hs
  rw [rMa (xs := e.args) (s := (s.1,s.2.1,s.2.2)) (fun k=>(((e.args.take k).map dd).flatten).foldl fe s) rfl (fun k x hk=>by
   have hx := gp hk
   have hok : POk ((((e.args.take k).map dd).flatten).foldl fe s) := lF hs fun p hp=>by
    obtain ⟨l,hl,hp⟩ := List.mem_flatten.1 hp
    obtain ⟨y,hy,rfl⟩ := List.mem_map.1 hl
    exact mq y p hp
   rw [hN n (by omega) x hx _ hok,bPs,List.take_add_one,hk]
   simp)]
  rw [bPs,bW,List.take_length]
 have key : (ai (cond (bf (cond (e.kind == (3 : Int)) (cond (decide (e.index ≥ (0 : Int))) ((decide (e.index < (8 : Int)))) (false)) (false)) fun (t1 : Bool)=>t1)
   (ai (whileM (σ := List Int) (ρ := Empty) (fun (s7 : List Int)=>cond (decide ((s7.length : Int) ≤ e.index)) (ai (dT 8 s7 ([0] : List Int)) fun (x28 : List Int)=>some (.next x28)) (some (.brk s7))) s.1) fun fl7=>fl7.thenP fun (s7 : List Int) =>
   ai (cond s.2.1 (some true) (ai (arrI 8 s.2.2 e.index) fun (x33 : Bool)=>cond x33 (ai (aG s7 e.index) fun (x39 : Int)=>some (x39 != e.value.kind)) (some false))) fun (t8 : Bool) =>
   ai (aG s7 e.index) fun (_ : Int)=>bf (s7.set e.index.toNat e.value.kind) fun (y9 : List Int)=>ai (arrI 8 s.2.2 e.index) fun (_ : Bool)=>bf (s.2.2.set e.index.toNat true) fun (y10 : List Bool)=>some (y9,t8,y10))
   (some (s.1,s.2.1,s.2.2))) fun t=>some t) = some ((iZ e).foldl fe s) := by
  unfold bf
  by_cases hc : e.kind = 3 ∧ 0 ≤ e.index ∧ e.index < 8
  ·obtain ⟨hk,h0,h8⟩ := hc
   obtain ⟨i,hi⟩ : ∃ i : Nat,e.index = i := ⟨e.index.toNat,by omega⟩
   have hi8 : i < 8 := by omega
   have e0 : (e.kind == (3 : Int)) = true := by simpa using hk
   have e1 : decide (e.index ≥ (0 : Int)) = true := zt h0
   have e2 : decide (e.index < (8 : Int)) = true := zt h8
   rw [e0,e1,e2]
   simp only [zc]
   rw [hi,pad_while i hi8 _ s.1 rfl hs.1]
   simp only [bPs,bW]
   have hl : i < (iH s.1 i).length := by rw [mW]; omega
   rw [arrI_at hs.2 hi8,getI_at hl]
   simp only [bPs,Int.toNat_natCast]
   have hh : iZ e = [(i,e.value.kind)] := by unfold iZ; rw [zp ⟨hk,h0,h8⟩,hi,Int.toNat_natCast]
   rw [hh]
   simp only [List.foldl_cons,List.foldl_nil,fe]
   cases hb : s.2.1 <;> cases hc : s.2.2.getD i false <;> simp
  ·have hh : iZ e = [] := by unfold iZ; rw [zy hc]
   rw [hh]
   have e0 : (cond (e.kind == (3 : Int)) (cond (decide (e.index ≥ (0 : Int))) ((decide (e.index < (8 : Int)))) (false)) (false)) = false := by
    by_cases a : e.kind = 3
    ·by_cases b : 0 ≤ e.index
     ·have : ¬ e.index < 8 := fun h=>hc ⟨a,b,h⟩
      simp [this]
     ·have : ¬ e.index ≥ 0 := b
      simp [this]
    ·have : (e.kind == (3 : Int)) = false := by simpa using a
     simp [this]
   rw [e0]
   rfl
 simp only [bV] at key ⊢
 rw [md,List.foldl_append,← hloop _ h1]
 generalize hg : (cond _ _ _ : Option PSt) = o at key
 cases o with
 | none=>cases key
 | some t =>
  simp only [bPs,zo] at key
  subst key
  rfl
theorem look_eq (e : LExpr) {s : PSt} (h : POk s) : fQ e s.1 s.2.1 s.2.2 = some ((dd e).foldl fe s) := by
 obtain ⟨N,hN⟩ := look_ok e
 exact nY N fun n hn=>hN n hn s h
def jc (x : LQuery) : List (Nat × Int) := (x.exprs.map dd).flatten ++ (x.aggregates.map fun a=>(a.args.map dd).flatten).flatten
def gU (q : LQuery) : List (Nat × Int) := ((cF q).map jc).flatten
theorem nJ {x : LQuery} : ∀ p ∈ jc x,p.1 < 8 := by
 intro p hp
 rcases List.mem_append.1 hp with hp | hp
 ·obtain ⟨l,hl,hp⟩ := List.mem_flatten.1 hp
  obtain ⟨e,_,rfl⟩ := List.mem_map.1 hl
  exact mq e p hp
 ·obtain ⟨l,hl,hp⟩ := List.mem_flatten.1 hp
  obtain ⟨a,_,rfl⟩ := List.mem_map.1 hl
  obtain ⟨l,hl,hp⟩ := List.mem_flatten.1 hp
  obtain ⟨e,_,rfl⟩ := List.mem_map.1 hl
  exact mq e p hp
theorem paramsQ_lt {q : LQuery} : ∀ p ∈ gU q,p.1 < 8 := by
 intro p hp
 obtain ⟨l,hl,hp⟩ := List.mem_flatten.1 hp
 obtain ⟨x,_,rfl⟩ := List.mem_map.1 hl
 exact nJ p hp
theorem lookAll {l : List LExpr} {s : PSt} (h : POk s) : aW (σ := PSt) (ρ := Empty) (fun (_ : Nat) (x12 : LExpr) (s12 : PSt) =>
   ai (fQ x12 s12.1 s12.2.1 s12.2.2) fun x33=>some (.next (x33.1,x33.2.1,x33.2.2))) 0 l (s.1,s.2.1,s.2.2) = some (.next (((l.map dd).flatten).foldl fe s)) := by
 rw [rMa (xs := l) (s := (s.1,s.2.1,s.2.2)) (fun k=>(((l.take k).map dd).flatten).foldl fe s) rfl (fun k x hk=>by
  have hok : POk ((((l.take k).map dd).flatten).foldl fe s) := lF h fun p hp=>by
   obtain ⟨m,hm,hp⟩ := List.mem_flatten.1 hp
   obtain ⟨y,hy,rfl⟩ := List.mem_map.1 hm
   exact mq y p hp
  rw [look_eq x hok,bPs,List.take_add_one,hk]
  simp),List.take_length]
def ek (q : LQuery) : PSt := (gU q).foldl fe ([],false,List.replicate 8 false)
theorem kinds_ok {q : LQuery} (hb : (cF q).length ≤ 10000000) : fE q = some (cond (ek q).2.1 ([],13) ((ek q).1,0)) := by
 unfold fE
 rw [nodes_ok q hb,bPs]
 rw [rMa (xs := cF q) (s := ([],false,List.replicate 8 false)) (fun k=>((((cF q).take k).map jc).flatten).foldl fe ([],false,List.replicate 8 false)) rfl (fun k x hk=>by
  have hok : POk (((((cF q).take k).map jc).flatten).foldl fe ([],false,List.replicate 8 false)) := lF ⟨by simp,by simp⟩ fun p hp=>by
   obtain ⟨m,hm,hp⟩ := List.mem_flatten.1 hp
   obtain ⟨y,hy,rfl⟩ := List.mem_map.1 hm
   exact nJ p hp
  rw [lookAll hok,bPs,bW]
  rw [show ((((cF q).take (k + 1)).map jc).flatten).foldl fe ([],false,List.replicate 8 false) = (jc x).foldl fe (((((cF q).take k).map jc).flatten).foldl fe ([],false,List.replicate 8 false)) from by
   rw [List.take_add_one,hk]
   simp only [Option.toList_some,List.map_append,List.map_cons,List.map_nil,List.flatten_append,List.flatten_cons,List.flatten_nil,List.append_nil,List.foldl_append]]
  generalize (((((cF q).take k).map jc).flatten).foldl fe ([],false,List.replicate 8 false)) = s at hok ⊢
  have hok2 : POk (((x.exprs.map dd).flatten).foldl fe s) := lF hok fun p hp=>nJ (x := x) p (by unfold jc; simp only [List.mem_append]; exact .inl hp)
  rw [rMa (xs := x.aggregates) (s := ((((x.exprs.map dd).flatten).foldl fe s).1,(((x.exprs.map dd).flatten).foldl fe s).2.1,(((x.exprs.map dd).flatten).foldl fe s).2.2))
   (fun k=>((((x.aggregates.take k).map fun a=>(a.args.map dd).flatten).flatten).foldl fe (((x.exprs.map dd).flatten).foldl fe s))) rfl (fun k a ha=>by
    have hok3 : POk ((((x.aggregates.take k).map fun a=>(a.args.map dd).flatten).flatten).foldl fe (((x.exprs.map dd).flatten).foldl fe s)) := lF hok2 fun p hp=>nJ (x := x) p (by
     unfold jc
     simp only [List.mem_append]
     obtain ⟨m,hm,hp⟩ := List.mem_flatten.1 hp
     obtain ⟨y,hy,rfl⟩ := List.mem_map.1 hm
     exact .inr (List.mem_flatten.2 ⟨_,List.mem_map.2 ⟨y,List.mem_of_mem_take hy,rfl⟩,hp⟩))
    rw [lookAll hok3,bPs,bW,List.take_add_one,ha]
    simp)]
  rw [bPs,bW,List.take_length]
  unfold jc
  rw [List.foldl_append])]
 rw [bPs,bW,List.take_length]
 show (cond (ek q).2.1 (some ([],13)) (some ((ek q).1,0))) = _
 cases (ek q).2.1 <;> rfl
def nW (l : List (Nat × Int)) : Prop := ∀ i k k',(i,k) ∈ l → (i,k') ∈ l → k = k'
structure PInv (l : List (Nat × Int)) (s : PSt) : Prop where
 ok : POk s
 seen : ∀ i,i < 8 → (s.2.2.getD i false = true ↔ ∃ k,(i,k) ∈ l)
 len : ∀ i k,(i,k) ∈ l → i < s.1.length
 last : s.1.length = 0 ∨ ∃ k,(s.1.length - 1,k) ∈ l
 zero : ∀ i,(∀ k,(i,k) ∉ l) → s.1.getD i 0 = 0
 good : s.2.1 = false → ∀ i k,(i,k) ∈ l → s.1.getD i 0 = k
 bad : nW l → s.2.1 = false
theorem ph (out : List Int) (i j : Nat) : (iH out i).getD j 0 = out.getD j 0 := by
 simp only [iH,List.getD_eq_getElem?_getD]
 by_cases h : j < out.length
 ·rw [List.getElem?_append_left h]
 ·rw [List.getElem?_append_right (by omega),List.getElem?_eq_none (l := out) (by omega),List.getElem?_replicate]
  split <;> rfl
theorem PInv.init : PInv [] ([],false,List.replicate 8 false) :=
 ⟨⟨by simp,by simp⟩,fun i hi=>by
  have : (List.replicate 8 false).getD i false = false := by rw [List.getD_eq_getElem?_getD,List.getElem?_replicate]; split <;> rfl
  exact ⟨fun h=>(by rw [show (([],false,List.replicate 8 false) : PSt).2.2 = List.replicate 8 false from rfl,this] at h; cases h),fun ⟨k,hk⟩=>(by simp at hk)⟩,fun i k h=>by simp at h,.inl rfl,fun i _=>by simp,fun _ i k h=>by simp at h,fun _=>rfl⟩
theorem PInv.step {l : List (Nat × Int)} {s : PSt} (h : PInv l s) {p : Nat × Int} (hp : p.1 < 8) : PInv (l ++ [p]) (fe s p) := by
 obtain ⟨i,k⟩ := p
 simp only at hp
 have hset : ∀ (xs : List Int) (j : Nat) (v : Int),i < xs.length → (xs.set i v).getD j 0 = if j = i then v else xs.getD j 0 := by
  intro xs j v hl
  rw [List.getD_eq_getElem?_getD,List.getD_eq_getElem?_getD,List.getElem?_set]
  by_cases hji : i = j
  ·subst hji; simp [hl]
  ·have : j ≠ i := fun h=>hji h.symm
   simp [hji,this]
 have hl1 : i < (iH s.1 i).length := by rw [mW]; omega
 refine ⟨pstep_ok h.ok hp,fun j hj=>?_,fun j k' hm=>?_,?_,fun j hno=>?_,fun hb j k' hm=>?_,fun hk=>?_⟩
 ·show (s.2.2.set i true).getD j false = true ↔ _
  rw [List.getD_eq_getElem?_getD,List.getElem?_set]
  by_cases hji : i = j
  ·subst hji
   have : i < s.2.2.length := by rw [h.ok.2]; exact hp
   simp [this]
  ·have h1 := h.seen j hj
   rw [List.getD_eq_getElem?_getD] at h1
   have hji' : j ≠ i := fun h=>hji h.symm
   simp only [hji,if_false,h1,List.mem_append,List.mem_singleton,Prod.mk.injEq,hji',false_and,or_false]
 ·show j < ((iH s.1 i).set i k).length
  rw [List.length_set,mW]
  rcases List.mem_append.1 hm with hm | hm
  ·have := h.len j k' hm; omega
  ·simp at hm; omega
 ·show ((iH s.1 i).set i k).length = 0 ∨ ∃ k',(((iH s.1 i).set i k).length - 1,k') ∈ l ++ [(i,k)]
  rw [List.length_set,mW]
  by_cases hle : s.1.length ≤ i + 1
  ·right
   exact ⟨k,by rw [show max s.1.length (i + 1) - 1 = i from by omega]; simp⟩
  ·rcases h.last with h0 | ⟨k',hk'⟩
   ·omega
   ·right
    exact ⟨k',by rw [show max s.1.length (i + 1) - 1 = s.1.length - 1 from by omega]; simp [hk']⟩
 ·show ((iH s.1 i).set i k).getD j 0 = 0
  have hji : j ≠ i := fun e=>hno k (by simp [e])
  rw [hset _ _ _ hl1,zy hji,ph]
  exact h.zero j fun k' hm=>hno k' (by simp [hm])
 ·have hb' : s.2.1 = false ∧ (s.2.2.getD i false && (iH s.1 i).getD i 0 != k) = false := by
   have : (s.2.1 || (s.2.2.getD i false && (iH s.1 i).getD i 0 != k)) = false := hb
   simpa using this
  show ((iH s.1 i).set i k).getD j 0 = k'
  rw [hset _ _ _ hl1]
  have hold := h.good hb'.1
  rcases List.mem_append.1 hm with hm1 | hm
  ·by_cases hji : j = i
   ·subst hji
    rw [zp rfl]
    have hs := (h.seen j hp).2 ⟨k',hm1⟩
    have := hb'.2
    rw [hs,ph,hold j k' hm1] at this
    simp at this
    exact this.symm
   ·rw [zy hji,ph]
    exact hold j k' hm1
  ·simp at hm
   rw [zp hm.1,hm.2]
 ·have h1 := h.bad fun i k k' a b=>hk i k k' (by simp [a]) (by simp [b])
  show (s.2.1 || (s.2.2.getD i false && (iH s.1 i).getD i 0 != k)) = false
  rw [h1,Bool.false_or,ph]
  cases hs : s.2.2.getD i false with
  | false=>rfl
  | true =>
   obtain ⟨k',hk'⟩ := (h.seen i hp).1 hs
   rw [h.good h1 i k' hk',hk i k' k (by simp [hk']) (by simp)]
   simp
theorem PInv.fold : ∀ {r l : List (Nat × Int)} {s : PSt},PInv l s → (∀ p ∈ r,p.1 < 8) → PInv (l ++ r) (r.foldl fe s)
 | [],l,s,h,_=>by simpa using h
 | p :: r,l,s,h,hr=>by
  have := PInv.fold (r := r) (h.step (hr p (by simp))) fun q hq=>hr q (by simp [hq])
  simpa using this
theorem kinds_inv (q : LQuery) : PInv (gU q) (ek q) := by
 have := PInv.fold (r := gU q) PInv.init paramsQ_lt
 rw [List.nil_append] at this
 exact this
theorem kinds_bad {q : LQuery} : (ek q).2.1 = false ↔ nW (gU q) := by
 have h := kinds_inv q
 refine ⟨fun hb i k k' a b=>?_,h.bad⟩
 rw [← h.good hb i k a,← h.good hb i k' b]
structure ArgsOk (l : List (Nat × Int)) (args : Rq) : Prop where
 kinds : nW l
 args : ∀ i k,(i,k) ∈ l → i < args.length ∧ (∀ j x,j ≤ i → args[j]? = some x → fg x = true) ∧ (∀ x,args[i]? = some x → k = 0 ∨ x.kind = k ∨ x.kind = 0)
theorem args_ok {q : LQuery} (hb : (cF q).length ≤ 10000000) (args : Rq) : ∃ e,fG q args = some e ∧ (e = 0 ↔ ArgsOk (gU q) args) := by
 unfold fG
 rw [kinds_ok hb,bPs]
 have h := kinds_inv q
 cases hbad : (ek q).2.1 with
 | true =>
  refine ⟨13,by simp,?_⟩
  have : ¬ nW (gU q) := fun hk=>by rw [kinds_bad.2 hk] at hbad; cases hbad
  exact ⟨fun h=>by omega,fun h=>absurd h.kinds this⟩
 | false =>
  simp only [zd]
  have hk := kinds_bad.1 hbad
  by_cases hl : args.length < (ek q).1.length
  ·refine ⟨1,by simp [hl],fun h=>by omega,fun ha=>?_⟩
   rcases h.last with h0 | ⟨k,hm⟩
   ·omega
   ·have := (ha.args _ _ hm).1; omega
  ·have hge : (ek q).1.length ≤ args.length := by omega
   have hstep : ∀ k x,(ek q).1[k]? = some x → ∃ y,args[k]? = some y := fun k x hx=>by
    have := (zg.1 hx).1
    exact ⟨args[k],ze (by omega)⟩
   let okAt : Nat → Int → Prop := fun k x=>∀ y,args[k]? = some y → fg y = true ∧ (x = 0 ∨ y.kind = x ∨ y.kind = 0)
   obtain ⟨fl,hfl,hres⟩ := fR (step := fun (j1 : Nat) (x1 : Int) (_ : Unit)=>ai (aG args (j1 : Int)) fun (x31 : LVal)=>bf (fg x31) fun x33=>cond (!x33) (some (Flow.ret (σ := Unit) (7 : Int)))
     (cond (x1 != (0 : Int)) (ai (aG args (j1 : Int)) fun (x41 : LVal)=>cond (x41.kind != x1) (ai (aG args (j1 : Int)) fun (x50 : LVal)=>cond (x50.kind != (0 : Int)) (some (.ret 7)) (some (.next ()))) (some (.next ()))) (some (.next ()))))
    (fun j _=>∀ k x,k < j → (ek q).1[k]? = some x → okAt k x) (fun r=>r = 7 ∧ ∃ k x,(ek q).1[k]? = some x ∧ ¬ okAt k x) (ek q).1 0 () (fun k x hk=>by omega) (fun k x s hk hI=>by
     obtain ⟨y,hy⟩ := hstep k x hk
     simp only [Nat.zero_add] at hI ⊢
     rw [kl hy]
     simp only [bPs,bV]
     have next : okAt k x → ∀ k' x',k' < k + 1 → (ek q).1[k']? = some x' → okAt k' x' := fun ho k' x' hk' hx'=>by
      by_cases he : k' = k
      ·subst he; rw [hk] at hx'; cases hx'; exact ho
      ·exact hI k' x' (by omega) hx'
     cases hv : fg y with
     | false=>exact ⟨_,rfl,rfl,k,x,hk,fun ho=>by have := (ho y hy).1; rw [hv] at this; cases this⟩
     | true =>
      simp only [Bool.not_true,zd]
      by_cases hx0 : x = 0
      ·refine ⟨.next (),by simp [hx0],next fun z hz=>?_⟩
       rw [hy] at hz; cases hz; exact ⟨hv,.inl hx0⟩
      ·have e0 : (x != (0 : Int)) = true := by simpa using hx0
       rw [e0,zc]
       by_cases hyx : y.kind = x
       ·refine ⟨.next (),by simp [hyx],next fun z hz=>?_⟩
        rw [hy] at hz; cases hz; exact ⟨hv,.inr (.inl hyx)⟩
       ·have e1 : (y.kind != x) = true := by simpa using hyx
        rw [e1,zc]
        by_cases hy0 : y.kind = 0
        ·refine ⟨.next (),by simp [hy0],next fun z hz=>?_⟩
         rw [hy] at hz; cases hz; exact ⟨hv,.inr (.inr hy0)⟩
        ·have e2 : (y.kind != (0 : Int)) = true := by simpa using hy0
         refine ⟨.ret 7,by simp [e2],rfl,k,x,hk,fun ho=>?_⟩
         rcases (ho y hy).2 with a | a | a
         ·exact hx0 a
         ·exact hyx a
         ·exact hy0 a)
   have e0 : decide ((args.length : Int) < ((ek q).1.length : Int)) = false := zf (by omega)
   simp only [bne_self_eq_false,zd,e0]
   rw [hfl,bPs]
   have hget : ∀ k,k < (ek q).1.length → (ek q).1[k]? = some ((ek q).1.getD k 0) := fun k hk=>by
    rw [List.getD_eq_getElem?_getD,ze hk]; rfl
   cases fl with
   | brk s=>exact absurd hres (by simp)
   | next s =>
    refine ⟨0,rfl,fun _=>⟨hk,fun i k hm=>?_⟩,fun _=>rfl⟩
    have hi := h.len i k hm
    simp only [Nat.zero_add] at hres
    refine ⟨by omega,fun j x hj hx=>?_,fun x hx=>?_⟩
    ·exact ((hres j _ (by omega) (hget j (by omega))) x hx).1
    ·have := ((hres i _ (by omega) (hget i (by omega))) x hx).2
     rwa [h.good hbad i k hm] at this
   | ret r =>
    obtain ⟨rfl,k,x,hx,hno⟩ := hres
    refine ⟨7,rfl,fun h=>by omega,fun ha=>absurd ?_ hno⟩
    intro y hy
    have hkl := (zg.1 hx).1
    rcases h.last with h0 | ⟨k',hm⟩
    ·omega
    ·have hv := (ha.args _ _ hm).2.1 k y (by omega) hy
     refine ⟨hv,?_⟩
     by_cases hex : ∃ k2,(k,k2) ∈ gU q
     ·obtain ⟨k2,hm2⟩ := hex
      have hg := h.good hbad k k2 hm2
      have hxx : x = k2 := by
       rw [hget k hkl] at hx
       rw [← hg]
       exact (Option.some.inj hx).symm
      rw [hxx]
      exact (ha.args k k2 hm2).2.2 y hy
     ·left
      have := h.zero k fun k2 hm2=>hex ⟨k2,hm2⟩
      rw [hget k hkl] at hx
      rw [← this]
      exact (Option.some.inj hx).symm
def Tot {α : Type} (o : Option α) : Prop := ∃ v,o = some v
theorem Tot.mk {α : Type} {v : α} : Tot (Option.some v) := ⟨v,rfl⟩
theorem Tot.bind {α β : Type} {o : Option α} {k : α → Option β} (h : Tot o) (hk : ∀ v,o = some v → Tot (k v)) : Tot (ai o k) := by
 obtain ⟨v,hv⟩ := h
 rw [hv]
 exact hk v hv
theorem Tot.cond {α : Type} {b : Bool} {x y : Option α} (hx : b = true → Tot x) (hy : b = false → Tot y) : Tot (cond b x y) := by
 cases b
 ·exact hy rfl
 ·exact hx rfl
theorem Tot.get {α : Type} {xs : List α} {i : Int} (h0 : 0 ≤ i) (h : i < xs.length) : Tot (aG xs i) := by
 have : i.toNat < xs.length := by omega
 exact ⟨xs[i.toNat],lO h0 (ze this)⟩
theorem Tot.sub {α : Type} {xs : List α} {a b : Int} (h : 0 ≤ a ∧ a ≤ b ∧ b ≤ xs.length) : Tot (ny xs a b) := ⟨_,pF h⟩
theorem Tot.range {α σ ρ : Type} {step : Nat → α → σ → Option (Flow σ ρ)} : ∀ (xs : List α) (j : Nat) (s : σ),(∀ k x s,xs[k]? = some x → Tot (step (j + k) x s)) → Tot (aW step j xs s)
 | [],_,s,_=>⟨.next s,rfl⟩
 | x :: xs,j,s,h=>by
  obtain ⟨fl,hfl⟩ := h 0 x s rfl
  rw [Nat.add_zero] at hfl
  rw [aW,hfl]
  cases fl with
  | next s' =>
   exact Tot.range xs (j + 1) s' fun k y t hk=>by
    have := h (k + 1) y t (by simpa using hk)
    rwa [show j + (k + 1) = j + 1 + k from by omega] at this
  | brk s'=>exact ⟨_,rfl⟩
  | ret r=>exact ⟨_,rfl⟩
theorem Tot.thenR {σ ρ : Type} {fl : Flow σ ρ} {k : σ → Option ρ} (h : ∀ s,(fl = .next s ∨ fl = .brk s) → Tot (k s)) : Tot (fl.thenR k) := by
 cases fl with
 | next s=>exact h s (.inl rfl)
 | brk s=>exact h s (.inr rfl)
 | ret r=>exact ⟨r,rfl⟩
theorem lI {a b : Int} (h : a ≠ b) : (a != b) = true := by simpa using h
theorem bneF {a b : Int} (h : a = b) : (a != b) = false := by simp [h]
theorem dw {a b : Int} (h : a ≠ b) : (a == b) = false := by simpa using h
theorem kD {a b : Int} (h : a = b) : (a == b) = true := by simp [h]
theorem idxF {α : Type} {l : List α} {f : α → Option Bool} {p : α → Bool} (h : ∀ x ∈ l,f x = some (p x)) :
  ai (aW (σ := Unit) (ρ := Int) (fun (j1 : Nat) (x1 : α) (_ : Unit)=>ai (f x1) fun x16=>cond x16 (some (.ret (j1 : Int))) (some (.next ()))) 0 l ()) (fun fl1=>fl1.thenR fun (_ : Unit)=>some (-1)) = some (bt p l) := by
 rw [mP p (fun j _=>(j : Int)) l 0 (fun k x hk=>by
  rw [h x (gp hk),bPs]
  cases p x <;> simp)]
 unfold bt
 cases hf : l.findIdx? p with
 | none=>rfl
 | some i =>
  have hi := (List.findIdx?_eq_some_iff_getElem.1 hf).1
  simp only [ze hi]
  simp
theorem idxF2 {α : Type} {l : List α} {p : α → Bool} :
  ai (aW (σ := Unit) (ρ := Int) (fun (j1 : Nat) (x1 : α) (_ : Unit)=>cond (p x1) (some (.ret (j1 : Int))) (some (.next ()))) 0 l ()) (fun fl1=>fl1.thenR fun (_ : Unit)=>some (-1)) = some (bt p l) := idxF (f := fun x=>some (p x)) fun _ _=>rfl
theorem idxOf_neg {α : Type} {p : α → Bool} {l : List α} : bt p l = -1 ∨ 0 ≤ bt p l := by
 unfold bt
 cases l.findIdx? p with
 | none=>exact .inl rfl
 | some i=>exact .inr (by simp)
theorem nk {α : Type} {p : α → Bool} {l : List α} (h : 0 ≤ bt p l) : ∃ x,l[(bt p l).toNat]? = some x ∧ p x = true := by
 unfold bt at h ⊢
 cases hf : l.findIdx? p with
 | none=>rw [hf] at h; simp at h
 | some i =>
  obtain ⟨hi,hp,_⟩ := List.findIdx?_eq_some_iff_getElem.1 hf
  exact ⟨l[i],by simp [hi],hp⟩
theorem idx_table (l : List LTable) (p : LTable → Bool) : dk l (fun a=>some (p a)) = some (bt p l) := idxF fun _ _=>rfl
theorem idx_column (l : List LCol) (p : LCol → Bool) : dc l (fun a=>some (p a)) = some (bt p l) := idxF fun _ _=>rfl
theorem oA (s : LSchema) (name : List UInt8) : fV s name = some (dR 0 (bt (fun t=>dA t name) s.tables),decide (bt (fun t=>dA t name) s.tables ≥ 0)) := by
 unfold fV
 rw [idx_table,bPs]
 congr 2
 unfold dR
 split <;> split <;> omega
theorem findColumn_eq (t : LTable) (name : List UInt8) : gr t name = some (dR 0 (bt (fun c=>ep c name) t.columns),decide (bt (fun c=>ep c name) t.columns ≥ 0)) := by
 unfold gr
 rw [idx_column,bPs]
 congr 2
 unfold dR
 split <;> split <;> omega
theorem pr {n : Int} (h : 0 ≤ n) : dR 0 n = n := by unfold dR; split <;> omega
theorem qw (s : List UInt8) : Tot (fS s) := by
 unfold fS
 refine Tot.bind ?_ fun b hb=>?_
 ·refine Tot.cond (fun _=>Tot.mk) fun h1=>?_
  refine Tot.cond (fun _=>Tot.mk) fun h2=>?_
  have h1 := of_decide_eq_false h1
  refine Tot.bind (Tot.get (by decide) (by omega)) fun x _=>?_
  refine Tot.cond (fun _=>?_) fun _=>Tot.mk
  exact Tot.bind (Tot.get (by decide) (by omega)) fun x _=>Tot.mk
 ·refine Tot.cond (fun _=>Tot.mk) fun h=>?_
  subst h
  have hl : (s.length : Int) ≤ 12 := by
   by_cases h1 : (s.length : Int) < 1
   ·omega
   ·by_cases h2 : (s.length : Int) > 12
    ·rw [zf h1,zt h2] at hb; simp at hb
    ·omega
  refine Tot.bind ⟨(),bT (by omega)⟩ fun _ _=>?_
  refine Tot.bind (Tot.range _ _ _ fun k x _ _=>?_) fun fl _=>Tot.thenR fun _ _=>Tot.mk
  repeat' first | exact Tot.mk | refine Tot.cond (fun _=>?_) (fun _=>?_)
structure TableOk (t : LTable) : Prop where
 pk : ∀ x ∈ t.primaryKey,0 ≤ x ∧ x < t.columns.length
theorem validTable (t : LTable) (hsm : t.primaryKey.length ≤ 10000000) : ∃ e,fI t = some e ∧ (e = 0 → TableOk t) := by
 unfold fI
 obtain ⟨b,hb⟩ := qw t.name
 rw [hb,bPs]
 cases b with
 | false=>exact ⟨23,rfl,fun h=>by omega⟩
 | true =>
  simp only [Bool.not_true,zd]
  by_cases h0 : (t.columns.length : Int) = 0
  ·exact ⟨3,by simp [h0],fun h=>by omega⟩
  by_cases h6 : (t.columns.length : Int) > 6
  ·have : ((t.columns.length : Int) == 0) = false := by simpa using h0
   exact ⟨2,by rw [this]; simp [h6],fun h=>by omega⟩
  have e0 : ((t.columns.length : Int) == 0) = false := by simpa using h0
  rw [e0,zf h6]
  simp only [zd]
  obtain ⟨fl,hfl,hr⟩ := fR (step := fun (j1 : Nat) (x1 : LCol) (_ : Unit) =>
    ai (fS x1.name) fun x31=>cond (!x31) (some (Flow.ret (σ := Unit) (23 : Int)))
     (ai (gr t x1.name) fun x37=>cond (decide (x37.1 < (j1 : Int))) (some (.ret 5)) (cond (decide (x1.kind < (1 : Int))) (some (.ret 7)) (cond (decide (x1.kind > (3 : Int))) (some (.ret 7)) (some (.next ())))))) (fun _ _=>True) (fun r=>r ≠ 0) t.columns 0 () trivial (fun k x s hk _=>by
    obtain ⟨b,hb⟩ := qw x.name
    rw [hb,bPs,findColumn_eq,bPs]
    cases b with
    | false=>exact ⟨_,rfl,by simp⟩
    | true =>
     simp only [Bool.not_true,zd]
     by_cases a1 : dR 0 (bt (fun c=>ep c x.name) t.columns) < ((0 + k : Nat) : Int)
     ·exact ⟨.ret 5,by rw [zt a1]; rfl,by simp⟩
     ·rw [zf a1]
      by_cases a2 : x.kind < 1
      ·exact ⟨.ret 7,by rw [zt a2]; rfl,by simp⟩
      ·rw [zf a2]
       by_cases a3 : x.kind > 3
       ·exact ⟨.ret 7,by rw [zt a3]; rfl,by simp⟩
       ·exact ⟨.next (),by rw [zf a3]; rfl,trivial⟩)
  rw [hfl,bPs]
  cases fl with
  | brk s=>exact absurd hr (by simp)
  | ret r=>exact ⟨r,rfl,fun h=>absurd h hr⟩
  | next s =>
   rw [iu]
   obtain ⟨fl,hfl,hr⟩ := fR (step := fun (j2 : Nat) (x2 : Int) (_ : Unit) =>
     cond (decide (x2 < (0 : Int))) (some (Flow.ret (σ := Unit) (9 : Int))) (cond (decide (x2 ≥ (t.columns.length : Int))) (some (.ret 9))
      (ai (aG t.columns x2) fun (x73 : LCol)=>cond x73.nullable (some (.ret 9)) (cond (decide ((j2 : Int) > (0 : Int)))
       (ai (aG t.primaryKey (IntKind.i64.wrap ((j2 : Int) - (1 : Int)))) fun (x86 : Int)=>cond (decide (x2 ≤ x86)) (some (.ret 9)) (some (.next ()))) (some (.next ())))))) (fun j _=>∀ k x,k < j → t.primaryKey[k]? = some x → 0 ≤ x ∧ x < t.columns.length) (fun r=>r ≠ 0) t.primaryKey 0 () (fun k x h=>by omega) (fun k x s hk hI=>by
     simp only [Nat.zero_add] at hI ⊢
     by_cases a1 : x < 0
     ·exact ⟨.ret 9,by rw [zt a1]; rfl,by simp⟩
     rw [zf a1]
     by_cases a2 : x ≥ (t.columns.length : Int)
     ·exact ⟨.ret 9,by rw [zt a2]; rfl,by simp⟩
     rw [zf a2]
     simp only [zd]
     obtain ⟨c,hc⟩ := Tot.get (xs := t.columns) (i := x) (by omega) (by omega)
     rw [hc,bPs]
     have next : ∀ k' x',k' < k + 1 → t.primaryKey[k']? = some x' → 0 ≤ x' ∧ x' < t.columns.length := fun k' x' h1 h2=>by
      by_cases he : k' = k
      ·subst he; rw [hk] at h2; cases h2; omega
      ·exact hI k' x' (by omega) h2
     cases c.nullable with
     | true=>exact ⟨_,rfl,by simp⟩
     | false =>
      simp only [zd]
      by_cases a3 : (k : Int) > 0
      ·rw [zt a3]
       have hkl := (zg.1 hk).1
       rw [bD (by omega) (by omega)]
       obtain ⟨y,hy⟩ := Tot.get (xs := t.primaryKey) (i := (k : Int) - 1) (by omega) (by omega)
       rw [zc,hy,bPs]
       by_cases a4 : x ≤ y
       ·exact ⟨.ret 9,by rw [zt a4]; rfl,by simp⟩
       ·exact ⟨.next (),by rw [zf a4]; rfl,next⟩
      ·exact ⟨.next (),by rw [zf a3]; rfl,next⟩)
   rw [hfl,bPs]
   cases fl with
   | brk s=>exact absurd hr (by simp)
   | ret r=>exact ⟨r,rfl,fun h=>absurd h hr⟩
   | next s =>
    rw [iu]
    simp only [Nat.zero_add] at hr
    by_cases hp : (t.primaryKey.length : Int) = 0
    ·exact ⟨9,by simp [hp],fun h=>by omega⟩
    ·have : ((t.primaryKey.length : Int) == 0) = false := by simpa using hp
     refine ⟨0,by rw [this]; rfl,fun _=>⟨fun x hx=>?_⟩⟩
     obtain ⟨k,hk,rfl⟩ := List.mem_iff_getElem.1 hx
     exact hr k _ hk (ze hk)
theorem fo {α : Type} {xs : List α} {k : Nat} (h : k < xs.length) : aG xs (k : Int) = some xs[k] := kl (ze h)
theorem foreignKey_tot {s : LSchema} (hs : ∀ t ∈ s.tables,TableOk t) (fk : LForeignKey) : Tot (fh s fk) := by
 unfold fh
 rw [oA,oA]
 simp only [bPs,bV]
 generalize hi : bt (fun t=>dA t fk.table) s.tables = i
 generalize hj : bt (fun t=>dA t fk.refTable) s.tables = j
 by_cases h1 : i ≥ 0
 ·by_cases h2 : j ≥ 0
  ·rw [zt h1,zt h2]
   simp only [Bool.not_true,zd]
   rw [pr h1,pr h2]
   obtain ⟨t,ht,_⟩ := nk (hi ▸ h1)
   obtain ⟨u,hu,_⟩ := nk (hj ▸ h2)
   rw [hi] at ht
   rw [hj] at hu
   rw [lO h1 ht,lO h2 hu]
   simp only [bPs]
   refine Tot.cond (fun _=>Tot.mk) fun hl=>?_
   have hl : fk.columns.length = u.primaryKey.length := by
    by_cases h : (fk.columns.length : Int) = (u.primaryKey.length : Int)
    ·omega
    ·simp [h] at hl
   refine Tot.bind (Tot.range _ _ _ fun k x st hk=>?_) fun fl _=>Tot.thenR fun _ _=>Tot.mk
   have hkl := (zg.1 hk).1
   by_cases a1 : x < 0
   ·rw [zt a1]; exact Tot.mk
   ·rw [zf a1]
    by_cases a2 : x ≥ (t.columns.length : Int)
    ·rw [zt a2]; exact Tot.mk
    ·rw [zf a2]
     simp only [zd]
     obtain ⟨c,hc⟩ := Tot.get (xs := t.columns) (i := x) (by omega) (by omega)
     rw [hc,bPs,Nat.zero_add,fo (by omega),bPs]
     have hp := (hs u (gp hu)).pk u.primaryKey[k] (List.getElem_mem _)
     obtain ⟨d,hd⟩ := Tot.get (xs := u.columns) (i := u.primaryKey[k]) hp.1 hp.2
     rw [hd,bPs]
     exact Tot.cond (fun _=>Tot.mk) fun _=>Tot.mk
  ·rw [zf h2]
   simp only [Bool.not_false]
   cases decide (i ≥ 0) <;> exact Tot.mk
 ·rw [zf h1]
  exact Tot.mk
theorem constraint_tot (s : LSchema) (c : LConstraint) : Tot (ff s c) := by
 unfold ff
 rw [oA]
 simp only [bPs,bV]
 generalize hi : bt (fun t=>dA t c.table) s.tables = i
 by_cases h1 : i ≥ 0
 ·rw [zt h1]
  simp only [Bool.not_true,zd]
  rw [pr h1]
  obtain ⟨t,ht,_⟩ := nk (hi ▸ h1)
  rw [hi] at ht
  rw [lO h1 ht,bPs]
  refine Tot.cond (fun _=>Tot.mk) fun hl=>?_
  by_cases a1 : c.left < 0
  ·rw [zt a1] at hl; cases hl
  rw [zf a1,zd] at hl
  by_cases a2 : c.left ≥ (t.columns.length : Int)
  ·rw [zt a2] at hl; cases hl
  rw [zf a2,zd] at hl
  obtain ⟨x,hx⟩ := Tot.get (xs := t.columns) (i := c.left) (by omega) (by omega)
  rw [hx]
  refine Tot.cond (fun a3=>?_) fun _=>?_
  ·have a3 := of_decide_eq_true a3
   have a4 : c.right < (t.columns.length : Int) := by
    rcases Int.lt_or_le c.right (t.columns.length : Int) with h | h
    ·exact h
    ·have e : decide (c.right ≥ (t.columns.length : Int)) = true := zt h
     rw [e] at hl
     revert hl
     cases ((gV (LVal.mk 0 0 []) c.op (LVal.mk 0 0 [])).2 != 0) <;> cases decide (c.right < -1) <;> simp
   obtain ⟨y,hy⟩ := Tot.get (xs := t.columns) (i := c.right) a3 a4
   rw [hy]
   simp only [bPs]
   exact Tot.cond (fun _=>Tot.mk) fun _=>Tot.mk
  ·rw [bPs]
   exact Tot.cond (fun _=>Tot.mk) fun _=>Tot.mk
 ·rw [zf h1]
  exact Tot.mk
theorem equalInts_tot (a b : List Int) : Tot (gk a b) := by
 unfold gk
 refine Tot.cond (fun _=>Tot.mk) fun h=>?_
 have h : a.length = b.length := by
  by_cases h' : (a.length : Int) = (b.length : Int)
  ·omega
  ·simp [h'] at h
 refine Tot.bind (Tot.range _ _ _ fun k x s hk=>?_) fun fl _=>Tot.thenR fun _ _=>Tot.mk
 have hkl := (zg.1 hk).1
 rw [Nat.zero_add,fo (by omega),bPs]
 exact Tot.cond (fun _=>Tot.mk) fun _=>Tot.mk
theorem fkIn_tot (l : List LForeignKey) (x : LForeignKey) : Tot (cv l (fun a0=>gv a0 x)) := by
 unfold cv de
 refine Tot.bind (Tot.bind (Tot.range _ _ _ fun k y s hk=>?_) fun fl _=>Tot.thenR fun _ _=>Tot.mk) fun _ _=>Tot.mk
 refine Tot.bind ?_ fun _ _=>Tot.cond (fun _=>Tot.mk) fun _=>Tot.mk
 unfold gv
 refine Tot.bind ?_ fun _ _=>Tot.mk
 unfold gN
 refine Tot.cond (fun _=>Tot.bind (equalInts_tot _ _) fun _ _=>Tot.cond (fun _=>Tot.mk) fun _=>Tot.mk) fun _=>Tot.mk
theorem csIn_tot (l : List LConstraint) (x : LConstraint) : Tot (cI l x) := by
 unfold cI dv
 refine Tot.bind (Tot.bind (Tot.range _ _ _ fun k y s hk=>?_) fun fl _=>Tot.thenR fun _ _=>Tot.mk) fun _ _=>Tot.mk
 exact Tot.cond (fun _=>Tot.mk) fun _=>Tot.mk
def ms (s : LSchema) : Prop := ∀ t ∈ s.tables,t.primaryKey.length ≤ 10000000
theorem validate_tot {s : LSchema} (hsm : ms s) : Tot (iS s) := by
 unfold iS
 rw [bV]
 refine Tot.cond (fun _=>Tot.mk) fun ht=>?_
 have h6 : s.tables.length ≤ 6 := by
  by_cases h : (s.tables.length : Int) > 6
  ·rw [zt h] at ht; cases ht
  ·omega
 obtain ⟨fl,hfl,hr⟩ := fR (step := fun (j2 : Nat) (x2 : LTable) (_ : Unit) =>
   ai (fI x2) fun x37=>cond (x37 != (0 : Int)) (some (Flow.ret (σ := Unit) x37)) (cond (decide ((j2 : Int) > (0 : Int)))
     (ai (aG s.tables (IntKind.i64.wrap ((j2 : Int) - (1 : Int)))) fun (x50 : LTable)=>cond (Op.bytesLess x2.name x50.name || x2.name == x50.name) (some (.ret 6)) (some (.next ()))) (some (.next ())))) (fun j _=>∀ k x,k < j → s.tables[k]? = some x → TableOk x) (fun _=>True) s.tables 0 () (fun k x h=>by omega) (fun k x st hk hI=>by
    simp only [Nat.zero_add] at hI ⊢
    obtain ⟨e,he,hok⟩ := validTable x (hsm x (gp hk))
    rw [he,bPs]
    by_cases h0 : e = 0
    ·have next : ∀ k' x',k' < k + 1 → s.tables[k']? = some x' → TableOk x' := fun k' x' h1 h2=>by
      by_cases heq : k' = k
      ·subst heq; rw [hk] at h2; cases h2; exact hok h0
      ·exact hI k' x' (by omega) h2
     rw [show (e != (0 : Int)) = false from by simp [h0],zd]
     by_cases a3 : (k : Int) > 0
     ·have hkl := (zg.1 hk).1
      rw [zt a3,bD (by omega) (by omega)]
      obtain ⟨y,hy⟩ := Tot.get (xs := s.tables) (i := (k : Int) - 1) (by omega) (by omega)
      rw [zc,hy,bPs]
      cases (Op.bytesLess x.name y.name || x.name == y.name) with
      | true=>exact ⟨.ret 6,rfl,trivial⟩
      | false=>exact ⟨.next (),rfl,next⟩
     ·exact ⟨.next (),by rw [zf a3]; rfl,next⟩
    ·exact ⟨.ret e,by rw [show (e != (0 : Int)) = true from by simp [h0]]; rfl,trivial⟩)
 rw [hfl,bPs]
 cases fl with
 | brk s=>exact absurd hr (by simp)
 | ret r=>exact Tot.mk
 | next u =>
  rw [iu]
  simp only [Nat.zero_add] at hr
  have hok : ∀ t ∈ s.tables,TableOk t := fun t ht=>by
   obtain ⟨k,hk,rfl⟩ := List.mem_iff_getElem.1 ht
   exact hr k _ hk (ze hk)
  refine Tot.bind (Tot.range _ _ _ fun k x st hk=>?_) fun fl _=>Tot.thenR fun _ _=>?_
  ·refine Tot.bind (foreignKey_tot hok x) fun e _=>Tot.cond (fun _=>Tot.mk) fun _=>?_
   have hkl := (zg.1 hk).1
   refine Tot.bind (Tot.sub ⟨by omega,by omega,by omega⟩) fun l _=>?_
   exact Tot.bind (fkIn_tot l x) fun _ _=>Tot.cond (fun _=>Tot.mk) fun _=>Tot.mk
  ·refine Tot.bind (Tot.range _ _ _ fun k x st hk=>?_) fun fl _=>Tot.thenR fun _ _=>Tot.mk
   refine Tot.bind (constraint_tot s x) fun e _=>Tot.cond (fun _=>Tot.mk) fun _=>?_
   have hkl := (zg.1 hk).1
   refine Tot.bind (Tot.sub ⟨by omega,by omega,by omega⟩) fun l _=>?_
   exact Tot.bind (csIn_tot l x) fun _ _=>Tot.cond (fun _=>Tot.mk) fun _=>Tot.mk
def fm (cols : List LCol) (row : Rq) : Prop := row.length = cols.length ∧ ∀ (i : Nat) (c : LCol) (x : LVal),cols[i]? = some c → row[i]? = some x → fO x c.kind c.nullable
theorem validate_valid {v : LVal} (h : dQ v = 0) : fg v = true := by
 obtain ⟨k,n,t⟩ := v
 unfold dQ bf at h
 unfold fg
 by_cases k0 : k = 0
 ·subst k0
  by_cases hn : n = 0
  ·subst hn
   cases t with
   | nil=>rfl
   | cons c t=>simp at h
  ·simp [lI hn] at h
 ·have e0 : (k == (0 : Int)) = false := by simpa using k0
  simp only [e0,zd] at h
  by_cases k1 : k = 1
  ·subst k1
   cases t with
   | cons c t=>simp at h
   | nil =>
    by_cases a : n < -1000000000000
    ·simp [a] at h
    ·by_cases b : n > 1000000000000
     ·simp [a,b] at h
     ·simp; omega
  ·by_cases k2 : k = 2
   ·subst k2
    cases t with
    | cons c t=>simp at h
    | nil =>
     by_cases a : n = 0
     ·simp [a]
     ·by_cases b : n = 1
      ·simp [b]
      ·simp [lI a,lI b] at h
   ·by_cases k3 : k = 3
    ·subst k3
     by_cases a : n = 0
     ·subst a
      by_cases b : (t.length : Int) > 24
      ·simp [b] at h
      ·simp; omega
     ·simp [lI a] at h
    ·have e1 : (k == (1 : Int)) = false := by simpa using k1
     have e2 : (k == (2 : Int)) = false := by simpa using k2
     have e3 : (k == (3 : Int)) = false := by simpa using k3
     simp [e1,e2,e3] at h
theorem conformsRow (t : LTable) (row : Rq) : ∃ e,dY t row = some e ∧ (e = 0 → fm t.columns row) := by
 unfold dY
 by_cases hl : (row.length : Int) = (t.columns.length : Int)
 ·have hl' : row.length = t.columns.length := by omega
  rw [show ((row.length : Int) != (t.columns.length : Int)) = false from by simp [hl],zd]
  obtain ⟨fl,hfl,hr⟩ := fR (step := fun (j1 : Nat) (x1 : LVal) (_ : Unit)=>bf (dQ x1) fun x22=>cond (x22 != (0 : Int)) (some (Flow.ret (σ := Unit) x22))
    (ai (cond (x1.kind == (0 : Int)) (ai (aG t.columns (j1 : Int)) fun (x33 : LCol)=>some (!x33.nullable)) (some false)) fun (t3 : Bool)=>cond t3 (some (.ret 8))
     (cond (x1.kind != (0 : Int)) (ai (aG t.columns (j1 : Int)) fun (x47 : LCol)=>cond (x1.kind != x47.kind) (some (.ret 7)) (some (.next ()))) (some (.next ())))))
   (fun j _=>∀ (k : Nat) (c : LCol) (x : LVal),k < j → t.columns[k]? = some c → row[k]? = some x → fO x c.kind c.nullable) (fun r=>r ≠ 0) row 0 () (fun k c x h=>by omega) (fun k x st hk hI=>by
    simp only [Nat.zero_add] at hI ⊢
    have hkl := (zg.1 hk).1
    rw [bV,fo (xs := t.columns) (by omega)]
    by_cases hv : dQ x = 0
    ·rw [show (dQ x != (0 : Int)) = false from by simp [hv],zd]
     have hvv := validate_valid hv
     have next : fO x t.columns[k].kind t.columns[k].nullable → ∀ (k' : Nat) (c : LCol) (x' : LVal),k' < k + 1 → t.columns[k']? = some c → row[k']? = some x' → fO x' c.kind c.nullable := fun hf k' c x' h1 h2 h3=>by
      by_cases heq : k' = k
      ·subst heq
       rw [hk] at h3
       rw [ze (by omega)] at h2
       cases h2
       cases h3
       exact hf
      ·exact hI k' c x' (by omega) h2 h3
     by_cases hx : x.kind = 0
     ·rw [show (x.kind == (0 : Int)) = true from by simp [hx],zc,bPs,bPs]
      cases hn : t.columns[k].nullable with
      | false=>exact ⟨.ret 8,rfl,by simp⟩
      | true=>exact ⟨.next (),by simp [hx],next ⟨hvv,.inr hx,fun _=>hn⟩⟩
     ·rw [show (x.kind == (0 : Int)) = false from by simp [hx],zd,bPs,zd,show (x.kind != (0 : Int)) = true from by simp [hx],zc,bPs]
      by_cases hk' : x.kind = t.columns[k].kind
      ·exact ⟨.next (),by rw [bneF hk']; rfl,next ⟨hvv,.inl hk',fun h=>absurd h hx⟩⟩
      ·exact ⟨.ret 7,by rw [lI hk']; rfl,by simp⟩
    ·exact ⟨.ret (dQ x),by rw [show (dQ x != (0 : Int)) = true from by simp [hv]]; rfl,hv⟩)
  rw [hfl,bPs]
  cases fl with
  | brk s=>exact absurd hr (by simp)
  | ret r=>exact ⟨r,rfl,fun h=>absurd h hr⟩
  | next s =>
   simp only [Nat.zero_add] at hr
   exact ⟨0,rfl,fun _=>⟨hl',fun i c x hc hx=>hr i c x (zg.1 hx).1 hc hx⟩⟩
 ·exact ⟨3,by rw [show ((row.length : Int) != (t.columns.length : Int)) = true from by simp [hl]]; rfl,fun h=>by omega⟩
theorem key_tot (t : LTable) (row : Rq) (hsm : t.primaryKey.length ≤ 10000000) : ∃ k,eC t row = some k ∧ k.length = t.primaryKey.length := by
 unfold eC
 obtain ⟨fl,hfl,hr⟩ := fR (step := fun (_ : Nat) (x1 : Int) (s1 : Rq) =>
  bf (cond (decide (x1 ≥ (0 : Int))) ((decide (x1 < (row.length : Int)))) (false)) fun (t6 : Bool) =>
  ai (cond t6 (ai (aG row x1) fun (x27 : LVal)=>some x27) (some (LVal.mk 0 0 []))) fun (t7 : LVal) =>
  ai (dT 32 s1 ([t7] : Rq)) fun (x32 : Rq)=>some (Flow.next (ρ := Empty) x32)) (fun j s=>s.length = j) (fun _=>False) t.primaryKey 0 ([] : Rq) rfl (fun k x s hk hI=>by
   have hI : s.length = k := by simpa using hI
   have hkl := (zg.1 hk).1
   rw [bV]
   have ht : ∃ v,(cond (cond (decide (x ≥ (0 : Int))) ((decide (x < (row.length : Int)))) (false)) (ai (aG row x) fun (x27 : LVal)=>some x27) (some (LVal.mk 0 0 []))) = some v := by
    refine Tot.cond (fun h=>?_) fun _=>Tot.mk
    by_cases h0 : x ≥ 0
    ·rw [zt h0] at h
     exact Tot.bind (Tot.get h0 (of_decide_eq_true h)) fun _ _=>Tot.mk
    ·rw [zf h0] at h; cases h
   obtain ⟨v,hv⟩ := ht
   rw [hv,bPs,cB (by decide) (by simp; omega),bPs]
   exact ⟨_,rfl,by simp [hI]⟩)
 rw [hfl,bPs]
 cases fl with
 | brk s=>exact absurd hr (by simp)
 | ret r=>exact r.elim
 | next s=>exact ⟨s,rfl,by simpa using hr⟩
theorem sh (a b : Rq) (ha : a.length ≤ 10000000) : Tot (eS a b) := by
 unfold eS
 have hm : ∃ n : Nat,(if (b.length : Int) < (a.length : Int) then (b.length : Int) else (a.length : Int)) = (n : Int) ∧ n ≤ a.length ∧ n ≤ b.length := by
  split
  ·exact ⟨b.length,rfl,by omega,by omega⟩
  ·exact ⟨a.length,rfl,by omega,by omega⟩
 obtain ⟨n,hn,h1,h2⟩ := hm
 rw [hn,oV (by omega),bPs]
 refine Tot.bind (Tot.range _ _ _ fun k x s hk=>?_) fun fl _=>Tot.thenR fun _ _=>Tot.mk
 have hkl := (zg.1 hk).1
 simp at hkl
 rw [Nat.zero_add,fo (by omega),fo (by omega)]
 simp only [bPs,bV]
 exact Tot.cond (fun _=>Tot.mk) fun _=>Tot.mk
structure InstOk (s : LSchema) (st : List LRelation) : Prop where
 len : st.length = s.tables.length
 tab : ∀ (i : Nat) (r : LRelation) (t : LTable),st[i]? = some r → s.tables[i]? = some t → r.table = t.name ∧ r.rows.length ≤ 24 ∧ ∀ row ∈ r.rows,fm t.columns row
theorem conforms {s : LSchema} (hsm : ms s) (st : List LRelation) : ∃ e,dr s st = some e ∧ (e = 0 → InstOk s st) := by
 unfold dr
 by_cases hl : (st.length : Int) = (s.tables.length : Int)
 ·have hl' : st.length = s.tables.length := by omega
  rw [show ((st.length : Int) != (s.tables.length : Int)) = false from by simp [hl],zd]
  let good : LRelation → LTable → Prop := fun r t=>r.table = t.name ∧ r.rows.length ≤ 24 ∧ ∀ row ∈ r.rows,fm t.columns row
  obtain ⟨fl,hfl,hr⟩ := fR (step := fun (j1 : Nat) (x1 : LRelation) (_ : Unit) =>
   ai (aG s.tables (j1 : Int)) fun (x28 : LTable) =>
   cond (!(x1.table == x28.name)) (some (Flow.ret (σ := Unit) (3 : Int))) (cond (decide ((x1.rows.length : Int) > (24 : Int))) (some (.ret 2))
     (ai (aW (σ := Unit) (ρ := (Int)) (fun (j3 : Nat) (x3 : Rq) (_ : Unit) =>
      ai (dY x28 x3) fun x49=>cond (x49 != (0 : Int)) (some (.ret x49)) (cond ((j3 : Int) == (0 : Int)) (some (.next ()))
        (ai (aG x1.rows (IntKind.i64.wrap ((j3 : Int) - (1 : Int)))) fun (x60 : Rq)=>ai (eC x28 x60) fun x62=>ai (eC x28 x3) fun x65=>ai (eS x62 x65) fun x66 =>
        cond (x66 == (0 : Int)) (some (.ret 9)) (cond (decide (x66 > (0 : Int))) (some (.ret 6)) (some (.next ())))))) 0 x1.rows ()) fun fl3=>fl3.thenF fun (_ : Unit)=>some (.next ()))))
   (fun j _=>∀ (k : Nat) (r : LRelation) (t : LTable),k < j → st[k]? = some r → s.tables[k]? = some t → good r t) (fun r=>r ≠ 0) st 0 () (fun k r t h=>by omega) (fun k r u hk hI=>by
    simp only [Nat.zero_add] at hI ⊢
    have hkl := (zg.1 hk).1
    have hkt : k < s.tables.length := by omega
    rw [fo hkt,bPs]
    by_cases hn : r.table = s.tables[k].name
    ·rw [show (!(r.table == s.tables[k].name)) = false from by simp [hn],zd]
     by_cases h24 : (r.rows.length : Int) > 24
     ·exact ⟨.ret 2,by rw [zt h24]; rfl,by simp⟩
     ·rw [zf h24,zd]
      have hsk := hsm s.tables[k] (List.getElem_mem _)
      obtain ⟨fl,hfl,hr⟩ := fR (step := fun (j3 : Nat) (x3 : Rq) (_ : Unit) =>
       ai (dY s.tables[k] x3) fun x49=>cond (x49 != (0 : Int)) (some (Flow.ret (σ := Unit) x49)) (cond ((j3 : Int) == (0 : Int)) (some (.next ()))
        (ai (aG r.rows (IntKind.i64.wrap ((j3 : Int) - (1 : Int)))) fun (x60 : Rq)=>ai (eC s.tables[k] x60) fun x62=>ai (eC s.tables[k] x3) fun x65=>ai (eS x62 x65) fun x66 =>
        cond (x66 == (0 : Int)) (some (.ret 9)) (cond (decide (x66 > (0 : Int))) (some (.ret 6)) (some (.next ())))))) (fun j _=>∀ i row,i < j → r.rows[i]? = some row → fm s.tables[k].columns row) (fun r=>r ≠ 0) r.rows 0 () (fun i row h=>by omega) (fun i row u hi hI2=>by
        simp only [Nat.zero_add] at hI2 ⊢
        have hil := (zg.1 hi).1
        obtain ⟨e,he,hok⟩ := conformsRow s.tables[k] row
        rw [he,bPs]
        by_cases h0 : e = 0
        ·rw [show (e != (0 : Int)) = false from by simp [h0],zd]
         have next : ∀ i' row',i' < i + 1 → r.rows[i']? = some row' → fm s.tables[k].columns row' := fun i' row' h1 h2=>by
          by_cases heq : i' = i
          ·subst heq; rw [hi] at h2; cases h2; exact hok h0
          ·exact hI2 i' row' (by omega) h2
         by_cases hi0 : i = 0
         ·exact ⟨.next (),by simp [hi0],next⟩
         ·rw [show ((i : Int) == (0 : Int)) = false from by simp; omega,zd,bD (by omega) (by omega)]
          obtain ⟨p,hp⟩ := Tot.get (xs := r.rows) (i := (i : Int) - 1) (by omega) (by omega)
          obtain ⟨k1,hk1,hl1⟩ := key_tot s.tables[k] p hsk
          obtain ⟨k2,hk2,_⟩ := key_tot s.tables[k] row hsk
          obtain ⟨z,hz⟩ := sh k1 k2 (by omega)
          rw [hp,bPs,hk1,bPs,hk2,bPs,hz,bPs]
          by_cases z0 : z = 0
          ·exact ⟨.ret 9,by rw [kD z0]; rfl,by simp⟩
          ·by_cases z1 : z > 0
           ·exact ⟨.ret 6,by rw [dw z0,zt z1]; rfl,by simp⟩
           ·exact ⟨.next (),by rw [dw z0,zf z1]; rfl,next⟩
        ·exact ⟨.ret e,by rw [show (e != (0 : Int)) = true from by simp [h0]]; rfl,h0⟩)
      rw [hfl,bPs]
      cases fl with
      | brk s=>exact absurd hr (by simp)
      | ret e=>exact ⟨.ret e,rfl,hr⟩
      | next s' =>
       simp only [Nat.zero_add] at hr
       refine ⟨.next (),rfl,fun k' r' t' h1 h2 h3=>?_⟩
       by_cases heq : k' = k
       ·subst heq
        rw [hk] at h2
        rw [ze hkt] at h3
        cases h2
        cases h3
        refine ⟨hn,by omega,fun row hrow=>?_⟩
        obtain ⟨i,hi,rfl⟩ := List.mem_iff_getElem.1 hrow
        exact hr i _ hi (ze hi)
       ·exact hI k' r' t' (by omega) h2 h3
    ·exact ⟨.ret 3,by rw [show (!(r.table == s.tables[k].name)) = true from by simp [hn]]; rfl,by simp⟩)
  rw [hfl,bPs]
  cases fl with
  | brk s=>exact absurd hr (by simp)
  | ret r=>exact ⟨r,rfl,fun h=>absurd h hr⟩
  | next u =>
   simp only [Nat.zero_add] at hr
   exact ⟨0,rfl,fun _=>⟨hl',fun i r t h1 h2=>hr i r t (zg.1 h1).1 h1 h2⟩⟩
 ·exact ⟨3,by rw [show ((st.length : Int) != (s.tables.length : Int)) = true from by simp [hl]]; rfl,fun h=>by omega⟩
theorem containsI (l : List Int) (v : Int) : fC l v = some (l.any fun x=>v == x) := by
 unfold fC hZ
 rw [idxF2 (p := fun x=>v == x),bPs,iD]
theorem shape1 (l : List Int) (q : LQuery) : dP l q = some (l.any fun x=>q.kind == x) := by
 unfold dP
 rw [containsI,bPs]
def od (k : Int) : Nat := if k = 1 then 0 else if k = 4 ∨ k = 5 ∨ k = 6 ∨ k = 7 then 2 else 1
def lq (q : LQuery) : Bool :=
 decide (1 ≤ q.kind) && decide (q.kind ≤ 10) && decide (q.inputs.length = od q.kind) && (q.kind == 1 || q.table == []) && (q.kind == 3 || q.kind == 8 || decide (q.names.length = 0)) &&
 (q.kind == 8 || decide (q.aggregates.length = 0)) && (q.kind == 9 || decide (q.descending.length = 0)) && (q.kind == 10 || (q.count == 0 && q.offset == 0)) &&
 (if q.kind = 2 ∨ q.kind = 4 ∨ q.kind = 5 then decide (q.exprs.length = 1)
  else if q.kind = 3 ∨ q.kind = 8 then decide (q.exprs.length = q.names.length) && decide (0 < q.exprs.length + q.aggregates.length)
  else if q.kind = 9 then decide (q.exprs.length = q.descending.length) && decide (0 < q.exprs.length)
  else if q.kind = 10 then decide (q.exprs.length = 0) && decide (q.count ≥ 0) && decide (q.offset ≥ 0)
  else decide (q.exprs.length = 0))
theorem natE (a b : Nat) : ((a : Int) == (b : Int)) = decide (a = b) := by
 by_cases h : a = b
 ·simp [h]
 ·rw [zf h]; exact dw (by omega)
theorem nM (a b : Nat) : ((a : Int) != (b : Int)) = !decide (a = b) := by rw [bne,natE]
theorem natPos (a : Nat) : decide ((a : Int) > 0) = !decide (a = 0) := by
 by_cases h : a = 0
 ·simp [h]
 ·rw [zf h,zt (by omega)]; rfl
theorem condSome {α : Type} (b : Bool) (x y : α) : (cond b (some x) (some y)) = some (cond b x y) := by cases b <;> rfl
theorem shape_eq (q : LQuery) (hs : q.exprs.length ≤ 10000000 ∧ q.aggregates.length ≤ 10000000) : kw q = some (lq q) := by
 unfold kw
 simp only [shape1,bPs]
 by_cases k0 : q.kind < 1
 ·rw [zt k0]
  simp [lq,show ¬ (1 ≤ q.kind) from by omega]
 rw [zf k0]
 by_cases k10 : q.kind > 10
 ·rw [zt k10]
  simp [lq,show ¬ (q.kind ≤ 10) from by omega]
 rw [zf k10]
 have hw : IntKind.i64.wrap ((q.exprs.length : Int) + (q.aggregates.length : Int)) = ((q.exprs.length + q.aggregates.length : Nat) : Int) := by rw [bD (by omega) (by omega)]; simp
 rw [hw]
 have hk : q.kind = 1 ∨ q.kind = 2 ∨ q.kind = 3 ∨ q.kind = 4 ∨ q.kind = 5 ∨ q.kind = 6 ∨ q.kind = 7 ∨ q.kind = 8 ∨ q.kind = 9 ∨ q.kind = 10 := by omega
 unfold lq
 have e0 : ∀ n : Nat,((n : Int) == 0) = decide (n = 0) := fun n=>natE n 0
 have e1 : ∀ n : Nat,((n : Int) == 1) = decide (n = 1) := fun n=>natE n 1
 have n0 : ∀ n : Nat,((n : Int) != 0) = !decide (n = 0) := fun n=>nM n 0
 have n1 : ∀ n : Nat,((n : Int) != 1) = !decide (n = 1) := fun n=>nM n 1
 have n2 : ∀ n : Nat,((n : Int) != 2) = !decide (n = 2) := fun n=>nM n 2
 have c0 : (q.count != 0) = !(q.count == 0) := rfl
 have o0 : (q.offset != 0) = !(q.offset == 0) := rfl
 have p0 : decide (0 < q.exprs.length) = !decide (q.exprs.length = 0) := by rw [← natPos]; simp
 have p1 : decide (0 < q.exprs.length + q.aggregates.length) = !decide (q.exprs.length + q.aggregates.length = 0) := by rw [← natPos]; simp; omega
 simp only [natPos,natE,e0,e1,c0,o0,p0,p1]
 generalize (q.table == []) = b1
 generalize decide (q.names.length = 0) = b2
 generalize decide (q.aggregates.length = 0) = b3
 generalize decide (q.descending.length = 0) = b4
 generalize (q.count == 0) = b5
 generalize (q.offset == 0) = b6
 generalize decide (q.exprs.length = 1) = b7
 generalize decide (q.exprs.length = q.names.length) = b8
 generalize decide (q.exprs.length + q.aggregates.length = 0) = b9
 generalize decide (q.exprs.length = q.descending.length) = b10
 generalize decide (q.exprs.length = 0) = b11
 generalize decide (q.count ≥ 0) = b12
 generalize decide (q.offset ≥ 0) = b13
 generalize hL : q.inputs.length = L
 rcases hk with h | h | h | h | h | h | h | h | h | h <;> rw [h]
 all_goals simp only [od,aG]
 all_goals simp [n0,n1,n2,condSome,Bool.and_assoc]
def e0Q (q : LQuery) : LExpr := q.exprs.headD (.mk 1 [] 0 .nul [])
def jo (a b : List LCol) (left : Bool) : List LCol := a ++ b.map fun x=>⟨x.name,x.kind,x.nullable || left⟩
def ky (kind : Int) (a b : List LCol) : List LCol × Int :=
 if a.length = b.length ∧ a.map LCol.kind = b.map LCol.kind then (List.zipWith (fun x y=>⟨x.name,x.kind,x.nullable || (kind == 6 && y.nullable)⟩) a b,0) else ([],7)
def cT (vars cols : List LCol) : List LExpr → List (List UInt8) → List LCol × Int
 | e :: es,n :: ns=>if dN n = false then ([],3) else if (du cols vars e).2.2 ≠ 0 then ([],(du cols vars e).2.2) else if (du cols vars e).1 = 0 then ([],7)
  else if (cT vars cols es ns).2 ≠ 0 then ([],(cT vars cols es ns).2) else (⟨n,(du cols vars e).1,(du cols vars e).2.1⟩ :: (cT vars cols es ns).1,0)
 | _,_=>([],0)
abbrev ie : List UInt8 := [99,111,117,110,116]
abbrev sSum : List UInt8 := [115,117,109]
abbrev sMin : List UInt8 := [109,105,110]
abbrev sMax : List UInt8 := [109,97,120]
def nr (vars cols : List LCol) (a : LAggregateCall) : Int × Int :=
 if dN a.name = false ∨ ¬ a.function ∈ [ie,sSum,sMin,sMax] ∨ 1 < a.args.length ∨ (a.args.length < 1 ∧ a.function ≠ ie) then (0,3)
 else match a.args with
  | []=>(1,0)
  | e :: _=>if (du cols vars e).2.2 ≠ 0 then (0,(du cols vars e).2.2) else if (du cols vars e).1 = 0 ∨ (a.function = sSum ∧ (du cols vars e).1 ≠ 1) then (0,7)
   else if a.function = ie then (1,0) else ((du cols vars e).1,0)
def eu (vars cols : List LCol) : List LAggregateCall → List LCol × Int
 | []=>([],0)
 | a :: l=>if (nr vars cols a).2 ≠ 0 then ([],(nr vars cols a).2) else if (eu vars cols l).2 ≠ 0 then ([],(eu vars cols l).2)
  else (⟨a.name,(nr vars cols a).1,!(a.function == ie)⟩ :: (eu vars cols l).1,0)
def lY (vars cols : List LCol) (q : LQuery) : List LCol × Int :=
 if (cT vars cols q.exprs q.names).2 ≠ 0 then ([],(cT vars cols q.exprs q.names).2)
 else if (eu vars cols q.aggregates).2 ≠ 0 then ([],(eu vars cols q.aggregates).2)
 else ((cT vars cols q.exprs q.names).1 ++ (eu vars cols q.aggregates).1,0)
def jw (vars cols : List LCol) : List LExpr → Int
 | []=>0
 | e :: l=>if (du cols vars e).2.2 ≠ 0 then (du cols vars e).2.2 else jw vars cols l
def iM (c : LChecker) (q : LQuery) (ins : List (List LCol)) : List LCol × Int :=
 if q.kind = 1 then (match c.s.tables.find? fun t=>t.name == q.table with | some t=>(t.columns,0) | none=>([],4))
 else if q.kind = 2 then (ins.getD 0 [],dW c (ins.getD 0 []) (e0Q q))
 else if q.kind = 4 ∨ q.kind = 5 then (jo (ins.getD 0 []) (ins.getD 1 []) (q.kind == 5),dW c (jo (ins.getD 0 []) (ins.getD 1 []) (q.kind == 5)) (e0Q q))
 else if q.kind = 6 ∨ q.kind = 7 then ky q.kind (ins.getD 0 []) (ins.getD 1 [])
 else if q.kind = 3 ∨ q.kind = 8 then lY c.vars (ins.getD 0 []) q
 else if q.kind = 9 then (if jw c.vars (ins.getD 0 []) q.exprs ≠ 0 then ([],jw c.vars (ins.getD 0 []) q.exprs) else (ins.getD 0 [],0))
 else (ins.getD 0 [],0)
theorem find_idx {α : Type} (p : α → Bool) (l : List α) : (l.find? p = none ∧ bt p l = -1) ∨ ∃ x,l.find? p = some x ∧ 0 ≤ bt p l ∧ l[(bt p l).toNat]? = some x := by
 induction l with
 | nil=>exact .inl ⟨rfl,rfl⟩
 | cons a l ih =>
  by_cases h : p a = true
  ·right
   exact ⟨a,by simp [h],by unfold bt; simp [List.findIdx?_cons,h],by unfold bt; simp [List.findIdx?_cons,h]⟩
  ·have h : p a = false := by simpa using h
   have hi : bt p (a :: l) = if bt p l < 0 then -1 else bt p l + 1 := by
    unfold bt
    simp only [List.findIdx?_cons,h,Bool.false_eq_true,if_false]
    cases l.findIdx? p with
    | none=>rfl
    | some i=>rw [zy (by simp only; omega)]; simp
   rw [List.find?_cons,h,hi]
   rcases ih with ⟨h1,h2⟩ | ⟨x,h1,h2,h3⟩
   ·left; exact ⟨h1,by rw [h2]; rfl⟩
   ·right
    refine ⟨x,h1,by split <;> omega,?_⟩
    rw [zy (by omega),show (bt p l + 1).toNat = (bt p l).toNat + 1 from by omega,List.getElem?_cons_succ,h3]
theorem set_ok (kind : Int) (a b : List LCol) : iC kind a b = some (ky kind a b) := by
 unfold iC ky
 by_cases hl : a.length = b.length
 ·rw [nM,zt hl]
  simp only [Bool.not_true,zd]
  let z : LCol → LCol → LCol := fun x y=>⟨x.name,x.kind,x.nullable || (kind == 6 && y.nullable)⟩
  obtain ⟨fl,hfl,hr⟩ := fR (step := fun (j1 : Nat) (x1 : LCol) (s1 : List LCol) =>
   ai (aG b (j1 : Int)) fun (x29 : LCol)=>cond (x1.kind != x29.kind) (some (Flow.ret (([],7) : List LCol × Int)))
    (cond x1.nullable (ai (aG s1 (j1 : Int)) fun (x51 : LCol)=>bf (s1.set ((j1 : Int).toNat) (LCol.mk x51.name x51.kind true)) fun (y8 : List LCol)=>some (.next y8))
     (cond (kind == (6 : Int)) (ai (aG b (j1 : Int)) fun (x46 : LCol)=>ai (aG s1 (j1 : Int)) fun (x51 : LCol)=>bf (s1.set ((j1 : Int).toNat) (LCol.mk x51.name x51.kind x46.nullable)) fun (y9 : List LCol)=>some (.next y9))
      (ai (aG s1 (j1 : Int)) fun (x51 : LCol)=>bf (s1.set ((j1 : Int).toNat) (LCol.mk x51.name x51.kind false)) fun (y10 : List LCol)=>some (.next y10)))))
   (fun j s=>s = (List.zipWith z a b).take j ++ a.drop j ∧ (a.take j).map LCol.kind = (b.take j).map LCol.kind) (fun r=>r = ([],7) ∧ a.map LCol.kind ≠ b.map LCol.kind) a 0 a ⟨by simp,rfl⟩ (fun k x s hk hI=>by
    simp only [Nat.zero_add] at hI ⊢
    have hka := (zg.1 hk).1
    have hxe := (zg.1 hk).2
    have hkb : k < b.length := by omega
    rw [fo hkb,bPs,bPs]
    by_cases hkk : x.kind = b[k].kind
    ·have hzl : ((List.zipWith z a b).take k).length = k := by simp; omega
     have hs : s[k]? = some x := by
      rw [hI.1,List.getElem?_append_right (by omega),hzl,Nat.sub_self,List.getElem?_drop,Nat.add_zero,hk]
     have hkinds : (a.take (k + 1)).map LCol.kind = (b.take (k + 1)).map LCol.kind := by
      rw [List.take_add_one,List.take_add_one,hk,ze hkb,List.map_append,List.map_append,hI.2]
      congr 1
      show [x.kind] = [b[k].kind]
      rw [hkk]
     have hset : ∀ v : LCol,v = z x b[k] → s.set k v = (List.zipWith z a b).take (k + 1) ++ a.drop (k + 1) := by
      intro v hv
      rw [hI.1,List.set_append_right _ _ (by omega),hzl,Nat.sub_self]
      rw [List.drop_eq_getElem_cons hka,List.set_cons_zero,List.take_add_one,List.append_assoc]
      congr 1
      rw [List.getElem?_zipWith,hk,ze hkb]
      simp [hv]
     rw [bneF hkk,zd,kl hs]
     simp only [bPs,bV,Int.toNat_natCast]
     cases hx : x.nullable with
     | true=>exact ⟨_,rfl,hset _ (by simp [z,hx]),hkinds⟩
     | false =>
      by_cases h6 : kind = 6
      ·exact ⟨.next _,by rw [kD h6]; rfl,hset _ (by simp [z,hx,h6]),hkinds⟩
      ·exact ⟨.next _,by rw [dw h6]; rfl,hset _ (by simp [z,hx,h6]),hkinds⟩
    ·refine ⟨.ret ([],7),by rw [lI hkk]; rfl,rfl,fun he=>hkk ?_⟩
     have := congrArg (fun l=>l[k]?) he
     simp only [List.getElem?_map,hk,ze hkb,Option.map_some,zo] at this
     exact this)
  rw [hfl,bPs]
  cases fl with
  | brk s=>exact absurd hr (by simp)
  | ret r=>rw [hr.1,zy (fun h=>hr.2 h.2)]; rfl
  | next s =>
   simp only [Nat.zero_add] at hr
   rw [iu,hr.1,zp ⟨hl,by have := hr.2; rwa [List.take_length,hl,List.take_length] at this⟩]
   have : (List.zipWith z a b).take a.length = List.zipWith z a b := List.take_of_length_le (by simp; omega)
   rw [this,List.drop_length,List.append_nil]
 ·rw [nM,zf hl,zy (fun h=>hl h.1)]
  rfl
theorem nU {α : Type} {l : List α} {d : α} (h : 0 < l.length) : aG l 0 = some (l.getD 0 d) := by
 cases l with
 | nil=>simp at h
 | cons a l=>rfl
theorem getD1 {α : Type} {l : List α} {d : α} (h : 1 < l.length) : aG l 1 = some (l.getD 1 d) := by
 match l with
 | []=>simp at h
 | [_]=>simp at h
 | a :: b :: l=>rfl
theorem e0_get {q : LQuery} (h : 0 < q.exprs.length) : aG q.exprs 0 = some (e0Q q) := by
 unfold e0Q
 cases hq : q.exprs with
 | nil=>rw [hq] at h; simp at h
 | cons a l=>rfl
theorem containsS (l : List (List UInt8)) (v : List UInt8) : cG l v = some (decide (v ∈ l)) := by
 unfold cG dV
 rw [idxF2 (p := fun x=>v == x),bPs,iD]
 congr 1
 by_cases h : v ∈ l
 ·rw [zt h,List.any_eq_true]; exact ⟨v,h,by simp⟩
 ·rw [zf h,List.any_eq_false]
  intro x hx he
  exact h (by simp at he; rwa [he])
theorem agg_eq (c : LChecker) (cols : List LCol) (a : LAggregateCall) : gw c cols a = some (nr c.vars cols a) := by
 unfold gw nr
 simp only [bV,containsS,bPs]
 by_cases h1 : dN a.name = false
 ·simp [h1]
 have h1' : dN a.name = true := by simpa using h1
 by_cases h2 : a.function ∈ [ie,sSum,sMin,sMax]
 ·rw [zt (show a.function ∈ ([[99,111,117,110,116],[115,117,109],[109,105,110],[109,97,120]] : List (List UInt8)) from h2)]
  cases ha : a.args with
  | nil =>
   by_cases h3 : a.function = ie
   ·simp [h1',h3]
   ·have h3' : (a.function == ([99,111,117,110,116] : List UInt8)) = false := by simpa using h3
    simp [h1',h3,h2,h3']
  | cons e l =>
   cases l with
   | cons e2 l =>
    have : (1 : Int) < (l.length : Int) + 1 + 1 := by omega
    simp [h1',h2,this]
   | nil =>
    simp only [h1',Bool.not_true,zd,List.length_singleton]
    have hno : ¬ (True = False ∨ ¬ a.function ∈ [ie,sSum,sMin,sMax] ∨ 1 < 1 ∨ (1 < 1 ∧ a.function ≠ ie)) := by simp [h2]
    simp only [aG]
    by_cases h4 : (du cols c.vars e).2.2 = 0
    ·by_cases h5 : (du cols c.vars e).1 = 0
     ·simp [h2,h4,h5]
     ·by_cases h6 : a.function = sSum
      ·by_cases h7 : (du cols c.vars e).1 = 1
       ·simp [h4,h6,h7]
       ·simp [h4,h5,h6,h7,lI h7]
      ·have h6' : (a.function == ([115,117,109] : List UInt8)) = false := by simpa using h6
       by_cases h8 : a.function = ie
       ·simp [h4,h5,h8,dw h5]
       ·have h8' : (a.function == ([99,111,117,110,116] : List UInt8)) = false := by simpa using h8
        simp [h2,h4,h5,h6,h8,h6',h8',dw h5]
    ·simp [h2,h4,lI h4]
 ·rw [zf (show ¬ a.function ∈ ([[99,111,117,110,116],[115,117,109],[109,105,110],[109,97,120]] : List (List UInt8)) from h2)]
  simp [h1',h2]
theorem namedE_run (vars cols : List LCol) (names : List (List UInt8)) : ∀ (es : List LExpr) (j : Nat) (s : List LCol),es.length + j = names.length → s.length + es.length ≤ 10000000 →
  ∀ k : List LCol → Option (List LCol × Int),ai (aW (σ := List LCol) (ρ := ((List LCol) × Int)) (fun (j1 : Nat) (x1 : LExpr) (s1 : List LCol) =>
  bf (du cols vars x1) fun x31 =>
  ai (aG names (j1 : Int)) fun (x39 : List UInt8) =>
  bf (dN x39) fun x41 =>
  cond (!x41)
   (some (.ret ([],3)))
   (cond (x31.2.2 != (0 : Int))
    (some (.ret ([],x31.2.2)))
    (cond (x31.1 == (0 : Int))
     (some (.ret ([],7)))
     (ai (aG names (j1 : Int)) fun (x54 : List UInt8) =>
     ai (dT 32 s1 ([(LCol.mk x54 x31.1 x31.2.1)] : List LCol)) fun (x60 : List LCol) =>
     some (.next x60))))) j es s) (fun fl1=>fl1.thenR k) = if (cT vars cols es (names.drop j)).2 ≠ 0 then some ([],(cT vars cols es (names.drop j)).2) else k (s ++ (cT vars cols es (names.drop j)).1)
 | [],j,s,_,_,k=>by simp [aW,cT]
 | e :: es,j,s,hl,hb,k=>by
  have hj : j < names.length := by simp at hl; omega
  rw [aW,List.drop_eq_getElem_cons hj,cT,bV,fo hj,bPs,bV]
  cases h1 : dN names[j] with
  | false=>simp
  | true =>
   simp only [Bool.not_true,zd,Bool.true_eq_false,if_false]
   by_cases h2 : (du cols vars e).2.2 = 0
   ·rw [bneF h2,zd]
    simp only [h2,ne_eq,not_true_eq_false,if_false]
    by_cases h3 : (du cols vars e).1 = 0
    ·rw [kD h3]; simp [h3]
    ·rw [dw h3,zd,bPs,cB (by decide) (by simp at hb ⊢; omega),bPs]
     simp only [h3,if_false]
     rw [namedE_run vars cols names es (j + 1) _ (by simp at hl; omega) (by simp at hb ⊢; omega) k]
     by_cases h4 : (cT vars cols es (names.drop (j + 1))).2 = 0
     ·simp [h4]
     ·simp [h4]
   ·rw [lI h2]
    simp [h2]
theorem namedA_run (c : LChecker) (cols : List LCol) : ∀ (l : List LAggregateCall) (j : Nat) (s : List LCol),s.length + l.length ≤ 10000000 →
  ai (aW (σ := List LCol) (ρ := ((List LCol) × Int)) (fun (_ : Nat) (x2 : LAggregateCall) (s2 : List LCol) =>
  ai (gw c cols x2) fun x73 =>
  cond (x73.2 != (0 : Int))
   (some (.ret ([],x73.2)))
   (ai (dT 32 s2 ([(LCol.mk x2.name x73.1 (!(x2.function == ([99,111,117,110,116] : List UInt8))))] : List LCol)) fun (x88 : List LCol) =>
   some (.next x88))) j l s) (fun fl2=>fl2.thenR fun (s2 : List LCol)=>some (s2,0)) = some (if (eu c.vars cols l).2 ≠ 0 then ([],(eu c.vars cols l).2) else (s ++ (eu c.vars cols l).1,0))
 | [],j,s,_=>by simp [aW,eu]
 | a :: l,j,s,hb=>by
  rw [aW,eu,agg_eq,bPs]
  by_cases h1 : (nr c.vars cols a).2 = 0
  ·rw [bneF h1,zd,cB (by decide) (by simp at hb ⊢; omega),bPs]
   simp only [h1,ne_eq,not_true_eq_false,if_false]
   rw [namedA_run c cols l (j + 1) _ (by simp at hb ⊢; omega)]
   by_cases h4 : (eu c.vars cols l).2 = 0
   ·simp [h4]
   ·simp [h4]
  ·rw [lI h1]
   simp [h1]
theorem named_eq (c : LChecker) (q : LQuery) (cols : List LCol) (hl : q.exprs.length = q.names.length) (hb : q.exprs.length ≤ 1000000 ∧ q.aggregates.length ≤ 1000000) : eY c q cols = some (lY c.vars cols q) := by
 unfold eY lY
 rw [namedE_run c.vars cols q.names q.exprs 0 [] (by omega) (by simp; omega),List.drop_zero]
 by_cases h : (cT c.vars cols q.exprs q.names).2 = 0
 ·have hlen : ∀ (es : List LExpr) (ns : List (List UInt8)),(cT c.vars cols es ns).1.length ≤ es.length := by
   intro es
   induction es with
   | nil=>intro ns; simp [cT]
   | cons e es ih =>
    intro ns
    cases ns with
    | nil=>simp [cT]
    | cons n ns =>
     simp only [cT]
     split
     ·simp
     ·split
      ·simp
      ·split
       ·simp
       ·split
        ·simp
        ·have := ih ns; simp; omega
  simp only [h,ne_eq,not_true_eq_false,if_false,List.nil_append]
  rw [namedA_run c cols q.aggregates 0 _ (by have := hlen q.exprs q.names; omega)]
 ·simp [h]
structure SmallQ (q : LQuery) : Prop where
 nodes : (cF q).length ≤ 10000000
 here : ∀ x ∈ cF q,x.exprs.length ≤ 1000000 ∧ x.aggregates.length ≤ 1000000
theorem rf {q x y : LQuery} (h : x ∈ q.inputs) (hy : y ∈ cF x) : y ∈ cF q := by
 rw [jL]
 exact List.mem_cons_of_mem _ (List.mem_flatten.2 ⟨_,List.mem_map.2 ⟨x,h,rfl⟩,hy⟩)
theorem nK (q : LQuery) : q ∈ cF q := by rw [jL]; exact List.mem_cons_self
theorem SmallQ.sub {q x : LQuery} (h : SmallQ q) (hx : x ∈ q.inputs) : SmallQ x :=
 ⟨by have := mn hx; have := h.nodes; omega,fun y hy=>h.here y (rf hx hy)⟩
theorem SmallQ.self {q : LQuery} (h : SmallQ q) : q.exprs.length ≤ 1000000 ∧ q.aggregates.length ≤ 1000000 := h.here q (nK q)
structure ShapeOk (q : LQuery) : Prop where
 kind : 1 ≤ q.kind ∧ q.kind ≤ 10
 arity : q.inputs.length = od q.kind
 one : q.kind = 2 ∨ q.kind = 4 ∨ q.kind = 5 → q.exprs.length = 1
 named : q.kind = 3 ∨ q.kind = 8 → q.exprs.length = q.names.length
 aggs : q.kind ≠ 8 → q.aggregates = []
 sorted : q.kind = 9 → q.exprs.length = q.descending.length
 limit : q.kind = 10 → 0 ≤ q.count ∧ 0 ≤ q.offset
theorem shape_ok {q : LQuery} (h : lq q = true) : ShapeOk q := by
 unfold lq at h
 simp only [Bool.and_eq_true,decide_eq_true_eq] at h
 obtain ⟨⟨⟨⟨⟨⟨⟨⟨h1,h2⟩,h3⟩,h4⟩,h5⟩,h6⟩,h7⟩,h8⟩,h9⟩ := h
 refine ⟨⟨h1,h2⟩,h3,fun hk=>?_,fun hk=>?_,fun hk=>?_,fun hk=>?_,fun hk=>?_⟩
 ·rw [zp hk] at h9; simpa using h9
 ·rw [zy (by omega),zp hk] at h9; simp at h9; exact h9.1
 ·have : (q.kind == 8) = false := dw hk
  rw [this] at h6; simp at h6; exact h6
 ·rw [zy (by omega),zy (by omega),zp hk] at h9; simp at h9; exact h9.1
 ·rw [zy (by omega),zy (by omega),zy (by omega),zp hk] at h9; simp at h9; omega
theorem join_run (left : Bool) : ∀ (b : List LCol) (j : Nat) (a : List LCol),a.length + b.length ≤ 10000000 →
  aW (σ := List LCol) (ρ := Empty) (fun (_ : Nat) (x2 : LCol) (s2 : List LCol)=>cond x2.nullable
          (ai (dT 32 s2 ([(LCol.mk x2.name x2.kind true)] : List LCol)) fun (x76 : List LCol)=>some (.next x76))
          (ai (dT 32 s2 ([(LCol.mk x2.name x2.kind left)] : List LCol)) fun (x76 : List LCol)=>some (.next x76))) j b a = some (.next (jo a b left))
 | [],j,a,_=>by simp [aW,jo]
 | x :: b,j,a,h=>by
  have step : (cond x.nullable (ai (dT 32 a ([(LCol.mk x.name x.kind true)] : List LCol)) fun (x76 : List LCol)=>some (Flow.next (ρ := Empty) x76))
    (ai (dT 32 a ([(LCol.mk x.name x.kind left)] : List LCol)) fun (x76 : List LCol)=>some (.next x76))) = some (.next (a ++ [⟨x.name,x.kind,x.nullable || left⟩])) := by
   rw [cB (by decide) (by simp at h ⊢; omega),cB (by decide) (by simp at h ⊢; omega)]
   cases x.nullable <;> simp
  rw [aW,step]
  simp only
  rw [join_run left b (j + 1) _ (by simp at h ⊢; omega)]
  simp [jo]
theorem sort_run (vars cols : List LCol) (ins : List (List LCol)) (h0 : aG ins 0 = some cols) : ∀ (es : List LExpr) (j : Nat) (k : Unit → Option (List LCol × Int)),
  ai (aW (σ := Unit) (ρ := ((List LCol) × Int)) (fun (_ : Nat) (x5 : LExpr) (_ : Unit)=>ai (aG ins 0) fun (x122 : List LCol)=>bf (du x122 vars x5) fun x127=>cond (x127.2.2 != (0 : Int)) (some (.ret ([],x127.2.2))) (some (.next ()))) j es ()) (fun fl5=>fl5.thenR k) =
   if jw vars cols es ≠ 0 then some ([],jw vars cols es) else k ()
 | [],j,k=>by simp [aW,jw]
 | e :: es,j,k=>by
  rw [aW,jw,h0,bPs,bV]
  by_cases h : (du cols vars e).2.2 = 0
  ·rw [bneF h,zd]
   simp only [h,ne_eq,not_true_eq_false,if_false]
   rw [← h0]
   exact sort_run vars cols ins h0 es (j + 1) k
  ·rw [lI h]; simp [h]
theorem out_eq {c : LChecker} {q : LQuery} {ins : List (List LCol)} (hs : ShapeOk q) (hsm : SmallQ q) (hl : ins.length = q.inputs.length) (hb : ∀ l ∈ ins,l.length ≤ 20) : ig c q ins = some (iM c q ins) := by
 obtain ⟨hk,ha,h1,hn,_,_,_⟩ := hs
 have hself := hsm.self
 have hi : ∀ i,i < ins.length → (ins.getD i []).length ≤ 20 := fun i hi=>by
  rw [List.getD_eq_getElem?_getD,ze hi]
  exact hb _ (List.getElem_mem hi)
 have e0 : q.exprs.length = 1 → aG q.exprs 0 = some (e0Q q) := fun h=>e0_get (by omega)
 unfold ig iM
 have kk : q.kind = 1 ∨ q.kind = 2 ∨ q.kind = 3 ∨ q.kind = 4 ∨ q.kind = 5 ∨ q.kind = 6 ∨ q.kind = 7 ∨ q.kind = 8 ∨ q.kind = 9 ∨ q.kind = 10 := by omega
 rcases kk with h | h | h | h | h | h | h | h | h | h
 ·rw [h,idx_table]
  simp only [bPs]
  rcases find_idx (fun a0=>eU a0 q) c.s.tables with ⟨f1,f2⟩ | ⟨t,f1,f2,f3⟩
  ·have f1' : c.s.tables.find? (fun t=>t.name == q.table) = none := f1
   rw [f2,f1']
   rfl
  ·have f1' : c.s.tables.find? (fun t=>t.name == q.table) = some t := f1
   rw [f1',zf (show ¬ bt (fun a0=>eU a0 q) c.s.tables < 0 from by omega),lO f2 f3]
   rfl
 all_goals rw [h] at ha
 all_goals simp only [od] at ha
 ·have g0 : aG ins 0 = some (ins.getD 0 []) := nU (by simp at ha; omega)
  rw [h,g0,e0 (h1 (.inl h))]
  simp [bV]
 ·have g0 : aG ins 0 = some (ins.getD 0 []) := nU (by simp at ha; omega)
  rw [h,g0]
  simp only [bPs]
  rw [named_eq c q _ (hn (.inl h)) hself]
  simp [bV]
 ·have g0 : aG ins 0 = some (ins.getD 0 []) := nU (by simp at ha; omega)
  have g1 : aG ins 1 = some (ins.getD 1 []) := getD1 (by simp at ha; omega)
  rw [h,g0,g1,e0 (h1 (.inr (.inl h)))]
  simp only [bPs]
  rw [join_run ((4 : Int) == 5) _ 0 _ (by have := hi 0 (by simp at ha; omega); have := hi 1 (by simp at ha; omega); omega)]
  simp [bV]
 ·have g0 : aG ins 0 = some (ins.getD 0 []) := nU (by simp at ha; omega)
  have g1 : aG ins 1 = some (ins.getD 1 []) := getD1 (by simp at ha; omega)
  rw [h,g0,g1,e0 (h1 (.inr (.inr h)))]
  simp only [bPs]
  rw [join_run ((5 : Int) == 5) _ 0 _ (by have := hi 0 (by simp at ha; omega); have := hi 1 (by simp at ha; omega); omega)]
  simp [bV]
 ·have g0 : aG ins 0 = some (ins.getD 0 []) := nU (by simp at ha; omega)
  have g1 : aG ins 1 = some (ins.getD 1 []) := getD1 (by simp at ha; omega)
  rw [h,g0,g1]
  simp only [bPs,set_ok]
  simp [bV]
 ·have g0 : aG ins 0 = some (ins.getD 0 []) := nU (by simp at ha; omega)
  have g1 : aG ins 1 = some (ins.getD 1 []) := getD1 (by simp at ha; omega)
  rw [h,g0,g1]
  simp only [bPs,set_ok]
  simp [bV]
 ·have g0 : aG ins 0 = some (ins.getD 0 []) := nU (by simp at ha; omega)
  rw [h,g0]
  simp only [bPs]
  rw [named_eq c q _ (hn (.inr h)) hself]
  simp [bV]
 ·have g0 : aG ins 0 = some (ins.getD 0 []) := nU (by simp at ha; omega)
  rw [h,sort_run c.vars _ ins g0,g0]
  simp only [bV,bPs]
  by_cases hse : jw c.vars (ins.getD 0 []) q.exprs = 0
  ·simp only [hse,ne_eq,not_true_eq_false,if_false]; rfl
  ·simp only [hse,ne_eq,not_false_eq_true,if_true]; rfl
 ·have g0 : aG ins 0 = some (ins.getD 0 []) := nU (by simp at ha; omega)
  rw [h,g0]
  simp [bV]
def ee : List (List LCol × Int) → List (List LCol) × Int
 | []=>([],0)
 | r :: l=>if r.2 ≠ 0 then ([],r.2) else if (ee l).2 ≠ 0 then ([],(ee l).2) else (r.1 :: (ee l).1,0)
def oC (c : LChecker) (q : LQuery) (ins : List (List LCol × Int)) : List LCol × Int :=
 if lq q = false then ([],3) else if (ee ins).2 ≠ 0 then ([],(ee ins).2)
 else if (iM c q (ee ins).1).2 ≠ 0 then ([],(iM c q (ee ins).1).2)
 else if 20 < (iM c q (ee ins).1).1.length then ([],2)
 else if ((iM c q (ee ins).1).1.map LCol.name).Nodup then ((iM c q (ee ins).1).1,0) else ([],23)
def fD (c : LChecker) (q : LQuery) : List LCol × Int := oC c q (q.inputs.attach.map fun x=>fD c x.1)
termination_by SizeOf.sizeOf q
decreasing_by exact LQuery.inputs_lt x.2
theorem qe (c : LChecker) (q : LQuery) : fD c q = oC c q (q.inputs.map (fD c)) := by
 rw [fD,List.attach_map_val (f := fD c)]
theorem rU (f : LQuery → Option (List LCol × Int)) (g : LQuery → List LCol × Int) : ∀ (l : List LQuery) (j : Nat) (s : List (List LCol)),(∀ x ∈ l,f x = some (g x)) → s.length + l.length ≤ 10000000 → ∀ k : List (List LCol) → Option (List LCol × Int),
  ai (aW (σ := List (List LCol)) (ρ := ((List LCol) × Int)) (fun (_ : Nat) (x1 : LQuery) (s1 : List (List LCol))=>ai (f x1) fun x28=>cond (x28.2 != (0 : Int)) (some (.ret ([],x28.2)))
    (ai (dT 24 s1 ([x28.1] : List (List LCol))) fun (x37 : List (List LCol))=>some (.next x37))) j l s) (fun fl1=>fl1.thenR k) =
   if (ee (l.map g)).2 ≠ 0 then some ([],(ee (l.map g)).2) else k (s ++ (ee (l.map g)).1)
 | [],j,s,_,_,k=>by simp [aW,ee]
 | x :: l,j,s,h,hb,k=>by
  rw [aW,h x (by simp),bPs,List.map_cons,ee]
  by_cases h1 : (g x).2 = 0
  ·rw [bneF h1,zd,cB (by decide) (by simp at hb ⊢; omega),bPs]
   simp only [h1,ne_eq,not_true_eq_false,if_false]
   rw [rU f g l (j + 1) _ (fun y hy=>h y (by simp [hy])) (by simp at hb ⊢; omega) k]
   by_cases h2 : (ee (l.map g)).2 = 0
   ·simp [h2]
   ·simp [h2]
  ·rw [lI h1]; simp [h1]
theorem qm : ∀ {l : List (List LCol × Int)},(ee l).2 = 0 → (∀ r ∈ l,r.2 = 0) ∧ (ee l).1 = l.map (·.1)
 | [],_=>⟨by simp,rfl⟩
 | r :: l,h=>by
  simp only [ee] at h ⊢
  by_cases h1 : r.2 = 0
  ·by_cases h2 : (ee l).2 = 0
   ·obtain ⟨a,b⟩ := qm h2
    refine ⟨fun x hx=>?_,by simp [h1,h2,b]⟩
    rcases List.mem_cons.1 hx with rfl | hx
    ·exact h1
    ·exact a x hx
   ·simp [h1,h2] at h
  ·simp [h1] at h
theorem dup_run (out : List LCol) : ai (aW (σ := Unit) (ρ := ((List LCol) × Int)) (fun (j2 : Nat) (x2 : LCol) (_ : Unit) =>
     ai (ny out 0 (j2 : Int)) fun (x61 : List LCol) =>
     ai (cx x61 (fun a0=>some (cL a0 x2))) fun x63 =>
     cond x63 (some (.ret ([],23))) (some (.next ()))) 0 out ()) (fun fl2=>fl2.thenR fun (_ : Unit)=>some (out,0)) = some (if (out.map LCol.name).Nodup then (out,0) else ([],23)) := by
 obtain ⟨fl,hfl,hr⟩ := fR (step := fun (j2 : Nat) (x2 : LCol) (_ : Unit) =>
     ai (ny out 0 (j2 : Int)) fun (x61 : List LCol) =>
     ai (cx x61 (fun a0=>some (cL a0 x2))) fun x63 =>
     cond x63 (some (Flow.ret (([],23) : List LCol × Int))) (some (.next ())))
  (fun j _=>((out.take j).map LCol.name).Nodup) (fun r=>r = ([],23) ∧ ¬ (out.map LCol.name).Nodup) out 0 () (by simp) (fun k x s hk hI=>by
   simp only [Nat.zero_add] at hI ⊢
   have hkl := (zg.1 hk).1
   rw [pF ⟨by omega,by omega,by omega⟩,bPs]
   unfold cx
   rw [idx_column,bPs,bPs,iD]
   simp only [Int.toNat_natCast,Int.toNat_zero,List.drop_zero]
   cases ha : (out.take k).any fun a0=>cL a0 x with
   | true =>
    refine ⟨_,rfl,rfl,fun hnd=>?_⟩
    obtain ⟨y,hy,he⟩ := List.any_eq_true.1 ha
    have he : y.name = x.name := by simpa [cL] using he
    obtain ⟨i,hi,hyi⟩ := List.mem_take_iff_getElem.1 hy
    have hii : i < k := by omega
    rw [List.nodup_iff_pairwise_ne,List.pairwise_iff_getElem] at hnd
    refine hnd i k (by simp; omega) (by simpa using hkl) hii ?_
    simp only [List.getElem_map]
    rw [(zg.1 hk).2,hyi,he]
   | false =>
    refine ⟨_,rfl,?_⟩
    simp only
    rw [List.take_add_one,hk,List.map_append,List.nodup_append]
    refine ⟨hI,by simp,fun a ha' b hb hab=>?_⟩
    simp at hb
    subst hb
    subst hab
    obtain ⟨y,hy,he⟩ := List.mem_map.1 ha'
    have := List.any_eq_false.1 ha y hy
    exact this (by simpa [cL] using he))
 rw [hfl,bPs]
 cases fl with
 | brk s=>exact absurd hr (by simp)
 | ret r=>rw [nO,hr.1,zy hr.2]
 | next s =>
  simp only [Nat.zero_add,List.take_length] at hr
  rw [iu,zp hr]
theorem kg (c : LChecker) (q : LQuery) : (fD c q).1.length ≤ 20 := by
 rw [qe]
 unfold oC
 repeat' split
 all_goals first | (simp; done) | (simp only; omega)
theorem cols_ok (c : LChecker) : ∀ q : LQuery,SmallQ q → fq c q = some (fD c q) := by
 refine LQuery.ind fun q ih hsm=>?_
 refine nB (γ := LChecker) (F := fun n c q=>fj n c q) (O := fun r c q=>fp r c q) (fun n=>rfl) c q ?_ (fun x hx=>⟨_,ih x hx (hsm.sub hx)⟩) ?_
 ·intro r r' h
  simp only [fp]
  congr 1
  funext b
  congr 2
  exact kL q.inputs 0 _ fun k x s hk=>by rw [h x (gp hk)]
 ·have e : ∀ c x,(iY fun n=>fj n c x) = fq c x := fun _ _=>rfl
  simp only [fp,e]
  have hself := hsm.self
  rw [shape_eq q ⟨by omega,by omega⟩,bPs,qe]
  unfold oC
  cases hs : lq q with
  | false=>rfl
  | true =>
   have hok := shape_ok hs
   have hin : q.inputs.length ≤ 2 := by rw [hok.arity]; unfold od; split <;> (try split) <;> omega
   simp only [Bool.not_true,zd,Bool.true_eq_false,if_false]
   rw [rU (fq c) (fD c) q.inputs 0 [] (fun x hx=>ih x hx (hsm.sub hx)) (by simp; omega),List.nil_append]
   by_cases h1 : (ee (q.inputs.map (fD c))).2 = 0
   ·obtain ⟨a,b⟩ := qm h1
    simp only [h1,ne_eq,not_true_eq_false,if_false]
    rw [out_eq hok hsm (by rw [b]; simp) (fun l hl=>by
     rw [b] at hl
     obtain ⟨r,hr,rfl⟩ := List.mem_map.1 hl
     obtain ⟨x,_,rfl⟩ := List.mem_map.1 hr
     exact kg c x),bPs]
    generalize iM c q (ee (q.inputs.map (fD c))).1 = o
    by_cases h2 : o.2 = 0
    ·rw [bneF h2,zd]
     simp only [h2,not_true_eq_false,if_false]
     by_cases h3 : 20 < o.1.length
     ·rw [zt (show (o.1.length : Int) > 20 from by omega),zp h3]; rfl
     ·rw [zf (show ¬ (o.1.length : Int) > 20 from by omega),zy h3,zd]
      exact dup_run o.1
    ·rw [lI h2]; simp [h2]
   ·simp [h1]
theorem whileM_by {σ ρ : Type} {step : σ → Option (Flow σ ρ)} (I : σ → Prop) (μ : σ → Nat) (Q : σ → Prop) (R : ρ → Prop) (hs : ∀ s,I s → ∃ fl,step s = some fl ∧ (match fl with | .next s'=>I s' ∧ μ s' < μ s | .brk s'=>Q s' | .ret r=>R r)) :
  ∀ s,I s → ∃ fl,whileM step s = some fl ∧ (match fl with | .next s'=>Q s' | .brk _=>False | .ret r=>R r) := by
 intro s
 generalize hn : μ s = n
 induction n using Nat.strongRecOn generalizing s with
 | _ n ih =>
  intro hI
  obtain ⟨fl,h1,h2⟩ := hs s hI
  cases fl with
  | next s' =>
   obtain ⟨fl,h3,h4⟩ := ih (μ s') (hn ▸ h2.2) s' rfl h2.1
   exact ⟨fl,eQ h1 h3,h4⟩
  | brk s'=>exact ⟨.next s',eQ h1 rfl,h2⟩
  | ret r=>exact ⟨.ret r,eQ h1 rfl,h2⟩
theorem dt {σ β : Type} {step : σ → Option (Flow σ Empty)} {k : σ → Option β} {R : β → Prop} {s : σ} (I : σ → Prop) (μ : σ → Nat) (Q : σ → Prop) (h0 : I s)
  (hs : ∀ s,I s → ∃ fl,step s = some fl ∧ (match fl with | .next s'=>I s' ∧ μ s' < μ s | .brk s'=>Q s' | .ret _=>False)) (hk : ∀ s',Q s' → ∃ r,k s' = some r ∧ R r) :
  ∃ r,ai (whileM step s) (fun fl=>fl.thenP k) = some r ∧ R r := by
 obtain ⟨fl,h1,h2⟩ := whileM_by (step := step) I μ Q (fun _=>False) (fun s hI=>by
  obtain ⟨fl,h1,h2⟩ := hs s hI
  refine ⟨fl,h1,?_⟩
  cases fl with
  | next s'=>exact h2
  | brk s'=>exact h2
  | ret r=>exact r.elim) s h0
 cases fl with
 | next s'=>rw [h1]; exact hk s' h2
 | brk s'=>exact absurd h2 (by simp)
 | ret r=>exact r.elim
theorem mid_eq {n : Int} (h0 : 0 ≤ n) (h1 : n ≤ 4611686018427387904) : IntKind.i64.wrap (Int.fdiv (IntKind.u64.wrap (IntKind.i64.wrap n)) (2 ^ 1)) = n / 2 := by
 have h3 : IntKind.i64.wrap n = n := bD (by omega) (by omega)
 have h2 : IntKind.u64.wrap n = n := by
  simp only [IntKind.wrap,IntKind.bits,IntKind.signed]
  simp
  omega
 rw [h3,h2,show (2 : Int) ^ 1 = 2 from rfl,Int.fdiv_eq_ediv_of_nonneg _ (by decide)]
 exact bD (by omega) (by omega)
section
variable {α : Type}
theorem swap_perm {l : List α} {i j : Nat} {x y : α} (hi : l[i]? = some x) (hj : l[j]? = some y) : ((l.set i y).set j x).Perm l := by
 have hil := (zg.1 hi).1
 have hjl := (zg.1 hj).1
 have hx := (zg.1 hi).2
 have hy := (zg.1 hj).2
 rw [← hx,← hy]
 exact List.set_set_perm hil hjl
end
section
abbrev Rows := Rz
abbrev Cmp := Rq → Rq → Option Int
structure SrtOk (cmp : Cmp) (d0 d : Rows) : Prop where
 perm : d.Perm d0
 small : d0.length ≤ 1000000
 tot : ∀ x ∈ d0,∀ y ∈ d0,Tot (cmp x y)
variable {cmp : Cmp} {d0 : Rows}
theorem SrtOk.len {d : Rows} (h : SrtOk cmp d0 d) : d.length = d0.length := h.perm.length_eq
theorem SrtOk.cm {d : Rows} (h : SrtOk cmp d0 d) {x y : Rq} (hx : x ∈ d) (hy : y ∈ d) : Tot (cmp x y) := h.tot x (h.perm.mem_iff.1 hx) y (h.perm.mem_iff.1 hy)
theorem SrtOk.swap {d : Rows} (h : SrtOk cmp d0 d) {i j : Nat} {x y : Rq} (hi : d[i]? = some x) (hj : d[j]? = some y) : SrtOk cmp d0 ((d.set i y).set j x) := ⟨(swap_perm hi hj).trans h.perm,h.small,h.tot⟩
theorem SrtOk.get {d : Rows} (h : SrtOk cmp d0 d) {i : Int} (h0 : 0 ≤ i) (h1 : i < d0.length) : ∃ x,aG d i = some x ∧ d[i.toNat]? = some x ∧ x ∈ d := by
 have hl := h.len
 have : i.toNat < d.length := by omega
 exact ⟨d[i.toNat],lO h0 (ze this),ze this,List.getElem_mem _⟩
theorem getI_set {α : Type} {l : List α} {i j : Int} {x y : α} (h0 : 0 ≤ j) (hj : l[j.toNat]? = some y) : ∃ z,aG (l.set i.toNat x) j = some z := by
 have hl := (zg.1 hj).1
 exact ⟨_,lO h0 (ze (by simpa using hl))⟩
theorem ro {β : Type} {d : Rows} (h : SrtOk cmp d0 d) {i j : Int} (hi0 : 0 ≤ i) (hi1 : i < d0.length) (hj0 : 0 ≤ j) (hj1 : j < d0.length) : ∃ d',SrtOk cmp d0 d' ∧ ∀ k : Rows → Option β,
  (ai (aG d j) fun (x28 : Rq)=>ai (aG d i) fun (x34 : Rq)=>ai (aG d i) fun (_ : Rq)=>bf (d.set i.toNat x28) fun (y6 : Rows)=>ai (aG y6 j) fun (_ : Rq)=>bf (y6.set j.toNat x34) fun (y7 : Rows)=>k y7) = k d' := by
 obtain ⟨y,hy,hy',_⟩ := h.get hj0 hj1
 obtain ⟨x,hx,hx',_⟩ := h.get hi0 hi1
 obtain ⟨z,hz⟩ := getI_set (i := i) (x := y) hj0 hy'
 refine ⟨_,h.swap hx' hy',fun k=>?_⟩
 rw [hy,hx]
 simp only [bPs,bV]
 rw [hz,bPs]
theorem qX {d : Rows} (h : SrtOk cmp d0 d) {a b : Int} (ha : 0 ≤ a ∧ a ≤ d0.length) (hb : b ≤ d0.length) : ∃ d',cU d a b cmp = some d' ∧ SrtOk cmp d0 d' := by
 have hs := h.small
 unfold cU
 rw [bD (by omega) (by omega)]
 refine dt (fun s=>SrtOk cmp d0 s.1 ∧ a < s.2) (fun s=>(b - s.2).toNat) (fun s=>SrtOk cmp d0 s.1) ⟨h,by show a < a + 1; omega⟩ (fun s hI=>?_) (fun s hq=>⟨_,rfl,hq⟩)
 obtain ⟨h1,h2⟩ := hI
 by_cases hlt : s.2 < b
 ·rw [zt hlt,zc]
  refine dt (fun t=>SrtOk cmp d0 t.1 ∧ a ≤ t.2 ∧ t.2 < b) (fun t=>(t.2 - a).toNat) (fun t=>SrtOk cmp d0 t.1) ⟨h1,by show a ≤ s.2; omega,hlt⟩ (fun t hI=>?_) (fun t hq=>⟨_,rfl,?_⟩)
  ·obtain ⟨g1,g2,g3⟩ := hI
   by_cases hgt : t.2 > a
   ·rw [zt hgt,zc,bD (by omega) (by omega)]
    obtain ⟨x,hx,hx',hxm⟩ := g1.get (i := t.2) (by omega) (by omega)
    obtain ⟨y,hy,hy',hym⟩ := g1.get (i := t.2 - 1) (by omega) (by omega)
    obtain ⟨c,hc⟩ := g1.cm hxm hym
    obtain ⟨d',hd',hsw⟩ := ro (β := Flow (Rows × Int) Empty) g1 (i := t.2) (j := t.2 - 1) (by omega) (by omega) (by omega) (by omega)
    rw [hx,bPs,hy,bPs,hc,bPs,bPs]
    by_cases hneg : c < 0
    ·rw [zt hneg]
     have := hsw (fun y31=>some (.next (y31,t.2 - 1)))
     rw [hx,hy] at this
     refine ⟨.next (d',t.2 - 1),?_,⟨hd',by show a ≤ t.2 - 1; omega,by show t.2 - 1 < b; omega⟩,by show (t.2 - 1 - a).toNat < (t.2 - a).toNat; omega⟩
     rw [zc]
     simp only
     rw [hy,hx]
     exact this
    ·rw [zf hneg]
     exact ⟨_,rfl,g1⟩
   ·rw [zf hgt]
    exact ⟨_,rfl,g1⟩
  ·show (SrtOk cmp d0 t.1 ∧ a < IntKind.i64.wrap (s.2 + 1)) ∧ (b - IntKind.i64.wrap (s.2 + 1)).toNat < (b - s.2).toNat
   rw [bD (by omega) (by omega)]
   exact ⟨⟨hq,by omega⟩,by omega⟩
 ·rw [zf hlt]
  exact ⟨_,rfl,h1⟩
theorem oq {d : Rows} (h : SrtOk cmp d0 d) {a b n : Int} (ha : 0 ≤ a) (hb : 0 ≤ b) (hn : n ≤ d0.length) (ha' : a + n ≤ d0.length) (hb' : b + n ≤ d0.length) : ∃ d',cR d a b n cmp = some d' ∧ SrtOk cmp d0 d' := by
 have hs := h.small
 unfold cR
 refine dt (fun s=>SrtOk cmp d0 s.1 ∧ 0 ≤ s.2) (fun s=>(n - s.2).toNat) (fun s=>SrtOk cmp d0 s.1) ⟨h,by show (0 : Int) ≤ 0; omega⟩ (fun s hI=>?_) (fun s hq=>⟨_,rfl,hq⟩)
 obtain ⟨h1,h2⟩ := hI
 by_cases hlt : s.2 < n
 ·rw [zt hlt,zc,bD (n := b + s.2) (by omega) (by omega),bD (n := a + s.2) (by omega) (by omega),bD (n := s.2 + 1) (by omega) (by omega)]
  obtain ⟨d',hd',hsw⟩ := ro (β := Flow (Rows × Int) Empty) h1 (i := a + s.2) (j := b + s.2) (by omega) (by omega) (by omega) (by omega)
  exact ⟨_,hsw _,⟨hd',by show 0 ≤ s.2 + 1; omega⟩,by show (n - (s.2 + 1)).toNat < (n - s.2).toNat; omega⟩
 ·rw [zf hlt]
  exact ⟨_,rfl,h1⟩
theorem rotate_ok {d : Rows} (h : SrtOk cmp d0 d) {a m b : Int} (ha : 0 ≤ a) (hm : a < m) (hb : m < b) (hb' : b ≤ d0.length) : ∃ d',dM d a m b cmp = some d' ∧ SrtOk cmp d0 d' := by
 have hs := h.small
 unfold dM
 rw [bD (n := m - a) (by omega) (by omega),bD (n := b - m) (by omega) (by omega)]
 refine dt (fun s=>SrtOk cmp d0 s.1 ∧ 0 < s.2.1 ∧ 0 < s.2.2 ∧ s.2.1 ≤ m - a ∧ s.2.2 ≤ b - m) (fun s=>(s.2.1 + s.2.2).toNat) (fun s=>SrtOk cmp d0 s.1 ∧ 0 < s.2.1 ∧ s.2.1 ≤ m - a ∧ s.2.1 ≤ b - m) ⟨h,by show 0 < m - a; omega,by show 0 < b - m; omega,Int.le_refl _,Int.le_refl _⟩ (fun s hI=>?_) (fun s hq=>?_)
 ·obtain ⟨h1,h2,h3,h4,h5⟩ := hI
  by_cases hne : s.2.1 = s.2.2
  ·rw [bneF hne]
   exact ⟨_,rfl,h1,h2,h4,by show s.2.1 ≤ b - m; omega⟩
  ·rw [lI hne,zc,bD (n := m - s.2.1) (by omega) (by omega)]
   by_cases hgt : s.2.1 > s.2.2
   ·rw [zt hgt,zc]
    obtain ⟨d',e,hd'⟩ := oq h1 (a := m - s.2.1) (b := m) (n := s.2.2) (by omega) (by omega) (by omega) (by omega) (by omega)
    rw [e,bPs,bT (by rw [hd'.len,h1.len]),bPs,bD (by omega) (by omega)]
    exact ⟨_,rfl,⟨hd',by show 0 < s.2.1 - s.2.2; omega,h3,by show s.2.1 - s.2.2 ≤ m - a; omega,h5⟩,by show (s.2.1 - s.2.2 + s.2.2).toNat < (s.2.1 + s.2.2).toNat; omega⟩
   ·rw [zf hgt,zd,bD (n := m + s.2.2) (by omega) (by omega),bD (n := m + s.2.2 - s.2.1) (by omega) (by omega)]
    obtain ⟨d',e,hd'⟩ := oq h1 (a := m - s.2.1) (b := m + s.2.2 - s.2.1) (n := s.2.1) (by omega) (by omega) (by omega) (by omega) (by omega)
    rw [e,bPs,bT (by rw [hd'.len,h1.len]),bPs,bD (by omega) (by omega)]
    exact ⟨_,rfl,⟨hd',h2,by show 0 < s.2.2 - s.2.1; omega,h4,by show s.2.2 - s.2.1 ≤ b - m; omega⟩,by show (s.2.1 + (s.2.2 - s.2.1)).toNat < (s.2.1 + s.2.2).toNat; omega⟩
 ·obtain ⟨h1,h2,h3,h4⟩ := hq
  rw [bD (n := m - s.2.1) (by omega) (by omega)]
  obtain ⟨d',e,hd'⟩ := oq h1 (a := m - s.2.1) (b := m) (n := s.2.1) (by omega) (by omega) (by omega) (by omega) (by omega)
  rw [e,bPs,bT (by rw [hd'.len,h1.len]),bPs]
  exact ⟨_,rfl,hd'⟩
def LeO {β : Type} (o o' : Option β) : Prop := ∀ r,o = some r → o' = some r
theorem LeO.refl {β : Type} (o : Option β) : LeO o o := fun _ h=>h
theorem LeO.bind {β γ : Type} {o o' : Option β} {k k' : β → Option γ} (h : LeO o o') (hk : ∀ v,LeO (k v) (k' v)) : LeO (ai o k) (ai o' k') := by
 intro r hr
 cases o with
 | none=>cases hr
 | some v=>rw [h v rfl]; exact hk v r hr
theorem LeO.cond {β : Type} {b : Bool} {x x' y y' : Option β} (hx : LeO x x') (hy : LeO y y') : LeO (cond b x y) (cond b x' y') := by
 cases b
 ·exact hy
 ·exact hx
theorem LeO.thenP {σ β : Type} {fl : Flow σ Empty} {k k' : σ → Option β} (hk : ∀ s,LeO (k s) (k' s)) : LeO (fl.thenP k) (fl.thenP k') := by
 cases fl with
 | next s=>exact hk s
 | brk s=>exact hk s
 | ret r=>exact r.elim
theorem symMerge_mono {r r' : Rows → Int → Int → Int → Option Rows} (h : ∀ d a m b,LeO (r d a m b) (r' d a m b)) (d : Rows) (a m b : Int) : LeO (cW r d a m b cmp) (cW r' d a m b cmp) := by
 unfold cW
 simp only [bV]
 refine LeO.cond (LeO.refl _) (LeO.cond (LeO.refl _) (LeO.bind (LeO.refl _) fun fl=>LeO.thenP fun s=>LeO.bind (LeO.refl _) fun t=>LeO.bind (LeO.cond (LeO.bind (h _ _ _ _) fun _=>LeO.refl _) (LeO.refl _)) fun u=>LeO.cond (LeO.cond (LeO.bind (h _ _ _ _) fun _=>LeO.refl _) (LeO.refl _)) (LeO.refl _)))
theorem qC : ∀ (n : Nat) (d : Rows) (a m b : Int),LeO (bK n d a m b cmp) (bK (n + 1) d a m b cmp)
 | 0,d,a,m,b=>fun r h=>by simp [bK] at h
 | n + 1,d,a,m,b=>by
  rw [bK,bK]
  exact symMerge_mono (fun d a m b=>qC n d a m b) d a m b
theorem rh {n : Nat} {d : Rows} {a m b : Int} {r : Rows} (h : bK n d a m b cmp = some r) : fA d a m b cmp = some r := by
 refine nY n fun k hk=>?_
 obtain ⟨j,rfl⟩ : ∃ j,k = n + j := ⟨k - n,by omega⟩
 clear hk
 induction j with
 | zero=>exact h
 | succ j ih=>exact qC (n + j) d a m b r ih
theorem mR : ∀ (n : Nat) {d : Rows} (_ : SrtOk cmp d0 d) {a m b : Int},0 ≤ a → a < m → m < b → b ≤ d0.length → (b - a).toNat < n → ∃ d',bK n d a m b cmp = some d' ∧ SrtOk cmp d0 d'
 | 0,_,_,_,_,_,_,_,_,_,hn=>by omega
 | n + 1,d,h,a,m,b,ha,hm,hb,hb',hn=>by
  have hs := h.small
  rw [bK]
  unfold cW
  rw [bD (n := m - a) (by omega) (by omega),bD (n := b - m) (by omega) (by omega)]
  by_cases h1 : m - a = 1
  ·rw [kD h1,zc]
   refine dt (fun s=>SrtOk cmp d0 s.1 ∧ m ≤ s.2.1 ∧ s.2.1 ≤ s.2.2 ∧ s.2.2 ≤ b) (fun s=>(s.2.2 - s.2.1).toNat) (fun s=>SrtOk cmp d0 s.1 ∧ m ≤ s.2.1 ∧ s.2.1 ≤ b) ⟨h,Int.le_refl _,by show m ≤ b; omega,Int.le_refl _⟩ (fun s hI=>?_) (fun s hq=>?_)
   ·obtain ⟨g1,g2,g3,g4⟩ := hI
    by_cases hlt : s.2.1 < s.2.2
    ·rw [zt hlt,zc,mid_eq (n := s.2.1 + s.2.2) (by omega) (by omega)]
     obtain ⟨x,hx,_,hxm⟩ := g1.get (i := (s.2.1 + s.2.2) / 2) (by omega) (by omega)
     obtain ⟨y,hy,_,hym⟩ := g1.get (i := a) (by omega) (by omega)
     obtain ⟨c,hc⟩ := g1.cm hxm hym
     rw [hx,bPs,hy,bPs,hc,bPs]
     by_cases hneg : c < 0
     ·rw [zt hneg,zc,bD (by omega) (by omega)]
      exact ⟨_,rfl,⟨g1,by show m ≤ (s.2.1 + s.2.2) / 2 + 1; omega,by show (s.2.1 + s.2.2) / 2 + 1 ≤ s.2.2; omega,g4⟩,by show (s.2.2 - ((s.2.1 + s.2.2) / 2 + 1)).toNat < (s.2.2 - s.2.1).toNat; omega⟩
     ·rw [zf hneg,zd]
      exact ⟨_,rfl,⟨g1,g2,by show s.2.1 ≤ (s.2.1 + s.2.2) / 2; omega,by show (s.2.1 + s.2.2) / 2 ≤ b; omega⟩,by show ((s.2.1 + s.2.2) / 2 - s.2.1).toNat < (s.2.2 - s.2.1).toNat; omega⟩
    ·rw [zf hlt]
     exact ⟨_,rfl,g1,g2,by show s.2.1 ≤ b; omega⟩
   ·obtain ⟨g1,g2,g3⟩ := hq
    rw [bD (n := s.2.1 - 1) (by omega) (by omega)]
    refine dt (fun t=>SrtOk cmp d0 t.1 ∧ a ≤ t.2) (fun t=>(s.2.1 - t.2).toNat) (fun t=>SrtOk cmp d0 t.1) ⟨g1,Int.le_refl _⟩ (fun t hI=>?_) (fun t hq=>⟨_,rfl,hq⟩)
    obtain ⟨k1,k2⟩ := hI
    by_cases hlt : t.2 < s.2.1 - 1
    ·rw [zt hlt,zc,bD (n := t.2 + 1) (by omega) (by omega)]
     obtain ⟨d',hd',hsw⟩ := ro (β := Flow (Rows × Int) Empty) k1 (i := t.2) (j := t.2 + 1) (by omega) (by omega) (by omega) (by omega)
     exact ⟨_,hsw _,⟨hd',by show a ≤ t.2 + 1; omega⟩,by show (s.2.1 - (t.2 + 1)).toNat < (s.2.1 - t.2).toNat; omega⟩
    ·rw [zf hlt]
     exact ⟨_,rfl,k1⟩
  ·rw [dw h1,zd]
   by_cases h2 : b - m = 1
   ·rw [kD h2,zc]
    refine dt (fun s=>SrtOk cmp d0 s.1 ∧ a ≤ s.2.1 ∧ s.2.1 ≤ s.2.2 ∧ s.2.2 ≤ m) (fun s=>(s.2.2 - s.2.1).toNat) (fun s=>SrtOk cmp d0 s.1 ∧ a ≤ s.2.1 ∧ s.2.1 ≤ m) ⟨h,Int.le_refl _,by show a ≤ m; omega,Int.le_refl _⟩ (fun s hI=>?_) (fun s hq=>?_)
    ·obtain ⟨g1,g2,g3,g4⟩ := hI
     by_cases hlt : s.2.1 < s.2.2
     ·rw [zt hlt,zc,mid_eq (n := s.2.1 + s.2.2) (by omega) (by omega)]
      obtain ⟨x,hx,_,hxm⟩ := g1.get (i := m) (by omega) (by omega)
      obtain ⟨y,hy,_,hym⟩ := g1.get (i := (s.2.1 + s.2.2) / 2) (by omega) (by omega)
      obtain ⟨c,hc⟩ := g1.cm hxm hym
      rw [hx,bPs,hy,bPs,hc,bPs]
      by_cases hneg : c < 0
      ·rw [zt hneg]
       exact ⟨_,rfl,⟨g1,g2,by show s.2.1 ≤ (s.2.1 + s.2.2) / 2; omega,by show (s.2.1 + s.2.2) / 2 ≤ m; omega⟩,by show ((s.2.1 + s.2.2) / 2 - s.2.1).toNat < (s.2.2 - s.2.1).toNat; omega⟩
      ·rw [zf hneg,Bool.not_false,zc,bD (by omega) (by omega)]
       exact ⟨_,rfl,⟨g1,by show a ≤ (s.2.1 + s.2.2) / 2 + 1; omega,by show (s.2.1 + s.2.2) / 2 + 1 ≤ s.2.2; omega,g4⟩,by show (s.2.2 - ((s.2.1 + s.2.2) / 2 + 1)).toNat < (s.2.2 - s.2.1).toNat; omega⟩
     ·rw [zf hlt]
      exact ⟨_,rfl,g1,g2,by show s.2.1 ≤ m; omega⟩
    ·obtain ⟨g1,g2,g3⟩ := hq
     refine dt (fun t=>SrtOk cmp d0 t.1 ∧ a ≤ t.2 ∧ t.2 ≤ m) (fun t=>(t.2 - a).toNat) (fun t=>SrtOk cmp d0 t.1) ⟨g1,by show a ≤ m; omega,Int.le_refl _⟩ (fun t hI=>?_) (fun t hq=>⟨_,rfl,hq⟩)
     obtain ⟨k1,k2,k3⟩ := hI
     by_cases hlt : t.2 > s.2.1
     ·rw [zt hlt,zc,bD (n := t.2 - 1) (by omega) (by omega)]
      obtain ⟨d',hd',hsw⟩ := ro (β := Flow (Rows × Int) Empty) k1 (i := t.2) (j := t.2 - 1) (by omega) (by omega) (by omega) (by omega)
      exact ⟨_,hsw _,⟨hd',by show a ≤ t.2 - 1; omega,by show t.2 - 1 ≤ m; omega⟩,by show (t.2 - 1 - a).toNat < (t.2 - a).toNat; omega⟩
     ·rw [zf hlt]
      exact ⟨_,rfl,k1⟩
   ·rw [dw h2,zd]
    simp only [bV]
    rw [mid_eq (n := a + b) (by omega) (by omega)]
    generalize hmid : (a + b) / 2 = mid
    have b1 : 2 * mid ≤ a + b ∧ a + b ≤ 2 * mid + 1 := by omega
    rw [bD (n := mid + m) (by omega) (by omega),bD (n := mid + m - b) (by omega) (by omega),bD (n := mid + m - 1) (by omega) (by omega)]
    obtain ⟨lo,hi,e1,l1,l2,l3,l4,l5,l6⟩ : ∃ lo hi : Int,(cond (decide (m > mid)) ((d,mid + m - b,mid)) ((d,a,m)) : Rows × Int × Int) = (d,lo,hi) ∧ a ≤ lo ∧ lo ≤ hi ∧ hi ≤ m ∧ mid + m - lo ≤ b ∧ m ≤ mid + m - hi ∧ hi ≤ mid := by
     by_cases hgt : m > mid
     ·exact ⟨mid + m - b,mid,by rw [zt hgt]; rfl,by omega,by omega,by omega,by omega,by omega,by omega⟩
     ·exact ⟨a,m,by rw [zf hgt]; rfl,by omega,by omega,by omega,by omega,by omega,by omega⟩
    rw [e1]
    refine dt (fun s=>SrtOk cmp d0 s.1 ∧ lo ≤ s.2.1 ∧ s.2.1 ≤ s.2.2 ∧ s.2.2 ≤ hi) (fun s=>(s.2.2 - s.2.1).toNat) (fun s=>SrtOk cmp d0 s.1 ∧ lo ≤ s.2.1 ∧ s.2.1 ≤ hi) ⟨h,Int.le_refl _,l2,Int.le_refl _⟩ (fun s hI=>?_) (fun s hq=>?_)
    ·obtain ⟨g1,g2,g3,g4⟩ := hI
     by_cases hlt : s.2.1 < s.2.2
     ·rw [zt hlt,zc,mid_eq (n := s.2.1 + s.2.2) (by omega) (by omega)]
      generalize hc : (s.2.1 + s.2.2) / 2 = c
      have c1 : s.2.1 ≤ c ∧ c < s.2.2 := by omega
      rw [bD (n := mid + m - 1 - c) (by omega) (by omega)]
      obtain ⟨x,hx,_,hxm⟩ := g1.get (i := mid + m - 1 - c) (by omega) (by omega)
      obtain ⟨y,hy,_,hym⟩ := g1.get (i := c) (by omega) (by omega)
      obtain ⟨v,hv⟩ := g1.cm hxm hym
      rw [hx,bPs,hy,bPs,hv,bPs]
      by_cases hneg : v < 0
      ·rw [zt hneg]
       exact ⟨_,rfl,⟨g1,g2,by show s.2.1 ≤ c; omega,by show c ≤ hi; omega⟩,by show (c - s.2.1).toNat < (s.2.2 - s.2.1).toNat; omega⟩
      ·rw [zf hneg,Bool.not_false,zc,bD (by omega) (by omega)]
       exact ⟨_,rfl,⟨g1,by show lo ≤ c + 1; omega,by show c + 1 ≤ s.2.2; omega,g4⟩,by show (s.2.2 - (c + 1)).toNat < (s.2.2 - s.2.1).toNat; omega⟩
     ·rw [zf hlt]
      exact ⟨_,rfl,g1,g2,by show s.2.1 ≤ hi; omega⟩
    ·obtain ⟨g1,g2,g3⟩ := hq
     rw [bD (n := mid + m - s.2.1) (by omega) (by omega)]
     -- the rotation
     obtain ⟨t,ht,hto⟩ : ∃ t,(ai (cond ((cond (decide (s.2.1 < m)) ((s.1,decide (m < mid + m - s.2.1))) ((s.1,false)) : Rows × Bool)).2
       (ai (dM ((cond (decide (s.2.1 < m)) ((s.1,decide (m < mid + m - s.2.1))) ((s.1,false)) : Rows × Bool)).1 s.2.1 m (mid + m - s.2.1) cmp) fun x191=>ai (cE (x191.length = ((cond (decide (s.2.1 < m)) ((s.1,decide (m < mid + m - s.2.1))) ((s.1,false)) : Rows × Bool)).1.length) ()) fun (_ : Unit)=>some x191)
       (some ((cond (decide (s.2.1 < m)) ((s.1,decide (m < mid + m - s.2.1))) ((s.1,false)) : Rows × Bool)).1)) some) = some t ∧ SrtOk cmp d0 t := by
      by_cases c1 : s.2.1 < m
      ·by_cases c2 : m < mid + m - s.2.1
       ·rw [zt c1,zt c2]
        simp only [zc]
        obtain ⟨d',e,hd'⟩ := rotate_ok g1 (a := s.2.1) (m := m) (b := mid + m - s.2.1) (by omega) c1 c2 (by omega)
        rw [e,bPs,bT (by rw [hd'.len,g1.len])]
        exact ⟨_,rfl,hd'⟩
       ·rw [zt c1,zf c2]
        exact ⟨_,rfl,g1⟩
      ·rw [zf c1]
       exact ⟨_,rfl,g1⟩
     have ht' := ht
     generalize hcc : (cond ((cond (decide (s.2.1 < m)) ((s.1,decide (m < mid + m - s.2.1))) ((s.1,false)) : Rows × Bool)).2 _ _ : Option Rows) = o at ht ⊢
     cases o with
     | none=>cases ht
     | some t0 =>
      simp only [bPs,zo] at ht
      subst ht
      rw [bPs]
      clear hcc ht'
      obtain ⟨u,hu,huo⟩ : ∃ u,(ai (cond ((cond (decide (a < s.2.1)) ((t0,decide (s.2.1 < mid))) ((t0,false)) : Rows × Bool)).2
        (ai (bK n ((cond (decide (a < s.2.1)) ((t0,decide (s.2.1 < mid))) ((t0,false)) : Rows × Bool)).1 a s.2.1 mid cmp) fun x205=>ai (cE (x205.length = ((cond (decide (a < s.2.1)) ((t0,decide (s.2.1 < mid))) ((t0,false)) : Rows × Bool)).1.length) ()) fun (_ : Unit)=>some x205)
        (some ((cond (decide (a < s.2.1)) ((t0,decide (s.2.1 < mid))) ((t0,false)) : Rows × Bool)).1)) some) = some u ∧ SrtOk cmp d0 u := by
       by_cases c1 : a < s.2.1
       ·by_cases c2 : s.2.1 < mid
        ·rw [zt c1,zt c2]
         simp only [zc]
         obtain ⟨d',e,hd'⟩ := mR n hto (a := a) (m := s.2.1) (b := mid) ha c1 c2 (by omega) (by omega)
         rw [e,bPs,bT (by rw [hd'.len,hto.len])]
         exact ⟨_,rfl,hd'⟩
        ·rw [zt c1,zf c2]
         exact ⟨_,rfl,hto⟩
       ·rw [zf c1]
        exact ⟨_,rfl,hto⟩
      generalize hcc : (cond ((cond (decide (a < s.2.1)) ((t0,decide (s.2.1 < mid))) ((t0,false)) : Rows × Bool)).2 _ _ : Option Rows) = o at hu ⊢
      cases o with
      | none=>cases hu
      | some u0 =>
       simp only [bPs,zo] at hu
       subst hu
       rw [bPs]
       by_cases c1 : mid < mid + m - s.2.1
       ·rw [zt c1,zc]
        by_cases c2 : mid + m - s.2.1 < b
        ·rw [zt c2,zc]
         obtain ⟨d',e,hd'⟩ := mR n huo (a := mid) (m := mid + m - s.2.1) (b := b) (by omega) c1 c2 hb' (by omega)
         rw [e,bPs,bT (by rw [hd'.len,huo.len])]
         exact ⟨_,rfl,hd'⟩
        ·rw [zf c2]
         exact ⟨_,rfl,huo⟩
       ·rw [zf c1]
        exact ⟨_,rfl,huo⟩
theorem stable_ok {d : Rows} (h : SrtOk cmp d0 d) : ∃ d',eN d (d0.length : Int) cmp = some d' ∧ SrtOk cmp d0 d' := by
 have hs := h.small
 unfold eN
 refine dt (fun s=>SrtOk cmp d0 s.1 ∧ 0 ≤ s.2.1 ∧ s.2.1 ≤ s.2.2 ∧ s.2.2 ≤ s.2.1 + 20 ∧ s.2.1 ≤ d0.length) (fun s=>(d0.length + 20 - s.2.2).toNat) (fun s=>SrtOk cmp d0 s.1 ∧ 0 ≤ s.2.1 ∧ s.2.1 ≤ d0.length) ⟨h,by show (0 : Int) ≤ 0; omega,by show (0 : Int) ≤ 20; omega,by show (20 : Int) ≤ 0 + 20; omega,by show (0 : Int) ≤ d0.length; omega⟩ (fun s hI=>?_) (fun s hq=>?_)
 ·obtain ⟨g1,g2,g3,g4,g5⟩ := hI
  by_cases hle : s.2.2 ≤ (d0.length : Int)
  ·rw [zt hle,zc]
   obtain ⟨d',e,hd'⟩ := qX g1 (a := s.2.1) (b := s.2.2) ⟨g2,by omega⟩ hle
   rw [e,bPs,bT (by rw [hd'.len,g1.len]),bPs,bD (by omega) (by omega)]
   exact ⟨_,rfl,⟨hd',by show 0 ≤ s.2.2; omega,by show s.2.2 ≤ s.2.2 + 20; omega,by show s.2.2 + 20 ≤ s.2.2 + 20; omega,hle⟩,by show ((d0.length : Int) + 20 - (s.2.2 + 20)).toNat < ((d0.length : Int) + 20 - s.2.2).toNat; omega⟩
  ·rw [zf hle]
   exact ⟨_,rfl,g1,g2,g5⟩
 ·obtain ⟨g1,g2,g3⟩ := hq
  obtain ⟨d',e,hd'⟩ := qX g1 (a := s.2.1) (b := (d0.length : Int)) ⟨g2,by omega⟩ (Int.le_refl _)
  rw [e,bPs,bT (by rw [hd'.len,g1.len]),bPs]
  clear e g1 g2 g3 s h
  refine dt (fun s=>SrtOk cmp d0 s.1 ∧ 20 ≤ s.2) (fun s=>(d0.length - s.2).toNat) (fun s=>SrtOk cmp d0 s.1) ⟨hd',by show (20 : Int) ≤ 20; omega⟩ (fun s hI=>?_) (fun s hq=>⟨_,rfl,hq⟩)
  obtain ⟨g1,g2⟩ := hI
  by_cases hlt : s.2 < (d0.length : Int)
  ·rw [zt hlt,zc,bD (n := 2 * s.2) (by omega) (by omega)]
   refine dt (fun t=>SrtOk cmp d0 t.1 ∧ 0 ≤ t.2.1 ∧ t.2.2 = t.2.1 + 2 * s.2 ∧ t.2.1 ≤ d0.length) (fun t=>(d0.length + 2 * s.2 - t.2.2).toNat) (fun t=>SrtOk cmp d0 t.1 ∧ 0 ≤ t.2.1 ∧ t.2.1 ≤ d0.length) ⟨g1,by show (0 : Int) ≤ 0; omega,by show 2 * s.2 = 0 + 2 * s.2; omega,by show (0 : Int) ≤ d0.length; omega⟩ (fun t hI=>?_) (fun t hq=>?_)
   ·obtain ⟨k1,k2,k3,k4⟩ := hI
    by_cases hle : t.2.2 ≤ (d0.length : Int)
    ·rw [zt hle,zc,bD (n := t.2.1 + s.2) (by omega) (by omega)]
     obtain ⟨d'',e,hd''⟩ := mR ((t.2.2 - t.2.1).toNat + 1) k1 (a := t.2.1) (m := t.2.1 + s.2) (b := t.2.2) k2 (by omega) (by omega) hle (by omega)
     rw [rh e,bPs,bT (by rw [hd''.len,k1.len]),bPs,bD (by omega) (by omega)]
     exact ⟨_,rfl,⟨hd'',by show 0 ≤ t.2.2; omega,by show t.2.2 + 2 * s.2 = t.2.2 + 2 * s.2; omega,hle⟩,by show ((d0.length : Int) + 2 * s.2 - (t.2.2 + 2 * s.2)).toNat < ((d0.length : Int) + 2 * s.2 - t.2.2).toNat; omega⟩
    ·rw [zf hle]
     exact ⟨_,rfl,k1,k2,k4⟩
   ·obtain ⟨k1,k2,k3⟩ := hq
    rw [bD (n := t.2.1 + s.2) (by omega) (by omega),bD (n := s.2 * 2) (by omega) (by omega)]
    by_cases hm : t.2.1 + s.2 < (d0.length : Int)
    ·rw [zt hm,zc]
     obtain ⟨d'',e,hd''⟩ := mR ((d0.length - t.2.1).toNat + 1) k1 (a := t.2.1) (m := t.2.1 + s.2) (b := (d0.length : Int)) k2 (by omega) (by omega) (Int.le_refl _) (by omega)
     rw [rh e,bPs,bT (by rw [hd''.len,k1.len]),bPs]
     exact ⟨_,rfl,⟨hd'',by show 20 ≤ s.2 * 2; omega⟩,by show ((d0.length : Int) - s.2 * 2).toNat < ((d0.length : Int) - s.2).toNat; omega⟩
    ·rw [zf hm,zd]
     exact ⟨_,rfl,⟨k1,by show 20 ≤ s.2 * 2; omega⟩,by show ((d0.length : Int) - s.2 * 2).toNat < ((d0.length : Int) - s.2).toNat; omega⟩
  ·rw [zf hlt]
   exact ⟨_,rfl,g1⟩
theorem sortStable_ok {d : Rows} (hs : d.length ≤ 1000000) (ht : ∀ x ∈ d,∀ y ∈ d,Tot (cmp x y)) : ∃ d',dj d cmp = some d' ∧ d'.Perm d := by
 unfold dj
 obtain ⟨d',e,hd'⟩ := stable_ok (cmp := cmp) (d0 := d) (d := d) ⟨List.Perm.refl _,hs,ht⟩
 rw [e,bPs,bT hd'.len,bPs]
 exact ⟨d',rfl,hd'.perm⟩
end
theorem qu (r : LRun) (cols : List LCol) (x : Rq) (l : List LExpr) (hl : l.length ≤ 10000000) : dU r cols x l = some (l.map fun e=>dh (bN r cols x) e) := by
 unfold dU
 rw [ql (xs := l) (fun e=>dh (bN r cols x) e) (fun k e hk=>by
  have := (zg.1 hk).1
  rw [bV,bV,cB (by decide) (by simp; omega),bPs])]
 rfl
theorem compare_tot (a b : Rq) (ds : List Bool) : Tot (ij a b ds) := by
 unfold ij
 refine Tot.bind (Tot.range _ _ _ fun k x s hk=>?_) fun fl _=>Tot.thenR fun _ _=>Tot.mk
 rw [Nat.zero_add]
 by_cases h1 : (k : Int) ≥ (b.length : Int)
 ·rw [zt h1]; exact Tot.mk
 ·rw [zf h1,zd,fo (by omega)]
  simp only [bPs,bV]
  refine Tot.cond (fun _=>Tot.mk) fun _=>?_
  refine Tot.cond (fun h=>?_) fun _=>Tot.cond (fun _=>Tot.mk) fun _=>Tot.mk
  have h := of_decide_eq_true h
  rw [fo (by omega),bPs]
  exact Tot.cond (fun _=>Tot.cond (fun _=>Tot.mk) fun _=>Tot.mk) fun _=>Tot.cond (fun _=>Tot.mk) fun _=>Tot.mk
theorem sort_ok (r : LRun) (q : LQuery) (cols : List LCol) (l : Rows) (hs : l.length ≤ 1000000) (he : q.exprs.length ≤ 1000000) : ∃ l',fX r q cols l = some l' ∧ l'.Perm l := by
 unfold fX
 obtain ⟨l',e,hp⟩ := sortStable_ok (cmp := fun a0 a1=>fU a0 a1 r cols q) hs (fun x _ y _=>by
  show Tot (fU x y r cols q)
  unfold fU
  rw [qu r cols x q.exprs (by omega),qu r cols y q.exprs (by omega),bPs,bPs]
  exact Tot.bind (compare_tot _ _ _) fun _ _=>Tot.mk)
 rw [e,bPs,bT hp.length_eq,bPs]
 exact ⟨l',rfl,hp⟩
end
end Go.Proofs.YtgaggbdcedpapaaGreat

namespace Go.Proofs.YtgaggbdcedpapaaGreat
noncomputable section
open Go Go.Ab
open Go.Sort (swp insInner insOuter insertionSort siftDown heapBuild heapPop heapSort scanUp scanDown partLoop partition partEqLoop partitionEqual scanSorted shiftDown shiftUp partialIns partialInsertionSort reverseLoop reverseRange size_swp SWO PermIn SortedIn Below)
section
variable {α : Type} [Inhabited α] {v : α → Rq} {lt : α → α → Bool} {cmp : Cmp}
theorem pe {β : Type} {o : Option β} {x : β} (h : ∃ r,o = some r ∧ r = x) : o = some x := by
 obtain ⟨r,h1,rfl⟩ := h
 exact h1
theorem mm {σ β : Type} {step : σ → Option (Flow σ β)} {k : σ → Option β} {R : β → Prop} {s : σ} (I : σ → Prop) (μ : σ → Nat) (Q : σ → Prop) (h0 : I s)
  (hs : ∀ s,I s → ∃ fl,step s = some fl ∧ (match fl with | .next s'=>I s' ∧ μ s' < μ s | .brk s'=>Q s' | .ret r=>R r)) (hk : ∀ s',Q s' → ∃ r,k s' = some r ∧ R r) :
  ∃ r,ai (whileM step s) (fun fl=>fl.thenR k) = some r ∧ R r := by
 obtain ⟨fl,h1,h2⟩ := whileM_by (step := step) I μ Q R hs s h0
 cases fl with
 | next s'=>rw [h1]; exact hk s' h2
 | brk s'=>exact absurd h2 (by simp)
 | ret r=>exact ⟨r,by rw [h1]; rfl,h2⟩
theorem ce {z : Int} {n : Nat} (h : z = n := by omega) (hn : n ≤ 1000000000 := by omega) : IntKind.i64.wrap z = (n : Int) := by rw [h]; exact bD (by omega) (by omega)
theorem qy (a : Nat) : ∀ (j : Nat) (D : Array α),(insInner lt a j D).size = D.size
 | 0,D=>rfl
 | j + 1,D=>by
  rw [insInner]
  split
  ·rw [qy a j,size_swp]
  ·rfl
theorem jz (hi first : Nat) : ∀ (n root : Nat) (D : Array α),hi - root ≤ n → (siftDown lt hi first root D).size = D.size
 | 0,root,D,hn=>by
  rw [siftDown,dif_pos (by omega)]
 | n + 1,root,D,hn=>by
  rw [siftDown]
  split
  ·rfl
  ·split
   ·split
    ·rfl
    ·split
     ·rw [jz hi first n _ _ (by omega),size_swp]
     ·rfl
   ·split
    ·rfl
    ·rw [jz hi first n _ _ (by omega),size_swp]
end
section
variable {α : Type} [Inhabited α] {v : α → Rq} {lt : α → α → Bool} {cmp : Cmp}
theorem qh (p q : α → Bool) (hq : ∀ x,q x = !p x) (d : Array α) {i j : Nat} (hi : 0 < i) (hij : i ≤ j + 1) :
  i ≤ scanUp p d j i ∧ scanUp p d j i ≤ j + 1 ∧ scanDown q d (scanUp p d j i) j ≤ j ∧ scanUp p d j i ≤ scanDown q d (scanUp p d j i) j + 1 ∧ (¬ scanUp p d j i > scanDown q d (scanUp p d j i) j → scanUp p d j i < scanDown q d (scanUp p d j i) j) := by
 obtain ⟨u1,u2,_,u4⟩ := Go.Sort.scanUp_spec p d j _ i rfl
 obtain ⟨w1,w2,_,w4⟩ := Go.Sort.scanDown_spec q d (scanUp p d j i) j
 have hu := u2 hij
 refine ⟨u1,hu,w1,w2 hu,fun h=>?_⟩
 have f1 := u4 (by omega)
 have f2 := w4 (by omega) (by omega)
 rw [hq] at f2
 rcases Nat.lt_or_ge (scanUp p d j i) (scanDown q d (scanUp p d j i) j) with h' | h'
 ·exact h'
 ·have e : scanUp p d j i = scanDown q d (scanUp p d j i) j := by omega
  rw [← e,f1] at f2
  cases f2
end
section
variable {α : Type} [Inhabited α] {v : α → Rq} {lt : α → α → Bool} {cmp : Cmp}
theorem nV {β γ : Type} {o : Option β} {k : β → Option γ} {R : γ → Prop} {P : β → Prop} (h : ∃ t,o = some t ∧ P t) (hk : ∀ t,P t → ∃ r,k t = some r ∧ R r) : ∃ r,ai o k = some r ∧ R r := by
 obtain ⟨t,rfl,ht⟩ := h
 exact hk t ht
theorem pQ : ∀ (j : Nat) (D : Array α),(shiftDown lt j D).size = D.size
 | 0,D=>rfl
 | j + 1,D=>by
  rw [shiftDown]
  split
  ·rfl
  ·rw [pQ j,size_swp]
theorem rd (b : Nat) : ∀ (n j : Nat) (D : Array α),b - j ≤ n → (shiftUp lt b j D).size = D.size
 | 0,j,D,h=>by rw [shiftUp,zy (by omega)]
 | n + 1,j,D,h=>by
  rw [shiftUp]
  split
  ·split
   ·rfl
   ·rw [rd b n _ _ (by omega),size_swp]
  ·rfl
end
end
end Go.Proofs.YtgaggbdcedpapaaGreat

namespace Go.Proofs.YtgaggbdcedpapaaGreat
noncomputable section
open Go Go.Ab
open Go.Sort (swp insertionSort heapSort partition partitionEqual partialInsertionSort reverseRange size_swp SWO PermIn SortedIn Below permIn_refl permIn_trans swp_permIn)
theorem u64_id {n : Nat} (h : n < 18446744073709551616) : IntKind.u64.wrap (n : Int) = (n : Int) := by
 simp only [IntKind.wrap,IntKind.bits,IntKind.signed]
 simp
 omega
theorem and_small {m : Nat} (x : Int) : ∃ o : Nat,andI .u64 x (m : Int) = (o : Int) ∧ o ≤ m := by
 refine ⟨(BitVec.ofInt 64 x &&& BitVec.ofInt 64 (m : Int)).toNat,?_,?_⟩
 ·unfold andI
  show IntKind.u64.wrap (((BitVec.ofInt 64 x &&& BitVec.ofInt 64 (m : Int)).toNat : Nat) : Int) = _
  exact u64_id (BitVec.isLt _)
 ·rw [BitVec.toNat_and]
  refine Nat.le_trans Nat.and_le_right ?_
  rw [BitVec.ofInt_natCast,BitVec.toNat_ofNat]
  exact Nat.mod_le _ _
def pG : List UInt8 := [0,1,2,2,3,3,3,3,4,4,4,4,4,4,4,4,5,5,5,5,5,5,5,5,5,5,5,5,5,5,5,5,6,6,6,6,6,6,6,6,6,6,6,6,6,6,6,6,6,6,6,6,6,6,6,6,6,6,6,6,6,6,6,6,7,7,7,7,7,7,7,7,7,7,7,7,7,7,7,7,7,7,7,7,7,7,7,7,7,7,7,7,7,7,7,7,7,7,7,7,7,7,7,7,7,7,7,7,7,7,7,7,7,7,7,7,7,7,7,7,7,7,7,7,7,7,7,7,8,8,8,8,8,8,8,8,8,8,8,8,8,8,8,8,8,8,8,8,8,8,8,8,8,8,8,8,8,8,8,8,8,8,8,8,8,8,8,8,8,8,8,8,8,8,8,8,8,8,8,8,8,8,8,8,8,8,8,8,8,8,8,8,8,8,8,8,8,8,8,8,8,8,8,8,8,8,8,8,8,8,8,8,8,8,8,8,8,8,8,8,8,8,8,8,8,8,8,8,8,8,8,8,8,8,8,8,8,8,8,8,8,8,8,8,8,8,8,8,8,8,8,8,8,8,8,8]
theorem tab_ok : ∀ y : Fin 256,∃ z,pG[y.val]? = some z ∧ 2 ^ z.toNat ≤ max 1 (2 * y.val) ∧ z.toNat ≤ 8 ∧ y.val < 2 ^ z.toNat := by
 have h : ∀ y : Fin 256,(match pG[y.val]? with | some z=>decide (2 ^ z.toNat ≤ max 1 (2 * y.val) ∧ z.toNat ≤ 8 ∧ y.val < 2 ^ z.toNat) | none=>false) = true := by decide +kernel
 intro y
 have hy := h y
 cases hz : pG[y.val]? with
 | none=>rw [hz] at hy; cases hy
 | some z=>rw [hz] at hy; exact ⟨z,rfl,of_decide_eq_true hy⟩
theorem tab_get {y : Nat} (hy : y < 256) : ∃ z : UInt8,aG pG ((u8of (y : Int)).toNat : Int) = some z ∧ 2 ^ z.toNat ≤ max 1 (2 * y) ∧ z.toNat ≤ 8 ∧ y < 2 ^ z.toNat := by
 obtain ⟨z,h1,h2⟩ := tab_ok ⟨y,hy⟩
 refine ⟨z,?_,h2⟩
 have e : ((u8of (y : Int)).toNat : Int) = (y : Int) := by
  rw [← u8of_eq]
  simp only [IntKind.wrap,IntKind.bits,IntKind.signed]
  simp
  omega
 rw [e]
 exact kl h1
set_option maxRecDepth 10000 in
theorem len_ok {x : Nat} (hx : x ≤ 1000000) : ∃ n : Nat,iF (x : Int) = some (n : Int) ∧ 2 ^ n ≤ max 1 (2 * x) ∧ n ≤ 20 ∧ x < 2 ^ n := by
 unfold iF jR
 simp only [bV]
 change ∃ n : Nat,(ai (ai (aG pG _) _) _ : Option Int) = _ ∧ _
 rw [zf (show ¬ (x : Int) ≥ 4294967296 from by omega),zd]
 have key : ∀ (y k : Nat),y < 256 → k ≤ 12 + 4 → ∃ z : Nat,(ai (ai (aG pG ((u8of (y : Int)).toNat : Int)) fun (x22 : UInt8)=>some (IntKind.i64.wrap ((k : Int) + IntKind.i64.wrap (x22.toNat : Int)))) fun x7=>some x7) = some ((k + z : Nat) : Int) ∧ 2 ^ z ≤ max 1 (2 * y) ∧ z ≤ 8 ∧ y < 2 ^ z := fun y k hy hk=>by
  obtain ⟨z,h1,h2,h3,h4⟩ := tab_get hy
  refine ⟨z.toNat,?_,h2,h3,h4⟩
  rw [h1,bPs,bPs,bD (n := (z.toNat : Int)) (by omega) (by omega),bD (by omega) (by omega)]
  simp
 by_cases h1 : x ≥ 65536
 ·rw [zt (show (x : Int) ≥ 65536 from by omega),zc]
  have e : Int.fdiv (x : Int) (2 ^ 16) = ((x / 65536 : Nat) : Int) := by
   rw [Int.fdiv_eq_ediv_of_nonneg _ (by decide)]; rfl
  dsimp only
  rw [e,zf (show ¬ ((x / 65536 : Nat) : Int) ≥ 256 from by omega),zd]
  dsimp only
  rw [show IntKind.i64.wrap ((0 : Int) + 16) = ((16 : Nat) : Int) from by decide +kernel]
  obtain ⟨z,e1,h2,h3,h4⟩ := key (x / 65536) 16 (by omega) (by omega)
  refine ⟨16 + z,e1,?_,?_,?_⟩
  ·rw [Nat.pow_add]
   have : (2 : Nat) ^ 16 = 65536 := by decide
   omega
  ·have : 2 ^ z ≤ 2 * (x / 65536) := by omega
   have hz : 2 ^ z < 2 ^ 5 := by have : (2 : Nat) ^ 5 = 32 := by decide
                                 omega
   have := (Nat.pow_lt_pow_iff_right (by omega : 1 < 2)).1 hz
   omega
  ·rw [Nat.pow_add]
   have : (2 : Nat) ^ 16 = 65536 := by decide
   omega
 ·rw [zf (show ¬ (x : Int) ≥ 65536 from by omega),zd]
  dsimp only
  by_cases h2 : x ≥ 256
  ·rw [zt (show (x : Int) ≥ 256 from by omega),zc]
   have e : Int.fdiv (x : Int) (2 ^ 8) = ((x / 256 : Nat) : Int) := by
    rw [Int.fdiv_eq_ediv_of_nonneg _ (by decide)]; rfl
   dsimp only
   rw [e,show IntKind.i64.wrap ((0 : Int) + 8) = ((8 : Nat) : Int) from by decide +kernel]
   obtain ⟨z,e1,h2,h3,h4⟩ := key (x / 256) 8 (by omega) (by omega)
   refine ⟨8 + z,e1,?_,by omega,?_⟩
   ·rw [Nat.pow_add]
    have : (2 : Nat) ^ 8 = 256 := by decide
    omega
   ·rw [Nat.pow_add]
    have : (2 : Nat) ^ 8 = 256 := by decide
    omega
  ·rw [zf (show ¬ (x : Int) ≥ 256 from by omega),zd]
   dsimp only
   obtain ⟨z,e1,h2,h3,h4⟩ := key x 0 (by omega) (by omega)
   refine ⟨z,?_,h2,by omega,h4⟩
   rw [show ((0 : Nat) : Int) = 0 from rfl] at e1
   rw [show ((z : Nat) : Int) = ((0 + z : Nat) : Int) from by simp]
   exact e1
theorem next_ok (r : Int) : ∃ x r',ir r = some (x,r') := ⟨_,_,rfl⟩
theorem pow_ok {x : Nat} (h0 : 0 < x) (hx : x ≤ 1000000) : ∃ n : Nat,gj (x : Int) = some (n : Int) ∧ 0 < n ∧ n ≤ 2 * x := by
 unfold gj
 obtain ⟨n,e,h1,h2,_⟩ := len_ok hx
 have hp : 0 < 2 ^ n := Nat.pow_pos (by omega)
 have hp2 : 2 ^ n ≤ 2 * x := by omega
 rw [u64_id (by omega),e,bPs]
 refine ⟨2 ^ n,?_,hp,hp2⟩
 unfold shlI
 rw [zp (by omega),bPs,Int.toNat_natCast,show min n IntKind.u64.bits = n from by show min n 64 = n; omega,Int.one_mul,show ((2 : Int) ^ n) = ((2 ^ n : Nat) : Int) from by simp,u64_id (by omega)]
section
variable {α : Type} [Inhabited α] {v : α → Rq} {lt : α → α → Bool} {cmp : Cmp}
end
theorem LeO.whileM {σ ρ : Type} {st st' : σ → Option (Flow σ ρ)} (h : ∀ s,LeO (st s) (st' s)) (s : σ) : LeO (whileM st s) (whileM st' s) := by
 intro r hr
 rw [whileM_iff] at hr ⊢
 obtain ⟨n,hn⟩ := hr
 refine ⟨n,?_⟩
 induction n generalizing s with
 | zero=>simp [iE] at hn
 | succ n ih =>
  simp only [iE] at hn ⊢
  cases hs : st s with
  | none=>rw [hs] at hn; cases hn
  | some fl =>
   rw [h s fl hs]
   rw [hs] at hn
   cases fl with
   | next s'=>exact ih s' hn
   | brk s'=>exact hn
   | ret x=>exact hn
theorem LeO.thenF {σ τ ρ : Type} {fl : Flow σ ρ} {k k' : σ → Option (Flow τ ρ)} (hk : ∀ s,LeO (k s) (k' s)) : LeO (fl.thenF k) (fl.thenF k') := by
 cases fl with
 | next s=>exact hk s
 | brk s=>exact hk s
 | ret r=>exact LeO.refl _
section
variable {α : Type} [Inhabited α] {v : α → Rq} {lt : α → α → Bool} {cmp : Cmp}
end
end
end Go.Proofs.YtgaggbdcedpapaaGreat

namespace Go.Proofs.YtgaggbdcedpapaaGreat
noncomputable section
open Go Go.Ab
theorem val_eq (x y : LVal) : (x.kind == y.kind && (x.int == y.int && (x.text == y.text && true))) = decide (x = y) := by
 obtain ⟨a,b,c⟩ := x
 obtain ⟨a',b',c'⟩ := y
 by_cases h : (⟨a,b,c⟩ : LVal) = ⟨a',b',c'⟩
 ·rw [zt h]; cases h; simp
 ·rw [zf h]
  by_cases h1 : a = a'
  ·by_cases h2 : b = b'
   ·have h3 : c ≠ c' := fun h3=>h (by rw [h1,h2,h3])
    have : (c == c') = false := by simpa using h3
    simp [this]
   ·simp [dw h2]
  ·simp [dw h1]
theorem equalRow (x y : Rq) : cX x y = some (decide (x = y)) := by
 unfold cX
 by_cases hl : x.length = y.length
 ·rw [nM,zt hl,Bool.not_true,zd]
  obtain ⟨fl,hfl,hr⟩ := fR (step := fun (j1 : Nat) (x1 : LVal) (_ : Unit)=>ai (aG y (j1 : Int)) fun (x22 : LVal)=>cond (!(x1.kind == x22.kind && (x1.int == x22.int && (x1.text == x22.text && true)))) (some (Flow.ret false)) (some (.next ())))
   (fun j _=>x.take j = y.take j) (fun r=>r = false ∧ x ≠ y) x 0 () (by simp) (fun k v s hk hI=>by
    simp only [Nat.zero_add] at hI ⊢
    have hkl := (zg.1 hk).1
    rw [fo (by omega),bPs,val_eq]
    by_cases hv : v = y[k]
    ·rw [zt hv]
     refine ⟨_,rfl,?_⟩
     simp only
     rw [List.take_add_one,List.take_add_one,hk,ze (by omega),hI,hv]
    ·rw [zf hv]
     refine ⟨_,rfl,rfl,fun he=>hv ?_⟩
     subst he
     exact (zg.1 hk).2.symm)
  rw [hfl,bPs]
  cases fl with
  | brk s=>exact absurd hr (by simp)
  | ret r=>rw [nO,hr.1,zf hr.2]
  | next s =>
   simp only [Nat.zero_add,List.take_length] at hr
   rw [hl,List.take_length] at hr
   rw [iu,zt hr]
 ·rw [nM,zf hl,zf (fun h=>hl (by rw [h]))]
  rfl
theorem idxO (l : Rows) (p : Rq → Bool) (f : Rq → Option Bool) (hf : ∀ x ∈ l,f x = some (p x)) (hl : l.length ≤ 10000000) : cf l f = some (bt p l,l) := by
 unfold cf
 rw [oV (by omega),bPs,Int.toNat_natCast]
 obtain ⟨fl,hfl,hr⟩ := fR (step := fun (j1 : Nat) (_ : Nat) (s1 : Rows)=>ai (aG s1 (j1 : Int)) fun (x14 : Rq)=>ai (f x14) fun x16=>cond x16 (some (Flow.ret ((j1 : Int),s1))) (some (.next s1)))
  (fun j s=>s = l ∧ ∀ x ∈ l.take j,p x = false) (fun r=>r = (bt p l,l)) (List.range l.length) 0 l ⟨rfl,by simp⟩ (fun k v s hk hI=>by
   simp only [Nat.zero_add] at hI ⊢
   have hkl := (zg.1 hk).1
   simp at hkl
   obtain ⟨rfl,hI⟩ := hI
   rw [fo hkl,bPs,hf _ (List.getElem_mem hkl),bPs]
   cases hp : p s[k] with
   | true=>exact ⟨_,rfl,by simp only; rw [oi hkl hI hp]⟩
   | false =>
    refine ⟨_,rfl,rfl,fun x hx=>?_⟩
    rw [List.take_add_one,ze hkl,List.mem_append] at hx
    rcases hx with hx | hx
    ·exact hI x hx
    ·simp at hx
     rw [hx]
     exact hp)
 rw [hfl,bPs]
 cases fl with
 | brk s=>exact absurd hr (by simp)
 | ret r=>rw [nO,hr]
 | next s =>
  simp only [Nat.zero_add,List.length_range,List.take_length] at hr
  rw [iu,hr.1,ku hr.2]
theorem deleteFunc_eq (l : Rows) (p : Rq → Bool) (f : Rq → Option Bool) (hf : ∀ x ∈ l,f x = some (p x)) (hl : l.length ≤ 1000000) : dH l f = some (l.filter fun x=>!p x) := by
 unfold dH
 rw [idxO l p f hf (by omega),bPs]
 simp only
 rw [bT trivial,bPs]
 by_cases hneg : bt p l = -1
 ·rw [kD hneg,zc]
  congr 1
  symm
  rw [List.filter_eq_self]
  intro x hx
  have : decide (bt p l ≥ 0) = false := by rw [hneg]; rfl
  rw [iD] at this
  have := List.any_eq_false.1 this x hx
  simpa using this
 ·rw [dw hneg,zd]
  have h0 : 0 ≤ bt p l := by rcases idxOf_neg (p := p) (l := l) with h | h; exact absurd h hneg; exact h
  obtain ⟨i,hi⟩ : ∃ i : Nat,bt p l = i := ⟨(bt p l).toNat,by omega⟩
  have hil : i < l.length := by have := ol h0; omega
  have hpre : (l.take i).filter (fun x=>!p x) = l.take i := by
   rw [List.filter_eq_self]
   intro x hx
   have : l.findIdx? p = some i := by
    unfold bt at hi
    cases hq : l.findIdx? p with
    | none=>rw [hq] at hi; simp at hi
    | some j=>rw [hq] at hi; exact congrArg some (by have hi : (j : Int) = (i : Int) := hi; omega)
   obtain ⟨_,_,hlt⟩ := List.findIdx?_eq_some_iff_getElem.1 this
   obtain ⟨j,hj,rfl⟩ := List.mem_take_iff_getElem.1 hx
   simp [hlt j (by omega)]
  have hpi : p l[i] = true := by
   obtain ⟨x,hx,hp⟩ := nk h0
   rw [hi,Int.toNat_natCast,ze hil] at hx
   cases hx
   exact hp
  rw [hi,bD (n := (i : Int) + 1) (by omega) (by omega)]
  obtain ⟨r,hr,hq⟩ := dt (step := fun (s1 : Rows × Int × Int) =>
   cond (decide (s1.2.2 < (s1.1.length : Int)))
    (ai (aG s1.1 s1.2.2) fun (x24 : Rq)=>ai (f x24) fun x28=>cond (!x28) (ai (aG s1.1 s1.2.1) fun (_ : Rq)=>bf (s1.1.set s1.2.1.toNat x24) fun (y4 : Rows)=>some (.next (y4,(IntKind.i64.wrap (s1.2.1 + (1 : Int))),(IntKind.i64.wrap (s1.2.2 + (1 : Int))))))
     (some (.next (s1.1,s1.2.1,(IntKind.i64.wrap (s1.2.2 + (1 : Int)))))))
    (some (.brk (s1.1,s1.2.1,s1.2.2)))) (s := (l,(i : Int),(i : Int) + 1)) (k := fun (s1 : Rows × Int × Int)=>ai (nw s1.1 s1.2.1) fun (y5 : Rows)=>ai (nw y5 s1.2.1) fun (y6 : Rows)=>some y6) (R := fun r=>r = l.filter fun x=>!p x)
   (fun s=>∃ a j : Nat,s.2.1 = a ∧ s.2.2 = j ∧ a < j ∧ j ≤ l.length ∧ s.1.length = l.length ∧ s.1.take a = (l.take j).filter (fun x=>!p x) ∧ s.1.drop j = l.drop j) (fun s=>(l.length - s.2.2).toNat)
   (fun s=>∃ a : Nat,s.2.1 = a ∧ a ≤ s.1.length ∧ s.1.take a = l.filter fun x=>!p x)
   ⟨i,i + 1,rfl,by show (i : Int) + 1 = ((i + 1 : Nat) : Int); omega,by omega,by omega,rfl,by
    show l.take i = _
    rw [List.take_add_one,ze hil,List.filter_append,hpre]
    simp [hpi],rfl⟩
   (fun s hI=>by
    obtain ⟨a,j,h1,h2,h3,h4,h5,h6,h7⟩ := hI
    obtain ⟨d,s1,s2⟩ := s
    simp only at h1 h2 h5 h6 h7 ⊢
    subst h1
    subst h2
    by_cases hlt : j < l.length
    ·rw [zt (show (j : Int) < (d.length : Int) from by omega),zc,fo (by omega),bPs]
     have hdj : d[j]? = l[j]? := by
      have := congrArg (fun q=>q[0]?) h7
      simpa using this
     have hdje : d[j] = l[j] := by
      rw [ze (by omega),ze hlt] at hdj
      exact Option.some.inj hdj
     have hdrop : ∀ e : Rows,e.drop j = l.drop j → e.drop (j + 1) = l.drop (j + 1) := fun e he=>by
      rw [← List.drop_drop,← List.drop_drop,he]
     rw [hdje,hf _ (List.getElem_mem hlt),bPs,bD (n := (j : Int) + 1) (by omega) (by omega),bD (n := (a : Int) + 1) (by omega) (by omega)]
     cases hp : p l[j] with
     | true =>
      refine ⟨_,rfl,⟨a,j + 1,rfl,by show (j : Int) + 1 = ((j + 1 : Nat) : Int); omega,by omega,by omega,h5,?_,hdrop d h7⟩,by show ((l.length : Int) - ((j : Int) + 1)).toNat < ((l.length : Int) - (j : Int)).toNat; omega⟩
      show d.take a = _
      rw [h6,List.take_add_one,ze hlt,List.filter_append]
      simp [hp]
     | false =>
      simp only [Bool.not_false,zc]
      rw [fo (by omega),bPs,bV,Int.toNat_natCast]
      refine ⟨_,rfl,⟨a + 1,j + 1,by show (a : Int) + 1 = ((a + 1 : Nat) : Int); omega,by show (j : Int) + 1 = ((j + 1 : Nat) : Int); omega,by omega,by omega,by show (d.set a l[j]).length = l.length; simp [h5],?_,?_⟩,by show ((l.length : Int) - ((j : Int) + 1)).toNat < ((l.length : Int) - (j : Int)).toNat; omega⟩
      ·show (d.set a l[j]).take (a + 1) = _
       rw [List.take_add_one,List.getElem?_set_self (by omega),List.take_set_of_le (by omega),h6,List.take_add_one,ze hlt,List.filter_append]
       simp [hp]
      ·show (d.set a l[j]).drop (j + 1) = _
       rw [List.drop_set_of_lt (by omega)]
       exact hdrop d h7
    ·rw [zf (show ¬ (j : Int) < (d.length : Int) from by omega)]
     refine ⟨_,rfl,a,rfl,by show a ≤ d.length; omega,?_⟩
     show d.take a = _
     rw [h6,List.take_of_length_le (by omega)])
   (fun s hq=>by
    obtain ⟨a,h1,h2,h3⟩ := hq
    rw [h1]
    unfold nw
    rw [zp ⟨by omega,by simpa using h2⟩,bPs,Int.toNat_natCast,zp ⟨by omega,by simp; omega⟩,bPs,List.take_take,Nat.min_self]
    exact ⟨_,rfl,h3⟩)
  rw [← hq]
  exact hr
def lx : Rows → Rows → Rows
 | [],_=>[]
 | x :: a,left=>if x ∈ left then lx a (left.erase x) else x :: lx a left
theorem erase_idx {α : Type} [BEq α] [LawfulBEq α] [DecidableEq α] {l : List α} {x : α} {i : Nat} (h : l.findIdx? (fun y=>decide (x = y)) = some i) : l.take i ++ l.drop (i + 1) = l.erase x := by
 induction l generalizing i with
 | nil=>simp at h
 | cons a l ih =>
  rw [List.findIdx?_cons] at h
  by_cases hx : x = a
  ·subst hx; simp at h; subst h; simp
  ·have e : decide (x = a) = false := zf hx
   rw [e] at h
   simp only [Bool.false_eq_true,if_false,Option.map_eq_some_iff] at h
   obtain ⟨j,hj,rfl⟩ := h
   have hne : (a == x) = false := by simp; exact fun h=>hx h.symm
   rw [List.erase_cons,hne]
   simp [ih hj]
theorem less_run : ∀ (a : Rows) (j : Nat) (left out : Rows),left.length ≤ 1000000 → out.length + a.length ≤ 1000000 →
  aW (σ := Rows × Rows) (ρ := Empty) (fun (_ : Nat) (x1 : Rq) (s1 : Rows × Rows) =>
  ai (cf s1.1 (fun a0=>jb a0 x1)) fun x20 =>
  ai (cE (x20.2.length = s1.1.length) ()) fun (_ : Unit) =>
  cond (decide (x20.1 ≥ (0 : Int)))
   (ai (delI x20.2 x20.1 (IntKind.i64.wrap (x20.1 + (1 : Int)))) fun x27 =>
   some (.next (x27,s1.2)))
   (ai (dT 24 s1.2 ([x1] : Rz)) fun (x31 : Rz) =>
   some (.next (x20.2,x31)))) j a (left,out) = some (.next ((a.foldl (fun l x=>l.erase x) left),out ++ lx a left))
 | [],j,left,out,_,_=>by simp [aW,lx]
 | x :: a,j,left,out,hl,ho=>by
  rw [aW,idxO left (fun y=>decide (x = y)) _ (fun y _=>by unfold jb; rw [equalRow]; rfl) (by omega),bPs]
  simp only
  rw [bT trivial,bPs,lx,List.foldl_cons]
  by_cases hx : x ∈ left
  ·have hany : decide (bt (fun y=>decide (x = y)) left ≥ 0) = true := by rw [iD,List.any_eq_true]; exact ⟨x,hx,by simp⟩
   rw [hany,zc,zp hx]
   have h0 := of_decide_eq_true hany
   unfold bt at h0 ⊢
   cases hq : left.findIdx? (fun y=>decide (x = y)) with
   | none=>rw [hq] at h0; simp at h0
   | some i =>
    have hil := (List.findIdx?_eq_some_iff_getElem.1 hq).1
    simp only
    rw [bD (by omega) (by omega)]
    have hd : delI left (i : Int) ((i : Int) + 1) = some (left.erase x) := by
     unfold delI
     rw [zp ⟨by omega,by omega,by omega⟩,show ((i : Int)).toNat = i from rfl,show ((i : Int) + 1).toNat = i + 1 from by omega,erase_idx hq]
    rw [hd,bPs]
    exact less_run a (j + 1) (left.erase x) out (by have := List.length_erase_le (a := x) (l := left); omega) (by simp at ho; omega)
  ·have hany : decide (bt (fun y=>decide (x = y)) left ≥ 0) = false := by
    rw [iD,List.any_eq_false]
    intro y hy he
    have : x = y := by simpa using he
    exact hx (this ▸ hy)
   rw [hany,zd,zy hx,cB (by decide) (by simp at ho ⊢; omega),bPs]
   simp only
   rw [less_run a (j + 1) left _ hl (by simp at ho ⊢; omega),List.erase_of_not_mem hx]
   simp
theorem less_eq (a b : Rows) (ha : a.length ≤ 1000000) (hb : b.length ≤ 1000000) : kT a b = some (lx a b) := by
 unfold kT
 rw [less_run a 0 b [] hb (by simpa using ha),bPs,bW]
 rfl
theorem qT : ∀ (a b : Rows),(lx a b).Sublist a
 | [],_=>by simp [lx]
 | x :: a,b=>by
  rw [lx]
  split
  ·exact (qT a _).cons x
  ·exact (qT a b).cons_cons x
theorem concat2 (x y : Rq) (hx : x.length ≤ 1000000) (hy : y.length ≤ 1000000) : cr [x,y] = some (x ++ y) := by
 unfold cr
 simp only [aW,Int.zero_add]
 rw [bD (n := (x.length : Int)) (by omega) (by omega),zf (show ¬ (x.length : Int) < 0 from by omega)]
 simp only [zd]
 rw [bD (n := (x.length : Int) + (y.length : Int)) (by omega) (by omega),zf (show ¬ (x.length : Int) + (y.length : Int) < 0 from by omega)]
 simp only [zd,bPs,bW]
 rw [growI_ok ⟨by omega,by omega,by unfold maxLen; omega⟩,bPs,cB (by decide) (by simp; omega),bPs]
 simp only [List.nil_append]
 rw [cB (by decide) (by omega)]
 rfl
def ii (f : Rq → Bool) (x : Rq) (b : Rows) : Rows := (b.map fun y=>x ++ y).filter f
def padR (f : Rq → Bool) (left : Bool) (pad x : Rq) (b : Rows) : Rows := if left = true ∧ ii f x b = [] then [x ++ pad] else ii f x b
def kn (f : Rq → Bool) (left : Bool) (pad : Rq) (a b : Rows) : Rows := (a.map fun x=>padR f left pad x b).flatten
theorem match_run (f : Rq → Bool) (e : LExpr) (r : LRun) (cols : List LCol) (ex : List LExpr) (he : aG ex 0 = some e) (hf : ∀ z,la (dh (bN r cols z) e) = f z) (x : Rq) (hx : x.length ≤ 1000)
  (b : Rows) (out : Rows) (found : Bool) (hb : ∀ y ∈ b,y.length ≤ 1000) (ho : out.length + b.length ≤ 1000000) :
  aW (σ := Rows × Bool) (ρ := Empty) (fun (_ : Nat) (x6 : Rq) (s6 : Rows × Bool) =>
   ai (cr ([x,x6] : Rows)) fun x58 =>
   ai (aG ex 0) fun (x65 : LExpr) =>
   bf (bN r cols x58) fun x62 =>
   bf (dh x62 x65) fun x67 =>
   bf (la x67) fun x68 =>
   cond x68
    (ai (dT 24 s6.1 ([x58] : Rows)) fun (x72 : Rows)=>some (.next (x72,true)))
    (some (.next (s6.1,s6.2)))) 0 b (out,found) = some (.next (out ++ ii f x b,found || !(ii f x b).isEmpty)) := by
 rw [rMa (xs := b) (s := (out,found)) (fun k=>(out ++ ii f x (b.take k),found || !(ii f x (b.take k)).isEmpty)) (by simp [ii]) (fun k y hk=>by
  have hkl := (zg.1 hk).1
  have hm : (ii f x (b.take k)).length ≤ k := by unfold ii; exact Nat.le_trans (List.length_filter_le _ _) (by simp; omega)
  have hs : ii f x (b.take (k + 1)) = ii f x (b.take k) ++ if f (x ++ y) then [x ++ y] else [] := by
   unfold ii
   rw [List.take_add_one,hk,List.map_append,List.filter_append]
   cases h : f (x ++ y) <;> simp [h]
  rw [concat2 x y (by omega) (by have := hb y (gp hk); omega),bPs,he,bPs,hs]
  simp only [bV,hf]
  cases hz : f (x ++ y) with
  | true =>
   rw [zc,cB (by decide) (by simp; omega),bPs]
   simp
  | false=>simp),List.take_length]
theorem padR_len (f : Rq → Bool) (left : Bool) (pad x : Rq) (b : Rows) : (padR f left pad x b).length ≤ max 1 b.length := by
 unfold padR
 split
 ·simp; omega
 ·have : (ii f x b).length ≤ b.length := by
   unfold ii
   exact Nat.le_trans (List.length_filter_le _ _) (by simp)
  omega
theorem ra (f : Rq → Bool) (left : Bool) (pad : Rq) (a b : Rows) : (kn f left pad a b).length ≤ a.length * max 1 b.length := by
 unfold kn
 induction a with
 | nil=>simp
 | cons x a ih =>
  have := padR_len f left pad x b
  simp only [List.map_cons,List.flatten_cons,List.length_append,List.length_cons,Nat.add_mul,Nat.one_mul]
  omega
def fu (key : Rq → Rq) : Rows → Rows → Rows
 | ks,[]=>ks
 | ks,x :: l=>fu key (if key x ∈ ks then ks else ks ++ [key x]) l
theorem keysF_app (key : Rq → Rq) : ∀ (l l' ks : Rows),fu key ks (l ++ l') = fu key (fu key ks l) l'
 | [],_,_=>rfl
 | x :: l,l',ks=>by rw [List.cons_append,fu,keysF_app key l l',fu]
theorem rL (key : Rq → Rq) : ∀ (l ks : Rows),ks.Nodup → (fu key ks l).Nodup
 | [],_,h=>h
 | x :: l,ks,h=>by
  rw [fu]
  refine rL key l _ ?_
  split
  ·exact h
  ·rename_i hx
   rw [List.nodup_append]
   exact ⟨h,by simp,fun a ha b hb hab=>by simp at hb; exact hx (hb ▸ hab ▸ ha)⟩
theorem pi (key : Rq → Rq) : ∀ (l ks : Rows) (k : Rq),k ∈ fu key ks l ↔ k ∈ ks ∨ ∃ x ∈ l,key x = k
 | [],ks,k=>by simp [fu]
 | x :: l,ks,k=>by
  rw [fu,pi key l]
  split
  ·rename_i h
   constructor
   ·rintro (h1 | ⟨y,hy,e⟩)
    ·exact .inl h1
    ·exact .inr ⟨y,by simp [hy],e⟩
   ·rintro (h1 | ⟨y,hy,e⟩)
    ·exact .inl h1
    ·rcases List.mem_cons.1 hy with rfl | hy
     ·exact .inl (e ▸ h)
     ·exact .inr ⟨y,hy,e⟩
  ·constructor
   ·rintro (h1 | ⟨y,hy,e⟩)
    ·rcases List.mem_append.1 h1 with h1 | h1
     ·exact .inl h1
     ·exact .inr ⟨x,by simp,by simp at h1; exact h1.symm⟩
    ·exact .inr ⟨y,by simp [hy],e⟩
   ·rintro (h1 | ⟨y,hy,e⟩)
    ·exact .inl (by simp [h1])
    ·rcases List.mem_cons.1 hy with rfl | hy
     ·exact .inl (by simp [e])
     ·exact .inr ⟨y,hy,e⟩
theorem oO (key : Rq → Rq) : ∀ (l ks : Rows),(fu key ks l).length ≤ ks.length + l.length
 | [],_=>by simp [fu]
 | x :: l,ks=>by
  rw [fu]
  have := oO key l (if key x ∈ ks then ks else ks ++ [key x])
  split at this
  ·rename_i h; rw [zp h]; simp; omega
  ·rename_i h; rw [zy h]; simp at this ⊢; omega
def fH (key : Rq → Rq) (l : Rows) (k : Rq) : Rows := l.filter fun x=>decide (key x = k)
theorem group_run (key : Rq → Rq) (q : LQuery) (r : LRun) (cols : List LCol) (hk : ∀ x,dU r cols x q.exprs = some (key x)) (ks0 : Rows) (hn : ks0.Nodup) (l : Rows) (hl : l.length ≤ 1000000) (hks : ks0.length ≤ 1) :
  aW (σ := Rows × List Rows) (ρ := Empty) (fun (_ : Nat) (x2 : Rq) (s2 : Rows × List Rows) =>
  ai (dU r cols x2 q.exprs) fun x38 =>
  ai (cf s2.1 (fun a0=>gu a0 x38)) fun x41 =>
  ai (cE (x41.2.length = s2.1.length) ()) fun (_ : Unit) =>
  ai (
   cond (decide (x41.1 < (0 : Int)))
    (ai (dT 24 x41.2 ([x38] : Rows)) fun (x49 : Rows) =>
    ai (dT 24 s2.2 ([[]] : List Rows)) fun (x52 : List Rows) =>
    some (x49,x52,(x41.2.length : Int)))
    (some (x41.2,s2.2,x41.1))) fun (t7 : Rows × List Rows × Int) =>
  ai (aG t7.2.1 t7.2.2) fun (x57 : Rows) =>
  ai (dT 24 x57 ([x2] : Rows)) fun (x61 : Rows) =>
  ai (aG t7.2.1 t7.2.2) fun (_ : Rows) =>
  bf (t7.2.1.set t7.2.2.toNat x61) fun (y8 : List Rows) =>
  some (.next (t7.1,y8))) 0 l (ks0,ks0.map fun _=>[]) = some (.next (fu key ks0 l,(fu key ks0 l).map (fH key l))) := by
 rw [rMa (xs := l) (s := (ks0,ks0.map fun _=>[])) (fun k=>(fu key ks0 (l.take k),(fu key ks0 (l.take k)).map (fH key (l.take k)))) (by
  show (ks0,ks0.map (fH key [])) = _
  congr 1) (fun k x hkx=>by
   have hkl := (zg.1 hkx).1
   have hlen := oO key (l.take k) ks0
   have hlen2 : (fu key ks0 (l.take k)).length ≤ 1 + k := by simp at hlen; omega
   have hnd := rL key (l.take k) ks0 hn
   have hmem : ∀ y ∈ l.take k,key y ∈ fu key ks0 (l.take k) := fun y hy=>(pi key _ _ _).2 (.inr ⟨y,hy,rfl⟩)
   have hsucc : l.take (k + 1) = l.take k ++ [x] := by rw [List.take_add_one,hkx]; rfl
   rw [hsucc,keysF_app]
   generalize hK : fu key ks0 (l.take k) = K at *
   have hgl : ∀ kk,(fH key (l.take k) kk).length ≤ k := fun kk=>by
    unfold fH
    exact Nat.le_trans (List.length_filter_le _ _) (by simp; omega)
   rw [hk x,bPs,idxO K (fun y=>decide (key x = y)) _ (fun y _=>by unfold gu; rw [equalRow]; rfl) (by omega),bPs]
   simp only
   rw [bT trivial,bPs]
   have hg : ∀ kk,fH key (l.take k ++ [x]) kk = fH key (l.take k) kk ++ if key x = kk then [x] else [] := fun kk=>by
    unfold fH
    rw [List.filter_append]
    congr 1
    by_cases h : key x = kk <;> simp [h]
   by_cases hx : key x ∈ K
   ·have hany : decide (bt (fun y=>decide (key x = y)) K < 0) = false := by
     have : decide (bt (fun y=>decide (key x = y)) K ≥ 0) = true := by rw [iD,List.any_eq_true]; exact ⟨_,hx,by simp⟩
     have := of_decide_eq_true this
     exact zf (by omega)
    have h0 : 0 ≤ bt (fun y=>decide (key x = y)) K := by have := of_decide_eq_false hany; omega
    obtain ⟨i,hi⟩ : ∃ i : Nat,bt (fun y=>decide (key x = y)) K = i := ⟨(bt (fun y=>decide (key x = y)) K).toNat,by omega⟩
    obtain ⟨z,hz,hzk⟩ := nk h0
    rw [hi,Int.toNat_natCast] at hz
    have hzk : key x = z := by simpa using hzk
    subst hzk
    have hiK := (zg.1 hz).1
    rw [hany,zd,bPs,hi]
    simp only
    have hgi : (K.map (fH key (l.take k)))[i]? = some (fH key (l.take k) (key x)) := by rw [List.getElem?_map,hz]; rfl
    rw [kl hgi,bPs,cB (by decide) (by have := hgl (key x); simp; omega),bPs,bPs,bV,Int.toNat_natCast]
    congr 3
    ·simp [fu,hx]
    ·have hkk : fu key K [x] = K := by simp [fu,hx]
     rw [hkk]
     apply List.ext_getElem?
     intro j
     rw [List.getElem?_set,List.getElem?_map]
     by_cases hij : i = j
     ·subst hij
      rw [zp rfl,zp (by simpa using hiK),List.getElem?_map,hz,Option.map_some,hg,zp rfl]
     ·rw [zy hij,List.getElem?_map]
      cases hj : K[j]? with
      | none=>rfl
      | some w =>
       simp only [Option.map_some]
       have hne : key x ≠ w := fun he=>by
        subst he
        have hjK := (zg.1 hj).1
        rw [List.nodup_iff_pairwise_ne,List.pairwise_iff_getElem] at hnd
        have e1 := (zg.1 hz).2
        have e2 := (zg.1 hj).2
        rcases Nat.lt_or_gt_of_ne hij with h | h
        ·exact hnd i j hiK hjK h (by rw [e1,e2])
        ·exact hnd j i hjK hiK h (by rw [e1,e2])
       rw [hg,zy hne,List.append_nil]
   ·have hany : decide (bt (fun y=>decide (key x = y)) K < 0) = true := by
     have : decide (bt (fun y=>decide (key x = y)) K ≥ 0) = false := by
      rw [iD,List.any_eq_false]
      intro y hy he
      have : key x = y := by simpa using he
      exact hx (this ▸ hy)
     have := of_decide_eq_false this
     exact zt (by omega)
    rw [hany,zc,cB (by decide) (by simp; omega),bPs,cB (by decide) (by simp; omega),bPs,bPs]
    simp only
    have hgi : (K.map (fH key (l.take k)) ++ [[]])[K.length]? = some [] := by
     rw [List.getElem?_append_right (by simp),zl,Nat.sub_self]; rfl
    rw [kl hgi,bPs,cB (by decide) (by simp),bPs,bPs,bV,Int.toNat_natCast]
    have hkk : fu key K [x] = K ++ [key x] := by simp [fu,hx]
    rw [hkk]
    congr 3
    have hold : fH key (l.take k) (key x) = [] := by
     unfold fH
     rw [List.filter_eq_nil_iff]
     intro y hy he
     have : key y = key x := by simpa using he
     exact hx (this ▸ hmem y hy)
    rw [List.map_append,List.set_append_right _ _ (by simp),zl,Nat.sub_self]
    congr 1
    ·apply List.map_congr_left
     intro w hw
     have hne : key x ≠ w := fun he=>hx (he ▸ hw)
     rw [hg,zy hne,List.append_nil]
    ·simp [hg,hold])]
 rw [List.take_length]
def kY (op : List UInt8) (s : Int × LVal) (v : LVal) : Int × LVal := (IntKind.i64.wrap (s.1 + v.int),if (op = sMin ∧ ly v s.2 = true) ∨ (op = sMax ∧ ly s.2 v = true) then v else s.2)
def qk (op : List UInt8) (l : Rq) : LVal :=
 if op = ie then gd l.length else match l with
  | []=>.nul
  | v :: _=>if op = sSum then gd (l.foldl (kY op) (0,v)).1 else (l.foldl (kY op) (0,v)).2
theorem compute_eq (op : List UInt8) (l : Rq) : fP op l = some (qk op l) := by
 unfold fP qk
 by_cases h1 : op = ie
 ·subst h1; rfl
 ·have e1 : (op == ([99,111,117,110,116] : List UInt8)) = false := by simpa using h1
  rw [e1,zd,zy h1]
  cases l with
  | nil=>rfl
  | cons v l =>
   have e2 : (((v :: l).length : Int) == 0) = false := dw (by simp; omega)
   rw [e2,zd]
   have e3 : aG (v :: l) 0 = some v := rfl
   rw [e3,bPs]
   rw [mT (xs := v :: l) (kY op) (fun k x _=>by
    generalize (((v :: l).take k).foldl (kY op) (0,v)) = s
    unfold kY
    by_cases m : op = sMin
    ·subst m
     simp only [bV]
     cases ly x s.2 <;> simp
    ·have em : (op == ([109,105,110] : List UInt8)) = false := by simpa using m
     rw [em,zd]
     by_cases n : op = sMax
     ·subst n
      simp only [bV]
      cases ly s.2 x <;> simp
     ·have en : (op == ([109,97,120] : List UInt8)) = false := by simpa using n
      rw [en,zd]
      simp [m,n]),bPs,bW]
   by_cases h2 : op = sSum
   ·subst h2; rfl
   ·have e4 : (op == ([115,117,109] : List UInt8)) = false := by simpa using h2
    rw [e4,zd]
    simp only
    rw [zy h2]
def aggR (r : LRun) (cols : List LCol) (a : LAggregateCall) (l : Rows) : LVal := match a.args with
 | []=>gd l.length
 | e :: _=>qk a.function ((l.map fun x=>dh (bN r cols x) e).filter fun v=>v.kind != 0)
theorem aggR_eq (r : LRun) (cols : List LCol) (a : LAggregateCall) (l : Rows) (hl : l.length ≤ 1000000) : jF r a cols l = some (aggR r cols a l) := by
 unfold jF aggR
 cases ha : a.args with
 | nil=>rfl
 | cons e es =>
  have e2 : (((e :: es).length : Int) == 0) = false := dw (by simp; omega)
  rw [e2,zd]
  rw [rMa (xs := l) (s := []) (fun k=>((l.take k).map fun x=>dh (bN r cols x) e).filter fun v=>v.kind != 0) rfl (fun k x hk=>by
   have hkl := (zg.1 hk).1
   have e3 : aG (e :: es) 0 = some e := rfl
   rw [e3]
   simp only [bPs,bV]
   have hb : (((l.take k).map fun x=>dh (bN r cols x) e).filter fun v=>v.kind != 0).length ≤ k := Nat.le_trans (List.length_filter_le _ _) (by simp; omega)
   rw [List.take_add_one,hk,List.map_append,List.filter_append]
   cases hv : (dh (bN r cols x) e).kind != 0 with
   | true =>
    rw [zc,cB (by decide) (by simp at hb ⊢; omega),bPs]
    simp [hv]
   | false=>simp [hv]),bPs,bW,List.take_length,compute_eq]
  rfl
def nj (r : LRun) (cols : List LCol) (q : LQuery) (l : Rows) : Rows :=
 (fu (fun x=>q.exprs.map fun e=>dh (bN r cols x) e) (if q.exprs = [] then [[]] else []) l).map fun k =>
  k ++ q.aggregates.map fun a=>aggR r cols a (fH (fun x=>q.exprs.map fun e=>dh (bN r cols x) e) l k)
theorem group_eq (r : LRun) (cols : List LCol) (q : LQuery) (l : Rows) (hl : l.length ≤ 999999) (he : q.exprs.length ≤ 1000000) (ha : q.aggregates.length ≤ 1000000) : iV r q cols l = some (nj r cols q l) := by
 unfold iV nj
 generalize hkey : (fun x=>q.exprs.map fun e=>dh (bN r cols x) e) = key
 have hk : ∀ x,dU r cols x q.exprs = some (key x) := fun x=>by rw [qu r cols x q.exprs (by omega),← hkey]
 have hinit : (cond ((q.exprs.length : Int) == (0 : Int)) (([[]],[[]])) (([],[])) : Rows × List Rows) = ((if q.exprs = [] then [[]] else []),((if q.exprs = [] then [[]] else []) : Rows).map fun _=>[]) := by
  cases q.exprs with
  | nil=>rfl
  | cons e es=>rw [show (((e :: es).length : Int) == 0) = false from dw (by simp; omega)]; rfl
 rw [bV,hinit]
 generalize hks : (if q.exprs = [] then [[]] else [] : Rows) = ks0
 have hks1 : ks0.length ≤ 1 := by rw [← hks]; split <;> simp
 have hks2 : ks0.Nodup := by rw [← hks]; split <;> simp
 rw [group_run key q r cols hk ks0 hks2 l (by omega) hks1,bPs,bW]
 generalize hK : fu key ks0 l = K
 have hKl : K.length ≤ 1000000 := by rw [← hK]; have := oO key l ks0; omega
 simp only
 rw [bT (by rw [zl]; omega),bPs,oV (by omega),bPs,Int.toNat_natCast]
 have hgl : ∀ kk,(fH key l kk).length ≤ 1000000 := fun kk=>by
  unfold fH
  exact Nat.le_trans (List.length_filter_le _ _) (by omega)
 have hkl : ∀ k ∈ K,k.length ≤ 1000000 := fun k hkm=>by
  rw [← hK] at hkm
  rcases (pi key l ks0 k).1 hkm with h | ⟨x,_,rfl⟩
  ·rw [← hks] at h
   split at h
   ·simp at h; subst h; simp
   ·simp at h
  ·rw [← hkey]; simpa using he
 rw [rMa (xs := List.range K.length) (s := []) (fun j=>(K.take j).map fun k=>k ++ q.aggregates.map fun a=>aggR r cols a (fH key l k)) rfl (fun j n hj=>by
  obtain ⟨hjl,hjn⟩ := zg.1 hj
  simp at hjl
  rw [fo hjl,bPs]
  have hg : (K.map (fH key l))[j]? = some (fH key l K[j]) := by rw [List.getElem?_map,ze hjl]; rfl
  rw [rMa (xs := q.aggregates) (s := K[j]) (fun i=>K[j] ++ (q.aggregates.take i).map fun a=>aggR r cols a (fH key l K[j])) (by simp) (fun i a hi=>by
   have hil := (zg.1 hi).1
   have hkj := hkl K[j] (List.getElem_mem hjl)
   rw [kl hg,bPs,aggR_eq r cols a _ (hgl _),bPs,cB (by decide) (by simp; omega),bPs,List.take_add_one,hi]
   simp),bPs,bW,cB (by decide) (by simp; omega),bPs,List.take_length]
  congr 2
  rw [List.take_add_one,ze hjl,List.map_append]
  rfl),bPs,bW]
 simp
def kU (x : LVal) : LVal := if fg x = true then x else .nul
theorem typed_args {cols vars : List LCol} {e : LExpr} (h : (dK cols vars e).2.2 = 0) : e.kind = 5 ∧ (∀ a ∈ e.args,(dK cols vars a).2.2 = 0) ∨ e.kind ≠ 5 ∧ e.args = [] := by
 rw [qa] at h
 by_cases c0 : e.kind ≠ 5 ∧ 0 < e.args.length
 ·rw [zp c0] at h; simp [gB] at h
 rw [zy c0] at h
 by_cases c5 : e.kind = 5
 ·refine .inl ⟨c5,fun a ha=>?_⟩
  simp only [c5] at h
  have h' : (jx e.name e.index e.value (e.args.map (dK cols vars))).2.2 = 0 := by simpa using h
  unfold jx at h'
  split at h'
  ·simp [gB] at h'
  ·split at h'
   ·rename_i r hf
    have := List.find?_some hf
    simp [gB] at h'
    simp [h'] at this
   ·rename_i hf
    have := List.find?_eq_none.1 hf (dK cols vars a) (List.mem_map.2 ⟨a,ha,rfl⟩)
    simpa using this
 ·refine .inr ⟨c5,?_⟩
  rw [← List.length_eq_zero_iff]
  omega
theorem eval_clean {cols vars : List LCol} {v : LEnv} : ∀ e : LExpr,(dK cols vars e).2.2 = 0 → (∀ i k,(i,k) ∈ dd e → ∀ x,v.params[i]? = some x → fg x = true) → dh v e = dh { v with params := v.params.map kU } e := by
 refine LExpr.ind fun e ih h hp=>?_
 have hsub : ∀ a ∈ e.args,∀ i k,(i,k) ∈ dd a → (i,k) ∈ dd e := fun a ha i k hm=>by
  rw [md]
  exact List.mem_append_right _ (List.mem_flatten.2 ⟨_,List.mem_map.2 ⟨a,ha,rfl⟩,hm⟩)
 rw [pU,pU { v with params := v.params.map kU }]
 by_cases k1 : (e.kind == 1) = true
 ·simp [k1]
 by_cases k2 : (e.kind == 2) = true
 ·simp [k1,k2]
 by_cases k3 : (e.kind == 3) = true
 ·rw [zy k1,zy k2,zp k3,zy k1,zy k2,zp k3]
  have hk3 : e.kind = 3 := by simpa using k3
  have hta := typed_args h
  have hr : ¬ (e.index < 0 ∨ e.index ≥ 8) := by
   intro hbad
   rw [qa,zy (by intro hc; rcases hta with ⟨a,_⟩ | ⟨_,b⟩; exact hc.1 a; rw [b] at hc; simp at hc),zy k1,zp k3,zp (by rcases hbad with hb | hb; exact .inl hb; exact .inr (.inl hb))] at h
   simp [gB] at h
  have hm : (e.index.toNat,e.value.kind) ∈ dd e := by
   rw [md]
   refine List.mem_append_left _ ?_
   unfold iZ
   rw [zp ⟨hk3,by omega,by omega⟩]
   simp
  have hget : ∀ i : Nat,i < v.params.length → i = e.index.toNat → (v.params.map kU).getD i .nul = v.params.getD i .nul := fun i hi he=>by
   rw [List.getD_eq_getElem?_getD,List.getD_eq_getElem?_getD,List.getElem?_map,ze hi]
   simp only [Option.map_some,Option.getD_some]
   unfold kU
   rw [zp (hp _ _ hm v.params[i] (by rw [← he]; exact ze hi))]
  by_cases hlt : e.index.toNat < v.params.length
  ·show _ = if 0 ≤ e.index ∧ e.index < ((v.params.map kU).length : Nat) ∧ ((v.params.map kU).getD e.index.toNat .nul).kind = e.value.kind then (v.params.map kU).getD e.index.toNat .nul else .nul
   rw [hget _ hlt rfl,zl]
  ·have : ¬ (0 ≤ e.index ∧ e.index < (v.params.length : Int)) := by omega
   show _ = if 0 ≤ e.index ∧ e.index < ((v.params.map kU).length : Nat) ∧ ((v.params.map kU).getD e.index.toNat .nul).kind = e.value.kind then (v.params.map kU).getD e.index.toNat .nul else .nul
   rw [zl,zy (fun hc=>this ⟨hc.1,hc.2.1⟩),zy (fun hc=>this ⟨hc.1,hc.2.1⟩)]
 by_cases k4 : (e.kind == 4) = true
 ·simp [k1,k2,k3,k4]
 by_cases k5 : (e.kind == 5) = true
 ·rw [zy k1,zy k2,zy k3,zy k4,zp k5,zy k1,zy k2,zy k3,zy k4,zp k5]
  rcases typed_args h with ⟨_,ha⟩ | ⟨hn,_⟩
  ·congr 1
   apply List.map_congr_left
   intro a hm
   exact ih a hm (ha a hm) fun i k hik=>hp i k (hsub a hm i k hik)
  ·exact absurd (by simpa using k5) hn
 ·simp [k1,k2,k3,k4,k5]
structure RunOk (r : LRun) : Prop where
 vars : r.vars = []
 names : r.names = []
 vals : r.vals = []
 inst : InstOk r.s r.st
def mD (r : LRun) (l : List (Nat × Int)) : Prop := ∀ i k,(i,k) ∈ l → ∀ x,r.args[i]? = some x → fg x = true
theorem qO {r : LRun} (hr : RunOk r) {cols : List LCol} {row : Rq} (hrow : fm cols row) {e : LExpr} (ht : (du cols r.vars e).2.2 = 0) (hp : mD r (dd e)) :
  fO (dh (bN r cols row) e) (du cols r.vars e).1 (du cols r.vars e).2.1 := by
 have hk : (dK cols r.vars e).2.2 = 0 := by
  unfold du at ht
  split at ht
  ·simp [gB] at ht
  ·exact ht
 rw [eval_clean (cols := cols) (vars := r.vars) e hk (fun i k hm x hx=>hp i k hm x hx)]
 refine type_sound (cols := cols) (vars := r.vars) ⟨rfl,hrow.1,hrow.2,?_,?_,?_,?_⟩ e ht
 ·intro x hx
  obtain ⟨y,_,rfl⟩ := List.mem_map.1 hx
  unfold kU
  split
  ·assumption
  ·rfl
 ·show r.names = _; rw [hr.names,hr.vars]; rfl
 ·show r.vals.length = _; rw [hr.vals,hr.vars]; rfl
 ·intro i c x hc; rw [hr.vars] at hc; simp at hc
theorem qi {c : LChecker} {q : LQuery} (h : (fD c q).2 = 0) : lq q = true ∧ (∀ x ∈ q.inputs,(fD c x).2 = 0) ∧ (iM c q (q.inputs.map fun x=>(fD c x).1)).2 = 0 ∧ (fD c q).1 = (iM c q (q.inputs.map fun x=>(fD c x).1)).1 ∧ ((fD c q).1.map LCol.name).Nodup := by
 rw [qe] at h ⊢
 unfold oC at h ⊢
 by_cases h1 : lq q = false
 ·simp [h1] at h
 rw [zy h1] at h ⊢
 by_cases h2 : (ee (q.inputs.map (fD c))).2 = 0
 ·obtain ⟨a,b⟩ := qm h2
  have e : (q.inputs.map (fD c)).map (·.1) = q.inputs.map fun x=>(fD c x).1 := by rw [List.map_map]; rfl
  rw [e] at b
  rw [b] at h ⊢
  rw [zy (by simpa using h2)] at h ⊢
  by_cases h3 : (iM c q (q.inputs.map fun x=>(fD c x).1)).2 = 0
  ·rw [zy (by simpa using h3)] at h ⊢
   by_cases h4 : 20 < (iM c q (q.inputs.map fun x=>(fD c x).1)).1.length
   ·rw [zp h4] at h; simp at h
   ·rw [zy h4] at h ⊢
    by_cases h5 : ((iM c q (q.inputs.map fun x=>(fD c x).1)).1.map LCol.name).Nodup
    ·rw [zp h5] at h ⊢
     exact ⟨by simpa using h1,fun x hx=>a _ (List.mem_map.2 ⟨x,hx,rfl⟩),h3,rfl,h5⟩
    ·rw [zy h5] at h; simp at h
  ·rw [zp h3] at h; exact absurd h h3
 ·rw [zp h2] at h; exact absurd h h2
theorem mM (vars cols : List LCol) : ∀ (es : List LExpr) (ns : List (List UInt8)),es.length = ns.length → (cT vars cols es ns).2 = 0 →
  (cT vars cols es ns).1.length = es.length ∧ ∀ (i : Nat) (e : LExpr),es[i]? = some e → (du cols vars e).2.2 = 0 ∧ ∃ c,(cT vars cols es ns).1[i]? = some c ∧ c.kind = (du cols vars e).1 ∧ c.nullable = (du cols vars e).2.1
 | [],ns,_,_=>by simp [cT]
 | e :: es,[],h,_=>by simp at h
 | e :: es,n :: ns,hl,h=>by
  simp only [cT] at h ⊢
  by_cases h1 : dN n = false
  ·simp [h1] at h
  rw [zy h1] at h ⊢
  by_cases h2 : (du cols vars e).2.2 = 0
  ·rw [zy (by simpa using h2)] at h ⊢
   by_cases h3 : (du cols vars e).1 = 0
   ·rw [zp h3] at h; simp at h
   ·rw [zy h3] at h ⊢
    by_cases h4 : (cT vars cols es ns).2 = 0
    ·rw [zy (by simpa using h4)]
     obtain ⟨a,b⟩ := mM vars cols es ns (by simpa using hl) h4
     refine ⟨by simp [a],fun i e' hi=>?_⟩
     cases i with
     | zero=>simp at hi; subst hi; exact ⟨h2,_,rfl,rfl,rfl⟩
     | succ i=>simpa using b i e' (by simpa using hi)
    ·rw [zp h4] at h; exact absurd h h4
  ·rw [zp h2] at h; exact absurd h h2
theorem qv (vars cols : List LCol) : ∀ l : List LAggregateCall,(eu vars cols l).2 = 0 →
  (eu vars cols l).1.length = l.length ∧ ∀ (i : Nat) (a : LAggregateCall),l[i]? = some a → (nr vars cols a).2 = 0 ∧ ∃ c,(eu vars cols l).1[i]? = some c ∧ c.kind = (nr vars cols a).1 ∧ c.nullable = !(a.function == ie)
 | [],_=>by simp [eu]
 | a :: l,h=>by
  simp only [eu] at h ⊢
  by_cases h1 : (nr vars cols a).2 = 0
  ·rw [zy (by simpa using h1)] at h ⊢
   by_cases h2 : (eu vars cols l).2 = 0
   ·rw [zy (by simpa using h2)]
    obtain ⟨x,y⟩ := qv vars cols l h2
    refine ⟨by simp [x],fun i b hi=>?_⟩
    cases i with
    | zero=>simp at hi; subst hi; exact ⟨h1,_,rfl,rfl,rfl⟩
    | succ i=>simpa using y i b (by simpa using hi)
   ·rw [zp h2] at h; exact absurd h h2
  ·rw [zp h1] at h; exact absurd h h1
theorem fm.append {a b : List LCol} {x y : Rq} (h : fm a x) (h' : fm b y) : fm (a ++ b) (x ++ y) := by
 refine ⟨by simp [h.1,h'.1],fun i c v hc hv=>?_⟩
 by_cases hi : i < a.length
 ·rw [List.getElem?_append_left hi] at hc
  rw [List.getElem?_append_left (by rw [h.1]; exact hi)] at hv
  exact h.2 i c v hc hv
 ·rw [List.getElem?_append_right (by omega)] at hc
  rw [List.getElem?_append_right (by rw [h.1]; omega),h.1] at hv
  exact h'.2 _ c v hc hv
theorem fm.map {cols : List LCol} {es : List LExpr} {f : LExpr → LVal} (hl : cols.length = es.length) (h : ∀ (i : Nat) (e : LExpr) (c : LCol),es[i]? = some e → cols[i]? = some c → fO (f e) c.kind c.nullable) : fm cols (es.map f) := by
 refine ⟨by simp [hl],fun i c x hc hx=>?_⟩
 rw [List.getElem?_map,Option.map_eq_some_iff] at hx
 obtain ⟨e,he,rfl⟩ := hx
 exact h i e c he hc
theorem fO.weak {x : LVal} {k : Int} {nl nl' : Bool} (h : fO x k nl) (hn : nl = true → nl' = true) : fO x k nl' := ⟨h.1,h.2.1,fun h0=>hn (h.2.2 h0)⟩
theorem int_fits (n : Int) : fO (gd n) 1 true := by
 unfold gd
 by_cases h1 : n < -1000000000000
 ·rw [zt h1]; exact il rfl
 ·rw [zf h1]
  by_cases h2 : n > 1000000000000
  ·rw [zt h2]; exact il rfl
  ·rw [zf h2]
   refine ⟨?_,.inl rfl,fun h=>by simp at h⟩
   unfold fg
   simp
   omega
theorem int_small {n : Int} (h0 : 0 ≤ n) (h1 : n ≤ 1000000000000) (nl : Bool) : fO (gd n) 1 nl := by
 have h := int_fits n
 refine ⟨h.1,h.2.1,fun hk=>?_⟩
 unfold gd at hk
 rw [zf (show ¬ n < -1000000000000 from by omega),zf (show ¬ n > 1000000000000 from by omega)] at hk
 simp at hk
theorem rI (op : List UInt8) : ∀ (l : Rq) (s : Int × LVal),(l.foldl (kY op) s).2 = s.2 ∨ (l.foldl (kY op) s).2 ∈ l
 | [],s=>.inl rfl
 | v :: l,s=>by
  rw [List.foldl_cons]
  rcases rI op l (kY op s v) with h | h
  ·rw [h]
   unfold kY
   simp only
   split
   ·exact .inr (by simp)
   ·exact .inl rfl
  ·exact .inr (by simp [h])
theorem agg_fits {r : LRun} (hr : RunOk r) {cols : List LCol} {a : LAggregateCall} {l : Rows} (ha : (nr r.vars cols a).2 = 0) (hl : ∀ row ∈ l,fm cols row) (hb : l.length ≤ 1000000) (hp : mD r ((a.args.map dd).flatten)) :
  fO (aggR r cols a l) (nr r.vars cols a).1 (!(a.function == ie)) := by
 unfold nr at ha ⊢
 unfold aggR
 by_cases h1 : dN a.name = false ∨ ¬ a.function ∈ [ie,sSum,sMin,sMax] ∨ 1 < a.args.length ∨ (a.args.length < 1 ∧ a.function ≠ ie)
 ·rw [zp h1] at ha; simp at ha
 rw [zy h1] at ha ⊢
 have hfn : a.function ∈ [ie,sSum,sMin,sMax] := Decidable.byContradiction fun h=>h1 (.inr (.inl h))
 cases hargs : a.args with
 | nil=>exact int_small (by omega) (by omega) _
 | cons e es =>
  rw [hargs] at ha hp
  simp only at ha ⊢
  have hpe : mD r (dd e) := fun i k hm=>hp i k (by simp [hm])
  by_cases h2 : (du cols r.vars e).2.2 = 0
  ·rw [zy (by simpa using h2)] at ha ⊢
   by_cases h3 : (du cols r.vars e).1 = 0 ∨ (a.function = sSum ∧ (du cols r.vars e).1 ≠ 1)
   ·rw [zp h3] at ha; simp at ha
   rw [zy h3]
   generalize hv : ((l.map fun x=>dh (bN r cols x) e).filter fun v=>v.kind != 0) = vals
   have hvl : vals.length ≤ 1000000 := by rw [← hv]; exact Nat.le_trans (List.length_filter_le _ _) (by simpa using hb)
   have hvf : ∀ v ∈ vals,fO v (du cols r.vars e).1 true := fun v hm=>by
    rw [← hv] at hm
    have := (List.mem_filter.1 hm).1
    obtain ⟨x,hx,rfl⟩ := List.mem_map.1 this
    exact (qO hr (hl x hx) h2 hpe).weak fun _=>rfl
   unfold qk
   by_cases h4 : a.function = ie
   ·rw [zp h4,zp h4]
    exact int_small (by omega) (by omega) _
   ·rw [zy h4,zy h4]
    have hc : (a.function == ie) = false := by simpa using h4
    rw [hc]
    cases vals with
    | nil=>exact il rfl
    | cons v vs =>
     simp only
     by_cases h5 : a.function = sSum
     ·rw [zp h5]
      have : (du cols r.vars e).1 = 1 := Decidable.byContradiction fun h=>h3 (.inr ⟨h5,h⟩)
      rw [this]
      exact int_fits _
     ·rw [zy h5]
      rcases rI a.function (v :: vs) (0,v) with h | h
      ·rw [h]; exact hvf v (by simp)
      ·exact hvf _ h
  ·rw [zp h2] at ha; exact absurd ha h2
theorem capI_eq {n : Int} (h : mF n ≤ 20000) : mF n = n := by
 unfold mF at h ⊢
 by_cases hc : 20001 < n
 ·rw [zp hc] at h; omega
 ·rw [zy hc]
theorem gP {q : LQuery} (h : (bY q).2 ≤ 20000) : (bY q).1 ≤ (bY q).2 ∧ ∀ x ∈ q.inputs,(bY x).2 ≤ 20000 := by
 have key : ∀ (l : List (Int × Int)) (j : Nat) (s : Int × Int),s.2 ≤ (eP q.kind j l s).2 ∧ ∀ x ∈ l,x.2 ≤ (eP q.kind j l s).2 := by
  intro l
  induction l with
  | nil=>intro j s; exact ⟨Int.le_refl _,by simp⟩
  | cons y l ih =>
   intro j s
   obtain ⟨h1,h2⟩ := ih (j + 1) (iO q.kind s j y)
   rw [eP]
   have h3 : s.2 ≤ (iO q.kind s j y).2 := jk _ _
   have h4 : y.2 ≤ (iO q.kind s j y).2 := nh _ _
   refine ⟨by omega,fun x hx=>?_⟩
   rcases List.mem_cons.1 hx with rfl | hx
   ·omega
   ·exact h2 x hx
 have hk := key (q.inputs.map bY) 0 (0,0)
 rw [lC] at h ⊢
 by_cases h1 : q.kind = 1
 ·rw [zp h1] at h ⊢
  refine ⟨nh _ _,fun x hx=>?_⟩
  have := hk.2 (bY x) (List.mem_map.2 ⟨x,hx,rfl⟩)
  have := jk (eP q.kind 0 (q.inputs.map bY) (0,0)).2 24
  simp only at h
  omega
 ·rw [zy h1] at h ⊢
  refine ⟨nh _ _,fun x hx=>?_⟩
  have := hk.2 (bY x) (List.mem_map.2 ⟨x,hx,rfl⟩)
  have := jk (eP q.kind 0 (q.inputs.map bY) (0,0)).2 (eP q.kind 0 (q.inputs.map bY) (0,0)).1
  simp only at h
  omega
theorem most_scan {q : LQuery} (h : q.kind = 1) : (bY q).1 = 24 := by rw [lC,zp h]
theorem ow {q x : LQuery} (h : (bY q).2 ≤ 20000) (hk : q.kind ≠ 1) (hi : q.inputs = [x]) : (bY q).1 = (bY x).1 := by
 have hm := gP h
 have hx := hm.2 x (by rw [hi]; simp)
 have hx1 := (gP hx).1
 rw [lC,zy hk,hi]
 show mF (bY x).1 = _
 unfold mF
 rw [zy (by omega)]
theorem mH {q x y : LQuery} (h : (bY q).2 ≤ 20000) (hk : q.kind ≠ 1) (hi : q.inputs = [x,y]) : (bY q).1 = (if q.kind = 6 then (bY x).1 + (bY y).1 else if q.kind = 4 ∨ q.kind = 5 then (bY x).1 * dR 1 (bY y).1 else (bY x).1) := by
 have hm := gP h
 have hx := hm.2 x (by rw [hi]; simp)
 have hx1 := (gP hx).1
 have h1 := hm.1
 have hc : mF (bY x).1 = (bY x).1 := by unfold mF; rw [zy (by omega)]
 have e : (bY q).1 = mF (if q.kind = 6 then (bY x).1 + (bY y).1 else if q.kind = 4 ∨ q.kind = 5 then (bY x).1 * dR 1 (bY y).1 else (bY x).1) := by
  rw [lC,zy hk,hi]
  show (iO q.kind (iO q.kind (0,0) 0 (bY x)) 1 (bY y)).1 = _
  unfold iO
  simp [hc]
 rw [e]
 exact capI_eq (by rw [← e]; omega)
def bH (r : LRun) (q : LQuery) : List LCol := (fD ⟨r.s,r.vars⟩ q).1
theorem kX {r : LRun} {q : LQuery} (h : SmallQ q) : gG r q = some (bH r q) := by
 unfold gG
 rw [cols_ok _ q h]
 rfl
def hX (r : LRun) (cols : List LCol) (q : LQuery) (x : Rq) : Bool := la (dh (bN r cols x) (e0Q q))
def pO (q : LQuery) (l : Rows) : Rows := (l.take (q.offset.toNat + q.count.toNat)).drop q.offset.toNat
def ed (r : LRun) (q : LQuery) (cs : List (List LCol)) (ins : List Rows) : Rows :=
 if q.kind = 1 then (match r.st.find? fun x=>x.table == q.table with | some x=>x.rows | none=>[])
 else if q.kind = 4 ∨ q.kind = 5 then kn (hX r (cs.getD 0 [] ++ cs.getD 1 []) q) (q.kind == 5) (List.replicate (cs.getD 1 []).length .nul) (ins.getD 0 []) (ins.getD 1 [])
 else if q.kind = 6 then ins.getD 0 [] ++ ins.getD 1 []
 else if q.kind = 7 then lx (ins.getD 0 []) (ins.getD 1 [])
 else if q.kind = 2 then (ins.getD 0 []).filter (hX r (cs.getD 0 []) q)
 else if q.kind = 3 then (ins.getD 0 []).map fun x=>q.exprs.map fun e=>dh (bN r (cs.getD 0 []) x) e
 else if q.kind = 8 then nj r (cs.getD 0 []) q (ins.getD 0 [])
 else if q.kind = 9 then (fX r q (cs.getD 0 []) (ins.getD 0 [])).getD []
 else pO q (ins.getD 0 [])
def bA (r : LRun) (q : LQuery) : Rows := ed r q (q.inputs.map (bH r)) (q.inputs.attach.map fun x=>bA r x.1)
termination_by SizeOf.sizeOf q
decreasing_by exact LQuery.inputs_lt x.2
theorem dZ (r : LRun) (q : LQuery) : bA r q = ed r q (q.inputs.map (bH r)) (q.inputs.map (bA r)) := by
 rw [bA,List.attach_map_val (f := bA r)]
theorem find_st {s : LSchema} {st : List LRelation} (h : InstOk s st) (name : List UInt8) : ∀ t,s.tables.find? (fun t=>t.name == name) = some t → ∃ x,st.find? (fun x=>x.table == name) = some x ∧ x.rows.length ≤ 24 ∧ ∀ row ∈ x.rows,fm t.columns row := by
 obtain ⟨hl,ht⟩ := h
 intro t hf
 generalize s.tables = ts at *
 induction ts generalizing st with
 | nil=>simp at hf
 | cons a ts ih =>
  cases st with
  | nil=>simp at hl
  | cons r st =>
   obtain ⟨h1,h2,h3⟩ := ht 0 r a rfl rfl
   rw [List.find?_cons] at hf ⊢
   rw [h1]
   cases hn : a.name == name with
   | true =>
    rw [hn] at hf
    simp at hf
    subst hf
    exact ⟨r,rfl,h2,h3⟩
   | false =>
    rw [hn] at hf
    simp only at hf ⊢
    exact ih (by simpa using hl) (fun i r' t' a b=>ht (i + 1) r' t' (by simpa using a) (by simpa using b)) hf
structure RowsOk (r : LRun) (q : LQuery) : Prop where
 pos : 1 ≤ (bY q).1
 len : ((bA r q).length : Int) ≤ (bY q).1
 fits : ∀ row ∈ bA r q,fm (bH r q) row
structure QOk (r : LRun) (q : LQuery) : Prop where
 small : SmallQ q
 cols : (fD ⟨r.s,r.vars⟩ q).2 = 0
 most : (bY q).2 ≤ 20000
 params : mD r (gU q)
theorem params_sub {q x : LQuery} (h : x ∈ q.inputs) : ∀ p ∈ gU x,p ∈ gU q := by
 intro p hp
 obtain ⟨l,hl,hp⟩ := List.mem_flatten.1 hp
 obtain ⟨y,hy,rfl⟩ := List.mem_map.1 hl
 exact List.mem_flatten.2 ⟨_,List.mem_map.2 ⟨y,rf h hy,rfl⟩,hp⟩
theorem QOk.sub {r : LRun} {q x : LQuery} (h : QOk r q) (hx : x ∈ q.inputs) : QOk r x :=
 ⟨h.small.sub hx,(qi h.cols).2.1 x hx,(gP h.most).2 x hx,fun i k hm=>h.params i k (params_sub hx _ hm)⟩
theorem QOk.expr {r : LRun} {q : LQuery} (h : QOk r q) {e : LExpr} (he : e ∈ q.exprs) : mD r (dd e) := fun i k hm=>h.params i k (List.mem_flatten.2 ⟨jc q,List.mem_map.2 ⟨q,nK q,rfl⟩,List.mem_append_left _ (List.mem_flatten.2 ⟨_,List.mem_map.2 ⟨e,he,rfl⟩,hm⟩)⟩)
theorem QOk.agg {r : LRun} {q : LQuery} (h : QOk r q) {a : LAggregateCall} (ha : a ∈ q.aggregates) : mD r ((a.args.map dd).flatten) := fun i k hm=>h.params i k (List.mem_flatten.2 ⟨jc q,List.mem_map.2 ⟨q,nK q,rfl⟩,List.mem_append_right _ (List.mem_flatten.2 ⟨_,List.mem_map.2 ⟨a,ha,rfl⟩,hm⟩)⟩)
theorem joinR_mem {f : Rq → Bool} {left : Bool} {pad row : Rq} {a b : Rows} (h : row ∈ kn f left pad a b) : ∃ x ∈ a,(∃ y ∈ b,row = x ++ y) ∨ (left = true ∧ row = x ++ pad) := by
 unfold kn at h
 obtain ⟨l,hl,hr⟩ := List.mem_flatten.1 h
 obtain ⟨x,hx,rfl⟩ := List.mem_map.1 hl
 refine ⟨x,hx,?_⟩
 unfold padR at hr
 split at hr
 ·rename_i hc; simp at hr; exact .inr ⟨hc.1,hr⟩
 ·unfold ii at hr
  obtain ⟨y,hy,rfl⟩ := List.mem_map.1 (List.mem_filter.1 hr).1
  exact .inl ⟨y,hy,rfl⟩
theorem two {q : LQuery} (h : q.inputs.length = 2) : ∃ x y,q.inputs = [x,y] := by
 match hq : q.inputs,h with
 | [x,y],_=>exact ⟨x,y,rfl⟩
theorem one {q : LQuery} (h : q.inputs.length = 1) : ∃ x,q.inputs = [x] := by
 match hq : q.inputs,h with
 | [x],_=>exact ⟨x,rfl⟩
theorem colsR_out {r : LRun} {q : LQuery} (h : QOk r q) : (iM ⟨r.s,r.vars⟩ q (q.inputs.map (bH r))).2 = 0 ∧ bH r q = (iM ⟨r.s,r.vars⟩ q (q.inputs.map (bH r))).1 := by
 obtain ⟨_,_,h3,h4,_⟩ := qi h.cols
 exact ⟨h3,h4⟩
theorem set_fits {kind : Int} {a b : List LCol} {row : Rq} (h : (ky kind a b).2 = 0) (hr : fm a row ∨ (kind = 6 ∧ fm b row)) : fm (ky kind a b).1 row := by
 unfold ky at h ⊢
 by_cases hc : a.length = b.length ∧ a.map LCol.kind = b.map LCol.kind
 ·rw [zp hc]
  refine ⟨?_,fun i c x hci hx=>?_⟩
  ·rcases hr with hr | ⟨_,hr⟩
   ·simp [hr.1,hc.1]
   ·simp [hr.1,hc.1]
  ·rw [List.getElem?_zipWith] at hci
   cases ha : a[i]? with
   | none=>rw [ha] at hci; simp at hci
   | some u =>
    cases hb : b[i]? with
    | none=>rw [ha,hb] at hci; simp at hci
    | some v =>
     rw [ha,hb] at hci
     simp only [zo] at hci
     subst hci
     have hk : u.kind = v.kind := by
      have := congrArg (fun l=>l[i]?) hc.2
      simpa [ha,hb] using this
     rcases hr with hr | ⟨h6,hr⟩
     ·exact (hr.2 i u x ha hx).weak fun hn=>by simp [hn]
     ·have := hr.2 i v x hb hx
      rw [← hk] at this
      exact this.weak fun hn=>by simp [hn,h6]
 ·rw [zy hc] at h; simp at h
theorem join_fits {a b : List LCol} {left : Bool} {x y : Rq} (hx : fm a x) (hy : fm b y) : fm (jo a b left) (x ++ y) := by
 unfold jo
 refine hx.append ⟨by simp [hy.1],fun i c v hc hv=>?_⟩
 rw [List.getElem?_map,Option.map_eq_some_iff] at hc
 obtain ⟨d,hd,rfl⟩ := hc
 exact (hy.2 i d v hd hv).weak fun hn=>by simp [hn]
theorem pad_fits {a b : List LCol} {x : Rq} (hx : fm a x) : fm (jo a b true) (x ++ List.replicate b.length .nul) := by
 unfold jo
 refine hx.append ⟨by simp,fun i c v hc hv=>?_⟩
 rw [List.getElem?_map,Option.map_eq_some_iff] at hc
 obtain ⟨d,hd,rfl⟩ := hc
 rw [List.getElem?_replicate] at hv
 split at hv
 ·cases hv; exact il (by simp)
 ·cases hv
theorem rows_fit {r : LRun} (hr : RunOk r) : ∀ q : LQuery,QOk r q → RowsOk r q := by
 refine LQuery.ind fun q ih h=>?_
 have hs := shape_ok (qi h.cols).1
 obtain ⟨ho,hcol⟩ := colsR_out h
 have hself := h.small.self
 have hm := (gP h.most).1
 have kk : q.kind = 1 ∨ q.kind = 2 ∨ q.kind = 3 ∨ q.kind = 4 ∨ q.kind = 5 ∨ q.kind = 6 ∨ q.kind = 7 ∨ q.kind = 8 ∨ q.kind = 9 ∨ q.kind = 10 := by have := hs.kind; omega
 have hall : ∀ x ∈ q.inputs,RowsOk r x := fun x hx=>ih x hx (h.sub hx)
 rcases kk with k | k | k | k | k | k | k | k | k | k
 ·-- scan
  have hmq := most_scan k
  unfold iM at ho hcol
  rw [zp k] at ho hcol
  cases hf : r.s.tables.find? (fun t=>t.name == q.table) with
  | none=>rw [hf] at ho; simp at ho
  | some t =>
   rw [hf] at hcol
   obtain ⟨x,hx,hl,hfit⟩ := find_st hr.inst q.table t hf
   have e : bA r q = x.rows := by rw [dZ]; unfold ed; rw [zp k,hx]
   exact ⟨by omega,by rw [e]; omega,by rw [e,hcol]; exact hfit⟩
 all_goals have har := hs.arity
 all_goals rw [k] at har
 all_goals simp only [od] at har
 ·-- filter
  obtain ⟨x,hi⟩ := one (q := q) (by simpa using har)
  have hx := hall x (by rw [hi]; simp)
  have hmq := ow h.most (by omega) hi
  rw [hi] at hcol ho
  unfold iM at ho hcol
  rw [zy (by omega),zp k] at ho hcol
  have e : bA r q = (bA r x).filter (hX r (bH r x) q) := by rw [dZ,hi]; unfold ed; rw [zy (by omega),zy (by omega),zy (by omega),zy (by omega),zp k]; rfl
  have hcx : bH r q = bH r x := hcol
  have := List.length_filter_le (hX r (bH r x) q) (bA r x)
  refine ⟨by rw [hmq]; exact hx.pos,by rw [hmq,e]; have := hx.len; omega,fun row hrow=>?_⟩
  rw [e] at hrow
  rw [hcx]
  exact hx.fits row (List.mem_filter.1 hrow).1
 ·-- project
  obtain ⟨x,hi⟩ := one (q := q) (by simpa using har)
  have hx := hall x (by rw [hi]; simp)
  have hmq := ow h.most (by omega) hi
  rw [hi] at hcol ho
  unfold iM at ho hcol
  rw [zy (by omega),zy (by omega),zy (by omega),zy (by omega),zp (.inl k)] at ho hcol
  have e : bA r q = (bA r x).map fun y=>q.exprs.map fun e=>dh (bN r (bH r x) y) e := by rw [dZ,hi]; unfold ed; rw [zy (by omega),zy (by omega),zy (by omega),zy (by omega),zy (by omega),zp k]; rfl
  have hag : q.aggregates = [] := hs.aggs (by omega)
  change (lY r.vars (bH r x) q).2 = 0 at ho
  change bH r q = (lY r.vars (bH r x) q).1 at hcol
  unfold lY at ho hcol
  by_cases hn : (cT r.vars (bH r x) q.exprs q.names).2 = 0
  ·rw [zy (by simpa using hn),hag] at hcol
   simp only [eu,ne_eq,not_true_eq_false,if_false,List.append_nil] at hcol
   obtain ⟨hl,hinv⟩ := mM r.vars (bH r x) q.exprs q.names (hs.named (.inl k)) hn
   refine ⟨by rw [hmq]; exact hx.pos,by rw [hmq,e]; simpa using hx.len,fun row hrow=>?_⟩
   rw [e] at hrow
   obtain ⟨y,hy,rfl⟩ := List.mem_map.1 hrow
   rw [hcol]
   refine fm.map hl fun i e' c he hc=>?_
   obtain ⟨ht,d,hd,hk,hnl⟩ := hinv i e' he
   rw [hc] at hd
   cases hd
   rw [hk,hnl]
   exact qO hr (hx.fits y hy) ht (h.expr (gp he))
  ·rw [zp hn] at ho; exact absurd ho hn
 ·-- inner join
  obtain ⟨x,y,hi⟩ := two (q := q) (by simpa using har)
  have hx := hall x (by rw [hi]; simp)
  have hy := hall y (by rw [hi]; simp)
  have hmq := mH h.most (by omega) hi
  rw [zy (by omega),zp (.inl k)] at hmq
  rw [hi] at hcol ho
  unfold iM at ho hcol
  rw [zy (by omega),zy (by omega),zp (.inl k)] at ho hcol
  have e : bA r q = kn (hX r (bH r x ++ bH r y) q) (q.kind == 5) (List.replicate (bH r y).length .nul) (bA r x) (bA r y) := by rw [dZ,hi]; unfold ed; rw [zy (by omega),zp (.inl k)]; rfl
  have hcx : bH r q = jo (bH r x) (bH r y) (q.kind == 5) := hcol
  have hb := ra (hX r (bH r x ++ bH r y) q) (q.kind == 5) (List.replicate (bH r y).length .nul) (bA r x) (bA r y)
  have hxl := hx.len
  have hyl := hy.len
  have hpos := hx.pos
  have h1m : 1 ≤ dR 1 (bY y).1 ∧ ((max 1 (bA r y).length : Nat) : Int) ≤ dR 1 (bY y).1 := ⟨jk _ _,by have := jk 1 (bY y).1; have := nh 1 (bY y).1; omega⟩
  refine ⟨?_,?_,fun row hrow=>?_⟩
  ·rw [hmq]
   exact Int.le_trans hpos (by have := Int.mul_le_mul_of_nonneg_left h1m.1 (show 0 ≤ (bY x).1 by omega); omega)
  ·rw [e,hmq]
   have h2 : (((bA r x).length * max 1 (bA r y).length : Nat) : Int) ≤ (bY x).1 * dR 1 (bY y).1 := by
    rw [Int.natCast_mul]
    exact Int.mul_le_mul hxl h1m.2 (by omega) (by omega)
   omega
  ·rw [e] at hrow
   rw [hcx]
   obtain ⟨u,hu,⟨v,hv,rfl⟩ | ⟨hl,rfl⟩⟩ := joinR_mem hrow
   ·exact join_fits (hx.fits u hu) (hy.fits v hv)
   ·rw [hl]; exact pad_fits (hx.fits u hu)
 ·-- left join
  obtain ⟨x,y,hi⟩ := two (q := q) (by simpa using har)
  have hx := hall x (by rw [hi]; simp)
  have hy := hall y (by rw [hi]; simp)
  have hmq := mH h.most (by omega) hi
  rw [zy (by omega),zp (.inr k)] at hmq
  rw [hi] at hcol ho
  unfold iM at ho hcol
  rw [zy (by omega),zy (by omega),zp (.inr k)] at ho hcol
  have e : bA r q = kn (hX r (bH r x ++ bH r y) q) (q.kind == 5) (List.replicate (bH r y).length .nul) (bA r x) (bA r y) := by rw [dZ,hi]; unfold ed; rw [zy (by omega),zp (.inr k)]; rfl
  have hcx : bH r q = jo (bH r x) (bH r y) (q.kind == 5) := hcol
  have hb := ra (hX r (bH r x ++ bH r y) q) (q.kind == 5) (List.replicate (bH r y).length .nul) (bA r x) (bA r y)
  have hxl := hx.len
  have hyl := hy.len
  have hpos := hx.pos
  have h1m : 1 ≤ dR 1 (bY y).1 ∧ ((max 1 (bA r y).length : Nat) : Int) ≤ dR 1 (bY y).1 := ⟨jk _ _,by have := jk 1 (bY y).1; have := nh 1 (bY y).1; omega⟩
  refine ⟨?_,?_,fun row hrow=>?_⟩
  ·rw [hmq]
   exact Int.le_trans hpos (by have := Int.mul_le_mul_of_nonneg_left h1m.1 (show 0 ≤ (bY x).1 by omega); omega)
  ·rw [e,hmq]
   have h2 : (((bA r x).length * max 1 (bA r y).length : Nat) : Int) ≤ (bY x).1 * dR 1 (bY y).1 := by
    rw [Int.natCast_mul]
    exact Int.mul_le_mul hxl h1m.2 (by omega) (by omega)
   omega
  ·rw [e] at hrow
   rw [hcx]
   obtain ⟨u,hu,⟨v,hv,rfl⟩ | ⟨hl,rfl⟩⟩ := joinR_mem hrow
   ·exact join_fits (hx.fits u hu) (hy.fits v hv)
   ·rw [hl]; exact pad_fits (hx.fits u hu)
 ·-- union
  obtain ⟨x,y,hi⟩ := two (q := q) (by simpa using har)
  have hx := hall x (by rw [hi]; simp)
  have hy := hall y (by rw [hi]; simp)
  have hmq := mH h.most (by omega) hi
  rw [zp k] at hmq
  rw [hi] at hcol ho
  unfold iM at ho hcol
  rw [zy (by omega),zy (by omega),zy (by omega),zp (.inl k)] at ho hcol
  have e : bA r q = bA r x ++ bA r y := by rw [dZ,hi]; unfold ed; rw [zy (by omega),zy (by omega),zp k]; rfl
  change (ky q.kind (bH r x) (bH r y)).2 = 0 at ho
  change bH r q = (ky q.kind (bH r x) (bH r y)).1 at hcol
  have := hx.len
  have := hy.len
  have := hx.pos
  have := hy.pos
  refine ⟨by omega,by rw [e,hmq]; simp; omega,fun row hrow=>?_⟩
  rw [e] at hrow
  rw [hcol]
  rcases List.mem_append.1 hrow with hrow | hrow
  ·exact set_fits ho (.inl (hx.fits row hrow))
  ·exact set_fits ho (.inr ⟨k,hy.fits row hrow⟩)
 ·-- difference
  obtain ⟨x,y,hi⟩ := two (q := q) (by simpa using har)
  have hx := hall x (by rw [hi]; simp)
  have hmq := mH h.most (by omega) hi
  rw [zy (by omega),zy (by omega)] at hmq
  rw [hi] at hcol ho
  unfold iM at ho hcol
  rw [zy (by omega),zy (by omega),zy (by omega),zp (.inr k)] at ho hcol
  have e : bA r q = lx (bA r x) (bA r y) := by rw [dZ,hi]; unfold ed; rw [zy (by omega),zy (by omega),zy (by omega),zp k]; rfl
  change (ky q.kind (bH r x) (bH r y)).2 = 0 at ho
  change bH r q = (ky q.kind (bH r x) (bH r y)).1 at hcol
  have hsub := qT (bA r x) (bA r y)
  have := hsub.length_le
  have := hx.len
  have := hx.pos
  refine ⟨by omega,by rw [e,hmq]; omega,fun row hrow=>?_⟩
  rw [e] at hrow
  rw [hcol]
  exact set_fits ho (.inl (hx.fits row (hsub.subset hrow)))
 ·-- aggregation
  obtain ⟨x,hi⟩ := one (q := q) (by simpa using har)
  have hx := hall x (by rw [hi]; simp)
  have hmq := ow h.most (by omega) hi
  rw [hi] at hcol ho
  unfold iM at ho hcol
  rw [zy (by omega),zy (by omega),zy (by omega),zy (by omega),zp (.inr k)] at ho hcol
  have e : bA r q = nj r (bH r x) q (bA r x) := by rw [dZ,hi]; unfold ed; rw [zy (by omega),zy (by omega),zy (by omega),zy (by omega),zy (by omega),zy (by omega),zp k]; rfl
  change (lY r.vars (bH r x) q).2 = 0 at ho
  change bH r q = (lY r.vars (bH r x) q).1 at hcol
  have hxl := hx.len
  have hxp := hx.pos
  have hxm := (gP h.most).2 x (by rw [hi]; simp)
  have hxm1 := (gP hxm).1
  unfold lY at ho hcol
  by_cases hn : (cT r.vars (bH r x) q.exprs q.names).2 = 0
  ·rw [zy (by simpa using hn)] at hcol ho
   by_cases hg : (eu r.vars (bH r x) q.aggregates).2 = 0
   ·rw [zy (by simpa using hg)] at hcol
    obtain ⟨hl,hinv⟩ := mM r.vars (bH r x) q.exprs q.names (hs.named (.inr k)) hn
    obtain ⟨hl2,hinv2⟩ := qv r.vars (bH r x) q.aggregates hg
    have hkeys := oO (fun x_1=>q.exprs.map fun e=>dh (bN r (bH r x) x_1) e) (bA r x) (if q.exprs = [] then [[]] else [])
    have hlen : ((nj r (bH r x) q (bA r x)).length : Int) ≤ (bY x).1 := by
     unfold nj
     rw [zl]
     by_cases hee : q.exprs = []
     ·-- without keys there is one group
      have : ∀ (l ks : Rows),ks = [[]] → fu (fun x_1=>q.exprs.map fun e=>dh (bN r (bH r x) x_1) e) ks l = [[]] := by
       intro l
       induction l with
       | nil=>intro ks hk; simpa [fu] using hk
       | cons z l ih2 =>
        intro ks hk
        rw [fu]
        refine ih2 _ ?_
        rw [zp (by rw [hk,hee]; simp),hk]
      rw [this _ _ (by rw [zp hee])]
      simp
      omega
     ·rw [zy hee] at hkeys ⊢
      simp at hkeys
      omega
    refine ⟨by rw [hmq]; exact hxp,by rw [hmq,e]; exact hlen,fun row hrow=>?_⟩
    rw [e] at hrow
    rw [hcol]
    unfold nj at hrow
    obtain ⟨kk,hkk,rfl⟩ := List.mem_map.1 hrow
    refine fm.append ?_ ?_
    ·rcases (pi _ _ _ _).1 hkk with hk0 | ⟨y,hy,rfl⟩
     ·split at hk0
      ·rename_i hee
       simp at hk0
       subst hk0
       rw [hee] at hl ⊢
       exact ⟨by simpa using hl.symm,fun i c v hc hv=>by simp at hv⟩
      ·simp at hk0
     ·refine fm.map hl fun i e' c he hc=>?_
      obtain ⟨ht,d,hd,hk,hnl⟩ := hinv i e' he
      rw [hc] at hd
      cases hd
      rw [hk,hnl]
      exact qO hr (hx.fits y hy) ht (h.expr (gp he))
    ·refine ⟨by simp [hl2],fun i c v hc hv=>?_⟩
     rw [List.getElem?_map,Option.map_eq_some_iff] at hv
     obtain ⟨a,ha,rfl⟩ := hv
     obtain ⟨hq,d,hd,hk,hnl⟩ := hinv2 i a ha
     rw [hc] at hd
     cases hd
     rw [hk,hnl]
     refine agg_fits hr hq (fun row hrow=>hx.fits row (List.mem_filter.1 hrow).1) ?_ (h.agg (gp ha))
     unfold fH
     exact Nat.le_trans (List.length_filter_le _ _) (by omega)
   ·rw [zp hg] at ho; exact absurd ho hg
  ·rw [zp hn] at ho; exact absurd ho hn
 ·-- sort
  obtain ⟨x,hi⟩ := one (q := q) (by simpa using har)
  have hx := hall x (by rw [hi]; simp)
  have hmq := ow h.most (by omega) hi
  rw [hi] at hcol ho
  unfold iM at ho hcol
  rw [zy (by omega),zy (by omega),zy (by omega),zy (by omega),zy (by omega),zp k] at ho hcol
  have hxm := (gP h.most).2 x (by rw [hi]; simp)
  have hxm1 := (gP hxm).1
  have hxl := hx.len
  obtain ⟨l',hsort,hperm⟩ := sort_ok r q (bH r x) (bA r x) (by omega) hself.1
  have e : bA r q = l' := by rw [dZ,hi]; unfold ed; rw [zy (by omega),zy (by omega),zy (by omega),zy (by omega),zy (by omega),zy (by omega),zy (by omega),zp k]; show (fX r q (bH r x) (bA r x)).getD [] = l'; rw [hsort]; rfl
  have hcx : bH r q = bH r x := by
   by_cases hse : jw r.vars (bH r x) q.exprs = 0
   ·exact hcol.trans (by show (if jw r.vars (bH r x) q.exprs ≠ 0 then _ else _ : List LCol × Int).1 = _; rw [zy (by simpa using hse)]; rfl)
   ·exact absurd (by
     have : (if jw r.vars (bH r x) q.exprs ≠ 0 then (([],jw r.vars (bH r x) q.exprs) : List LCol × Int) else (bH r x,0)).2 = 0 := ho
     rw [zp hse] at this
     exact this) hse
  refine ⟨by rw [hmq]; exact hx.pos,by rw [hmq,e,hperm.length_eq]; exact hxl,fun row hrow=>?_⟩
  rw [e] at hrow
  rw [hcx]
  exact hx.fits row (hperm.mem_iff.1 hrow)
 ·-- limit
  obtain ⟨x,hi⟩ := one (q := q) (by simpa using har)
  have hx := hall x (by rw [hi]; simp)
  have hmq := ow h.most (by omega) hi
  rw [hi] at hcol ho
  unfold iM at ho hcol
  rw [zy (by omega),zy (by omega),zy (by omega),zy (by omega),zy (by omega),zy (by omega)] at ho hcol
  have hcx : bH r q = bH r x := hcol
  have e : bA r q = pO q (bA r x) := by rw [dZ,hi]; unfold ed; rw [zy (by omega),zy (by omega),zy (by omega),zy (by omega),zy (by omega),zy (by omega),zy (by omega),zy (by omega)]; rfl
  have hsub : (pO q (bA r x)).Sublist (bA r x) := (List.drop_sublist _ _).trans (List.take_sublist _ _)
  have := hsub.length_le
  have := hx.len
  refine ⟨by rw [hmq]; exact hx.pos,by rw [hmq,e]; omega,fun row hrow=>?_⟩
  rw [e] at hrow
  rw [hcx]
  exact hx.fits row (hsub.subset hrow)
theorem rowLen {cols : List LCol} {row : Rq} (h : fm cols row) (hc : cols.length ≤ 20) : row.length ≤ 20 := by rw [h.1]; exact hc
theorem scan_run (st : List LRelation) (name : List UInt8) : ai (aW (σ := Unit) (ρ := (Rows)) (fun (_ : Nat) (x1 : LRelation) (_ : Unit)=>cond (x1.table == name) (some (.ret x1.rows)) (some (.next ()))) 0 st ()) (fun fl1=>fl1.thenR fun (_ : Unit)=>some []) =
  some (match st.find? fun x=>x.table == name with | some x=>x.rows | none=>[]) := by
 rw [mP (fun x : LRelation=>x.table == name) (fun _ x=>x.rows) st 0 (fun k x _=>by cases x.table == name <;> rfl)]
 rcases find_idx (fun x : LRelation=>x.table == name) st with ⟨h1,h2⟩ | ⟨x,h1,h2,h3⟩
 ·rw [h1]
  unfold bt at h2
  cases hf : st.findIdx? (fun x=>x.table == name) with
  | none=>rfl
  | some i=>rw [hf] at h2; simp only at h2; omega
 ·rw [h1]
  unfold bt at h2 h3
  cases hf : st.findIdx? (fun x=>x.table == name) with
  | none=>rw [hf] at h2; simp at h2
  | some i =>
   rw [hf] at h3
   simp only [Int.toNat_natCast] at h3
   simp only [h3]
   rfl
theorem limit_run (l : Rows) (q : LQuery) (hl : l.length ≤ 1000000) (hc : 0 ≤ q.count) (ho : 0 ≤ q.offset) :
  ny l (if (l.length : Int) < q.offset then (l.length : Int) else q.offset) (IntKind.i64.wrap ((if (l.length : Int) < q.offset then (l.length : Int) else q.offset) + (if (IntKind.i64.wrap ((l.length : Int) - (if (l.length : Int) < q.offset then (l.length : Int) else q.offset))) < q.count then (IntKind.i64.wrap ((l.length : Int) - (if (l.length : Int) < q.offset then (l.length : Int) else q.offset))) else q.count))) = some (pO q l) := by
 obtain ⟨o,ho'⟩ : ∃ o : Nat,q.offset = o := ⟨q.offset.toNat,by omega⟩
 obtain ⟨c,hc'⟩ : ∃ c : Nat,q.count = c := ⟨q.count.toNat,by omega⟩
 unfold pO
 rw [ho',hc',Int.toNat_natCast,Int.toNat_natCast]
 by_cases h1 : (l.length : Int) < (o : Int)
 ·rw [zp h1,bD (n := (l.length : Int) - (l.length : Int)) (by omega) (by omega)]
  have e : (if (l.length : Int) - (l.length : Int) < (c : Int) then (l.length : Int) - (l.length : Int) else (c : Int)) = 0 := by split <;> omega
  rw [e,bD (by omega) (by omega),pF ⟨by omega,by omega,by omega⟩]
  congr 1
  rw [List.drop_of_length_le (by simp only [List.length_take]; omega)]
  symm
  exact List.drop_of_length_le (by simp only [List.length_take]; omega)
 ·rw [zy h1,bD (n := (l.length : Int) - (o : Int)) (by omega) (by omega)]
  by_cases h2 : (l.length : Int) - (o : Int) < (c : Int)
  ·rw [zp h2,bD (by omega) (by omega),pF ⟨by omega,by omega,by omega⟩]
   rw [Int.toNat_natCast,List.take_of_length_le (i := ((o : Int) + ((l.length : Int) - (o : Int))).toNat) (by omega),List.take_of_length_le (i := o + c) (by omega)]
  ·rw [zy h2,bD (by omega) (by omega),pF ⟨by omega,by omega,by omega⟩]
   rw [Int.toNat_natCast,show ((o : Int) + (c : Int)).toNat = o + c from by omega]
theorem join_run2 (r : LRun) (q : LQuery) (ca cb : List LCol) (e : LExpr) (he : aG q.exprs 0 = some e) (hee : e = e0Q q) (a b : Rows) (ha : ∀ x ∈ a,x.length ≤ 20) (hb : ∀ x ∈ b,x.length ≤ 20) (hcb : cb.length ≤ 20) (hsz : a.length * max 1 b.length ≤ 30000) (_hk : q.kind = 4 ∨ q.kind = 5) :
  ai (aW (σ := List LCol × Rows) (ρ := Empty) (fun (_ : Nat) (x1 : Rq) (s1 : List LCol × Rows) =>
  ai (aW (σ := Rows × Bool) (ρ := Empty) (fun (_ : Nat) (x6 : Rq) (s6 : Rows × Bool) =>
   ai (cr ([x1,x6] : Rows)) fun x58 =>
   ai (aG q.exprs 0) fun (x65 : LExpr) =>
   bf (bN r s1.1 x58) fun x62 =>
   bf (dh x62 x65) fun x67 =>
   bf (la x67) fun x68 =>
   cond x68
    (ai (dT 24 s6.1 ([x58] : Rows)) fun (x72 : Rows) =>
    some (.next (x72,true)))
    (some (.next (s6.1,s6.2)))) 0 b (s1.2,false)) fun fl6=>fl6.thenP fun (s6 : Rows × Bool) =>
  bf (
   cond (!s6.2)
    ((q.kind == (5 : Int)))
    (false)) fun (t7 : Bool) =>
  cond t7
   (ai (oW 32 (cb.length : Int)) fun (_ : Unit) =>
   ai (cr ([x1,(List.replicate (cb.length : Int).toNat (LVal.mk 0 0 []))] : Rows)) fun x87 =>
   ai (dT 24 s6.1 ([x87] : Rows)) fun (x89 : Rows) =>
   some (.next (s1.1,x89)))
   (some (.next (s1.1,s6.1)))) 0 a (ca ++ cb,[])) (fun fl1=>fl1.thenP fun (s1 : List LCol × Rows)=>some s1.2) = some (kn (hX r (ca ++ cb) q) (q.kind == 5) (List.replicate cb.length .nul) a b) := by
 have hpl : ∀ k,k ≤ a.length → (kn (hX r (ca ++ cb) q) (q.kind == 5) (List.replicate cb.length .nul) (a.take k) b).length ≤ 30000 := fun k hk=>by
  have h1 := ra (hX r (ca ++ cb) q) (q.kind == 5) (List.replicate cb.length .nul) (a.take k) b
  rw [List.length_take,Nat.min_eq_left hk] at h1
  exact Nat.le_trans h1 (Nat.le_trans (Nat.mul_le_mul_right _ hk) hsz)
 rw [rMa (xs := a) (s := (ca ++ cb,[])) (fun k=>(ca ++ cb,kn (hX r (ca ++ cb) q) (q.kind == 5) (List.replicate cb.length .nul) (a.take k) b)) rfl (fun k x hkx=>by
  have hkl := (zg.1 hkx).1
  have hxm := gp hkx
  have hbl : b.length ≤ 30000 := by
   have h1 : 1 * max 1 b.length ≤ a.length * max 1 b.length := Nat.mul_le_mul_right _ (by omega)
   omega
  have h2 := hpl k (by omega)
  simp only
  rw [match_run (hX r (ca ++ cb) q) e r (ca ++ cb) q.exprs he (fun z=>by rw [hee]; rfl) x (by have := ha x hxm; omega) b _ false (fun y hy=>by have := hb y hy; omega) (by omega),bPs,bW]
  have hs : kn (hX r (ca ++ cb) q) (q.kind == 5) (List.replicate cb.length .nul) (a.take (k + 1)) b = kn (hX r (ca ++ cb) q) (q.kind == 5) (List.replicate cb.length .nul) (a.take k) b ++ padR (hX r (ca ++ cb) q) (q.kind == 5) (List.replicate cb.length .nul) x b := by
   unfold kn
   rw [List.take_add_one,hkx,List.map_append,List.flatten_append]
   simp
  rw [hs]
  simp only [bV,Bool.false_or]
  have hml : (ii (hX r (ca ++ cb) q) x b).length ≤ 30000 := by unfold ii; exact Nat.le_trans (List.length_filter_le _ _) (by simpa using hbl)
  cases hm : ii (hX r (ca ++ cb) q) x b with
  | nil =>
   by_cases h5 : q.kind = 5
   ·have e5 : (q.kind == 5) = true := kD h5
    simp only [e5,List.isEmpty_nil,Bool.not_true,Bool.not_false,zc]
    rw [growI_ok ⟨by omega,by omega,by unfold maxLen; omega⟩,bPs,concat2 x _ (by have := ha x hxm; omega) (by simp; omega),bPs]
    rw [e5] at h2
    rw [cB (by decide) (by simp at h2 ⊢; omega),bPs]
    unfold padR
    rw [zp ⟨rfl,hm⟩]
    simp [LVal.nul]
   ·have e5 : (q.kind == 5) = false := dw h5
    simp only [e5,List.isEmpty_nil,Bool.not_true,Bool.not_false,zc,zd]
    unfold padR
    rw [zy (by simp),hm]
  | cons z zs =>
   simp only [List.isEmpty_cons,Bool.not_false,Bool.not_true,zd]
   unfold padR
   rw [zy (by rw [hm]; simp),hm])]
 rw [bPs,bW,List.take_length]
theorem rows_ev {r : LRun} (hr : RunOk r) : ∀ q : LQuery,QOk r q → ∃ N,∀ n,N ≤ n → fy n r q = some (bA r q) := by
 refine LQuery.ind fun q ih h=>?_
 have hs := shape_ok (qi h.cols).1
 obtain ⟨ho,hcol⟩ := colsR_out h
 have hself := h.small.self
 have hm := (gP h.most).1
 obtain ⟨N,hN⟩ := ev_all (p := fun x n=>fy n r x = some (bA r x)) q.inputs (fun x hx=>ih x hx (h.sub hx))
 have hall : ∀ x ∈ q.inputs,RowsOk r x := fun x hx=>rows_fit hr x (h.sub hx)
 have hsz : ∀ x ∈ q.inputs,(bA r x).length ≤ 20000 := fun x hx=>by
  have h1 := (hall x hx).len
  have h2 := (gP h.most).2 x hx
  have h3 := (gP h2).1
  omega
 have hrow : ∀ x ∈ q.inputs,∀ row ∈ bA r x,row.length ≤ 20 := fun x hx row hrow=>rowLen ((hall x hx).fits row hrow) (kg _ x)
 refine ⟨N + 2,fun n hn=>?_⟩
 obtain ⟨n,rfl⟩ : ∃ k,n = k + 2 := ⟨n - 2,by omega⟩
 rw [fy]
 simp only [kt]
 have kk : q.kind = 1 ∨ q.kind = 2 ∨ q.kind = 3 ∨ q.kind = 4 ∨ q.kind = 5 ∨ q.kind = 6 ∨ q.kind = 7 ∨ q.kind = 8 ∨ q.kind = 9 ∨ q.kind = 10 := by have := hs.kind; omega
 rcases kk with k | k | k | k | k | k | k | k | k | k
 ·rw [kD k,zc,scan_run,dZ]
  unfold ed
  rw [zp k] <;>
   rfl
 all_goals have har := hs.arity
 all_goals rw [k] at har
 all_goals simp only [od] at har
 ·-- filter
  obtain ⟨x,hi⟩ := one (q := q) (by simpa using har)
  have hxm : x ∈ q.inputs := by rw [hi]; simp
  have e : bA r q = (bA r x).filter (hX r (bH r x) q) := by rw [dZ,hi]; unfold ed; rw [zy (by omega),zy (by omega),zy (by omega),zy (by omega),zp k]; rfl
  have hx := hN (n + 1) (by omega) x hxm
  rw [k,hi,e]
  simp only [aG,bV]
  simp only [show ((2 : Int) == 1) = false from rfl,show ((2 : Int) == 4) = false from rfl,show ((2 : Int) == 5) = false from rfl,show ((2 : Int) == 6) = false from rfl,show ((2 : Int) == 7) = false from rfl,show ((2 : Int) == 2) = true from rfl,zd,zc,Int.le_refl,if_true,Int.toNat_zero,List.getElem?_cons_zero,bPs]
  rw [hx,bPs,kX (h.small.sub hxm),bPs]
  rw [deleteFunc_eq (bA r x) (fun a=>!hX r (bH r x) q a) _ (fun a _=>by
   unfold iA
   rw [e0_get (by rw [hs.one (.inl k)]; omega)]
   rfl) (by have := hsz x hxm; omega),bPs]
  simp
 ·-- project
  obtain ⟨x,hi⟩ := one (q := q) (by simpa using har)
  have hxm : x ∈ q.inputs := by rw [hi]; simp
  have e : bA r q = (bA r x).map fun y=>q.exprs.map fun e=>dh (bN r (bH r x) y) e := by rw [dZ,hi]; unfold ed; rw [zy (by omega),zy (by omega),zy (by omega),zy (by omega),zy (by omega),zp k]; rfl
  have hx := hN (n + 1) (by omega) x hxm
  rw [k,hi,e]
  simp only [aG,bV]
  simp only [show ((3 : Int) == 1) = false from rfl,show ((3 : Int) == 4) = false from rfl,show ((3 : Int) == 5) = false from rfl,show ((3 : Int) == 6) = false from rfl,show ((3 : Int) == 7) = false from rfl,show ((3 : Int) == 2) = false from rfl,show ((3 : Int) == 3) = true from rfl,zd,zc,Int.le_refl,if_true,Int.toNat_zero,List.getElem?_cons_zero,bPs]
  rw [hx,bPs,kX (h.small.sub hxm),bPs]
  rw [ql (xs := bA r x) (fun y=>q.exprs.map fun e=>dh (bN r (bH r x) y) e) (fun i y hy=>by
   have hil := (zg.1 hy).1
   have := hsz x hxm
   rw [qu r _ _ _ (by omega),bPs,cB (by decide) (by simp; omega),bPs]),bPs,bW]
 ·-- inner join
  obtain ⟨x,y,hi⟩ := two (q := q) (by simpa using har)
  have hxm : x ∈ q.inputs := by rw [hi]; simp
  have hym : y ∈ q.inputs := by rw [hi]; simp
  have hmq := mH h.most (by omega) hi
  rw [zy (by omega),zp (.inl k)] at hmq
  have e : bA r q = kn (hX r (bH r x ++ bH r y) q) (q.kind == 5) (List.replicate (bH r y).length .nul) (bA r x) (bA r y) := by rw [dZ,hi]; unfold ed; rw [zy (by omega),zp (.inl k)]; rfl
  have hx := hN n (by omega) x hxm
  have hy := hN n (by omega) y hym
  have hprod : (bA r x).length * max 1 (bA r y).length ≤ 30000 := by
   have h1m : ((max 1 (bA r y).length : Nat) : Int) ≤ dR 1 (bY y).1 := by have := jk 1 (bY y).1; have := nh 1 (bY y).1; have := (hall y hym).len; omega
   have h2 : (((bA r x).length * max 1 (bA r y).length : Nat) : Int) ≤ (bY x).1 * dR 1 (bY y).1 := by
    rw [Int.natCast_mul]
    exact Int.mul_le_mul (hall x hxm).len h1m (by omega) (by have := (hall x hxm).pos; omega)
   have := h.most
   omega
  rw [dw (show q.kind ≠ 1 by omega),kD k]
  simp only [zd,zc,bV]
  rw [gD]
  simp only [jr]
  rw [hi]
  have g0 : aG [x,y] 0 = some x := rfl
  have g1 : aG [x,y] 1 = some y := rfl
  simp only [g0,g1,bPs]
  rw [hx,hy]
  simp only [bPs]
  rw [kX (h.small.sub hxm),kX (h.small.sub hym)]
  simp only [bPs]
  rw [cB (by decide) (by have := kg ⟨r.s,r.vars⟩ x; have := kg ⟨r.s,r.vars⟩ y; unfold bH; omega),bPs]
  have he1 : q.exprs.length = 1 := hs.one (.inr (.inl k))
  rw [join_run2 r q (bH r x) (bH r y) (e0Q q) (e0_get (by omega)) rfl (bA r x) (bA r y) (hrow x hxm) (hrow y hym) (kg _ y) hprod (.inl k),bPs,e]
 ·-- left join
  obtain ⟨x,y,hi⟩ := two (q := q) (by simpa using har)
  have hxm : x ∈ q.inputs := by rw [hi]; simp
  have hym : y ∈ q.inputs := by rw [hi]; simp
  have hmq := mH h.most (by omega) hi
  rw [zy (by omega),zp (.inr k)] at hmq
  have e : bA r q = kn (hX r (bH r x ++ bH r y) q) (q.kind == 5) (List.replicate (bH r y).length .nul) (bA r x) (bA r y) := by rw [dZ,hi]; unfold ed; rw [zy (by omega),zp (.inr k)]; rfl
  have hx := hN n (by omega) x hxm
  have hy := hN n (by omega) y hym
  have hprod : (bA r x).length * max 1 (bA r y).length ≤ 30000 := by
   have h1m : ((max 1 (bA r y).length : Nat) : Int) ≤ dR 1 (bY y).1 := by have := jk 1 (bY y).1; have := nh 1 (bY y).1; have := (hall y hym).len; omega
   have h2 : (((bA r x).length * max 1 (bA r y).length : Nat) : Int) ≤ (bY x).1 * dR 1 (bY y).1 := by
    rw [Int.natCast_mul]
    exact Int.mul_le_mul (hall x hxm).len h1m (by omega) (by have := (hall x hxm).pos; omega)
   have := h.most
   omega
  rw [dw (show q.kind ≠ 1 by omega),dw (show q.kind ≠ 4 by omega),kD k]
  simp only [zd,zc,bV]
  rw [gD]
  simp only [jr]
  rw [hi]
  have g0 : aG [x,y] 0 = some x := rfl
  have g1 : aG [x,y] 1 = some y := rfl
  simp only [g0,g1,bPs]
  rw [hx,hy]
  simp only [bPs]
  rw [kX (h.small.sub hxm),kX (h.small.sub hym)]
  simp only [bPs]
  rw [cB (by decide) (by have := kg ⟨r.s,r.vars⟩ x; have := kg ⟨r.s,r.vars⟩ y; unfold bH; omega),bPs]
  have he1 : q.exprs.length = 1 := hs.one (.inr (.inr k))
  rw [join_run2 r q (bH r x) (bH r y) (e0Q q) (e0_get (by omega)) rfl (bA r x) (bA r y) (hrow x hxm) (hrow y hym) (kg _ y) hprod (.inr k),bPs,e]
 ·-- union
  obtain ⟨x,y,hi⟩ := two (q := q) (by simpa using har)
  have hxm : x ∈ q.inputs := by rw [hi]; simp
  have hym : y ∈ q.inputs := by rw [hi]; simp
  have e : bA r q = bA r x ++ bA r y := by rw [dZ,hi]; unfold ed; rw [zy (by omega),zy (by omega),zp k]; rfl
  have hx := hN (n + 1) (by omega) x hxm
  have hy := hN (n + 1) (by omega) y hym
  rw [dw (show q.kind ≠ 1 by omega),dw (show q.kind ≠ 4 by omega),dw (show q.kind ≠ 5 by omega),kD k,hi]
  have g0 : aG [x,y] 0 = some x := rfl
  have g1 : aG [x,y] 1 = some y := rfl
  simp only [zd,zc,bV,g0,g1,bPs]
  have := hsz x hxm
  have := hsz y hym
  rw [hx,hy]
  simp only [bPs]
  rw [cB (by decide) (by omega),bPs,e]
 ·-- difference
  obtain ⟨x,y,hi⟩ := two (q := q) (by simpa using har)
  have hxm : x ∈ q.inputs := by rw [hi]; simp
  have hym : y ∈ q.inputs := by rw [hi]; simp
  have e : bA r q = lx (bA r x) (bA r y) := by rw [dZ,hi]; unfold ed; rw [zy (by omega),zy (by omega),zy (by omega),zp k]; rfl
  have hx := hN (n + 1) (by omega) x hxm
  have hy := hN (n + 1) (by omega) y hym
  rw [dw (show q.kind ≠ 1 by omega),dw (show q.kind ≠ 4 by omega),dw (show q.kind ≠ 5 by omega),dw (show q.kind ≠ 6 by omega),kD k,hi]
  have g0 : aG [x,y] 0 = some x := rfl
  have g1 : aG [x,y] 1 = some y := rfl
  simp only [zd,zc,bV,g0,g1,bPs]
  have := hsz x hxm
  have := hsz y hym
  rw [hx,hy]
  simp only [bPs]
  rw [less_eq _ _ (by omega) (by omega),bPs,e]
 ·-- aggregation
  obtain ⟨x,hi⟩ := one (q := q) (by simpa using har)
  have hxm : x ∈ q.inputs := by rw [hi]; simp
  have e : bA r q = nj r (bH r x) q (bA r x) := by rw [dZ,hi]; unfold ed; rw [zy (by omega),zy (by omega),zy (by omega),zy (by omega),zy (by omega),zy (by omega),zp k]; rfl
  have hx := hN (n + 1) (by omega) x hxm
  rw [dw (show q.kind ≠ 1 by omega),dw (show q.kind ≠ 4 by omega),dw (show q.kind ≠ 5 by omega),dw (show q.kind ≠ 6 by omega),dw (show q.kind ≠ 7 by omega),dw (show q.kind ≠ 2 by omega),dw (show q.kind ≠ 3 by omega),kD k,hi]
  have g0 : aG [x] 0 = some x := rfl
  simp only [zd,zc,bV,g0,bPs]
  rw [hx,bPs,kX (h.small.sub hxm),bPs]
  have := hsz x hxm
  rw [group_eq r _ q _ (by omega) hself.1 hself.2,bPs,e]
 ·-- sort
  obtain ⟨x,hi⟩ := one (q := q) (by simpa using har)
  have hxm : x ∈ q.inputs := by rw [hi]; simp
  have := hsz x hxm
  obtain ⟨l',hsort,_⟩ := sort_ok r q (bH r x) (bA r x) (by omega) hself.1
  have e : bA r q = l' := by rw [dZ,hi]; unfold ed; rw [zy (by omega),zy (by omega),zy (by omega),zy (by omega),zy (by omega),zy (by omega),zy (by omega),zp k]; show (fX r q (bH r x) (bA r x)).getD [] = l'; rw [hsort]; rfl
  have hx := hN (n + 1) (by omega) x hxm
  rw [dw (show q.kind ≠ 1 by omega),dw (show q.kind ≠ 4 by omega),dw (show q.kind ≠ 5 by omega),dw (show q.kind ≠ 6 by omega),dw (show q.kind ≠ 7 by omega),dw (show q.kind ≠ 2 by omega),dw (show q.kind ≠ 3 by omega),dw (show q.kind ≠ 8 by omega),kD k,hi]
  have g0 : aG [x] 0 = some x := rfl
  simp only [zd,zc,bV,g0,bPs]
  rw [hx,bPs,kX (h.small.sub hxm),bPs,hsort,bPs,e]
 ·-- limit
  obtain ⟨x,hi⟩ := one (q := q) (by simpa using har)
  have hxm : x ∈ q.inputs := by rw [hi]; simp
  have e : bA r q = pO q (bA r x) := by rw [dZ,hi]; unfold ed; rw [zy (by omega),zy (by omega),zy (by omega),zy (by omega),zy (by omega),zy (by omega),zy (by omega),zy (by omega)]; rfl
  have hx := hN (n + 1) (by omega) x hxm
  rw [dw (show q.kind ≠ 1 by omega),dw (show q.kind ≠ 4 by omega),dw (show q.kind ≠ 5 by omega),dw (show q.kind ≠ 6 by omega),dw (show q.kind ≠ 7 by omega),dw (show q.kind ≠ 2 by omega),dw (show q.kind ≠ 3 by omega),dw (show q.kind ≠ 8 by omega),dw (show q.kind ≠ 9 by omega),hi]
  have g0 : aG [x] 0 = some x := rfl
  simp only [zd,bV,g0,bPs]
  rw [hx,bPs,kX (h.small.sub hxm),bPs]
  have := hsz x hxm
  rw [limit_run _ q (by omega) (hs.limit k).1 (hs.limit k).2,bPs,e]
theorem rows_eq {r : LRun} (hr : RunOk r) {q : LQuery} (h : QOk r q) : lD r q = some (bA r q) := by
 obtain ⟨N,hN⟩ := rows_ev hr q h
 exact nY N hN
def SizeOk (q : LQuery) : Prop := (cF q).length ≤ 24 ∧ jq q ≤ 12 ∧ (bY q).2 ≤ 20000
instance (q : LQuery) : Decidable (SizeOk q) := by unfold SizeOk; infer_instance
theorem check_eq {s : LSchema} {vars : List LCol} {q : LQuery} (h : SmallQ q) : ∃ cs e,gz s vars q = some (cs,e) ∧ (e = 0 ↔ SizeOk q ∧ nW (gU q) ∧ (fD ⟨s,vars⟩ q).2 = 0) ∧ (e = 0 → cs = (fD ⟨s,vars⟩ q).1) := by
 unfold gz
 rw [nodes_ok q h.nodes,bPs]
 by_cases h1 : (cF q).length ≤ 24
 ·rw [zf (show ¬ ((cF q).length : Int) > 24 from by omega),zd,depth_ok q h.nodes,bPs]
  by_cases h2 : jq q ≤ 12
  ·rw [zf (show ¬ jq q > 12 from by omega),zd]
   unfold gn
   rw [most_ok,bPs,bPs]
   by_cases h3 : (bY q).2 ≤ 20000
   ·rw [zf (show ¬ (bY q).2 > 20000 from by omega),bPs,zd,kinds_ok h.nodes,bPs]
    cases hb : (ek q).2.1 with
    | true =>
     refine ⟨[],13,rfl,⟨fun h=>by omega,fun hh=>?_⟩,fun h=>by omega⟩
     rw [kinds_bad.2 hh.2.1] at hb
     cases hb
    | false =>
     have hk := kinds_bad.1 hb
     simp only [zd]
     rw [cols_ok _ q h]
     refine ⟨(fD ⟨s,vars⟩ q).1,(fD ⟨s,vars⟩ q).2,rfl,⟨fun h0=>⟨⟨h1,h2,h3⟩,hk,h0⟩,fun hh=>hh.2.2⟩,fun _=>rfl⟩
   ·rw [zt (show (bY q).2 > 20000 from by omega)]
    exact ⟨[],2,rfl,⟨fun h=>by omega,fun hh=>absurd hh.1.2.2 h3⟩,fun h=>by omega⟩
  ·rw [zt (show jq q > 12 from by omega)]
   exact ⟨[],2,rfl,⟨fun h=>by omega,fun hh=>absurd hh.1.2.1 h2⟩,fun h=>by omega⟩
 ·rw [zt (show ((cF q).length : Int) > 24 from by omega)]
  exact ⟨[],2,rfl,⟨fun h=>by omega,fun hh=>absurd hh.1.1 h1⟩,fun h=>by omega⟩
abbrev jQ (s : LSchema) (st : List LRelation) (args : Rq) : LRun := LRun.mk s st args [] [] []
structure Runs (s : LSchema) (st : List LRelation) (q : LQuery) (args : Rq) : Prop where
 size : SizeOk q
 kinds : nW (gU q)
 cols : (fD ⟨s,[]⟩ q).2 = 0
 inst : dr s st = some 0
 args : ArgsOk (gU q) args
theorem Runs.instOk {s : LSchema} {st : List LRelation} {q : LQuery} {args : Rq} (h : Runs s st q args) (hs : ms s) : InstOk s st := by
 obtain ⟨e,he,hok⟩ := conforms hs st
 rw [h.inst] at he
 cases he
 exact hok rfl
theorem Runs.qok {s : LSchema} {st : List LRelation} {q : LQuery} {args : Rq} (h : Runs s st q args) (hq : SmallQ q) : QOk (jQ s st args) q :=
 ⟨hq,h.cols,h.size.2.2,fun i k hm x hx=>(h.args.args i k hm).2.1 i x (Nat.le_refl _) hx⟩
theorem runs_tot {s : LSchema} (hs : ms s) (st : List LRelation) {q : LQuery} (hq : SmallQ q) (args : Rq) : ∃ b,jj s st q args = some b ∧ (b = true → Runs s st q args) := by
 unfold jj jS
 rw [size_ok,bPs]
 obtain ⟨v,hv⟩ := validate_tot hs
 obtain ⟨cs,e,hc,he,_⟩ := check_eq (s := s) (vars := []) hq
 obtain ⟨f,hf,_⟩ := conforms hs st
 obtain ⟨g,hg,hga⟩ := args_ok hq.nodes args
 unfold lA
 rw [hv,hc,hf,hg]
 simp only [bPs]
 by_cases c1 : mj q 400 < 0
 ·rw [zt c1]; exact ⟨false,rfl,fun h=>by cases h⟩
 rw [zf c1,zd,bPs]
 by_cases c2 : v = 0
 ·rw [bneF c2,zd,bPs]
  by_cases c3 : e = 0
  ·rw [kD c3,zc]
   by_cases c4 : (args.length : Int) ≤ 20
   ·rw [zt c4,zc]
    by_cases c5 : f = 0
    ·rw [kD c5,zc]
     refine ⟨g == 0,rfl,fun hg0=>?_⟩
     have hg0 : g = 0 := by simpa using hg0
     obtain ⟨a,b,c⟩ := he.1 c3
     exact ⟨a,b,c,by rw [hf,c5],hga.1 hg0⟩
    ·rw [dw c5]; exact ⟨false,rfl,fun h=>by cases h⟩
   ·rw [zf c4]; exact ⟨false,rfl,fun h=>by cases h⟩
  ·rw [dw c3]; exact ⟨false,rfl,fun h=>by cases h⟩
 ·rw [lI c2]; exact ⟨false,rfl,fun h=>by cases h⟩
theorem pq {s : LSchema} (hs : ms s) {st : List LRelation} {q : LQuery} (hq : SmallQ q) {args : Rq} (h : Runs s st q args) :
  fw s st q args = some (LResult.mk (bH (jQ s st args) q) (bA (jQ s st args) q),true) := by
 unfold fw io it
 obtain ⟨cs,e,hc,he,hcs⟩ := check_eq (s := s) (vars := []) hq
 obtain ⟨g,hg,hga⟩ := args_ok hq.nodes args
 have e0 := he.2 ⟨h.size,h.kinds,h.cols⟩
 have g0 := hga.2 h.args
 have hr : RunOk (jQ s st args) := ⟨rfl,rfl,rfl,h.instOk hs⟩
 have hok := rows_fit hr q (h.qok hq)
 have hlen : (bA (jQ s st args) q).length ≤ 20000 := by
  have h1 := hok.len
  have h2 := h.size.2.2
  have h3 := (gP h2).1
  omega
 rw [hc,hg,h.inst]
 simp only [bPs]
 rw [bneF e0,bneF g0,zd,zd]
 simp only [aW,bPs,bW,bne_self_eq_false,zd]
 rw [rows_eq hr (h.qok hq),bPs]
 rw [ql (xs := bA (jQ s st args) q) id (fun k x hk=>by
  have := (zg.1 hk).1
  rw [cB (by decide) (by simp; omega),bPs]
  rfl),bPs,bW,bPs,bPs,hcs e0]
 simp [bH]
theorem scans_ok : iT = some true := by
 unfold iT
 have hin : ((LQuery.mk 1 [116] [] [] [] [] 0 0 []) : LQuery).inputs = [] := rfl
 have hnodes : cF (LQuery.mk 1 [116] [] [] [] [] 0 0 []) = [LQuery.mk 1 [116] [] [] [] [] 0 0 []] := by rw [jL,hin]; rfl
 have hparams : gU (LQuery.mk 1 [116] [] [] [] [] 0 0 []) = [] := by unfold gU; rw [hnodes]; rfl
 have hq : SmallQ (LQuery.mk 1 [116] [] [] [] [] 0 0 []) := ⟨by rw [hnodes]; decide,fun x hx=>by rw [hnodes] at hx; simp at hx; subst hx; exact ⟨by decide,by decide⟩⟩
 have hs : ms (LSchema.mk [(LTable.mk [116] [(LCol.mk [97] 1 false)] [0])] [] []) := fun t ht=>by simp at ht; subst ht; decide
 have hcols : fD ⟨LSchema.mk [(LTable.mk [116] [(LCol.mk [97] 1 false)] [0])] [] [],[]⟩ (LQuery.mk 1 [116] [] [] [] [] 0 0 []) = ([LCol.mk [97] 1 false],0) := by
  rw [qe,hin]
  rfl
 have hruns : Runs (LSchema.mk [(LTable.mk [116] [(LCol.mk [97] 1 false)] [0])] [] []) [(LRelation.mk [116] [[(LVal.mk 1 1 [])],[(LVal.mk 1 2 [])]])] (LQuery.mk 1 [116] [] [] [] [] 0 0 []) [] := by
  refine ⟨⟨by rw [hnodes]; decide,by rw [oP,hin]; decide,by rw [lC,hin]; decide⟩,by rw [hparams]; intro i k k' a; simp at a,by rw [hcols],?_,⟨by rw [hparams]; intro i k k' a; simp at a,by rw [hparams]; intro i k a; simp at a⟩⟩
  rfl
 have he := pq hs hq hruns
 unfold fw at he
 cases ho : io (LSchema.mk [(LTable.mk [116] [(LCol.mk [97] 1 false)] [0])] [] []) [(LRelation.mk [116] [[(LVal.mk 1 1 [])],[(LVal.mk 1 2 [])]])] (LQuery.mk 1 [116] [] [] [] [] 0 0 []) [] with
 | none=>rw [ho] at he; cases he
 | some o =>
  rw [ho,bPs] at he
  simp only [zo,Prod.mk.injEq] at he
  rw [bPs]
  rw [he.2,he.1,zc,dZ,hin]
  rfl
theorem eqLoop {α : Type} [DecidableEq α] (x y : List α) (hl : x.length = y.length) (g : α → α → Option Bool) (hg : ∀ a ∈ x,∀ b,g a b = some (decide (a = b))) :
  ai (aW (σ := Unit) (ρ := (Bool)) (fun (j1 : Nat) (x1 : α) (_ : Unit)=>ai (aG y (j1 : Int)) fun (x24 : α)=>ai (g x1 x24) fun x29=>cond (!x29) (some (.ret false)) (some (.next ()))) 0 x ()) (fun fl1=>fl1.thenR fun (_ : Unit)=>some true) = some (decide (x = y)) := by
 obtain ⟨fl,hfl,hr⟩ := fR (step := fun (j1 : Nat) (x1 : α) (_ : Unit)=>ai (aG y (j1 : Int)) fun (x24 : α)=>ai (g x1 x24) fun x29=>cond (!x29) (some (Flow.ret false)) (some (.next ())))
   (fun j _=>x.take j = y.take j) (fun r=>r = false ∧ x ≠ y) x 0 () (by simp) (fun k v s hk hI=>by
    simp only [Nat.zero_add] at hI ⊢
    have hkl := (zg.1 hk).1
    rw [fo (by omega),bPs,hg v (gp hk),bPs]
    by_cases hv : v = y[k]
    ·rw [zt hv]
     refine ⟨_,rfl,?_⟩
     simp only
     rw [List.take_add_one,List.take_add_one,hk,ze (by omega),hI,hv]
    ·rw [zf hv]
     refine ⟨_,rfl,rfl,fun he=>hv ?_⟩
     subst he
     exact (zg.1 hk).2.symm)
 rw [hfl,bPs]
 cases fl with
 | brk s=>exact absurd hr (by simp)
 | ret r=>rw [nO,hr.1,zf hr.2]
 | next s =>
  simp only [Nat.zero_add,List.take_length] at hr
  rw [hl,List.take_length] at hr
  rw [iu,zt hr]
theorem sameRows_eq (a b : Rows) : gS a b = some (decide (a = b)) := by
 unfold gS cS
 by_cases hl : a.length = b.length
 ·rw [nM,zt hl,Bool.not_true,zd,eqLoop a b hl _ (fun x _ y=>by unfold gA; rw [equalRow]; rfl),bPs]
 ·rw [nM,zf hl,zf (fun h=>hl (by rw [h]))]
  rfl
structure TinyQ (q : LQuery) : Prop where
 nodes : (cF q).length ≤ 2000000
 here : ∀ x ∈ cF q,x.exprs.length ≤ 1000000 ∧ x.aggregates.length ≤ 1000000
theorem TinyQ.small {q : LQuery} (h : TinyQ q) : SmallQ q := ⟨by have := h.nodes; omega,h.here⟩
theorem pg {H : Type} : ∀ ds : List (DataW H),(ds.map (fun d=>Rows.uptoBulk d)).sum = Rows.uptoBulkAll ds
 | []=>by simp [Rows.uptoBulkAll]
 | d :: ds=>by simp only [List.map_cons,List.sum_cons,Rows.uptoBulkAll,pg ds]
theorem bulk_is : IsBulk (fun _ d=>Rows.uptoBulk d) where
 one := by
  intro H d
  cases d with
  | lit l=>cases l <;> simp [Rows.uptoBulk]
  | nil=>simp [Rows.uptoBulk]
  | ptr d=>simp [Rows.uptoBulk]
  | slice elems spare=>simp [Rows.uptoBulk]
  | agg parts=>simp [Rows.uptoBulk]
  | iface t d=>simp [Rows.uptoBulk]
  | map entries=>simp [Rows.uptoBulk]
  | held h=>simp [Rows.uptoBulk]
 str := by intro H l; simp [Rows.uptoBulk]
 slice := by intro H a b; rw [pg]; simp only [Rows.uptoBulk]; omega
 agg := by intro H a; rw [pg]; simp only [Rows.uptoBulk]; omega
theorem oj {r : List PV} : ∀ {rs : List (List PV)},r ∈ rs → ck r ≤ gm rs
 | x :: rs,h=>by
  simp only [gm]
  rcases List.mem_cons.1 h with rfl | h
  ·omega
  ·have := oj h; omega
theorem kO {α : Type} {f : α → List PV} {k : Nat} (hf : ∀ x,k ≤ ck (f x)) : ∀ l : List α,k * l.length ≤ gm (l.map f)
 | []=>by simp
 | x :: l=>by
  have := kO hf l
  have := hf x
  simp only [List.map_cons,gm,List.length_cons,Nat.mul_add]
  omega
theorem expr_pos (e : LExpr) : 2 ≤ ck (bg e) := by
 cases e; simp only [bg,ck,PV.bulk]; omega
theorem call_pos (c : LAggregateCall) : 2 ≤ ck (cn c) := by
 simp only [cn,ck,PV.bulk]; omega
theorem smallS_bulk {s : LSchema} {n : Nat} (hn : n ≤ 10000000) (h : ck (eK s) ≤ n) : ms s := by
 intro t ht
 have h1 : gm (s.tables.map bv) ≤ ck (eK s) := by
  simp only [eK,ck,PV.bulk]; omega
 have h2 := oj (List.mem_map_of_mem (f := bv) ht)
 have h3 : gm (t.primaryKey.map bM) ≤ ck (bv t) := by
  simp only [bv,ck,PV.bulk]; omega
 have h4 := kO (f := bM) (k := 1) (fun x=>by simp [ck,PV.bulk]) t.primaryKey
 omega
theorem nodes_bulk : ∀ q : LQuery,(cF q).length + 1 ≤ ck (ba q) ∧ ∀ x ∈ cF q,2 * x.exprs.length ≤ ck (ba q) ∧ 2 * x.aggregates.length ≤ ck (ba q) := by
 apply LQuery.ind
 intro q ih
 have e : ck (ba q) = ck (bE q) := by rw [cM]
 have hr : gm (q.inputs.map ba) + 8 ≤ ck (bE q) := by
  simp only [bE,ck,PV.bulk]; omega
 have hsum : ∀ l : List LQuery,(∀ x ∈ l,x ∈ q.inputs) → ((l.map cF).flatten).length + l.length ≤ gm (l.map ba) := by
  intro l
  induction l with
  | nil=>intro _; simp
  | cons x l ihl =>
   intro hm
   have h1 := (ih x (hm x (by simp))).1
   have h2 := ihl (fun y hy=>hm y (by simp [hy]))
   simp only [List.map_cons,List.flatten_cons,List.length_append,List.length_cons,gm]
   omega
 have h0 := hsum q.inputs (fun _ h=>h)
 rw [e]
 refine ⟨?_,fun x hx=>?_⟩
 ·rw [jL]; simp only [List.length_cons]; omega
 ·rw [jL] at hx
  rcases List.mem_cons.1 hx with rfl | hx
  ·have h1 := kO expr_pos x.exprs
   have h2 := kO call_pos x.aggregates
   constructor
   ·simp only [bE,ck,PV.bulk]; omega
   ·simp only [bE,ck,PV.bulk]; omega
  ·simp only [List.mem_flatten,List.mem_map] at hx
   obtain ⟨l,⟨y,hy,rfl⟩,hx⟩ := hx
   have h1 := (ih y hy).2 x hx
   have h2 := oj (List.mem_map_of_mem (f := ba) hy)
   omega
theorem tiny_bulk {q : LQuery} {n : Nat} (hn : n ≤ 1048576) (h : ck (bE q) ≤ n) : TinyQ q := by
 rw [← cM] at h
 have := nodes_bulk q
 exact ⟨by omega,fun x hx=>by have := this.2 x hx; omega⟩
end
end Go.Proofs.YtgaggbdcedpapaaGreat

namespace Go.Proofs.YtgaggbdcedpapaaGreat
noncomputable section
open Go Go.Ab
open Go.Sort (SWO PermIn SortedIn)
structure STO {α : Type} (lt : α → α → Bool) : Prop where
 irrefl : ∀ x,lt x x = false
 trans : ∀ x y z,lt x y = true → lt y z = true → lt x z = true
 tri : ∀ x y,lt x y = false → lt y x = false → x = y
theorem STO.swo {α : Type} {lt : α → α → Bool} (h : STO lt) : SWO lt where
 irrefl := h.irrefl
 trans := h.trans
 ntrans := fun x y z h1 h2=>by
  cases hxz : lt x z with
  | false=>rfl
  | true =>
   cases hyx : lt y x with
   | true=>rw [h.trans y x z hyx hxz] at h2; cases h2
   | false =>
    have := h.tri x y h1 hyx
    subst this
    rw [hxz] at h2; cases h2
theorem bytes_sto : STO Op.bytesLess where
 irrefl := fun x=>by
  induction x with
  | nil=>rfl
  | cons a x ih=>simp [Op.bytesLess,ih]
 trans := fun x=>by
  induction x with
  | nil =>
   intro y z h1 h2
   cases y with
   | nil=>cases z with
    | nil=>exact h2
    | cons c z=>rfl
   | cons b y=>cases z with
    | nil=>simp [Op.bytesLess] at h2
    | cons c z=>rfl
  | cons a x ih =>
   intro y z h1 h2
   cases y with
   | nil=>simp [Op.bytesLess] at h1
   | cons b y=>cases z with
    | nil=>simp [Op.bytesLess] at h2
    | cons c z =>
     simp only [Op.bytesLess,Bool.or_eq_true,decide_eq_true_eq,Bool.and_eq_true,beq_iff_eq,UInt8.lt_iff_toNat_lt] at h1 h2 ⊢
     rcases h1 with h1 | ⟨e1,h1⟩
     ·rcases h2 with h2 | ⟨e2,h2⟩
      ·exact .inl (by omega)
      ·exact .inl (by rw [← e2]; exact h1)
     ·rcases h2 with h2 | ⟨e2,h2⟩
      ·exact .inl (by rw [e1]; exact h2)
      ·exact .inr ⟨e1.trans e2,ih y z h1 h2⟩
 tri := fun x=>by
  induction x with
  | nil =>
   intro y h1 h2
   cases y with
   | nil=>rfl
   | cons b y=>simp [Op.bytesLess] at h1
  | cons a x ih =>
   intro y h1 h2
   cases y with
   | nil=>simp [Op.bytesLess] at h2
   | cons b y =>
    simp only [Op.bytesLess,Bool.or_eq_false_iff,decide_eq_false_iff_not,Bool.and_eq_false_iff,UInt8.lt_iff_toNat_lt] at h1 h2
    have e : a = b := UInt8.toNat_inj.1 (by omega)
    subst e
    have h3 : Op.bytesLess x y = false := by rcases h1.2 with h | h; simp at h; exact h
    have h4 : Op.bytesLess y x = false := by rcases h2.2 with h | h; simp at h; exact h
    rw [ih y h3 h4]
abbrev RowN (n : Nat) := { x : Rq // x.length = n }
instance (n : Nat) : Inhabited (RowN n) := ⟨⟨List.replicate n (LVal.mk 0 0 []),by simp⟩⟩
end
end Go.Proofs.YtgaggbdcedpapaaGreat

namespace Go.Proofs.YtgaggbdcedpapaaGreat
noncomputable section
open Go Go.Ab
open Go.Sort (swp insertionSort size_swp SWO PermIn SortedIn permIn_refl permIn_trans permIn_mono permIn_all swp_permIn swp_get)
section
variable {α : Type} [Inhabited α] {v : α → Rq} {lt : α → α → Bool} {cmp : Cmp}
def roT (D : Array α) (s m e k : Nat) : α := if s ≤ k ∧ k < s + (e - m) then D[k + (m - s)]! else if s + (e - m) ≤ k ∧ k < e then D[k - (e - m)]! else D[k]!
omit [Inhabited α] in
theorem oT (hS : SWO lt) {x y z : α} (h1 : lt y x = false) (h2 : lt z y = false) : lt z x = false := hS.ntrans z y x h2 h1
omit [Inhabited α] in
theorem lt_le (hS : SWO lt) {x y : α} (h : lt x y = true) : lt y x = false := Go.Sort.SWO.asymmA hS h
theorem SortedIn.le (hS : SWO lt) {a b : Nat} {A : Array α} (h : SortedIn lt a b A) {i j : Nat} (hi : a ≤ i) (hij : i ≤ j) (hj : j < b) : lt A[j]! A[i]! = false := by
 rcases Nat.lt_or_ge i j with h1 | h1
 ·exact h i j hi h1 hj
 ·have : i = j := by omega
  subst this
  exact hS.irrefl _
theorem turned (hS : SWO lt) {A B : Array α} {a m b mid s lo hi : Nat} (h1 : SortedIn lt a m A) (h2 : SortedIn lt m b A) (ha : a ≤ lo) (hlo : lo ≤ s) (hsh : s ≤ hi) (hhm : hi ≤ m) (hhi : hi ≤ mid) (hb : mid + m - s ≤ b) (hmb : mid ≤ b)
  (hlo' : lo = a ∨ lo + b = mid + m) (hhi' : hi = m ∨ hi = mid)
  (c1 : s = lo ∨ lt A[mid + m - s]! A[s - 1]! = false) (c2 : s = hi ∨ lt A[mid + m - s - 1]! A[s]! = true) (hB : ∀ k,B[k]! = roT A s m (mid + m - s) k) :
  SortedIn lt a s B ∧ SortedIn lt s mid B ∧ SortedIn lt mid (mid + m - s) B ∧ SortedIn lt (mid + m - s) b B ∧ ∀ x y,a ≤ x → x < mid → mid ≤ y → y < b → lt B[y]! B[x]! = false := by
 have e : mid + m - s - m = mid - s := by omega
 have b1 : ∀ k,k < s → B[k]! = A[k]! := fun k hk=>by rw [hB]; unfold roT; rw [zy (by omega),zy (by omega)]
 have b2 : ∀ k,s ≤ k → k < mid → B[k]! = A[k + (m - s)]! := fun k h1 h2=>by rw [hB]; unfold roT; rw [zp (by omega)]
 have b3 : ∀ k,mid ≤ k → k < mid + m - s → B[k]! = A[k - (mid - s)]! := fun k h1 h2=>by rw [hB]; unfold roT; rw [zy (by omega),zp (by omega),e]
 have b4 : ∀ k,mid + m - s ≤ k → B[k]! = A[k]! := fun k hk=>by rw [hB]; unfold roT; rw [zy (by omega),zy (by omega)]
 refine ⟨fun i j hi hij hj=>?_,fun i j hi hij hj=>?_,fun i j hi hij hj=>?_,fun i j hi hij hj=>?_,fun x y hx hxm hy hyb=>?_⟩
 ·rw [b1 i (by omega),b1 j hj]; exact h1 i j hi hij (by omega)
 ·rw [b2 i hi (by omega),b2 j (by omega) hj]; exact h2 _ _ (by omega) (by omega) (by omega)
 ·rw [b3 i hi (by omega),b3 j (by omega) hj]; exact h1 _ _ (by omega) (by omega) (by omega)
 ·rw [b4 i hi,b4 j (by omega)]; exact h2 _ _ (by omega) hij hj
 ·by_cases xs : x < s
  ·rw [b1 x xs]
   by_cases ye : y < mid + m - s
   ·rw [b3 y hy ye]; exact h1 _ _ hx (by omega) (by omega)
   ·rw [b4 y (by omega)]
    rcases c1 with c1 | c1
    ·omega
    ·exact oT hS (oT hS (SortedIn.le hS h1 hx (by omega : x ≤ s - 1) (by omega)) c1) (SortedIn.le hS h2 (by omega) (by omega : mid + m - s ≤ y) hyb)
  ·rw [b2 x (by omega) hxm]
   by_cases ye : y < mid + m - s
   ·rw [b3 y hy ye]
    rcases c2 with c2 | c2
    ·omega
    ·exact oT hS (oT hS (SortedIn.le hS h2 (by omega) (by omega : x + (m - s) ≤ mid + m - s - 1) (by omega)) (lt_le hS c2)) (SortedIn.le hS h1 (by omega) (by omega : s ≤ y - (mid - s)) (by omega))
   ·rw [b4 y (by omega)]
    exact SortedIn.le hS h2 (by omega) (by omega) hyb
end
end
end Go.Proofs.YtgaggbdcedpapaaGreat
