/- procedureRaiseUpto_holds, part 5: the layer, the plain functions and what they compute; conditions as in the statement. -/
import Derived.Test.YteceobbkljmbmaaGreatDoorRad
set_option maxHeartbeats 4000000
namespace Go.Proofs.YteceobbkljmbmaaGreatDoor
noncomputable section
open Go Go.Ab
theorem LExpr.args_lt {e x : LExpr} (h : x ∈ e.args) : SizeOf.sizeOf x < SizeOf.sizeOf e := by
 cases e
 simp only [LExpr.args] at h
 have := List.sizeOf_lt_of_mem h
 simp only [LExpr.mk.sizeOf_spec]
 omega
theorem LExpr.ind {p : LExpr → Prop} (h : ∀ e : LExpr,(∀ x ∈ e.args,p x) → p e) : ∀ e,p e := by
 intro e
 generalize hn : SizeOf.sizeOf e = n
 induction n using Nat.strongRecOn generalizing e with
 | _ n ih=>exact h e fun x hx=>ih _ (hn ▸ LExpr.args_lt hx) x rfl
def fX (e : LExpr) : List (Nat × Int) := if e.kind = 3 ∧ 0 ≤ e.index ∧ e.index < 8 then [(e.index.toNat,e.value.kind)] else []
def cI (e : LExpr) : List (Nat × Int) := fX e ++ (e.args.attach.map fun x=>cI x.1).flatten
termination_by SizeOf.sizeOf e
decreasing_by exact LExpr.args_lt x.2
theorem mz (e : LExpr) : cI e = fX e ++ (e.args.map cI).flatten := by
 rw [cI,List.attach_map_val (f := cI)]
abbrev PSt := List Int × Bool × List Bool
def fc (out : List Int) (i : Nat) : List Int := out ++ List.replicate (i + 1 - out.length) 0
def dc (s : PSt) (p : Nat × Int) : PSt :=
 ((fc s.1 p.1).set p.1 p.2,s.2.1 || (s.2.2.getD p.1 false && (fc s.1 p.1).getD p.1 0 != p.2),s.2.2.set p.1 true)
def POk (s : PSt) : Prop := s.1.length ≤ 8 ∧ s.2.2.length = 8
theorem jF (out : List Int) (i : Nat) : (fc out i).length = max out.length (i + 1) := by simp [fc]; omega
theorem pstep_ok {s : PSt} {p : Nat × Int} (h : POk s) (hp : p.1 < 8) : POk (dc s p) := by
 refine ⟨?_,by simp [dc,h.2]⟩
 show ((fc s.1 p.1).set p.1 p.2).length ≤ 8
 rw [List.length_set,jF]
 have := h.1
 omega
theorem jc : ∀ e : LExpr,∀ p ∈ cI e,p.1 < 8 := by
 refine LExpr.ind fun e ih p hp=>?_
 rw [mz,List.mem_append] at hp
 rcases hp with hp | hp
 ·unfold fX at hp
  split at hp
  ·rename_i h; simp at hp; subst hp; simp; omega
  ·simp at hp
 ·obtain ⟨l,hl,hp⟩ := List.mem_flatten.1 hp
  obtain ⟨x,hx,rfl⟩ := List.mem_map.1 hl
  exact ih x hx p hp
theorem iH : ∀ {l : List (Nat × Int)} {s : PSt},POk s → (∀ p ∈ l,p.1 < 8) → POk (l.foldl dc s)
 | [],_,h,_=>h
 | p :: l,s,h,hl=>iH (l := l) (pstep_ok h (hl p (by simp))) fun q hq=>hl q (by simp [hq])
theorem pad_while (i : Nat) (hi : i < 8) : ∀ (n : Nat) (out : List Int),i + 1 - out.length = n → out.length ≤ 8 →
  hP (σ := List Int) (ρ := Empty) (fun (s7 : List Int)=>cond (decide ((s7.length : Int) ≤ (i : Int))) (af (ej 8 s7 ([0] : List Int)) fun (x28 : List Int)=>some (.next x28)) (some (.brk s7))) out = some (.next (fc out i))
 | 0,out,hn,ho=>by
  refine iy (fl := .brk out) ?_ ?_
  ·have : ¬ ((out.length : Int) ≤ (i : Int)) := by omega
   simp [this]
  ·simp [fc,hn]
 | n + 1,out,hn,ho=>by
  refine iy (fl := .next (out ++ [0])) ?_ ?_
  ·have : (out.length : Int) ≤ (i : Int) := by omega
   simp only [this,decide_true,zc]
   rw [dT (by decide) (by simp; omega)]
   rfl
  ·have := pad_while i hi n (out ++ [0]) (by simp; omega) (by simp; omega)
   simp only
   rw [this]
   simp only [fc,List.length_append,List.length_singleton,List.append_assoc,hn]
   rw [show i + 1 - (out.length + 1) = n from by omega,show (List.replicate (n + 1) (0 : Int)) = [0] ++ List.replicate n 0 from rfl]
theorem arrI_at {xs : List Bool} {i : Nat} (h : xs.length = 8) (hi : i < 8) : arrI 8 xs (i : Int) = some (xs.getD i false) := by
 have : xs[i]? = some (xs.getD i false) := by rw [List.getD_eq_getElem?_getD,ze (by omega)]; rfl
 exact arrI_eq (by omega) (by simpa using this)
theorem getI_at {xs : List Int} {i : Nat} (h : i < xs.length) : aN xs (i : Int) = some (xs.getD i 0) := by
 have : xs[i]? = some (xs.getD i 0) := by rw [List.getD_eq_getElem?_getD,ze h]; rfl
 exact getI_nat this
theorem look_ok : ∀ e : LExpr,∃ N,∀ n,N ≤ n → ∀ s : PSt,POk s → cj n e s.1 s.2.1 s.2.2 = some ((cI e).foldl dc s) := by
 refine LExpr.ind fun e ih=>?_
 obtain ⟨N,hN⟩ := lH (p := fun x n=>∀ s : PSt,POk s → cj n x s.1 s.2.1 s.2.2 = some ((cI x).foldl dc s)) e.args ih
 refine ⟨N + 1,fun n hn s hs=>?_⟩
 obtain ⟨n,rfl⟩ : ∃ k,n = k + 1 := ⟨n - 1,by omega⟩
 rw [cj]
 simp only [eB]
 have h1 : POk ((fX e).foldl dc s) := iH hs fun p hp=>jc e p (by rw [mz]; simp [hp])
 have hloop : ∀ s : PSt,POk s → af (aF (σ := List Int × Bool × List Bool) (ρ := Empty) (fun (_ : Nat) (x11 : LExpr) (s11 : List Int × Bool × List Bool) =>
   af (cj n x11 s11.1 s11.2.1 s11.2.2) fun x66=>some (.next (x66.1,x66.2.1,x66.2.2))) 0 e.args (s.1,s.2.1,s.2.2)) (fun fl11=>fl11.thenP fun (s11 : List Int × Bool × List Bool)=>some (s11.1,s11.2.1,s11.2.2)) =
   some (((e.args.map cI).flatten).foldl dc s) := by
  intro s hs
  rw [rMa (xs := e.args) (s := (s.1,s.2.1,s.2.2)) (fun k=>(((e.args.take k).map cI).flatten).foldl dc s) rfl (fun k x hk=>by
   have hx := dS hk
   have hok : POk ((((e.args.take k).map cI).flatten).foldl dc s) := iH hs fun p hp=>by
    obtain ⟨l,hl,hp⟩ := List.mem_flatten.1 hp
    obtain ⟨y,hy,rfl⟩ := List.mem_map.1 hl
    exact jc y p hp
   rw [hN n (by omega) x hx _ hok,bPs,List.take_add_one,hk]
   simp)]
  rw [bPs,ew,List.take_length]
 have key : (af (cond (letP (cond (e.kind == (3 : Int)) (cond (decide (e.index ≥ (0 : Int))) ((decide (e.index < (8 : Int)))) (false)) (false)) fun (t1 : Bool)=>t1)
   (af (hP (σ := List Int) (ρ := Empty) (fun (s7 : List Int)=>cond (decide ((s7.length : Int) ≤ e.index)) (af (ej 8 s7 ([0] : List Int)) fun (x28 : List Int)=>some (.next x28)) (some (.brk s7))) s.1) fun fl7=>fl7.thenP fun (s7 : List Int) =>
   af (cond s.2.1 (some true) (af (arrI 8 s.2.2 e.index) fun (x33 : Bool)=>cond x33 (af (aN s7 e.index) fun (x39 : Int)=>some (x39 != e.value.kind)) (some false))) fun (t8 : Bool) =>
   af (aN s7 e.index) fun (_ : Int)=>letP (s7.set e.index.toNat e.value.kind) fun (y9 : List Int)=>af (arrI 8 s.2.2 e.index) fun (_ : Bool)=>letP (s.2.2.set e.index.toNat true) fun (y10 : List Bool)=>some (y9,t8,y10))
   (some (s.1,s.2.1,s.2.2))) fun t=>some t) = some ((fX e).foldl dc s) := by
  unfold letP
  by_cases hc : e.kind = 3 ∧ 0 ≤ e.index ∧ e.index < 8
  ·obtain ⟨hk,h0,h8⟩ := hc
   obtain ⟨i,hi⟩ : ∃ i : Nat,e.index = i := ⟨e.index.toNat,by omega⟩
   have hi8 : i < 8 := by omega
   have e0 : (e.kind == (3 : Int)) = true := by simpa using hk
   have e1 : decide (e.index ≥ (0 : Int)) = true := zt h0
   have e2 : decide (e.index < (8 : Int)) = true := zt h8
   rw [e0,e1,e2]
   simp only [zc]
   rw [hi,pad_while i hi8 _ s.1 rfl hs.1]
   simp only [bPs,ew]
   have hl : i < (fc s.1 i).length := by rw [jF]; omega
   rw [arrI_at hs.2 hi8,getI_at hl]
   simp only [bPs,Int.toNat_natCast]
   have hh : fX e = [(i,e.value.kind)] := by unfold fX; rw [zp ⟨hk,h0,h8⟩,hi,Int.toNat_natCast]
   rw [hh]
   simp only [List.foldl_cons,List.foldl_nil,dc]
   cases hb : s.2.1 <;> cases hc : s.2.2.getD i false <;> simp
  ·have hh : fX e = [] := by unfold fX; rw [zy hc]
   rw [hh]
   have e0 : (cond (e.kind == (3 : Int)) (cond (decide (e.index ≥ (0 : Int))) ((decide (e.index < (8 : Int)))) (false)) (false)) = false := by
    by_cases a : e.kind = 3
    ·by_cases b : 0 ≤ e.index
     ·have : ¬ e.index < 8 := fun h=>hc ⟨a,b,h⟩
      simp [this]
     ·have : ¬ e.index ≥ 0 := b
      simp [this]
    ·have : (e.kind == (3 : Int)) = false := by simpa using a
     simp [this]
   rw [e0]
   rfl
 simp only [ce] at key ⊢
 rw [mz,List.foldl_append,← hloop _ h1]
 generalize hg : (cond _ _ _ : Option PSt) = o at key
 cases o with
 | none=>cases key
 | some t =>
  simp only [bPs,zo] at key
  subst key
  rfl
theorem look_eq (e : LExpr) {s : PSt} (h : POk s) : dN e s.1 s.2.1 s.2.2 = some ((cI e).foldl dc s) := by
 obtain ⟨N,hN⟩ := look_ok e
 exact limN_eq N fun n hn=>hN n hn s h
def gB (x : LQuery) : List (Nat × Int) := (x.exprs.map cI).flatten ++ (x.aggregates.map fun a=>(a.args.map cI).flatten).flatten
def kG (q : LQuery) : List (Nat × Int) := ((bR q).map gB).flatten
theorem km {x : LQuery} : ∀ p ∈ gB x,p.1 < 8 := by
 intro p hp
 rcases List.mem_append.1 hp with hp | hp
 ·obtain ⟨l,hl,hp⟩ := List.mem_flatten.1 hp
  obtain ⟨e,_,rfl⟩ := List.mem_map.1 hl
  exact jc e p hp
 ·obtain ⟨l,hl,hp⟩ := List.mem_flatten.1 hp
  obtain ⟨a,_,rfl⟩ := List.mem_map.1 hl
  obtain ⟨l,hl,hp⟩ := List.mem_flatten.1 hp
  obtain ⟨e,_,rfl⟩ := List.mem_map.1 hl
  exact jc e p hp
theorem paramsQ_lt {q : LQuery} : ∀ p ∈ kG q,p.1 < 8 := by
 intro p hp
 obtain ⟨l,hl,hp⟩ := List.mem_flatten.1 hp
 obtain ⟨x,_,rfl⟩ := List.mem_map.1 hl
 exact km p hp
theorem lookAll {l : List LExpr} {s : PSt} (h : POk s) : aF (σ := PSt) (ρ := Empty) (fun (_ : Nat) (x12 : LExpr) (s12 : PSt) =>
   af (dN x12 s12.1 s12.2.1 s12.2.2) fun x33=>some (.next (x33.1,x33.2.1,x33.2.2))) 0 l (s.1,s.2.1,s.2.2) = some (.next (((l.map cI).flatten).foldl dc s)) := by
 rw [rMa (xs := l) (s := (s.1,s.2.1,s.2.2)) (fun k=>(((l.take k).map cI).flatten).foldl dc s) rfl (fun k x hk=>by
  have hok : POk ((((l.take k).map cI).flatten).foldl dc s) := iH h fun p hp=>by
   obtain ⟨m,hm,hp⟩ := List.mem_flatten.1 hp
   obtain ⟨y,hy,rfl⟩ := List.mem_map.1 hm
   exact jc y p hp
  rw [look_eq x hok,bPs,List.take_add_one,hk]
  simp),List.take_length]
def gE (q : LQuery) : PSt := (kG q).foldl dc ([],false,List.replicate 8 false)
theorem kinds_ok {q : LQuery} (hb : (bR q).length ≤ 10000000) : dA q = some (cond (gE q).2.1 ([],13) ((gE q).1,0)) := by
 unfold dA
 rw [nodes_ok q hb,bPs]
 rw [rMa (xs := bR q) (s := ([],false,List.replicate 8 false)) (fun k=>((((bR q).take k).map gB).flatten).foldl dc ([],false,List.replicate 8 false)) rfl (fun k x hk=>by
  have hok : POk (((((bR q).take k).map gB).flatten).foldl dc ([],false,List.replicate 8 false)) := iH ⟨by simp,by simp⟩ fun p hp=>by
   obtain ⟨m,hm,hp⟩ := List.mem_flatten.1 hp
   obtain ⟨y,hy,rfl⟩ := List.mem_map.1 hm
   exact km p hp
  rw [lookAll hok,bPs,ew]
  rw [show ((((bR q).take (k + 1)).map gB).flatten).foldl dc ([],false,List.replicate 8 false) = (gB x).foldl dc (((((bR q).take k).map gB).flatten).foldl dc ([],false,List.replicate 8 false)) from by
   rw [List.take_add_one,hk]
   simp only [Option.toList_some,List.map_append,List.map_cons,List.map_nil,List.flatten_append,List.flatten_cons,List.flatten_nil,List.append_nil,List.foldl_append]]
  generalize (((((bR q).take k).map gB).flatten).foldl dc ([],false,List.replicate 8 false)) = s at hok ⊢
  have hok2 : POk (((x.exprs.map cI).flatten).foldl dc s) := iH hok fun p hp=>km (x := x) p (by unfold gB; simp only [List.mem_append]; exact .inl hp)
  rw [rMa (xs := x.aggregates) (s := ((((x.exprs.map cI).flatten).foldl dc s).1,(((x.exprs.map cI).flatten).foldl dc s).2.1,(((x.exprs.map cI).flatten).foldl dc s).2.2))
   (fun k=>((((x.aggregates.take k).map fun a=>(a.args.map cI).flatten).flatten).foldl dc (((x.exprs.map cI).flatten).foldl dc s))) rfl (fun k a ha=>by
    have hok3 : POk ((((x.aggregates.take k).map fun a=>(a.args.map cI).flatten).flatten).foldl dc (((x.exprs.map cI).flatten).foldl dc s)) := iH hok2 fun p hp=>km (x := x) p (by
     unfold gB
     simp only [List.mem_append]
     obtain ⟨m,hm,hp⟩ := List.mem_flatten.1 hp
     obtain ⟨y,hy,rfl⟩ := List.mem_map.1 hm
     exact .inr (List.mem_flatten.2 ⟨_,List.mem_map.2 ⟨y,List.mem_of_mem_take hy,rfl⟩,hp⟩))
    rw [lookAll hok3,bPs,ew,List.take_add_one,ha]
    simp)]
  rw [bPs,ew,List.take_length]
  unfold gB
  rw [List.foldl_append])]
 rw [bPs,ew,List.take_length]
 show (cond (gE q).2.1 (some ([],13)) (some ((gE q).1,0))) = _
 cases (gE q).2.1 <;> rfl
def KindsOk (l : List (Nat × Int)) : Prop := ∀ i k k',(i,k) ∈ l → (i,k') ∈ l → k = k'
structure PInv (l : List (Nat × Int)) (s : PSt) : Prop where
 ok : POk s
 seen : ∀ i,i < 8 → (s.2.2.getD i false = true ↔ ∃ k,(i,k) ∈ l)
 len : ∀ i k,(i,k) ∈ l → i < s.1.length
 last : s.1.length = 0 ∨ ∃ k,(s.1.length - 1,k) ∈ l
 zero : ∀ i,(∀ k,(i,k) ∉ l) → s.1.getD i 0 = 0
 good : s.2.1 = false → ∀ i k,(i,k) ∈ l → s.1.getD i 0 = k
 bad : KindsOk l → s.2.1 = false
theorem lp (out : List Int) (i j : Nat) : (fc out i).getD j 0 = out.getD j 0 := by
 simp only [fc,List.getD_eq_getElem?_getD]
 by_cases h : j < out.length
 ·rw [List.getElem?_append_left h]
 ·rw [List.getElem?_append_right (by omega),List.getElem?_eq_none (l := out) (by omega),List.getElem?_replicate]
  split <;> rfl
theorem PInv.init : PInv [] ([],false,List.replicate 8 false) :=
 ⟨⟨by simp,by simp⟩,fun i hi=>by
  have : (List.replicate 8 false).getD i false = false := by rw [List.getD_eq_getElem?_getD,List.getElem?_replicate]; split <;> rfl
  exact ⟨fun h=>(by rw [show (([],false,List.replicate 8 false) : PSt).2.2 = List.replicate 8 false from rfl,this] at h; cases h),fun ⟨k,hk⟩=>(by simp at hk)⟩,fun i k h=>by simp at h,.inl rfl,fun i _=>by simp,fun _ i k h=>by simp at h,fun _=>rfl⟩
theorem PInv.step {l : List (Nat × Int)} {s : PSt} (h : PInv l s) {p : Nat × Int} (hp : p.1 < 8) : PInv (l ++ [p]) (dc s p) := by
 obtain ⟨i,k⟩ := p
 simp only at hp
 have hset : ∀ (xs : List Int) (j : Nat) (v : Int),i < xs.length → (xs.set i v).getD j 0 = if j = i then v else xs.getD j 0 := by
  intro xs j v hl
  rw [List.getD_eq_getElem?_getD,List.getD_eq_getElem?_getD,List.getElem?_set]
  by_cases hji : i = j
  ·subst hji; simp [hl]
  ·have : j ≠ i := fun h=>hji h.symm
   simp [hji,this]
 have hl1 : i < (fc s.1 i).length := by rw [jF]; omega
 refine ⟨pstep_ok h.ok hp,fun j hj=>?_,fun j k' hm=>?_,?_,fun j hno=>?_,fun hb j k' hm=>?_,fun hk=>?_⟩
 ·show (s.2.2.set i true).getD j false = true ↔ _
  rw [List.getD_eq_getElem?_getD,List.getElem?_set]
  by_cases hji : i = j
  ·subst hji
   have : i < s.2.2.length := by rw [h.ok.2]; exact hp
   simp [this]
  ·have h1 := h.seen j hj
   rw [List.getD_eq_getElem?_getD] at h1
   have hji' : j ≠ i := fun h=>hji h.symm
   simp only [hji,if_false,h1,List.mem_append,List.mem_singleton,Prod.mk.injEq,hji',false_and,or_false]
 ·show j < ((fc s.1 i).set i k).length
  rw [List.length_set,jF]
  rcases List.mem_append.1 hm with hm | hm
  ·have := h.len j k' hm; omega
  ·simp at hm; omega
 ·show ((fc s.1 i).set i k).length = 0 ∨ ∃ k',(((fc s.1 i).set i k).length - 1,k') ∈ l ++ [(i,k)]
  rw [List.length_set,jF]
  by_cases hle : s.1.length ≤ i + 1
  ·right
   exact ⟨k,by rw [show max s.1.length (i + 1) - 1 = i from by omega]; simp⟩
  ·rcases h.last with h0 | ⟨k',hk'⟩
   ·omega
   ·right
    exact ⟨k',by rw [show max s.1.length (i + 1) - 1 = s.1.length - 1 from by omega]; simp [hk']⟩
 ·show ((fc s.1 i).set i k).getD j 0 = 0
  have hji : j ≠ i := fun e=>hno k (by simp [e])
  rw [hset _ _ _ hl1,zy hji,lp]
  exact h.zero j fun k' hm=>hno k' (by simp [hm])
 ·have hb' : s.2.1 = false ∧ (s.2.2.getD i false && (fc s.1 i).getD i 0 != k) = false := by
   have : (s.2.1 || (s.2.2.getD i false && (fc s.1 i).getD i 0 != k)) = false := hb
   simpa using this
  show ((fc s.1 i).set i k).getD j 0 = k'
  rw [hset _ _ _ hl1]
  have hold := h.good hb'.1
  rcases List.mem_append.1 hm with hm1 | hm
  ·by_cases hji : j = i
   ·subst hji
    rw [zp rfl]
    have hs := (h.seen j hp).2 ⟨k',hm1⟩
    have := hb'.2
    rw [hs,lp,hold j k' hm1] at this
    simp at this
    exact this.symm
   ·rw [zy hji,lp]
    exact hold j k' hm1
  ·simp at hm
   rw [zp hm.1,hm.2]
 ·have h1 := h.bad fun i k k' a b=>hk i k k' (by simp [a]) (by simp [b])
  show (s.2.1 || (s.2.2.getD i false && (fc s.1 i).getD i 0 != k)) = false
  rw [h1,Bool.false_or,lp]
  cases hs : s.2.2.getD i false with
  | false=>rfl
  | true =>
   obtain ⟨k',hk'⟩ := (h.seen i hp).1 hs
   rw [h.good h1 i k' hk',hk i k' k (by simp [hk']) (by simp)]
   simp
theorem PInv.fold : ∀ {r l : List (Nat × Int)} {s : PSt},PInv l s → (∀ p ∈ r,p.1 < 8) → PInv (l ++ r) (r.foldl dc s)
 | [],l,s,h,_=>by simpa using h
 | p :: r,l,s,h,hr=>by
  have := PInv.fold (r := r) (h.step (hr p (by simp))) fun q hq=>hr q (by simp [hq])
  simpa using this
theorem kinds_inv (q : LQuery) : PInv (kG q) (gE q) := by
 have := PInv.fold (r := kG q) PInv.init paramsQ_lt
 rw [List.nil_append] at this
 exact this
theorem kinds_bad {q : LQuery} : (gE q).2.1 = false ↔ KindsOk (kG q) := by
 have h := kinds_inv q
 refine ⟨fun hb i k k' a b=>?_,h.bad⟩
 rw [← h.good hb i k a,← h.good hb i k' b]
def Tot {α : Type} (o : Option α) : Prop := ∃ v,o = some v
theorem Tot.mk {α : Type} {v : α} : Tot (Option.some v) := ⟨v,rfl⟩
theorem Tot.bind {α β : Type} {o : Option α} {k : α → Option β} (h : Tot o) (hk : ∀ v,o = some v → Tot (k v)) : Tot (af o k) := by
 obtain ⟨v,hv⟩ := h
 rw [hv]
 exact hk v hv
theorem Tot.cond {α : Type} {b : Bool} {x y : Option α} (hx : b = true → Tot x) (hy : b = false → Tot y) : Tot (cond b x y) := by
 cases b
 ·exact hy rfl
 ·exact hx rfl
theorem Tot.letP {α β : Type} {a : α} {k : α → Option β} (h : Tot (k a)) : Tot (letP a k) := h
theorem Tot.get {α : Type} {xs : List α} {i : Int} (h0 : 0 ≤ i) (h : i < xs.length) : Tot (aN xs i) := by
 have : i.toNat < xs.length := by omega
 exact ⟨xs[i.toNat],iQ h0 (ze this)⟩
theorem Tot.sub {α : Type} {xs : List α} {a b : Int} (h : 0 ≤ a ∧ a ≤ b ∧ b ≤ xs.length) : Tot (jp xs a b) := ⟨_,subI_ok h⟩
theorem Tot.range {α σ ρ : Type} {step : Nat → α → σ → Option (Flow σ ρ)} : ∀ (xs : List α) (j : Nat) (s : σ),(∀ k x s,xs[k]? = some x → Tot (step (j + k) x s)) → Tot (aF step j xs s)
 | [],_,s,_=>⟨.next s,rfl⟩
 | x :: xs,j,s,h=>by
  obtain ⟨fl,hfl⟩ := h 0 x s rfl
  rw [Nat.add_zero] at hfl
  rw [aF,hfl]
  cases fl with
  | next s' =>
   exact Tot.range xs (j + 1) s' fun k y t hk=>by
    have := h (k + 1) y t (by simpa using hk)
    rwa [show j + (k + 1) = j + 1 + k from by omega] at this
  | brk s'=>exact ⟨_,rfl⟩
  | ret r=>exact ⟨_,rfl⟩
theorem Tot.thenR {σ ρ : Type} {fl : Flow σ ρ} {k : σ → Option ρ} (h : ∀ s,(fl = .next s ∨ fl = .brk s) → Tot (k s)) : Tot (fl.thenR k) := by
 cases fl with
 | next s=>exact h s (.inl rfl)
 | brk s=>exact h s (.inr rfl)
 | ret r=>exact ⟨r,rfl⟩
theorem Tot.thenF {σ τ ρ : Type} {fl : Flow σ ρ} {k : σ → Option (Flow τ ρ)} (h : ∀ s,(fl = .next s ∨ fl = .brk s) → Tot (k s)) : Tot (fl.thenF k) := by
 cases fl with
 | next s=>exact h s (.inl rfl)
 | brk s=>exact h s (.inr rfl)
 | ret r=>exact ⟨.ret r,rfl⟩
theorem hO {a b : Int} (h : a ≠ b) : (a != b) = true := by simpa using h
theorem bneF {a b : Int} (h : a = b) : (a != b) = false := by simp [h]
theorem gC {a b : Int} (h : a ≠ b) : (a == b) = false := by simpa using h
theorem beqT {a b : Int} (h : a = b) : (a == b) = true := by simp [h]
theorem idxF {α : Type} {l : List α} {f : α → Option Bool} {p : α → Bool} (h : ∀ x ∈ l,f x = some (p x)) :
  af (aF (σ := Unit) (ρ := Int) (fun (j1 : Nat) (x1 : α) (_ : Unit)=>af (f x1) fun x16=>cond x16 (some (.ret (j1 : Int))) (some (.next ()))) 0 l ()) (fun fl1=>fl1.thenR fun (_ : Unit)=>some (-1)) = some (bg p l) := by
 rw [nT p (fun j _=>(j : Int)) l 0 (fun k x hk=>by
  rw [h x (dS hk),bPs]
  cases p x <;> simp)]
 unfold bg
 cases hf : l.findIdx? p with
 | none=>rfl
 | some i =>
  have hi := (List.findIdx?_eq_some_iff_getElem.1 hf).1
  simp only [ze hi]
  simp
theorem idxF2 {α : Type} {l : List α} {p : α → Bool} :
  af (aF (σ := Unit) (ρ := Int) (fun (j1 : Nat) (x1 : α) (_ : Unit)=>cond (p x1) (some (.ret (j1 : Int))) (some (.next ()))) 0 l ()) (fun fl1=>fl1.thenR fun (_ : Unit)=>some (-1)) = some (bg p l) := idxF (f := fun x=>some (p x)) fun _ _=>rfl
theorem idxOf_neg {α : Type} {p : α → Bool} {l : List α} : bg p l = -1 ∨ 0 ≤ bg p l := by
 unfold bg
 cases l.findIdx? p with
 | none=>exact .inl rfl
 | some i=>exact .inr (by simp)
theorem iL {α : Type} {p : α → Bool} {l : List α} (h : 0 ≤ bg p l) : ∃ x,l[(bg p l).toNat]? = some x ∧ p x = true := by
 unfold bg at h ⊢
 cases hf : l.findIdx? p with
 | none=>rw [hf] at h; simp at h
 | some i =>
  obtain ⟨hi,hp,_⟩ := List.findIdx?_eq_some_iff_getElem.1 hf
  exact ⟨l[i],by simp [hi],hp⟩
theorem mT (l : List LTable) (p : LTable → Bool) : bG l (fun a=>some (p a)) = some (bg p l) := idxF fun _ _=>rfl
theorem idx_column (l : List LCol) (p : LCol → Bool) : ba l (fun a=>some (p a)) = some (bg p l) := idxF fun _ _=>rfl
theorem kZ (s : LSchema) (name : List UInt8) : dM s name = some (dt 0 (bg (fun t=>ca t name) s.tables),decide (bg (fun t=>ca t name) s.tables ≥ 0)) := by
 unfold dM
 rw [mT,bPs]
 congr 2
 unfold dt
 split <;> split <;> omega
theorem findColumn_eq (t : LTable) (name : List UInt8) : ec t name = some (dt 0 (bg (fun c=>cC c name) t.columns),decide (bg (fun c=>cC c name) t.columns ≥ 0)) := by
 unfold ec
 rw [idx_column,bPs]
 congr 2
 unfold dt
 split <;> split <;> omega
theorem lz {n : Int} (h : 0 ≤ n) : dt 0 n = n := by unfold dt; split <;> omega
theorem mI (s : List UInt8) : Tot (dL s) := by
 unfold dL
 refine Tot.bind ?_ fun b hb=>?_
 ·refine Tot.cond (fun _=>Tot.mk) fun h1=>?_
  refine Tot.cond (fun _=>Tot.mk) fun h2=>?_
  have h1 := of_decide_eq_false h1
  refine Tot.bind (Tot.get (by decide) (by omega)) fun x _=>?_
  refine Tot.cond (fun _=>?_) fun _=>Tot.mk
  exact Tot.bind (Tot.get (by decide) (by omega)) fun x _=>Tot.mk
 ·refine Tot.cond (fun _=>Tot.mk) fun h=>?_
  subst h
  have hl : (s.length : Int) ≤ 12 := by
   by_cases h1 : (s.length : Int) < 1
   ·omega
   ·by_cases h2 : (s.length : Int) > 12
    ·rw [zf h1,zt h2] at hb; simp at hb
    ·omega
  refine Tot.bind ⟨(),guardO_pos (by omega)⟩ fun _ _=>?_
  refine Tot.bind (Tot.range _ _ _ fun k x _ _=>?_) fun fl _=>Tot.thenR fun _ _=>Tot.mk
  repeat' first | exact Tot.mk | refine Tot.cond (fun _=>?_) (fun _=>?_)
structure TableOk (t : LTable) : Prop where
 pk : ∀ x ∈ t.primaryKey,0 ≤ x ∧ x < t.columns.length
theorem validTable (t : LTable) (hsm : t.primaryKey.length ≤ 10000000) : ∃ e,dy t = some e ∧ (e = 0 → TableOk t) := by
 unfold dy
 obtain ⟨b,hb⟩ := mI t.name
 rw [hb,bPs]
 cases b with
 | false=>exact ⟨23,rfl,fun h=>by omega⟩
 | true =>
  simp only [Bool.not_true,zd]
  by_cases h0 : (t.columns.length : Int) = 0
  ·exact ⟨3,by simp [h0],fun h=>by omega⟩
  by_cases h6 : (t.columns.length : Int) > 6
  ·have : ((t.columns.length : Int) == 0) = false := by simpa using h0
   exact ⟨2,by rw [this]; simp [h6],fun h=>by omega⟩
  have e0 : ((t.columns.length : Int) == 0) = false := by simpa using h0
  rw [e0,zf h6]
  simp only [zd]
  obtain ⟨fl,hfl,hr⟩ := dl (step := fun (j1 : Nat) (x1 : LCol) (_ : Unit) =>
    af (dL x1.name) fun x31=>cond (!x31) (some (Flow.ret (σ := Unit) (23 : Int)))
     (af (ec t x1.name) fun x37=>cond (decide (x37.1 < (j1 : Int))) (some (.ret 5)) (cond (decide (x1.kind < (1 : Int))) (some (.ret 7)) (cond (decide (x1.kind > (3 : Int))) (some (.ret 7)) (some (.next ())))))) (fun _ _=>True) (fun r=>r ≠ 0) t.columns 0 () trivial (fun k x s hk _=>by
    obtain ⟨b,hb⟩ := mI x.name
    rw [hb,bPs,findColumn_eq,bPs]
    cases b with
    | false=>exact ⟨_,rfl,by simp⟩
    | true =>
     simp only [Bool.not_true,zd]
     by_cases a1 : dt 0 (bg (fun c=>cC c x.name) t.columns) < ((0 + k : Nat) : Int)
     ·exact ⟨.ret 5,by rw [zt a1]; rfl,by simp⟩
     ·rw [zf a1]
      by_cases a2 : x.kind < 1
      ·exact ⟨.ret 7,by rw [zt a2]; rfl,by simp⟩
      ·rw [zf a2]
       by_cases a3 : x.kind > 3
       ·exact ⟨.ret 7,by rw [zt a3]; rfl,by simp⟩
       ·exact ⟨.next (),by rw [zf a3]; rfl,trivial⟩)
  rw [hfl,bPs]
  cases fl with
  | brk s=>exact absurd hr (by simp)
  | ret r=>exact ⟨r,rfl,fun h=>absurd h hr⟩
  | next s =>
   rw [fw]
   obtain ⟨fl,hfl,hr⟩ := dl (step := fun (j2 : Nat) (x2 : Int) (_ : Unit) =>
     cond (decide (x2 < (0 : Int))) (some (Flow.ret (σ := Unit) (9 : Int))) (cond (decide (x2 ≥ (t.columns.length : Int))) (some (.ret 9))
      (af (aN t.columns x2) fun (x73 : LCol)=>cond x73.nullable (some (.ret 9)) (cond (decide ((j2 : Int) > (0 : Int)))
       (af (aN t.primaryKey (IntKind.i64.wrap ((j2 : Int) - (1 : Int)))) fun (x86 : Int)=>cond (decide (x2 ≤ x86)) (some (.ret 9)) (some (.next ()))) (some (.next ())))))) (fun j _=>∀ k x,k < j → t.primaryKey[k]? = some x → 0 ≤ x ∧ x < t.columns.length) (fun r=>r ≠ 0) t.primaryKey 0 () (fun k x h=>by omega) (fun k x s hk hI=>by
     simp only [Nat.zero_add] at hI ⊢
     by_cases a1 : x < 0
     ·exact ⟨.ret 9,by rw [zt a1]; rfl,by simp⟩
     rw [zf a1]
     by_cases a2 : x ≥ (t.columns.length : Int)
     ·exact ⟨.ret 9,by rw [zt a2]; rfl,by simp⟩
     rw [zf a2]
     simp only [zd]
     obtain ⟨c,hc⟩ := Tot.get (xs := t.columns) (i := x) (by omega) (by omega)
     rw [hc,bPs]
     have next : ∀ k' x',k' < k + 1 → t.primaryKey[k']? = some x' → 0 ≤ x' ∧ x' < t.columns.length := fun k' x' h1 h2=>by
      by_cases he : k' = k
      ·subst he; rw [hk] at h2; cases h2; omega
      ·exact hI k' x' (by omega) h2
     cases c.nullable with
     | true=>exact ⟨_,rfl,by simp⟩
     | false =>
      simp only [zd]
      by_cases a3 : (k : Int) > 0
      ·rw [zt a3]
       have hkl := (zg.1 hk).1
       rw [fa (by omega) (by omega)]
       obtain ⟨y,hy⟩ := Tot.get (xs := t.primaryKey) (i := (k : Int) - 1) (by omega) (by omega)
       rw [zc,hy,bPs]
       by_cases a4 : x ≤ y
       ·exact ⟨.ret 9,by rw [zt a4]; rfl,by simp⟩
       ·exact ⟨.next (),by rw [zf a4]; rfl,next⟩
      ·exact ⟨.next (),by rw [zf a3]; rfl,next⟩)
   rw [hfl,bPs]
   cases fl with
   | brk s=>exact absurd hr (by simp)
   | ret r=>exact ⟨r,rfl,fun h=>absurd h hr⟩
   | next s =>
    rw [fw]
    simp only [Nat.zero_add] at hr
    by_cases hp : (t.primaryKey.length : Int) = 0
    ·exact ⟨9,by simp [hp],fun h=>by omega⟩
    ·have : ((t.primaryKey.length : Int) == 0) = false := by simpa using hp
     refine ⟨0,by rw [this]; rfl,fun _=>⟨fun x hx=>?_⟩⟩
     obtain ⟨k,hk,rfl⟩ := List.mem_iff_getElem.1 hx
     exact hr k _ hk (ze hk)
theorem gD {α : Type} {xs : List α} {k : Nat} (h : k < xs.length) : aN xs (k : Int) = some xs[k] := getI_nat (ze h)
theorem foreignKey_tot {s : LSchema} (hs : ∀ t ∈ s.tables,TableOk t) (fk : LForeignKey) : Tot (dg s fk) := by
 unfold dg
 rw [kZ,kZ]
 simp only [bPs,ce]
 generalize hi : bg (fun t=>ca t fk.table) s.tables = i
 generalize hj : bg (fun t=>ca t fk.refTable) s.tables = j
 by_cases h1 : i ≥ 0
 ·by_cases h2 : j ≥ 0
  ·rw [zt h1,zt h2]
   simp only [Bool.not_true,zd]
   rw [lz h1,lz h2]
   obtain ⟨t,ht,_⟩ := iL (hi ▸ h1)
   obtain ⟨u,hu,_⟩ := iL (hj ▸ h2)
   rw [hi] at ht
   rw [hj] at hu
   rw [iQ h1 ht,iQ h2 hu]
   simp only [bPs]
   refine Tot.cond (fun _=>Tot.mk) fun hl=>?_
   have hl : fk.columns.length = u.primaryKey.length := by
    by_cases h : (fk.columns.length : Int) = (u.primaryKey.length : Int)
    ·omega
    ·simp [h] at hl
   refine Tot.bind (Tot.range _ _ _ fun k x st hk=>?_) fun fl _=>Tot.thenR fun _ _=>Tot.mk
   have hkl := (zg.1 hk).1
   by_cases a1 : x < 0
   ·rw [zt a1]; exact Tot.mk
   ·rw [zf a1]
    by_cases a2 : x ≥ (t.columns.length : Int)
    ·rw [zt a2]; exact Tot.mk
    ·rw [zf a2]
     simp only [zd]
     obtain ⟨c,hc⟩ := Tot.get (xs := t.columns) (i := x) (by omega) (by omega)
     rw [hc,bPs,Nat.zero_add,gD (by omega),bPs]
     have hp := (hs u (dS hu)).pk u.primaryKey[k] (List.getElem_mem _)
     obtain ⟨d,hd⟩ := Tot.get (xs := u.columns) (i := u.primaryKey[k]) hp.1 hp.2
     rw [hd,bPs]
     exact Tot.cond (fun _=>Tot.mk) fun _=>Tot.mk
  ·rw [zf h2]
   simp only [Bool.not_false]
   cases decide (i ≥ 0) <;> exact Tot.mk
 ·rw [zf h1]
  exact Tot.mk
theorem constraint_tot (s : LSchema) (c : LConstraint) : Tot (dh s c) := by
 unfold dh
 rw [kZ]
 simp only [bPs,ce]
 generalize hi : bg (fun t=>ca t c.table) s.tables = i
 by_cases h1 : i ≥ 0
 ·rw [zt h1]
  simp only [Bool.not_true,zd]
  rw [lz h1]
  obtain ⟨t,ht,_⟩ := iL (hi ▸ h1)
  rw [hi] at ht
  rw [iQ h1 ht,bPs]
  refine Tot.cond (fun _=>Tot.mk) fun hl=>?_
  by_cases a1 : c.left < 0
  ·rw [zt a1] at hl; cases hl
  rw [zf a1,zd] at hl
  by_cases a2 : c.left ≥ (t.columns.length : Int)
  ·rw [zt a2] at hl; cases hl
  rw [zf a2,zd] at hl
  obtain ⟨x,hx⟩ := Tot.get (xs := t.columns) (i := c.left) (by omega) (by omega)
  rw [hx]
  refine Tot.cond (fun a3=>?_) fun _=>?_
  ·have a3 := of_decide_eq_true a3
   have a4 : c.right < (t.columns.length : Int) := by
    rcases Int.lt_or_le c.right (t.columns.length : Int) with h | h
    ·exact h
    ·have e : decide (c.right ≥ (t.columns.length : Int)) = true := zt h
     rw [e] at hl
     revert hl
     cases ((eI (LVal.mk 0 0 []) c.op (LVal.mk 0 0 [])).2 != 0) <;> cases decide (c.right < -1) <;> simp
   obtain ⟨y,hy⟩ := Tot.get (xs := t.columns) (i := c.right) a3 a4
   rw [hy]
   simp only [bPs]
   exact Tot.cond (fun _=>Tot.mk) fun _=>Tot.mk
  ·rw [bPs]
   exact Tot.cond (fun _=>Tot.mk) fun _=>Tot.mk
 ·rw [zf h1]
  exact Tot.mk
theorem equalInts_tot (a b : List Int) : Tot (dU a b) := by
 unfold dU
 refine Tot.cond (fun _=>Tot.mk) fun h=>?_
 have h : a.length = b.length := by
  by_cases h' : (a.length : Int) = (b.length : Int)
  ·omega
  ·simp [h'] at h
 refine Tot.bind (Tot.range _ _ _ fun k x s hk=>?_) fun fl _=>Tot.thenR fun _ _=>Tot.mk
 have hkl := (zg.1 hk).1
 rw [Nat.zero_add,gD (by omega),bPs]
 exact Tot.cond (fun _=>Tot.mk) fun _=>Tot.mk
theorem fkIn_tot (l : List LForeignKey) (x : LForeignKey) : Tot (br l (fun a0=>ed a0 x)) := by
 unfold br bS
 refine Tot.bind (Tot.bind (Tot.range _ _ _ fun k y s hk=>?_) fun fl _=>Tot.thenR fun _ _=>Tot.mk) fun _ _=>Tot.mk
 refine Tot.bind ?_ fun _ _=>Tot.cond (fun _=>Tot.mk) fun _=>Tot.mk
 unfold ed
 refine Tot.bind ?_ fun _ _=>Tot.mk
 unfold et
 refine Tot.cond (fun _=>Tot.bind (equalInts_tot _ _) fun _ _=>Tot.cond (fun _=>Tot.mk) fun _=>Tot.mk) fun _=>Tot.mk
theorem csIn_tot (l : List LConstraint) (x : LConstraint) : Tot (bB l x) := by
 unfold bB bW
 refine Tot.bind (Tot.bind (Tot.range _ _ _ fun k y s hk=>?_) fun fl _=>Tot.thenR fun _ _=>Tot.mk) fun _ _=>Tot.mk
 exact Tot.cond (fun _=>Tot.mk) fun _=>Tot.mk
def lQ (s : LSchema) : Prop := ∀ t ∈ s.tables,t.primaryKey.length ≤ 10000000
theorem validate_tot {s : LSchema} (hsm : lQ s) : Tot (fp s) := by
 unfold fp
 rw [ce]
 refine Tot.cond (fun _=>Tot.mk) fun ht=>?_
 have h6 : s.tables.length ≤ 6 := by
  by_cases h : (s.tables.length : Int) > 6
  ·rw [zt h] at ht; cases ht
  ·omega
 obtain ⟨fl,hfl,hr⟩ := dl (step := fun (j2 : Nat) (x2 : LTable) (_ : Unit) =>
   af (dy x2) fun x37=>cond (x37 != (0 : Int)) (some (Flow.ret (σ := Unit) x37)) (cond (decide ((j2 : Int) > (0 : Int)))
     (af (aN s.tables (IntKind.i64.wrap ((j2 : Int) - (1 : Int)))) fun (x50 : LTable)=>cond (Op.bytesLess x2.name x50.name || x2.name == x50.name) (some (.ret 6)) (some (.next ()))) (some (.next ())))) (fun j _=>∀ k x,k < j → s.tables[k]? = some x → TableOk x) (fun _=>True) s.tables 0 () (fun k x h=>by omega) (fun k x st hk hI=>by
    simp only [Nat.zero_add] at hI ⊢
    obtain ⟨e,he,hok⟩ := validTable x (hsm x (dS hk))
    rw [he,bPs]
    by_cases h0 : e = 0
    ·have next : ∀ k' x',k' < k + 1 → s.tables[k']? = some x' → TableOk x' := fun k' x' h1 h2=>by
      by_cases heq : k' = k
      ·subst heq; rw [hk] at h2; cases h2; exact hok h0
      ·exact hI k' x' (by omega) h2
     rw [show (e != (0 : Int)) = false from by simp [h0],zd]
     by_cases a3 : (k : Int) > 0
     ·have hkl := (zg.1 hk).1
      rw [zt a3,fa (by omega) (by omega)]
      obtain ⟨y,hy⟩ := Tot.get (xs := s.tables) (i := (k : Int) - 1) (by omega) (by omega)
      rw [zc,hy,bPs]
      cases (Op.bytesLess x.name y.name || x.name == y.name) with
      | true=>exact ⟨.ret 6,rfl,trivial⟩
      | false=>exact ⟨.next (),rfl,next⟩
     ·exact ⟨.next (),by rw [zf a3]; rfl,next⟩
    ·exact ⟨.ret e,by rw [show (e != (0 : Int)) = true from by simp [h0]]; rfl,trivial⟩)
 rw [hfl,bPs]
 cases fl with
 | brk s=>exact absurd hr (by simp)
 | ret r=>exact Tot.mk
 | next u =>
  rw [fw]
  simp only [Nat.zero_add] at hr
  have hok : ∀ t ∈ s.tables,TableOk t := fun t ht=>by
   obtain ⟨k,hk,rfl⟩ := List.mem_iff_getElem.1 ht
   exact hr k _ hk (ze hk)
  refine Tot.bind (Tot.range _ _ _ fun k x st hk=>?_) fun fl _=>Tot.thenR fun _ _=>?_
  ·refine Tot.bind (foreignKey_tot hok x) fun e _=>Tot.cond (fun _=>Tot.mk) fun _=>?_
   have hkl := (zg.1 hk).1
   refine Tot.bind (Tot.sub ⟨by omega,by omega,by omega⟩) fun l _=>?_
   exact Tot.bind (fkIn_tot l x) fun _ _=>Tot.cond (fun _=>Tot.mk) fun _=>Tot.mk
  ·refine Tot.bind (Tot.range _ _ _ fun k x st hk=>?_) fun fl _=>Tot.thenR fun _ _=>Tot.mk
   refine Tot.bind (constraint_tot s x) fun e _=>Tot.cond (fun _=>Tot.mk) fun _=>?_
   have hkl := (zg.1 hk).1
   refine Tot.bind (Tot.sub ⟨by omega,by omega,by omega⟩) fun l _=>?_
   exact Tot.bind (csIn_tot l x) fun _ _=>Tot.cond (fun _=>Tot.mk) fun _=>Tot.mk
def lK (cols : List LCol) (row : Rq) : Prop := row.length = cols.length ∧ ∀ (i : Nat) (c : LCol) (x : LVal),cols[i]? = some c → row[i]? = some x → FitsK x c.kind c.nullable
theorem validate_valid {v : LVal} (h : co v = 0) : iv v = true := by
 obtain ⟨k,n,t⟩ := v
 unfold co letP at h
 unfold iv
 by_cases k0 : k = 0
 ·subst k0
  by_cases hn : n = 0
  ·subst hn
   cases t with
   | nil=>rfl
   | cons c t=>simp at h
  ·simp [hO hn] at h
 ·have e0 : (k == (0 : Int)) = false := by simpa using k0
  simp only [e0,zd] at h
  by_cases k1 : k = 1
  ·subst k1
   cases t with
   | cons c t=>simp at h
   | nil =>
    by_cases a : n < -1000000000000
    ·simp [a] at h
    ·by_cases b : n > 1000000000000
     ·simp [a,b] at h
     ·simp; omega
  ·by_cases k2 : k = 2
   ·subst k2
    cases t with
    | cons c t=>simp at h
    | nil =>
     by_cases a : n = 0
     ·simp [a]
     ·by_cases b : n = 1
      ·simp [b]
      ·simp [hO a,hO b] at h
   ·by_cases k3 : k = 3
    ·subst k3
     by_cases a : n = 0
     ·subst a
      by_cases b : (t.length : Int) > 24
      ·simp [b] at h
      ·simp; omega
     ·simp [hO a] at h
    ·have e1 : (k == (1 : Int)) = false := by simpa using k1
     have e2 : (k == (2 : Int)) = false := by simpa using k2
     have e3 : (k == (3 : Int)) = false := by simpa using k3
     simp [e1,e2,e3] at h
theorem conformsRow (t : LTable) (row : Rq) : ∃ e,cO t row = some e ∧ (e = 0 → lK t.columns row) := by
 unfold cO
 by_cases hl : (row.length : Int) = (t.columns.length : Int)
 ·have hl' : row.length = t.columns.length := by omega
  rw [show ((row.length : Int) != (t.columns.length : Int)) = false from by simp [hl],zd]
  obtain ⟨fl,hfl,hr⟩ := dl (step := fun (j1 : Nat) (x1 : LVal) (_ : Unit)=>letP (co x1) fun x22=>cond (x22 != (0 : Int)) (some (Flow.ret (σ := Unit) x22))
    (af (cond (x1.kind == (0 : Int)) (af (aN t.columns (j1 : Int)) fun (x33 : LCol)=>some (!x33.nullable)) (some false)) fun (t3 : Bool)=>cond t3 (some (.ret 8))
     (cond (x1.kind != (0 : Int)) (af (aN t.columns (j1 : Int)) fun (x47 : LCol)=>cond (x1.kind != x47.kind) (some (.ret 7)) (some (.next ()))) (some (.next ())))))
   (fun j _=>∀ (k : Nat) (c : LCol) (x : LVal),k < j → t.columns[k]? = some c → row[k]? = some x → FitsK x c.kind c.nullable) (fun r=>r ≠ 0) row 0 () (fun k c x h=>by omega) (fun k x st hk hI=>by
    simp only [Nat.zero_add] at hI ⊢
    have hkl := (zg.1 hk).1
    rw [ce,gD (xs := t.columns) (by omega)]
    by_cases hv : co x = 0
    ·rw [show (co x != (0 : Int)) = false from by simp [hv],zd]
     have hvv := validate_valid hv
     have next : FitsK x t.columns[k].kind t.columns[k].nullable → ∀ (k' : Nat) (c : LCol) (x' : LVal),k' < k + 1 → t.columns[k']? = some c → row[k']? = some x' → FitsK x' c.kind c.nullable := fun hf k' c x' h1 h2 h3=>by
      by_cases heq : k' = k
      ·subst heq
       rw [hk] at h3
       rw [ze (by omega)] at h2
       cases h2
       cases h3
       exact hf
      ·exact hI k' c x' (by omega) h2 h3
     by_cases hx : x.kind = 0
     ·rw [show (x.kind == (0 : Int)) = true from by simp [hx],zc,bPs,bPs]
      cases hn : t.columns[k].nullable with
      | false=>exact ⟨.ret 8,rfl,by simp⟩
      | true=>exact ⟨.next (),by simp [hx],next ⟨hvv,.inr hx,fun _=>hn⟩⟩
     ·rw [show (x.kind == (0 : Int)) = false from by simp [hx],zd,bPs,zd,show (x.kind != (0 : Int)) = true from by simp [hx],zc,bPs]
      by_cases hk' : x.kind = t.columns[k].kind
      ·exact ⟨.next (),by rw [bneF hk']; rfl,next ⟨hvv,.inl hk',fun h=>absurd h hx⟩⟩
      ·exact ⟨.ret 7,by rw [hO hk']; rfl,by simp⟩
    ·exact ⟨.ret (co x),by rw [show (co x != (0 : Int)) = true from by simp [hv]]; rfl,hv⟩)
  rw [hfl,bPs]
  cases fl with
  | brk s=>exact absurd hr (by simp)
  | ret r=>exact ⟨r,rfl,fun h=>absurd h hr⟩
  | next s =>
   simp only [Nat.zero_add] at hr
   exact ⟨0,rfl,fun _=>⟨hl',fun i c x hc hx=>hr i c x (zg.1 hx).1 hc hx⟩⟩
 ·exact ⟨3,by rw [show ((row.length : Int) != (t.columns.length : Int)) = true from by simp [hl]]; rfl,fun h=>by omega⟩
theorem key_tot (t : LTable) (row : Rq) (hsm : t.primaryKey.length ≤ 10000000) : ∃ k,cn t row = some k ∧ k.length = t.primaryKey.length := by
 unfold cn
 obtain ⟨fl,hfl,hr⟩ := dl (step := fun (_ : Nat) (x1 : Int) (s1 : Rq) =>
  letP (cond (decide (x1 ≥ (0 : Int))) ((decide (x1 < (row.length : Int)))) (false)) fun (t6 : Bool) =>
  af (cond t6 (af (aN row x1) fun (x27 : LVal)=>some x27) (some (LVal.mk 0 0 []))) fun (t7 : LVal) =>
  af (ej 32 s1 ([t7] : Rq)) fun (x32 : Rq)=>some (Flow.next (ρ := Empty) x32)) (fun j s=>s.length = j) (fun _=>False) t.primaryKey 0 ([] : Rq) rfl (fun k x s hk hI=>by
   have hI : s.length = k := by simpa using hI
   have hkl := (zg.1 hk).1
   rw [ce]
   have ht : ∃ v,(cond (cond (decide (x ≥ (0 : Int))) ((decide (x < (row.length : Int)))) (false)) (af (aN row x) fun (x27 : LVal)=>some x27) (some (LVal.mk 0 0 []))) = some v := by
    refine Tot.cond (fun h=>?_) fun _=>Tot.mk
    by_cases h0 : x ≥ 0
    ·rw [zt h0] at h
     exact Tot.bind (Tot.get h0 (of_decide_eq_true h)) fun _ _=>Tot.mk
    ·rw [zf h0] at h; cases h
   obtain ⟨v,hv⟩ := ht
   rw [hv,bPs,dT (by decide) (by simp; omega),bPs]
   exact ⟨_,rfl,by simp [hI]⟩)
 rw [hfl,bPs]
 cases fl with
 | brk s=>exact absurd hr (by simp)
 | ret r=>exact r.elim
 | next s=>exact ⟨s,rfl,by simpa using hr⟩
theorem oi (a b : Rq) (ha : a.length ≤ 10000000) : Tot (cA a b) := by
 unfold cA
 have hm : ∃ n : Nat,(if (b.length : Int) < (a.length : Int) then (b.length : Int) else (a.length : Int)) = (n : Int) ∧ n ≤ a.length ∧ n ≤ b.length := by
  split
  ·exact ⟨b.length,rfl,by omega,by omega⟩
  ·exact ⟨a.length,rfl,by omega,by omega⟩
 obtain ⟨n,hn,h1,h2⟩ := hm
 rw [hn,smallI_ok (by omega),bPs]
 refine Tot.bind (Tot.range _ _ _ fun k x s hk=>?_) fun fl _=>Tot.thenR fun _ _=>Tot.mk
 have hkl := (zg.1 hk).1
 simp at hkl
 rw [Nat.zero_add,gD (by omega),gD (by omega)]
 simp only [bPs,ce]
 exact Tot.cond (fun _=>Tot.mk) fun _=>Tot.mk
def KeyOrd (t : LTable) (rows : Rz) : Prop := ∀ (i : Nat) (p row : Rq),rows[i]? = some p → rows[i + 1]? = some row → ∃ k1 k2 z,cn t p = some k1 ∧ cn t row = some k2 ∧ cA k1 k2 = some z ∧ z < 0
structure InstOk (s : LSchema) (st : List LRelation) : Prop where
 len : st.length = s.tables.length
 ord : ∀ (i : Nat) (r : LRelation) (t : LTable),st[i]? = some r → s.tables[i]? = some t → KeyOrd t r.rows
 tab : ∀ (i : Nat) (r : LRelation) (t : LTable),st[i]? = some r → s.tables[i]? = some t → r.table = t.name ∧ r.rows.length ≤ 24 ∧ ∀ row ∈ r.rows,lK t.columns row
theorem conforms {s : LSchema} (hsm : lQ s) (st : List LRelation) : ∃ e,cV s st = some e ∧ (e = 0 → InstOk s st) := by
 unfold cV
 by_cases hl : (st.length : Int) = (s.tables.length : Int)
 ·have hl' : st.length = s.tables.length := by omega
  rw [show ((st.length : Int) != (s.tables.length : Int)) = false from by simp [hl],zd]
  let good : LRelation → LTable → Prop := fun r t=>(r.table = t.name ∧ r.rows.length ≤ 24 ∧ ∀ row ∈ r.rows,lK t.columns row) ∧ KeyOrd t r.rows
  obtain ⟨fl,hfl,hr⟩ := dl (step := fun (j1 : Nat) (x1 : LRelation) (_ : Unit) =>
   af (aN s.tables (j1 : Int)) fun (x28 : LTable) =>
   cond (!(x1.table == x28.name)) (some (Flow.ret (σ := Unit) (3 : Int))) (cond (decide ((x1.rows.length : Int) > (24 : Int))) (some (.ret 2))
     (af (aF (σ := Unit) (ρ := (Int)) (fun (j3 : Nat) (x3 : Rq) (_ : Unit) =>
      af (cO x28 x3) fun x49=>cond (x49 != (0 : Int)) (some (.ret x49)) (cond ((j3 : Int) == (0 : Int)) (some (.next ()))
        (af (aN x1.rows (IntKind.i64.wrap ((j3 : Int) - (1 : Int)))) fun (x60 : Rq)=>af (cn x28 x60) fun x62=>af (cn x28 x3) fun x65=>af (cA x62 x65) fun x66 =>
        cond (x66 == (0 : Int)) (some (.ret 9)) (cond (decide (x66 > (0 : Int))) (some (.ret 6)) (some (.next ())))))) 0 x1.rows ()) fun fl3=>fl3.thenF fun (_ : Unit)=>some (.next ()))))
   (fun j _=>∀ (k : Nat) (r : LRelation) (t : LTable),k < j → st[k]? = some r → s.tables[k]? = some t → good r t) (fun r=>r ≠ 0) st 0 () (fun k r t h=>by omega) (fun k r u hk hI=>by
    simp only [Nat.zero_add] at hI ⊢
    have hkl := (zg.1 hk).1
    have hkt : k < s.tables.length := by omega
    rw [gD hkt,bPs]
    by_cases hn : r.table = s.tables[k].name
    ·rw [show (!(r.table == s.tables[k].name)) = false from by simp [hn],zd]
     by_cases h24 : (r.rows.length : Int) > 24
     ·exact ⟨.ret 2,by rw [zt h24]; rfl,by simp⟩
     ·rw [zf h24,zd]
      have hsk := hsm s.tables[k] (List.getElem_mem _)
      obtain ⟨fl,hfl,hr⟩ := dl (step := fun (j3 : Nat) (x3 : Rq) (_ : Unit) =>
       af (cO s.tables[k] x3) fun x49=>cond (x49 != (0 : Int)) (some (Flow.ret (σ := Unit) x49)) (cond ((j3 : Int) == (0 : Int)) (some (.next ()))
        (af (aN r.rows (IntKind.i64.wrap ((j3 : Int) - (1 : Int)))) fun (x60 : Rq)=>af (cn s.tables[k] x60) fun x62=>af (cn s.tables[k] x3) fun x65=>af (cA x62 x65) fun x66 =>
        cond (x66 == (0 : Int)) (some (.ret 9)) (cond (decide (x66 > (0 : Int))) (some (.ret 6)) (some (.next ())))))) (fun j _=>(∀ i row,i < j → r.rows[i]? = some row → lK s.tables[k].columns row) ∧ ∀ (i : Nat) (p row : Rq),i + 1 < j → r.rows[i]? = some p → r.rows[i + 1]? = some row → ∃ k1 k2 z,cn s.tables[k] p = some k1 ∧ cn s.tables[k] row = some k2 ∧ cA k1 k2 = some z ∧ z < 0) (fun r=>r ≠ 0) r.rows 0 () ⟨fun i row h=>by omega,fun i p row h=>by omega⟩ (fun i row u hi hI2=>by
        simp only [Nat.zero_add] at hI2 ⊢
        have hil := (zg.1 hi).1
        obtain ⟨e,he,hok⟩ := conformsRow s.tables[k] row
        rw [he,bPs]
        by_cases h0 : e = 0
        ·rw [show (e != (0 : Int)) = false from by simp [h0],zd]
         have next : ∀ i' row',i' < i + 1 → r.rows[i']? = some row' → lK s.tables[k].columns row' := fun i' row' h1 h2=>by
          by_cases heq : i' = i
          ·subst heq; rw [hi] at h2; cases h2; exact hok h0
          ·exact hI2.1 i' row' (by omega) h2
         by_cases hi0 : i = 0
         ·exact ⟨.next (),by simp [hi0],next,fun i' p row' h1=>by omega⟩
         ·rw [show ((i : Int) == (0 : Int)) = false from by simp; omega,zd,fa (by omega) (by omega)]
          obtain ⟨p,hp⟩ := Tot.get (xs := r.rows) (i := (i : Int) - 1) (by omega) (by omega)
          obtain ⟨k1,hk1,hl1⟩ := key_tot s.tables[k] p hsk
          obtain ⟨k2,hk2,_⟩ := key_tot s.tables[k] row hsk
          obtain ⟨z,hz⟩ := oi k1 k2 (by omega)
          rw [hp,bPs,hk1,bPs,hk2,bPs,hz,bPs]
          by_cases z0 : z = 0
          ·exact ⟨.ret 9,by rw [beqT z0]; rfl,by simp⟩
          ·by_cases z1 : z > 0
           ·exact ⟨.ret 6,by rw [gC z0,zt z1]; rfl,by simp⟩
           ·refine ⟨.next (),by rw [gC z0,zf z1]; rfl,next,fun i' p' row' h1 h2 h3=>?_⟩
            by_cases heq : i' + 1 = i
            ·subst heq
             rw [hi] at h3
             cases h3
             have hp' := (gIs hp).2
             rw [show (((i' + 1 : Nat) : Int) - 1).toNat = i' from by omega,h2] at hp'
             cases hp'
             exact ⟨k1,k2,z,hk1,hk2,hz,by omega⟩
            ·exact hI2.2 i' p' row' (by omega) h2 h3
        ·exact ⟨.ret e,by rw [show (e != (0 : Int)) = true from by simp [h0]]; rfl,h0⟩)
      rw [hfl,bPs]
      cases fl with
      | brk s=>exact absurd hr (by simp)
      | ret e=>exact ⟨.ret e,rfl,hr⟩
      | next s' =>
       simp only [Nat.zero_add] at hr
       refine ⟨.next (),rfl,fun k' r' t' h1 h2 h3=>?_⟩
       by_cases heq : k' = k
       ·subst heq
        rw [hk] at h2
        rw [ze hkt] at h3
        cases h2
        cases h3
        refine ⟨⟨hn,by omega,fun row hrow=>?_⟩,fun i p row h2 h3=>hr.2 i p row (zg.1 h3).1 h2 h3⟩
        obtain ⟨i,hi,rfl⟩ := List.mem_iff_getElem.1 hrow
        exact hr.1 i _ hi (ze hi)
       ·exact hI k' r' t' (by omega) h2 h3
    ·exact ⟨.ret 3,by rw [show (!(r.table == s.tables[k].name)) = true from by simp [hn]]; rfl,by simp⟩)
  rw [hfl,bPs]
  cases fl with
  | brk s=>exact absurd hr (by simp)
  | ret r=>exact ⟨r,rfl,fun h=>absurd h hr⟩
  | next u =>
   simp only [Nat.zero_add] at hr
   exact ⟨0,rfl,fun _=>⟨hl',fun i r t h1 h2=>(hr i r t (zg.1 h1).1 h1 h2).2,fun i r t h1 h2=>(hr i r t (zg.1 h1).1 h1 h2).1⟩⟩
 ·exact ⟨3,by rw [show ((st.length : Int) != (s.tables.length : Int)) = true from by simp [hl]]; rfl,fun h=>by omega⟩
theorem nr (l : List Int) (v : Int) : bU l v = some (l.any fun x=>v == x) := by
 unfold bU eN
 rw [idxF2 (p := fun x=>v == x),bPs,jD]
theorem shape1 (l : List Int) (q : LQuery) : cm l q = some (l.any fun x=>q.kind == x) := by
 unfold cm
 rw [nr,bPs]
def arityQ (k : Int) : Nat := if k = 1 then 0 else if k = 4 ∨ k = 5 ∨ k = 6 ∨ k = 7 then 2 else 1
def jQ (q : LQuery) : Bool :=
 decide (1 ≤ q.kind) && decide (q.kind ≤ 10) && decide (q.inputs.length = arityQ q.kind) && (q.kind == 1 || q.table == []) && (q.kind == 3 || q.kind == 8 || decide (q.names.length = 0)) &&
 (q.kind == 8 || decide (q.aggregates.length = 0)) && (q.kind == 9 || decide (q.descending.length = 0)) && (q.kind == 10 || (q.count == 0 && q.offset == 0)) &&
 (if q.kind = 2 ∨ q.kind = 4 ∨ q.kind = 5 then decide (q.exprs.length = 1)
  else if q.kind = 3 ∨ q.kind = 8 then decide (q.exprs.length = q.names.length) && decide (0 < q.exprs.length + q.aggregates.length)
  else if q.kind = 9 then decide (q.exprs.length = q.descending.length) && decide (0 < q.exprs.length)
  else if q.kind = 10 then decide (q.exprs.length = 0) && decide (q.count ≥ 0) && decide (q.offset ≥ 0)
  else decide (q.exprs.length = 0))
theorem natE (a b : Nat) : ((a : Int) == (b : Int)) = decide (a = b) := by
 by_cases h : a = b
 ·simp [h]
 ·rw [zf h]; exact gC (by omega)
theorem natNE (a b : Nat) : ((a : Int) != (b : Int)) = !decide (a = b) := by rw [bne,natE]
theorem natPos (a : Nat) : decide ((a : Int) > 0) = !decide (a = 0) := by
 by_cases h : a = 0
 ·simp [h]
 ·rw [zf h,zt (by omega)]; rfl
theorem condSome {α : Type} (b : Bool) (x y : α) : (cond b (some x) (some y)) = some (cond b x y) := by cases b <;> rfl
theorem shape_eq (q : LQuery) (hs : q.exprs.length ≤ 10000000 ∧ q.aggregates.length ≤ 10000000) : gQ q = some (jQ q) := by
 unfold gQ
 simp only [shape1,bPs]
 by_cases k0 : q.kind < 1
 ·rw [zt k0]
  simp [jQ,show ¬ (1 ≤ q.kind) from by omega]
 rw [zf k0]
 by_cases k10 : q.kind > 10
 ·rw [zt k10]
  simp [jQ,show ¬ (q.kind ≤ 10) from by omega]
 rw [zf k10]
 have hw : IntKind.i64.wrap ((q.exprs.length : Int) + (q.aggregates.length : Int)) = ((q.exprs.length + q.aggregates.length : Nat) : Int) := by rw [fa (by omega) (by omega)]; simp
 rw [hw]
 have hk : q.kind = 1 ∨ q.kind = 2 ∨ q.kind = 3 ∨ q.kind = 4 ∨ q.kind = 5 ∨ q.kind = 6 ∨ q.kind = 7 ∨ q.kind = 8 ∨ q.kind = 9 ∨ q.kind = 10 := by omega
 unfold jQ
 have e0 : ∀ n : Nat,((n : Int) == 0) = decide (n = 0) := fun n=>natE n 0
 have e1 : ∀ n : Nat,((n : Int) == 1) = decide (n = 1) := fun n=>natE n 1
 have n0 : ∀ n : Nat,((n : Int) != 0) = !decide (n = 0) := fun n=>natNE n 0
 have n1 : ∀ n : Nat,((n : Int) != 1) = !decide (n = 1) := fun n=>natNE n 1
 have n2 : ∀ n : Nat,((n : Int) != 2) = !decide (n = 2) := fun n=>natNE n 2
 have c0 : (q.count != 0) = !(q.count == 0) := rfl
 have o0 : (q.offset != 0) = !(q.offset == 0) := rfl
 have p0 : decide (0 < q.exprs.length) = !decide (q.exprs.length = 0) := by rw [← natPos]; simp
 have p1 : decide (0 < q.exprs.length + q.aggregates.length) = !decide (q.exprs.length + q.aggregates.length = 0) := by rw [← natPos]; simp; omega
 simp only [natPos,natE,e0,e1,c0,o0,p0,p1]
 generalize (q.table == []) = b1
 generalize decide (q.names.length = 0) = b2
 generalize decide (q.aggregates.length = 0) = b3
 generalize decide (q.descending.length = 0) = b4
 generalize (q.count == 0) = b5
 generalize (q.offset == 0) = b6
 generalize decide (q.exprs.length = 1) = b7
 generalize decide (q.exprs.length = q.names.length) = b8
 generalize decide (q.exprs.length + q.aggregates.length = 0) = b9
 generalize decide (q.exprs.length = q.descending.length) = b10
 generalize decide (q.exprs.length = 0) = b11
 generalize decide (q.count ≥ 0) = b12
 generalize decide (q.offset ≥ 0) = b13
 generalize hL : q.inputs.length = L
 rcases hk with h | h | h | h | h | h | h | h | h | h <;> rw [h]
 all_goals simp only [arityQ,aN]
 all_goals simp [n0,n1,n2,condSome,Bool.and_assoc]
def e0Q (q : LQuery) : LExpr := q.exprs.headD (.mk 1 [] 0 .nul [])
def kT (a b : List LCol) (left : Bool) : List LCol := a ++ b.map fun x=>⟨x.name,x.kind,x.nullable || left⟩
def setCols (kind : Int) (a b : List LCol) : List LCol × Int :=
 if a.length = b.length ∧ a.map LCol.kind = b.map LCol.kind then (List.zipWith (fun x y=>⟨x.name,x.kind,x.nullable || (kind == 6 && y.nullable)⟩) a b,0) else ([],7)
def cM (vars cols : List LCol) : List LExpr → List (List UInt8) → List LCol × Int
 | e :: es,n :: ns=>if cw n = false then ([],3) else if (dK cols vars e).2.2 ≠ 0 then ([],(dK cols vars e).2.2) else if (dK cols vars e).1 = 0 then ([],7)
  else if (cM vars cols es ns).2 ≠ 0 then ([],(cM vars cols es ns).2) else (⟨n,(dK cols vars e).1,(dK cols vars e).2.1⟩ :: (cM vars cols es ns).1,0)
 | _,_=>([],0)
abbrev ja : List UInt8 := [99,111,117,110,116]
abbrev sSum : List UInt8 := [115,117,109]
abbrev sMin : List UInt8 := [109,105,110]
abbrev sMax : List UInt8 := [109,97,120]
def aggQ (vars cols : List LCol) (a : LAggregateCall) : Int × Int :=
 if cw a.name = false ∨ ¬ a.function ∈ [ja,sSum,sMin,sMax] ∨ 1 < a.args.length ∨ (a.args.length < 1 ∧ a.function ≠ ja) then (0,3)
 else match a.args with
  | []=>(1,0)
  | e :: _=>if (dK cols vars e).2.2 ≠ 0 then (0,(dK cols vars e).2.2) else if (dK cols vars e).1 = 0 ∨ (a.function = sSum ∧ (dK cols vars e).1 ≠ 1) then (0,7)
   else if a.function = ja then (1,0) else ((dK cols vars e).1,0)
def eK (vars cols : List LCol) : List LAggregateCall → List LCol × Int
 | []=>([],0)
 | a :: l=>if (aggQ vars cols a).2 ≠ 0 then ([],(aggQ vars cols a).2) else if (eK vars cols l).2 ≠ 0 then ([],(eK vars cols l).2)
  else (⟨a.name,(aggQ vars cols a).1,!(a.function == ja)⟩ :: (eK vars cols l).1,0)
def namedQ (vars cols : List LCol) (q : LQuery) : List LCol × Int :=
 if (cM vars cols q.exprs q.names).2 ≠ 0 then ([],(cM vars cols q.exprs q.names).2)
 else if (eK vars cols q.aggregates).2 ≠ 0 then ([],(eK vars cols q.aggregates).2)
 else ((cM vars cols q.exprs q.names).1 ++ (eK vars cols q.aggregates).1,0)
def iM (vars cols : List LCol) : List LExpr → Int
 | []=>0
 | e :: l=>if (dK cols vars e).2.2 ≠ 0 then (dK cols vars e).2.2 else iM vars cols l
def outQ (c : LChecker) (q : LQuery) (ins : List (List LCol)) : List LCol × Int :=
 if q.kind = 1 then (match c.s.tables.find? fun t=>t.name == q.table with | some t=>(t.columns,0) | none=>([],4))
 else if q.kind = 2 then (ins.getD 0 [],cx c (ins.getD 0 []) (e0Q q))
 else if q.kind = 4 ∨ q.kind = 5 then (kT (ins.getD 0 []) (ins.getD 1 []) (q.kind == 5),cx c (kT (ins.getD 0 []) (ins.getD 1 []) (q.kind == 5)) (e0Q q))
 else if q.kind = 6 ∨ q.kind = 7 then setCols q.kind (ins.getD 0 []) (ins.getD 1 [])
 else if q.kind = 3 ∨ q.kind = 8 then namedQ c.vars (ins.getD 0 []) q
 else if q.kind = 9 then (if iM c.vars (ins.getD 0 []) q.exprs ≠ 0 then ([],iM c.vars (ins.getD 0 []) q.exprs) else (ins.getD 0 [],0))
 else (ins.getD 0 [],0)
theorem find_idx {α : Type} (p : α → Bool) (l : List α) : (l.find? p = none ∧ bg p l = -1) ∨ ∃ x,l.find? p = some x ∧ 0 ≤ bg p l ∧ l[(bg p l).toNat]? = some x := by
 induction l with
 | nil=>exact .inl ⟨rfl,rfl⟩
 | cons a l ih =>
  by_cases h : p a = true
  ·right
   exact ⟨a,by simp [h],by unfold bg; simp [List.findIdx?_cons,h],by unfold bg; simp [List.findIdx?_cons,h]⟩
  ·have h : p a = false := by simpa using h
   have hi : bg p (a :: l) = if bg p l < 0 then -1 else bg p l + 1 := by
    unfold bg
    simp only [List.findIdx?_cons,h,Bool.false_eq_true,if_false]
    cases l.findIdx? p with
    | none=>rfl
    | some i=>rw [zy (by simp only; omega)]; simp
   rw [List.find?_cons,h,hi]
   rcases ih with ⟨h1,h2⟩ | ⟨x,h1,h2,h3⟩
   ·left; exact ⟨h1,by rw [h2]; rfl⟩
   ·right
    refine ⟨x,h1,by split <;> omega,?_⟩
    rw [zy (by omega),show (bg p l + 1).toNat = (bg p l).toNat + 1 from by omega,List.getElem?_cons_succ,h3]
theorem set_ok (kind : Int) (a b : List LCol) : eT kind a b = some (setCols kind a b) := by
 unfold eT setCols
 by_cases hl : a.length = b.length
 ·rw [natNE,zt hl]
  simp only [Bool.not_true,zd]
  let z : LCol → LCol → LCol := fun x y=>⟨x.name,x.kind,x.nullable || (kind == 6 && y.nullable)⟩
  obtain ⟨fl,hfl,hr⟩ := dl (step := fun (j1 : Nat) (x1 : LCol) (s1 : List LCol) =>
   af (aN b (j1 : Int)) fun (x29 : LCol)=>cond (x1.kind != x29.kind) (some (Flow.ret (([],7) : List LCol × Int)))
    (cond x1.nullable (af (aN s1 (j1 : Int)) fun (x51 : LCol)=>letP (s1.set ((j1 : Int).toNat) (LCol.mk x51.name x51.kind true)) fun (y8 : List LCol)=>some (.next y8))
     (cond (kind == (6 : Int)) (af (aN b (j1 : Int)) fun (x46 : LCol)=>af (aN s1 (j1 : Int)) fun (x51 : LCol)=>letP (s1.set ((j1 : Int).toNat) (LCol.mk x51.name x51.kind x46.nullable)) fun (y9 : List LCol)=>some (.next y9))
      (af (aN s1 (j1 : Int)) fun (x51 : LCol)=>letP (s1.set ((j1 : Int).toNat) (LCol.mk x51.name x51.kind false)) fun (y10 : List LCol)=>some (.next y10)))))
   (fun j s=>s = (List.zipWith z a b).take j ++ a.drop j ∧ (a.take j).map LCol.kind = (b.take j).map LCol.kind) (fun r=>r = ([],7) ∧ a.map LCol.kind ≠ b.map LCol.kind) a 0 a ⟨by simp,rfl⟩ (fun k x s hk hI=>by
    simp only [Nat.zero_add] at hI ⊢
    have hka := (zg.1 hk).1
    have hxe := (zg.1 hk).2
    have hkb : k < b.length := by omega
    rw [gD hkb,bPs,bPs]
    by_cases hkk : x.kind = b[k].kind
    ·have hzl : ((List.zipWith z a b).take k).length = k := by simp; omega
     have hs : s[k]? = some x := by
      rw [hI.1,List.getElem?_append_right (by omega),hzl,Nat.sub_self,List.getElem?_drop,Nat.add_zero,hk]
     have hkinds : (a.take (k + 1)).map LCol.kind = (b.take (k + 1)).map LCol.kind := by
      rw [List.take_add_one,List.take_add_one,hk,ze hkb,List.map_append,List.map_append,hI.2]
      congr 1
      show [x.kind] = [b[k].kind]
      rw [hkk]
     have hset : ∀ v : LCol,v = z x b[k] → s.set k v = (List.zipWith z a b).take (k + 1) ++ a.drop (k + 1) := by
      intro v hv
      rw [hI.1,List.set_append_right _ _ (by omega),hzl,Nat.sub_self]
      rw [List.drop_eq_getElem_cons hka,List.set_cons_zero,List.take_add_one,List.append_assoc]
      congr 1
      rw [List.getElem?_zipWith,hk,ze hkb]
      simp [hv]
     rw [bneF hkk,zd,getI_nat hs]
     simp only [bPs,ce,Int.toNat_natCast]
     cases hx : x.nullable with
     | true=>exact ⟨_,rfl,hset _ (by simp [z,hx]),hkinds⟩
     | false =>
      by_cases h6 : kind = 6
      ·exact ⟨.next _,by rw [beqT h6]; rfl,hset _ (by simp [z,hx,h6]),hkinds⟩
      ·exact ⟨.next _,by rw [gC h6]; rfl,hset _ (by simp [z,hx,h6]),hkinds⟩
    ·refine ⟨.ret ([],7),by rw [hO hkk]; rfl,rfl,fun he=>hkk ?_⟩
     have := congrArg (fun l=>l[k]?) he
     simp only [List.getElem?_map,hk,ze hkb,Option.map_some,zo] at this
     exact this)
  rw [hfl,bPs]
  cases fl with
  | brk s=>exact absurd hr (by simp)
  | ret r=>rw [hr.1,zy (fun h=>hr.2 h.2)]; rfl
  | next s =>
   simp only [Nat.zero_add] at hr
   rw [fw,hr.1,zp ⟨hl,by have := hr.2; rwa [List.take_length,hl,List.take_length] at this⟩]
   have : (List.zipWith z a b).take a.length = List.zipWith z a b := List.take_of_length_le (by simp; omega)
   rw [this,List.drop_length,List.append_nil]
 ·rw [natNE,zf hl,zy (fun h=>hl h.1)]
  rfl
theorem kt {α : Type} {l : List α} {d : α} (h : 0 < l.length) : aN l 0 = some (l.getD 0 d) := by
 cases l with
 | nil=>simp at h
 | cons a l=>rfl
theorem getD1 {α : Type} {l : List α} {d : α} (h : 1 < l.length) : aN l 1 = some (l.getD 1 d) := by
 match l with
 | []=>simp at h
 | [_]=>simp at h
 | a :: b :: l=>rfl
theorem e0_get {q : LQuery} (h : 0 < q.exprs.length) : aN q.exprs 0 = some (e0Q q) := by
 unfold e0Q
 cases hq : q.exprs with
 | nil=>rw [hq] at h; simp at h
 | cons a l=>rfl
theorem containsS (l : List (List UInt8)) (v : List UInt8) : bn l v = some (decide (v ∈ l)) := by
 unfold bn cR
 rw [idxF2 (p := fun x=>v == x),bPs,jD]
 congr 1
 by_cases h : v ∈ l
 ·rw [zt h,List.any_eq_true]; exact ⟨v,h,by simp⟩
 ·rw [zf h,List.any_eq_false]
  intro x hx he
  exact h (by simp at he; rwa [he])
theorem agg_eq (c : LChecker) (cols : List LCol) (a : LAggregateCall) : ee c cols a = some (aggQ c.vars cols a) := by
 unfold ee aggQ
 simp only [ce,containsS,bPs]
 by_cases h1 : cw a.name = false
 ·simp [h1]
 have h1' : cw a.name = true := by simpa using h1
 by_cases h2 : a.function ∈ [ja,sSum,sMin,sMax]
 ·rw [zt (show a.function ∈ ([[99,111,117,110,116],[115,117,109],[109,105,110],[109,97,120]] : List (List UInt8)) from h2)]
  cases ha : a.args with
  | nil =>
   by_cases h3 : a.function = ja
   ·simp [h1',h3]
   ·have h3' : (a.function == ([99,111,117,110,116] : List UInt8)) = false := by simpa using h3
    simp [h1',h3,h2,h3']
  | cons e l =>
   cases l with
   | cons e2 l =>
    have : (1 : Int) < (l.length : Int) + 1 + 1 := by omega
    simp [h1',h2,this]
   | nil =>
    simp only [h1',Bool.not_true,zd,List.length_singleton]
    have hno : ¬ (True = False ∨ ¬ a.function ∈ [ja,sSum,sMin,sMax] ∨ 1 < 1 ∨ (1 < 1 ∧ a.function ≠ ja)) := by simp [h2]
    simp only [aN]
    by_cases h4 : (dK cols c.vars e).2.2 = 0
    ·by_cases h5 : (dK cols c.vars e).1 = 0
     ·simp [h2,h4,h5]
     ·by_cases h6 : a.function = sSum
      ·by_cases h7 : (dK cols c.vars e).1 = 1
       ·simp [h4,h6,h7]
       ·simp [h4,h5,h6,h7,hO h7]
      ·have h6' : (a.function == ([115,117,109] : List UInt8)) = false := by simpa using h6
       by_cases h8 : a.function = ja
       ·simp [h4,h5,h8,gC h5]
       ·have h8' : (a.function == ([99,111,117,110,116] : List UInt8)) = false := by simpa using h8
        simp [h2,h4,h5,h6,h8,h6',h8',gC h5]
    ·simp [h2,h4,hO h4]
 ·rw [zf (show ¬ a.function ∈ ([[99,111,117,110,116],[115,117,109],[109,105,110],[109,97,120]] : List (List UInt8)) from h2)]
  simp [h1',h2]
theorem namedE_run (vars cols : List LCol) (names : List (List UInt8)) : ∀ (es : List LExpr) (j : Nat) (s : List LCol),es.length + j = names.length → s.length + es.length ≤ 10000000 →
  ∀ k : List LCol → Option (List LCol × Int),af (aF (σ := List LCol) (ρ := ((List LCol) × Int)) (fun (j1 : Nat) (x1 : LExpr) (s1 : List LCol) =>
  letP (dK cols vars x1) fun x31 =>
  af (aN names (j1 : Int)) fun (x39 : List UInt8) =>
  letP (cw x39) fun x41 =>
  cond (!x41)
   (some (.ret ([],3)))
   (cond (x31.2.2 != (0 : Int))
    (some (.ret ([],x31.2.2)))
    (cond (x31.1 == (0 : Int))
     (some (.ret ([],7)))
     (af (aN names (j1 : Int)) fun (x54 : List UInt8) =>
     af (ej 32 s1 ([(LCol.mk x54 x31.1 x31.2.1)] : List LCol)) fun (x60 : List LCol) =>
     some (.next x60))))) j es s) (fun fl1=>fl1.thenR k) = if (cM vars cols es (names.drop j)).2 ≠ 0 then some ([],(cM vars cols es (names.drop j)).2) else k (s ++ (cM vars cols es (names.drop j)).1)
 | [],j,s,_,_,k=>by simp [aF,cM]
 | e :: es,j,s,hl,hb,k=>by
  have hj : j < names.length := by simp at hl; omega
  rw [aF,List.drop_eq_getElem_cons hj,cM,ce,gD hj,bPs,ce]
  cases h1 : cw names[j] with
  | false=>simp
  | true =>
   simp only [Bool.not_true,zd,Bool.true_eq_false,if_false]
   by_cases h2 : (dK cols vars e).2.2 = 0
   ·rw [bneF h2,zd]
    simp only [h2,ne_eq,not_true_eq_false,if_false]
    by_cases h3 : (dK cols vars e).1 = 0
    ·rw [beqT h3]; simp [h3]
    ·rw [gC h3,zd,bPs,dT (by decide) (by simp at hb ⊢; omega),bPs]
     simp only [h3,if_false]
     rw [namedE_run vars cols names es (j + 1) _ (by simp at hl; omega) (by simp at hb ⊢; omega) k]
     by_cases h4 : (cM vars cols es (names.drop (j + 1))).2 = 0
     ·simp [h4]
     ·simp [h4]
   ·rw [hO h2]
    simp [h2]
theorem namedA_run (c : LChecker) (cols : List LCol) : ∀ (l : List LAggregateCall) (j : Nat) (s : List LCol),s.length + l.length ≤ 10000000 →
  af (aF (σ := List LCol) (ρ := ((List LCol) × Int)) (fun (_ : Nat) (x2 : LAggregateCall) (s2 : List LCol) =>
  af (ee c cols x2) fun x73 =>
  cond (x73.2 != (0 : Int))
   (some (.ret ([],x73.2)))
   (af (ej 32 s2 ([(LCol.mk x2.name x73.1 (!(x2.function == ([99,111,117,110,116] : List UInt8))))] : List LCol)) fun (x88 : List LCol) =>
   some (.next x88))) j l s) (fun fl2=>fl2.thenR fun (s2 : List LCol)=>some (s2,0)) = some (if (eK c.vars cols l).2 ≠ 0 then ([],(eK c.vars cols l).2) else (s ++ (eK c.vars cols l).1,0))
 | [],j,s,_=>by simp [aF,eK]
 | a :: l,j,s,hb=>by
  rw [aF,eK,agg_eq,bPs]
  by_cases h1 : (aggQ c.vars cols a).2 = 0
  ·rw [bneF h1,zd,dT (by decide) (by simp at hb ⊢; omega),bPs]
   simp only [h1,ne_eq,not_true_eq_false,if_false]
   rw [namedA_run c cols l (j + 1) _ (by simp at hb ⊢; omega)]
   by_cases h4 : (eK c.vars cols l).2 = 0
   ·simp [h4]
   ·simp [h4]
  ·rw [hO h1]
   simp [h1]
theorem named_eq (c : LChecker) (q : LQuery) (cols : List LCol) (hl : q.exprs.length = q.names.length) (hb : q.exprs.length ≤ 1000000 ∧ q.aggregates.length ≤ 1000000) : db c q cols = some (namedQ c.vars cols q) := by
 unfold db namedQ
 rw [namedE_run c.vars cols q.names q.exprs 0 [] (by omega) (by simp; omega),List.drop_zero]
 by_cases h : (cM c.vars cols q.exprs q.names).2 = 0
 ·have hlen : ∀ (es : List LExpr) (ns : List (List UInt8)),(cM c.vars cols es ns).1.length ≤ es.length := by
   intro es
   induction es with
   | nil=>intro ns; simp [cM]
   | cons e es ih =>
    intro ns
    cases ns with
    | nil=>simp [cM]
    | cons n ns =>
     simp only [cM]
     split
     ·simp
     ·split
      ·simp
      ·split
       ·simp
       ·split
        ·simp
        ·have := ih ns; simp; omega
  simp only [h,ne_eq,not_true_eq_false,if_false,List.nil_append]
  rw [namedA_run c cols q.aggregates 0 _ (by have := hlen q.exprs q.names; omega)]
 ·simp [h]
structure SmallQ (q : LQuery) : Prop where
 nodes : (bR q).length ≤ 10000000
 here : ∀ x ∈ bR q,x.exprs.length ≤ 1000000 ∧ x.aggregates.length ≤ 1000000
theorem mem_nodes {q x y : LQuery} (h : x ∈ q.inputs) (hy : y ∈ bR x) : y ∈ bR q := by
 rw [fV]
 exact List.mem_cons_of_mem _ (List.mem_flatten.2 ⟨_,List.mem_map.2 ⟨x,h,rfl⟩,hy⟩)
theorem self_nodes (q : LQuery) : q ∈ bR q := by rw [fV]; exact List.mem_cons_self
theorem SmallQ.sub {q x : LQuery} (h : SmallQ q) (hx : x ∈ q.inputs) : SmallQ x :=
 ⟨by have := iW hx; have := h.nodes; omega,fun y hy=>h.here y (mem_nodes hx hy)⟩
theorem SmallQ.self {q : LQuery} (h : SmallQ q) : q.exprs.length ≤ 1000000 ∧ q.aggregates.length ≤ 1000000 := h.here q (self_nodes q)
structure ShapeOk (q : LQuery) : Prop where
 kind : 1 ≤ q.kind ∧ q.kind ≤ 10
 arity : q.inputs.length = arityQ q.kind
 one : q.kind = 2 ∨ q.kind = 4 ∨ q.kind = 5 → q.exprs.length = 1
 named : q.kind = 3 ∨ q.kind = 8 → q.exprs.length = q.names.length
 aggs : q.kind ≠ 8 → q.aggregates = []
 sorted : q.kind = 9 → q.exprs.length = q.descending.length
 limit : q.kind = 10 → 0 ≤ q.count ∧ 0 ≤ q.offset
theorem shape_ok {q : LQuery} (h : jQ q = true) : ShapeOk q := by
 unfold jQ at h
 simp only [Bool.and_eq_true,decide_eq_true_eq] at h
 obtain ⟨⟨⟨⟨⟨⟨⟨⟨h1,h2⟩,h3⟩,h4⟩,h5⟩,h6⟩,h7⟩,h8⟩,h9⟩ := h
 refine ⟨⟨h1,h2⟩,h3,fun hk=>?_,fun hk=>?_,fun hk=>?_,fun hk=>?_,fun hk=>?_⟩
 ·rw [zp hk] at h9; simpa using h9
 ·rw [zy (by omega),zp hk] at h9; simp at h9; exact h9.1
 ·have : (q.kind == 8) = false := gC hk
  rw [this] at h6; simp at h6; exact h6
 ·rw [zy (by omega),zy (by omega),zp hk] at h9; simp at h9; exact h9.1
 ·rw [zy (by omega),zy (by omega),zy (by omega),zp hk] at h9; simp at h9; omega
theorem join_run (left : Bool) : ∀ (b : List LCol) (j : Nat) (a : List LCol),a.length + b.length ≤ 10000000 →
  aF (σ := List LCol) (ρ := Empty) (fun (_ : Nat) (x2 : LCol) (s2 : List LCol)=>cond x2.nullable
          (af (ej 32 s2 ([(LCol.mk x2.name x2.kind true)] : List LCol)) fun (x76 : List LCol)=>some (.next x76))
          (af (ej 32 s2 ([(LCol.mk x2.name x2.kind left)] : List LCol)) fun (x76 : List LCol)=>some (.next x76))) j b a = some (.next (kT a b left))
 | [],j,a,_=>by simp [aF,kT]
 | x :: b,j,a,h=>by
  have step : (cond x.nullable (af (ej 32 a ([(LCol.mk x.name x.kind true)] : List LCol)) fun (x76 : List LCol)=>some (Flow.next (ρ := Empty) x76))
    (af (ej 32 a ([(LCol.mk x.name x.kind left)] : List LCol)) fun (x76 : List LCol)=>some (.next x76))) = some (.next (a ++ [⟨x.name,x.kind,x.nullable || left⟩])) := by
   rw [dT (by decide) (by simp at h ⊢; omega),dT (by decide) (by simp at h ⊢; omega)]
   cases x.nullable <;> simp
  rw [aF,step]
  simp only
  rw [join_run left b (j + 1) _ (by simp at h ⊢; omega)]
  simp [kT]
theorem sort_run (vars cols : List LCol) (ins : List (List LCol)) (h0 : aN ins 0 = some cols) : ∀ (es : List LExpr) (j : Nat) (k : Unit → Option (List LCol × Int)),
  af (aF (σ := Unit) (ρ := ((List LCol) × Int)) (fun (_ : Nat) (x5 : LExpr) (_ : Unit)=>af (aN ins 0) fun (x122 : List LCol)=>letP (dK x122 vars x5) fun x127=>cond (x127.2.2 != (0 : Int)) (some (.ret ([],x127.2.2))) (some (.next ()))) j es ()) (fun fl5=>fl5.thenR k) =
   if iM vars cols es ≠ 0 then some ([],iM vars cols es) else k ()
 | [],j,k=>by simp [aF,iM]
 | e :: es,j,k=>by
  rw [aF,iM,h0,bPs,ce]
  by_cases h : (dK cols vars e).2.2 = 0
  ·rw [bneF h,zd]
   simp only [h,ne_eq,not_true_eq_false,if_false]
   rw [← h0]
   exact sort_run vars cols ins h0 es (j + 1) k
  ·rw [hO h]; simp [h]
theorem out_eq {c : LChecker} {q : LQuery} {ins : List (List LCol)} (hs : ShapeOk q) (hsm : SmallQ q) (hl : ins.length = q.inputs.length) (hb : ∀ l ∈ ins,l.length ≤ 20) : eQ c q ins = some (outQ c q ins) := by
 obtain ⟨hk,ha,h1,hn,_,_,_⟩ := hs
 have hself := hsm.self
 have hi : ∀ i,i < ins.length → (ins.getD i []).length ≤ 20 := fun i hi=>by
  rw [List.getD_eq_getElem?_getD,ze hi]
  exact hb _ (List.getElem_mem hi)
 have e0 : q.exprs.length = 1 → aN q.exprs 0 = some (e0Q q) := fun h=>e0_get (by omega)
 unfold eQ outQ
 have kk : q.kind = 1 ∨ q.kind = 2 ∨ q.kind = 3 ∨ q.kind = 4 ∨ q.kind = 5 ∨ q.kind = 6 ∨ q.kind = 7 ∨ q.kind = 8 ∨ q.kind = 9 ∨ q.kind = 10 := by omega
 rcases kk with h | h | h | h | h | h | h | h | h | h
 ·rw [h,mT]
  simp only [bPs]
  rcases find_idx (fun a0=>da a0 q) c.s.tables with ⟨f1,f2⟩ | ⟨t,f1,f2,f3⟩
  ·have f1' : c.s.tables.find? (fun t=>t.name == q.table) = none := f1
   rw [f2,f1']
   rfl
  ·have f1' : c.s.tables.find? (fun t=>t.name == q.table) = some t := f1
   rw [f1',zf (show ¬ bg (fun a0=>da a0 q) c.s.tables < 0 from by omega),iQ f2 f3]
   rfl
 all_goals rw [h] at ha
 all_goals simp only [arityQ] at ha
 ·have g0 : aN ins 0 = some (ins.getD 0 []) := kt (by simp at ha; omega)
  rw [h,g0,e0 (h1 (.inl h))]
  simp [ce]
 ·have g0 : aN ins 0 = some (ins.getD 0 []) := kt (by simp at ha; omega)
  rw [h,g0]
  simp only [bPs]
  rw [named_eq c q _ (hn (.inl h)) hself]
  simp [ce]
 ·have g0 : aN ins 0 = some (ins.getD 0 []) := kt (by simp at ha; omega)
  have g1 : aN ins 1 = some (ins.getD 1 []) := getD1 (by simp at ha; omega)
  rw [h,g0,g1,e0 (h1 (.inr (.inl h)))]
  simp only [bPs]
  rw [join_run ((4 : Int) == 5) _ 0 _ (by have := hi 0 (by simp at ha; omega); have := hi 1 (by simp at ha; omega); omega)]
  simp [ce]
 ·have g0 : aN ins 0 = some (ins.getD 0 []) := kt (by simp at ha; omega)
  have g1 : aN ins 1 = some (ins.getD 1 []) := getD1 (by simp at ha; omega)
  rw [h,g0,g1,e0 (h1 (.inr (.inr h)))]
  simp only [bPs]
  rw [join_run ((5 : Int) == 5) _ 0 _ (by have := hi 0 (by simp at ha; omega); have := hi 1 (by simp at ha; omega); omega)]
  simp [ce]
 ·have g0 : aN ins 0 = some (ins.getD 0 []) := kt (by simp at ha; omega)
  have g1 : aN ins 1 = some (ins.getD 1 []) := getD1 (by simp at ha; omega)
  rw [h,g0,g1]
  simp only [bPs,set_ok]
  simp [ce]
 ·have g0 : aN ins 0 = some (ins.getD 0 []) := kt (by simp at ha; omega)
  have g1 : aN ins 1 = some (ins.getD 1 []) := getD1 (by simp at ha; omega)
  rw [h,g0,g1]
  simp only [bPs,set_ok]
  simp [ce]
 ·have g0 : aN ins 0 = some (ins.getD 0 []) := kt (by simp at ha; omega)
  rw [h,g0]
  simp only [bPs]
  rw [named_eq c q _ (hn (.inr h)) hself]
  simp [ce]
 ·have g0 : aN ins 0 = some (ins.getD 0 []) := kt (by simp at ha; omega)
  rw [h,sort_run c.vars _ ins g0,g0]
  simp only [ce,bPs]
  by_cases hse : iM c.vars (ins.getD 0 []) q.exprs = 0
  ·simp only [hse,ne_eq,not_true_eq_false,if_false]; rfl
  ·simp only [hse,ne_eq,not_false_eq_true,if_true]; rfl
 ·have g0 : aN ins 0 = some (ins.getD 0 []) := kt (by simp at ha; omega)
  rw [h,g0]
  simp [ce]
def cF : List (List LCol × Int) → List (List LCol) × Int
 | []=>([],0)
 | r :: l=>if r.2 ≠ 0 then ([],r.2) else if (cF l).2 ≠ 0 then ([],(cF l).2) else (r.1 :: (cF l).1,0)
def mr (c : LChecker) (q : LQuery) (ins : List (List LCol × Int)) : List LCol × Int :=
 if jQ q = false then ([],3) else if (cF ins).2 ≠ 0 then ([],(cF ins).2)
 else if (outQ c q (cF ins).1).2 ≠ 0 then ([],(outQ c q (cF ins).1).2)
 else if 20 < (outQ c q (cF ins).1).1.length then ([],2)
 else if ((outQ c q (cF ins).1).1.map LCol.name).Nodup then ((outQ c q (cF ins).1).1,0) else ([],23)
def gZ (c : LChecker) (q : LQuery) : List LCol × Int := mr c q (q.inputs.attach.map fun x=>gZ c x.1)
termination_by SizeOf.sizeOf q
decreasing_by exact LQuery.inputs_lt x.2
theorem colsQ_eq (c : LChecker) (q : LQuery) : gZ c q = mr c q (q.inputs.map (gZ c)) := by
 rw [gZ,List.attach_map_val (f := gZ c)]
theorem nZ (f : LQuery → Option (List LCol × Int)) (g : LQuery → List LCol × Int) : ∀ (l : List LQuery) (j : Nat) (s : List (List LCol)),(∀ x ∈ l,f x = some (g x)) → s.length + l.length ≤ 10000000 → ∀ k : List (List LCol) → Option (List LCol × Int),
  af (aF (σ := List (List LCol)) (ρ := ((List LCol) × Int)) (fun (_ : Nat) (x1 : LQuery) (s1 : List (List LCol))=>af (f x1) fun x28=>cond (x28.2 != (0 : Int)) (some (.ret ([],x28.2)))
    (af (ej 24 s1 ([x28.1] : List (List LCol))) fun (x37 : List (List LCol))=>some (.next x37))) j l s) (fun fl1=>fl1.thenR k) =
   if (cF (l.map g)).2 ≠ 0 then some ([],(cF (l.map g)).2) else k (s ++ (cF (l.map g)).1)
 | [],j,s,_,_,k=>by simp [aF,cF]
 | x :: l,j,s,h,hb,k=>by
  rw [aF,h x (by simp),bPs,List.map_cons,cF]
  by_cases h1 : (g x).2 = 0
  ·rw [bneF h1,zd,dT (by decide) (by simp at hb ⊢; omega),bPs]
   simp only [h1,ne_eq,not_true_eq_false,if_false]
   rw [nZ f g l (j + 1) _ (fun y hy=>h y (by simp [hy])) (by simp at hb ⊢; omega) k]
   by_cases h2 : (cF (l.map g)).2 = 0
   ·simp [h2]
   ·simp [h2]
  ·rw [hO h1]; simp [h1]
theorem collect_ok : ∀ {l : List (List LCol × Int)},(cF l).2 = 0 → (∀ r ∈ l,r.2 = 0) ∧ (cF l).1 = l.map (·.1)
 | [],_=>⟨by simp,rfl⟩
 | r :: l,h=>by
  simp only [cF] at h ⊢
  by_cases h1 : r.2 = 0
  ·by_cases h2 : (cF l).2 = 0
   ·obtain ⟨a,b⟩ := collect_ok h2
    refine ⟨fun x hx=>?_,by simp [h1,h2,b]⟩
    rcases List.mem_cons.1 hx with rfl | hx
    ·exact h1
    ·exact a x hx
   ·simp [h1,h2] at h
  ·simp [h1] at h
theorem dup_run (out : List LCol) : af (aF (σ := Unit) (ρ := ((List LCol) × Int)) (fun (j2 : Nat) (x2 : LCol) (_ : Unit) =>
     af (jp out 0 (j2 : Int)) fun (x61 : List LCol) =>
     af (bt x61 (fun a0=>some (bF a0 x2))) fun x63 =>
     cond x63 (some (.ret ([],23))) (some (.next ()))) 0 out ()) (fun fl2=>fl2.thenR fun (_ : Unit)=>some (out,0)) = some (if (out.map LCol.name).Nodup then (out,0) else ([],23)) := by
 obtain ⟨fl,hfl,hr⟩ := dl (step := fun (j2 : Nat) (x2 : LCol) (_ : Unit) =>
     af (jp out 0 (j2 : Int)) fun (x61 : List LCol) =>
     af (bt x61 (fun a0=>some (bF a0 x2))) fun x63 =>
     cond x63 (some (Flow.ret (([],23) : List LCol × Int))) (some (.next ())))
  (fun j _=>((out.take j).map LCol.name).Nodup) (fun r=>r = ([],23) ∧ ¬ (out.map LCol.name).Nodup) out 0 () (by simp) (fun k x s hk hI=>by
   simp only [Nat.zero_add] at hI ⊢
   have hkl := (zg.1 hk).1
   rw [subI_ok ⟨by omega,by omega,by omega⟩,bPs]
   unfold bt
   rw [idx_column,bPs,bPs,jD]
   simp only [Int.toNat_natCast,Int.toNat_zero,List.drop_zero]
   cases ha : (out.take k).any fun a0=>bF a0 x with
   | true =>
    refine ⟨_,rfl,rfl,fun hnd=>?_⟩
    obtain ⟨y,hy,he⟩ := List.any_eq_true.1 ha
    have he : y.name = x.name := by simpa [bF] using he
    obtain ⟨i,hi,hyi⟩ := List.mem_take_iff_getElem.1 hy
    have hii : i < k := by omega
    rw [List.nodup_iff_pairwise_ne,List.pairwise_iff_getElem] at hnd
    refine hnd i k (by simp; omega) (by simpa using hkl) hii ?_
    simp only [List.getElem_map]
    rw [(zg.1 hk).2,hyi,he]
   | false =>
    refine ⟨_,rfl,?_⟩
    simp only
    rw [List.take_add_one,hk,List.map_append,List.nodup_append]
    refine ⟨hI,by simp,fun a ha' b hb hab=>?_⟩
    simp at hb
    subst hb
    subst hab
    obtain ⟨y,hy,he⟩ := List.mem_map.1 ha'
    have := List.any_eq_false.1 ha y hy
    exact this (by simpa [bF] using he))
 rw [hfl,bPs]
 cases fl with
 | brk s=>exact absurd hr (by simp)
 | ret r=>rw [ml,hr.1,zy hr.2]
 | next s =>
  simp only [Nat.zero_add,List.take_length] at hr
  rw [fw,zp hr]
theorem colsQ_len (c : LChecker) (q : LQuery) : (gZ c q).1.length ≤ 20 := by
 rw [colsQ_eq]
 unfold mr
 repeat' split
 all_goals first | (simp; done) | (simp only; omega)
theorem cols_ok (c : LChecker) : ∀ q : LQuery,SmallQ q → dW c q = some (gZ c q) := by
 refine LQuery.ind fun q ih hsm=>?_
 refine kw (γ := LChecker) (F := fun n c q=>dp n c q) (O := fun r c q=>dq r c q) (fun n=>rfl) c q ?_ (fun x hx=>⟨_,ih x hx (hsm.sub hx)⟩) ?_
 ·intro r r' h
  simp only [dq]
  congr 1
  funext b
  congr 2
  exact eW q.inputs 0 _ fun k x s hk=>by rw [h x (dS hk)]
 ·have e : ∀ c x,(eU fun n=>dp n c x) = dW c x := fun _ _=>rfl
  simp only [dq,e]
  have hself := hsm.self
  rw [shape_eq q ⟨by omega,by omega⟩,bPs,colsQ_eq]
  unfold mr
  cases hs : jQ q with
  | false=>rfl
  | true =>
   have hok := shape_ok hs
   have hin : q.inputs.length ≤ 2 := by rw [hok.arity]; unfold arityQ; split <;> (try split) <;> omega
   simp only [Bool.not_true,zd,Bool.true_eq_false,if_false]
   rw [nZ (dW c) (gZ c) q.inputs 0 [] (fun x hx=>ih x hx (hsm.sub hx)) (by simp; omega),List.nil_append]
   by_cases h1 : (cF (q.inputs.map (gZ c))).2 = 0
   ·obtain ⟨a,b⟩ := collect_ok h1
    simp only [h1,ne_eq,not_true_eq_false,if_false]
    rw [out_eq hok hsm (by rw [b]; simp) (fun l hl=>by
     rw [b] at hl
     obtain ⟨r,hr,rfl⟩ := List.mem_map.1 hl
     obtain ⟨x,_,rfl⟩ := List.mem_map.1 hr
     exact colsQ_len c x),bPs]
    generalize outQ c q (cF (q.inputs.map (gZ c))).1 = o
    by_cases h2 : o.2 = 0
    ·rw [bneF h2,zd]
     simp only [h2,not_true_eq_false,if_false]
     by_cases h3 : 20 < o.1.length
     ·rw [zt (show (o.1.length : Int) > 20 from by omega),zp h3]; rfl
     ·rw [zf (show ¬ (o.1.length : Int) > 20 from by omega),zy h3,zd]
      exact dup_run o.1
    ·rw [hO h2]; simp [h2]
   ·simp [h1]
theorem whileM_by {σ ρ : Type} {step : σ → Option (Flow σ ρ)} (I : σ → Prop) (μ : σ → Nat) (Q : σ → Prop) (R : ρ → Prop) (hs : ∀ s,I s → ∃ fl,step s = some fl ∧ (match fl with | .next s'=>I s' ∧ μ s' < μ s | .brk s'=>Q s' | .ret r=>R r)) :
  ∀ s,I s → ∃ fl,hP step s = some fl ∧ (match fl with | .next s'=>Q s' | .brk _=>False | .ret r=>R r) := by
 intro s
 generalize hn : μ s = n
 induction n using Nat.strongRecOn generalizing s with
 | _ n ih =>
  intro hI
  obtain ⟨fl,h1,h2⟩ := hs s hI
  cases fl with
  | next s' =>
   obtain ⟨fl,h3,h4⟩ := ih (μ s') (hn ▸ h2.2) s' rfl h2.1
   exact ⟨fl,iy h1 h3,h4⟩
  | brk s'=>exact ⟨.next s',iy h1 rfl,h2⟩
  | ret r=>exact ⟨.ret r,iy h1 rfl,h2⟩
theorem while_run {σ β : Type} {step : σ → Option (Flow σ Empty)} {k : σ → Option β} {R : β → Prop} {s : σ} (I : σ → Prop) (μ : σ → Nat) (Q : σ → Prop) (h0 : I s)
  (hs : ∀ s,I s → ∃ fl,step s = some fl ∧ (match fl with | .next s'=>I s' ∧ μ s' < μ s | .brk s'=>Q s' | .ret _=>False)) (hk : ∀ s',Q s' → ∃ r,k s' = some r ∧ R r) :
  ∃ r,af (hP step s) (fun fl=>fl.thenP k) = some r ∧ R r := by
 obtain ⟨fl,h1,h2⟩ := whileM_by (step := step) I μ Q (fun _=>False) (fun s hI=>by
  obtain ⟨fl,h1,h2⟩ := hs s hI
  refine ⟨fl,h1,?_⟩
  cases fl with
  | next s'=>exact h2
  | brk s'=>exact h2
  | ret r=>exact r.elim) s h0
 cases fl with
 | next s'=>rw [h1]; exact hk s' h2
 | brk s'=>exact absurd h2 (by simp)
 | ret r=>exact r.elim
section
variable {α : Type}
end
section
abbrev Rows := Rz
abbrev Cmp := Rq → Rq → Option Int
variable {cmp : Cmp} {d0 : Rows}
end
theorem idxOC (l : (List LCol)) (p : LCol → Bool) (f : LCol → Option Bool) (hf : ∀ x ∈ l,f x = some (p x)) (hl : l.length ≤ 10000000) : bO l f = some (bg p l,l) := by
 unfold bO
 rw [smallI_ok (by omega),bPs,Int.toNat_natCast]
 obtain ⟨fl,hfl,hr⟩ := dl (step := fun (j1 : Nat) (_ : Nat) (s1 : (List LCol))=>af (aN s1 (j1 : Int)) fun (x14 : LCol)=>af (f x14) fun x16=>cond x16 (some (Flow.ret ((j1 : Int),s1))) (some (.next s1)))
  (fun j s=>s = l ∧ ∀ x ∈ l.take j,p x = false) (fun r=>r = (bg p l,l)) (List.range l.length) 0 l ⟨rfl,by simp⟩ (fun k v s hk hI=>by
   simp only [Nat.zero_add] at hI ⊢
   have hkl := (zg.1 hk).1
   simp at hkl
   obtain ⟨rfl,hI⟩ := hI
   rw [gD hkl,bPs,hf _ (List.getElem_mem hkl),bPs]
   cases hp : p s[k] with
   | true=>exact ⟨_,rfl,by simp only; rw [mC hkl hI hp]⟩
   | false =>
    refine ⟨_,rfl,rfl,fun x hx=>?_⟩
    rw [List.take_add_one,ze hkl,List.mem_append] at hx
    rcases hx with hx | hx
    ·exact hI x hx
    ·simp at hx
     rw [hx]
     exact hp)
 rw [hfl,bPs]
 cases fl with
 | brk s=>exact absurd hr (by simp)
 | ret r=>rw [ml,hr]
 | next s =>
  simp only [Nat.zero_add,List.length_range,List.take_length] at hr
  rw [fw,hr.1,iX hr.2]
theorem deleteCol_eq (l : (List LCol)) (p : LCol → Bool) (f : LCol → Option Bool) (hf : ∀ x ∈ l,f x = some (p x)) (hl : l.length ≤ 1000000) : bP l f = some (l.filter fun x=>!p x) := by
 unfold bP
 rw [idxOC l p f hf (by omega),bPs]
 simp only
 rw [guardO_pos trivial,bPs]
 by_cases hneg : bg p l = -1
 ·rw [beqT hneg,zc]
  congr 1
  symm
  rw [List.filter_eq_self]
  intro x hx
  have : decide (bg p l ≥ 0) = false := by rw [hneg]; rfl
  rw [jD] at this
  have := List.any_eq_false.1 this x hx
  simpa using this
 ·rw [gC hneg,zd]
  have h0 : 0 ≤ bg p l := by rcases idxOf_neg (p := p) (l := l) with h | h; exact absurd h hneg; exact h
  obtain ⟨i,hi⟩ : ∃ i : Nat,bg p l = i := ⟨(bg p l).toNat,by omega⟩
  have hil : i < l.length := by have := idxOf_nonneg h0; omega
  have hpre : (l.take i).filter (fun x=>!p x) = l.take i := by
   rw [List.filter_eq_self]
   intro x hx
   have : l.findIdx? p = some i := by
    unfold bg at hi
    cases hq : l.findIdx? p with
    | none=>rw [hq] at hi; simp at hi
    | some j=>rw [hq] at hi; exact congrArg some (by have hi : (j : Int) = (i : Int) := hi; omega)
   obtain ⟨_,_,hlt⟩ := List.findIdx?_eq_some_iff_getElem.1 this
   obtain ⟨j,hj,rfl⟩ := List.mem_take_iff_getElem.1 hx
   simp [hlt j (by omega)]
  have hpi : p l[i] = true := by
   obtain ⟨x,hx,hp⟩ := iL h0
   rw [hi,Int.toNat_natCast,ze hil] at hx
   cases hx
   exact hp
  rw [hi,fa (n := (i : Int) + 1) (by omega) (by omega)]
  obtain ⟨r,hr,hq⟩ := while_run (step := fun (s1 : (List LCol) × Int × Int) =>
   cond (decide (s1.2.2 < (s1.1.length : Int)))
    (af (aN s1.1 s1.2.2) fun (x24 : LCol)=>af (f x24) fun x28=>cond (!x28) (af (aN s1.1 s1.2.1) fun (_ : LCol)=>letP (s1.1.set s1.2.1.toNat x24) fun (y4 : (List LCol))=>some (.next (y4,(IntKind.i64.wrap (s1.2.1 + (1 : Int))),(IntKind.i64.wrap (s1.2.2 + (1 : Int))))))
     (some (.next (s1.1,s1.2.1,(IntKind.i64.wrap (s1.2.2 + (1 : Int)))))))
    (some (.brk (s1.1,s1.2.1,s1.2.2)))) (s := (l,(i : Int),(i : Int) + 1)) (k := fun (s1 : (List LCol) × Int × Int)=>af (cutI s1.1 s1.2.1) fun (y5 : (List LCol))=>af (cutI y5 s1.2.1) fun (y6 : (List LCol))=>some y6) (R := fun r=>r = l.filter fun x=>!p x)
   (fun s=>∃ a j : Nat,s.2.1 = a ∧ s.2.2 = j ∧ a < j ∧ j ≤ l.length ∧ s.1.length = l.length ∧ s.1.take a = (l.take j).filter (fun x=>!p x) ∧ s.1.drop j = l.drop j) (fun s=>(l.length - s.2.2).toNat)
   (fun s=>∃ a : Nat,s.2.1 = a ∧ a ≤ s.1.length ∧ s.1.take a = l.filter fun x=>!p x)
   ⟨i,i + 1,rfl,by show (i : Int) + 1 = ((i + 1 : Nat) : Int); omega,by omega,by omega,rfl,by
    show l.take i = _
    rw [List.take_add_one,ze hil,List.filter_append,hpre]
    simp [hpi],rfl⟩
   (fun s hI=>by
    obtain ⟨a,j,h1,h2,h3,h4,h5,h6,h7⟩ := hI
    obtain ⟨d,s1,s2⟩ := s
    simp only at h1 h2 h5 h6 h7 ⊢
    subst h1
    subst h2
    by_cases hlt : j < l.length
    ·rw [zt (show (j : Int) < (d.length : Int) from by omega),zc,gD (by omega),bPs]
     have hdj : d[j]? = l[j]? := by
      have := congrArg (fun q=>q[0]?) h7
      simpa using this
     have hdje : d[j] = l[j] := by
      rw [ze (by omega),ze hlt] at hdj
      exact Option.some.inj hdj
     have hdrop : ∀ e : (List LCol),e.drop j = l.drop j → e.drop (j + 1) = l.drop (j + 1) := fun e he=>by
      rw [← List.drop_drop,← List.drop_drop,he]
     rw [hdje,hf _ (List.getElem_mem hlt),bPs,fa (n := (j : Int) + 1) (by omega) (by omega),fa (n := (a : Int) + 1) (by omega) (by omega)]
     cases hp : p l[j] with
     | true =>
      refine ⟨_,rfl,⟨a,j + 1,rfl,by show (j : Int) + 1 = ((j + 1 : Nat) : Int); omega,by omega,by omega,h5,?_,hdrop d h7⟩,by show ((l.length : Int) - ((j : Int) + 1)).toNat < ((l.length : Int) - (j : Int)).toNat; omega⟩
      show d.take a = _
      rw [h6,List.take_add_one,ze hlt,List.filter_append]
      simp [hp]
     | false =>
      simp only [Bool.not_false,zc]
      rw [gD (by omega),bPs,ce,Int.toNat_natCast]
      refine ⟨_,rfl,⟨a + 1,j + 1,by show (a : Int) + 1 = ((a + 1 : Nat) : Int); omega,by show (j : Int) + 1 = ((j + 1 : Nat) : Int); omega,by omega,by omega,by show (d.set a l[j]).length = l.length; simp [h5],?_,?_⟩,by show ((l.length : Int) - ((j : Int) + 1)).toNat < ((l.length : Int) - (j : Int)).toNat; omega⟩
      ·show (d.set a l[j]).take (a + 1) = _
       rw [List.take_add_one,List.getElem?_set_self (by omega),List.take_set_of_le (by omega),h6,List.take_add_one,ze hlt,List.filter_append]
       simp [hp]
      ·show (d.set a l[j]).drop (j + 1) = _
       rw [List.drop_set_of_lt (by omega)]
       exact hdrop d h7
    ·rw [zf (show ¬ (j : Int) < (d.length : Int) from by omega)]
     refine ⟨_,rfl,a,rfl,by show a ≤ d.length; omega,?_⟩
     show d.take a = _
     rw [h6,List.take_of_length_le (by omega)])
   (fun s hq=>by
    obtain ⟨a,h1,h2,h3⟩ := hq
    rw [h1]
    unfold cutI
    rw [zp ⟨by omega,by simpa using h2⟩,bPs,Int.toNat_natCast,zp ⟨by omega,by simp; omega⟩,bPs,List.take_take,Nat.min_self]
    exact ⟨_,rfl,h3⟩)
  rw [← hq]
  exact hr
theorem two {q : LQuery} (h : q.inputs.length = 2) : ∃ x y,q.inputs = [x,y] := by
 match hq : q.inputs,h with
 | [x,y],_=>exact ⟨x,y,rfl⟩
theorem one {q : LQuery} (h : q.inputs.length = 1) : ∃ x,q.inputs = [x] := by
 match hq : q.inputs,h with
 | [x],_=>exact ⟨x,rfl⟩
def SizeOk (q : LQuery) : Prop := (bR q).length ≤ 24 ∧ fJ q ≤ 12 ∧ (gm q).2 ≤ 20000
instance (q : LQuery) : Decidable (SizeOk q) := by unfold SizeOk; infer_instance
theorem check_eq {s : LSchema} {vars : List LCol} {q : LQuery} (h : SmallQ q) : ∃ cs e,eO s vars q = some (cs,e) ∧ (e = 0 ↔ SizeOk q ∧ KindsOk (kG q) ∧ (gZ ⟨s,vars⟩ q).2 = 0) ∧ (e = 0 → cs = (gZ ⟨s,vars⟩ q).1) := by
 unfold eO
 rw [nodes_ok q h.nodes,bPs]
 by_cases h1 : (bR q).length ≤ 24
 ·rw [zf (show ¬ ((bR q).length : Int) > 24 from by omega),zd,depth_ok q h.nodes,bPs]
  by_cases h2 : fJ q ≤ 12
  ·rw [zf (show ¬ fJ q > 12 from by omega),zd]
   unfold dY
   rw [most_ok,bPs,bPs]
   by_cases h3 : (gm q).2 ≤ 20000
   ·rw [zf (show ¬ (gm q).2 > 20000 from by omega),bPs,zd,kinds_ok h.nodes,bPs]
    cases hb : (gE q).2.1 with
    | true =>
     refine ⟨[],13,rfl,⟨fun h=>by omega,fun hh=>?_⟩,fun h=>by omega⟩
     rw [kinds_bad.2 hh.2.1] at hb
     cases hb
    | false =>
     have hk := kinds_bad.1 hb
     simp only [zd]
     rw [cols_ok _ q h]
     refine ⟨(gZ ⟨s,vars⟩ q).1,(gZ ⟨s,vars⟩ q).2,rfl,⟨fun h0=>⟨⟨h1,h2,h3⟩,hk,h0⟩,fun hh=>hh.2.2⟩,fun _=>rfl⟩
   ·rw [zt (show (gm q).2 > 20000 from by omega)]
    exact ⟨[],2,rfl,⟨fun h=>by omega,fun hh=>absurd hh.1.2.2 h3⟩,fun h=>by omega⟩
  ·rw [zt (show fJ q > 12 from by omega)]
   exact ⟨[],2,rfl,⟨fun h=>by omega,fun hh=>absurd hh.1.2.1 h2⟩,fun h=>by omega⟩
 ·rw [zt (show ((bR q).length : Int) > 24 from by omega)]
  exact ⟨[],2,rfl,⟨fun h=>by omega,fun hh=>absurd hh.1.1 h1⟩,fun h=>by omega⟩
structure TinyQ (q : LQuery) : Prop where
 nodes : (bR q).length ≤ 2000000
 here : ∀ x ∈ bR q,x.exprs.length ≤ 1000000 ∧ x.aggregates.length ≤ 1000000
theorem TinyQ.small {q : LQuery} (h : TinyQ q) : SmallQ q := ⟨by have := h.nodes; omega,h.here⟩
theorem ll {H : Type} : ∀ ds : List (DataW H),(ds.map (fun d=>Rows.uptoBulk d)).sum = Rows.uptoBulkAll ds
 | []=>by simp [Rows.uptoBulkAll]
 | d :: ds=>by simp only [List.map_cons,List.sum_cons,Rows.uptoBulkAll,ll ds]
theorem bulk_is : IsBulk (fun _ d=>Rows.uptoBulk d) where
 one := by
  intro H d
  cases d with
  | lit l=>cases l <;> simp [Rows.uptoBulk]
  | nil=>simp [Rows.uptoBulk]
  | ptr d=>simp [Rows.uptoBulk]
  | slice elems spare=>simp [Rows.uptoBulk]
  | agg parts=>simp [Rows.uptoBulk]
  | iface t d=>simp [Rows.uptoBulk]
  | map entries=>simp [Rows.uptoBulk]
  | held h=>simp [Rows.uptoBulk]
 str := by intro H l; simp [Rows.uptoBulk]
 slice := by intro H a b; rw [ll]; simp only [Rows.uptoBulk]; omega
 agg := by intro H a; rw [ll]; simp only [Rows.uptoBulk]; omega
theorem fD {r : List PV} : ∀ {rs : List (List PV)},r ∈ rs → aV r ≤ cg rs
 | x :: rs,h=>by
  simp only [cg]
  rcases List.mem_cons.1 h with rfl | h
  ·omega
  ·have := fD h; omega
theorem ie {α : Type} {f : α → List PV} {k : Nat} (hf : ∀ x,k ≤ aV (f x)) : ∀ l : List α,k * l.length ≤ cg (l.map f)
 | []=>by simp
 | x :: l=>by
  have := ie hf l
  have := hf x
  simp only [List.map_cons,cg,List.length_cons,Nat.mul_add]
  omega
theorem expr_pos (e : LExpr) : 2 ≤ aV (cJ e) := by
 cases e; simp only [cJ,aV,PV.bulk]; omega
theorem call_pos (c : LAggregateCall) : 2 ≤ aV (iS c) := by
 simp only [iS,aV,PV.bulk]; omega
theorem smallS_bulk {s : LSchema} {n : Nat} (hn : n ≤ 10000000) (h : aV (bK s) ≤ n) : lQ s := by
 intro t ht
 have h1 : cg (s.tables.map bu) ≤ aV (bK s) := by
  simp only [bK,aV,PV.bulk]; omega
 have h2 := fD (List.mem_map_of_mem (f := bu) ht)
 have h3 : cg (t.primaryKey.map aZ) ≤ aV (bu t) := by
  simp only [bu,aV,PV.bulk]; omega
 have h4 := ie (f := aZ) (k := 1) (fun x=>by simp [aV,PV.bulk]) t.primaryKey
 omega
theorem nodes_bulk : ∀ q : LQuery,(bR q).length + 1 ≤ aV (bI q) ∧ ∀ x ∈ bR q,2 * x.exprs.length ≤ aV (bI q) ∧ 2 * x.aggregates.length ≤ aV (bI q) := by
 apply LQuery.ind
 intro q ih
 have e : aV (bI q) = aV (aU q) := by rw [dz]
 have hr : cg (q.inputs.map bI) + 8 ≤ aV (aU q) := by
  simp only [aU,aV,PV.bulk]; omega
 have hsum : ∀ l : List LQuery,(∀ x ∈ l,x ∈ q.inputs) → ((l.map bR).flatten).length + l.length ≤ cg (l.map bI) := by
  intro l
  induction l with
  | nil=>intro _; simp
  | cons x l ihl =>
   intro hm
   have h1 := (ih x (hm x (by simp))).1
   have h2 := ihl (fun y hy=>hm y (by simp [hy]))
   simp only [List.map_cons,List.flatten_cons,List.length_append,List.length_cons,cg]
   omega
 have h0 := hsum q.inputs (fun _ h=>h)
 rw [e]
 refine ⟨?_,fun x hx=>?_⟩
 ·rw [fV]; simp only [List.length_cons]; omega
 ·rw [fV] at hx
  rcases List.mem_cons.1 hx with rfl | hx
  ·have h1 := ie expr_pos x.exprs
   have h2 := ie call_pos x.aggregates
   constructor
   ·simp only [aU,aV,PV.bulk]; omega
   ·simp only [aU,aV,PV.bulk]; omega
  ·simp only [List.mem_flatten,List.mem_map] at hx
   obtain ⟨l,⟨y,hy,rfl⟩,hx⟩ := hx
   have h1 := (ih y hy).2 x hx
   have h2 := fD (List.mem_map_of_mem (f := bI) hy)
   omega
theorem tiny_bulk {q : LQuery} {n : Nat} (hn : n ≤ 1048576) (h : aV (aU q) ≤ n) : TinyQ q := by
 rw [← dz] at h
 have := nodes_bulk q
 exact ⟨by omega,fun x hx=>by have := this.2 x hx; omega⟩
theorem lu {β : Type} {F : Nat → Option β} {v : Option β} (n : Nat) (h : ∀ m,n ≤ m → F m = v) : eU F = v := by
 cases v with
 | some r=>exact limN_eq n h
 | none =>
  cases hl : eU F with
  | none=>rfl
  | some r =>
   obtain ⟨k,hk⟩ := limN_ev hl
   have := hk (max n k) (Nat.le_max_right n k)
   rw [h _ (Nat.le_max_left n k)] at this
   cases this
theorem st_lt {l : List LProcedureStatement} {s : LProcedureStatement} (h : s ∈ l) : SizeOf.sizeOf s.body < SizeOf.sizeOf l ∧ SizeOf.sizeOf s.elseF < SizeOf.sizeOf l := by
 have := List.sizeOf_lt_of_mem h
 cases s
 simp only [LProcedureStatement.body,LProcedureStatement.elseF,LProcedureStatement.mk.sizeOf_spec] at this ⊢
 omega
theorem kQ {p : List LProcedureStatement → Prop} (h : ∀ l : List LProcedureStatement,(∀ s ∈ l,p s.body ∧ p s.elseF) → p l) : ∀ l,p l := by
 intro l
 generalize hn : SizeOf.sizeOf l = n
 induction n using Nat.strongRecOn generalizing l with
 | _ n ih=>exact h l fun s hs=>⟨ih _ (hn ▸ (st_lt hs).1) _ rfl,ih _ (hn ▸ (st_lt hs).2) _ rfl⟩
def dD (l : List LProcedureStatement) : Nat := (l.attach.map fun s=>1 + dD s.1.body + dD s.1.elseF).sum
termination_by SizeOf.sizeOf l
decreasing_by
 ·exact (st_lt s.2).1
 ·exact (st_lt s.2).2
theorem ir (l : List LProcedureStatement) : dD l = (l.map fun s=>1 + dD s.body + dD s.elseF).sum := by
 rw [dD,List.attach_map_val (f := fun s : LProcedureStatement=>1 + dD s.body + dD s.elseF)]
theorem sum_mem {α : Type} {f : α → Nat} : ∀ {l : List α} {x : α},x ∈ l → f x ≤ (l.map f).sum
 | y :: l,x,h=>by
  simp only [List.map_cons,List.sum_cons]
  rcases List.mem_cons.1 h with rfl | h
  ·omega
  ·have := sum_mem (f := f) h; omega
theorem cntS_mem {l : List LProcedureStatement} {s : LProcedureStatement} (h : s ∈ l) : 1 + dD s.body + dD s.elseF ≤ dD l := by
 rw [ir l]
 exact sum_mem (f := fun s : LProcedureStatement=>1 + dD s.body + dD s.elseF) h
theorem sum_take {α : Type} {f : α → Nat} : ∀ {l : List α} {k : Nat},((l.take k).map f).sum ≤ (l.map f).sum
 | [],k=>by simp
 | y :: l,0=>by simp
 | y :: l,k + 1=>by simp only [List.take_succ_cons,List.map_cons,List.sum_cons]; have := sum_take (f := f) (l := l) (k := k); omega
theorem cntS_take {l : List LProcedureStatement} {k : Nat} {x : LProcedureStatement} (hk : l[k]? = some x) : dD (l.take (k + 1)) = dD (l.take k) + (1 + dD x.body + dD x.elseF) ∧ dD (l.take (k + 1)) ≤ dD l := by
 rw [ir (l.take (k + 1)),ir (l.take k),ir l]
 refine ⟨?_,sum_take⟩
 rw [List.take_add_one,hk]
 simp
theorem stmts_both : ∀ l : List LProcedureStatement,(∃ N,∀ n,N ≤ n → cb n l = bh l) ∧ bh l = bZ bh l := by
 refine kQ fun l ih=>?_
 obtain ⟨N,hN⟩ := lH (p := fun (s : LProcedureStatement) n=>cb n s.body = bh s.body ∧ cb n s.elseF = bh s.elseF) l (fun s hs=>by
  obtain ⟨⟨⟨a,ha⟩,_⟩,⟨⟨b,hb⟩,_⟩⟩ := ih s hs
  exact ⟨a + b,fun n hn=>⟨ha n (by omega),hb n (by omega)⟩⟩)
 have key : ∀ n,N + 1 ≤ n → cb n l = bZ bh l := by
  intro n hn
  obtain ⟨n,rfl⟩ : ∃ k,n = k + 1 := ⟨n - 1,by omega⟩
  show bZ (fun b0=>cb n b0) l = _
  simp only [bZ]
  congr 1
  exact eW l 0 _ fun k s t hk=>by
   obtain ⟨h1,h2⟩ := hN n (by omega) s (dS hk)
   simp only [h1,h2]
 have e : bh l = bZ bh l := lu (N + 1) key
 exact ⟨⟨N + 1,fun n hn=>by rw [key n hn,e]⟩,e⟩
theorem depth_both : ∀ l : List LProcedureStatement,(∃ N,∀ n,N ≤ n → cZ n l = cr l) ∧ cr l = cY cr l := by
 refine kQ fun l ih=>?_
 obtain ⟨N,hN⟩ := lH (p := fun (s : LProcedureStatement) n=>cZ n s.body = cr s.body ∧ cZ n s.elseF = cr s.elseF) l (fun s hs=>by
  obtain ⟨⟨⟨a,ha⟩,_⟩,⟨⟨b,hb⟩,_⟩⟩ := ih s hs
  exact ⟨a + b,fun n hn=>⟨ha n (by omega),hb n (by omega)⟩⟩)
 have key : ∀ n,N + 1 ≤ n → cZ n l = cY cr l := by
  intro n hn
  obtain ⟨n,rfl⟩ : ∃ k,n = k + 1 := ⟨n - 1,by omega⟩
  show cY (fun b0=>cZ n b0) l = _
  simp only [cY]
  congr 1
  exact eW l 0 _ fun k s t hk=>by
   obtain ⟨h1,h2⟩ := hN n (by omega) s (dS hk)
   simp only [h1,h2]
 have e : cr l = cY cr l := lu (N + 1) key
 exact ⟨⟨N + 1,fun n hn=>by rw [key n hn,e]⟩,e⟩
theorem body_both : ∀ l : List LProcedureStatement,(∃ N,∀ n,N ≤ n → ∀ c vars,bq n c vars l = aW c vars l) ∧
  (∀ c vars,aW c vars l = bT aW bc c vars l) ∧
  ∀ s ∈ l,∀ c vars,bc c vars s = bA aW bc c vars s := by
 refine kQ fun l ih=>?_
 have hs : ∀ s ∈ l,(∃ N,∀ n,N ≤ n → ∀ c vars,bC n c vars s = bc c vars s) ∧ ∀ c vars,bc c vars s = bA aW bc c vars s := by
  intro s hsm
  obtain ⟨⟨⟨a,ha⟩,_,_⟩,⟨⟨b,hb⟩,_,_⟩⟩ := ih s hsm
  have key : ∀ n,a + b + 1 ≤ n → ∀ c vars,bC n c vars s = bA aW bc c vars s := by
   intro n hn c vars
   obtain ⟨n,rfl⟩ : ∃ k,n = k + 1 := ⟨n - 1,by omega⟩
   show bA (fun b0 b1 b2=>bq n b0 b1 b2) (fun b0 b1 b2=>bC n b0 b1 b2) c vars s = _
   have h1 : ∀ v,bq n c v s.body = aW c v s.body := fun v=>ha n (by omega) c v
   have h2 : ∀ v,bq n c v s.elseF = aW c v s.elseF := fun v=>hb n (by omega) c v
   simp only [bA,h1,h2]
  have e : ∀ c vars,bc c vars s = bA aW bc c vars s := fun c vars=>lu _ (fun m hm=>key m hm c vars)
  exact ⟨⟨a + b + 1,fun n hn c vars=>by rw [key n hn,e]⟩,e⟩
 obtain ⟨N,hN⟩ := lH (p := fun (s : LProcedureStatement) n=>∀ c vars,bC n c vars s = bc c vars s) l (fun s h=>(hs s h).1)
 have key : ∀ n,N + 1 ≤ n → ∀ c vars,bq n c vars l = bT aW bc c vars l := by
  intro n hn c vars
  obtain ⟨n,rfl⟩ : ∃ k,n = k + 1 := ⟨n - 1,by omega⟩
  show bT (fun b0 b1 b2=>bq n b0 b1 b2) (fun b0 b1 b2=>bC n b0 b1 b2) c vars l = _
  simp only [bT]
  congr 1
  exact eW l 0 _ fun k s t hk=>by
   have h1 := hN n (by omega) s (dS hk)
   simp only [h1]
 have e : ∀ c vars,aW c vars l = bT aW bc c vars l := fun c vars=>lu (N + 1) (fun m hm=>key m hm c vars)
 exact ⟨⟨N + 1,fun n hn c vars=>by rw [key n hn,e]⟩,e,fun s h=>(hs s h).2⟩
theorem stmts_ok : ∀ l : List LProcedureStatement,dD l ≤ 1000000 → ∃ r,bh l = some r ∧ r.length = dD l := by
 refine kQ fun l ih hc=>?_
 rw [(stmts_both l).2]
 simp only [bZ]
 obtain ⟨fl,h1,h2⟩ := dl (step := fun (_ : Nat) (x1 : LProcedureStatement) (s1 : List LProcedureStatement) =>
  af (ej 192 s1 ([x1] : List LProcedureStatement)) fun (x15 : List LProcedureStatement) =>
  af (bh x1.body) fun x19 =>
  af (ej 192 x15 x19) fun (x20 : List LProcedureStatement) =>
  af (bh x1.elseF) fun x24 =>
  af (ej 192 x20 x24) fun (x25 : List LProcedureStatement) =>
  some (Flow.next (ρ := Empty) x25)) (fun j (s : List LProcedureStatement)=>s.length = dD (l.take j)) (fun _=>False) l 0 [] (by rw [List.take_zero,ir]; rfl) (fun k x s hk hI=>by
   simp only [Nat.zero_add] at hI ⊢
   have hx := dS hk
   have hm := cntS_mem hx
   obtain ⟨h3,h4⟩ := cntS_take hk
   obtain ⟨r1,e1,l1⟩ := (ih x hx).1 (by omega)
   obtain ⟨r2,e2,l2⟩ := (ih x hx).2 (by omega)
   refine ⟨.next (((s ++ [x]) ++ r1) ++ r2),?_,?_⟩
   ·rw [dT (by decide) (by simp; omega),bPs,e1,bPs,dT (by decide) (by simp; omega),bPs,e2,bPs,dT (by decide) (by simp; omega),bPs]
   ·simp only [List.length_append,List.length_cons,List.length_nil]
    omega)
 rw [h1,bPs]
 cases fl with
 | next s=>exact ⟨s,rfl,by simpa using h2⟩
 | brk s=>exact absurd h2 (by simp)
 | ret r=>exact r.elim
theorem depth_tot : ∀ l : List LProcedureStatement,Tot (cr l) := by
 refine kQ fun l ih=>?_
 rw [(depth_both l).2]
 simp only [cY]
 refine Tot.bind (Tot.range _ _ _ fun k x s hk=>?_) fun fl _=>?_
 ·exact Tot.bind (ih x (dS hk)).1 fun _ _=>Tot.bind (ih x (dS hk)).2 fun _ _=>Tot.mk
 ·cases fl with
  | next s=>exact Tot.mk
  | brk s=>exact Tot.mk
  | ret r=>exact r.elim
theorem shapeP1 (l : List Int) (s : LProcedureStatement) : bl l s = some (l.any fun x=>s.kind == x) := by
 unfold bl
 rw [nr,bPs]
theorem shapeP_tot (s : LProcedureStatement) : Tot (dC s) := by
 unfold dC
 simp only [shapeP1,bPs]
 refine Tot.letP ?_
 repeat' (first | exact Tot.mk | refine Tot.cond (fun _=>?_) (fun _=>?_) | refine Tot.bind ?_ (fun _ _=>?_))
structure ShapeP (s : LProcedureStatement) : Prop where
 one : s.kind = 1 ∨ s.kind = 2 → s.exprs.length = 1
 query : s.kind = 3 ∨ s.kind = 7 → s.query.length = 1
 wher : s.kind = 5 ∨ s.kind = 6 → s.whereF.length = 1
 upd : s.kind = 5 → s.exprs.length = s.names.length
 del : s.kind = 6 → s.exprs.length = 0
 code : s.kind = 8 → 1 ≤ s.code ∧ s.code ≤ 100
theorem orE {a : Bool} {y : Option Bool} (h : cond a (some a) y = some false) : a = false ∧ y = some false := by
 cases a
 ·exact ⟨rfl,h⟩
 ·cases h
theorem orT {a b : Bool} (h : cond a (some true) (some b) = some false) : a = false ∧ b = false := by
 cases a
 ·exact ⟨rfl,Option.some.inj h⟩
 ·cases h
theorem cond_someB {b : Bool} {x y : Option Bool} (h : cond b x y = some true) : (b = true ∧ x = some true) ∨ (b = false ∧ y = some true) := by
 cases b
 ·exact .inr ⟨rfl,h⟩
 ·exact .inl ⟨rfl,h⟩
theorem shapeP_ok {s : LProcedureStatement} (h : dC s = some true) : ShapeP s := by
 unfold dC at h
 simp only [shapeP1,bPs,ce] at h
 obtain ⟨t7,hX,hE⟩ := ay h
 cases t7 with
 | true=>cases hE
 | false =>
 obtain ⟨_,h1⟩ := orE hX
 obtain ⟨_,h2⟩ := orE h1
 obtain ⟨_,h3⟩ := orE h2
 obtain ⟨t8,h4,h5⟩ := ay h3
 obtain ⟨rfl,h6⟩ := orE h5
 obtain ⟨q1,_⟩ := orT h4
 obtain ⟨t9,h7,h8⟩ := ay h6
 obtain ⟨rfl,_⟩ := orE h8
 obtain ⟨w1,_⟩ := orT h7
 simp only [List.any_cons,List.any_nil,Bool.or_false,zd] at q1 w1 hE
 refine ⟨?_,?_,?_,?_,?_,?_⟩
 ·intro k
  rw [show (s.kind == 1 || s.kind == 2) = true from by simpa using k,zc] at hE
  have := Option.some.inj hE
  simp at this
  omega
 ·intro k
  rw [show (s.kind == 3 || s.kind == 7) = true from by simpa using k] at q1
  simp at q1
  omega
 ·intro k
  rw [show (s.kind == 5 || s.kind == 6) = true from by simpa using k] at w1
  simp at w1
  omega
 ·intro k
  rw [k,show ((5 : Int) == 1 || (5 : Int) == 2) = false from rfl,zd,show ((5 : Int) == 5) = true from rfl,zc] at hE
  obtain ⟨a,_⟩ | ⟨_,a⟩ := cond_someB hE
  ·have : (s.exprs.length : Int) = s.names.length := by simpa using a
   omega
  ·cases a
 ·intro k
  rw [k,show ((6 : Int) == 1 || (6 : Int) == 2) = false from rfl,zd,show ((6 : Int) == 5) = false from rfl,zd,show ((6 : Int) == 8) = false from rfl,zd,show ((6 : Int) == 4) = false from rfl,zd] at hE
  have : (s.exprs.length : Int) = 0 := by simpa using Option.some.inj hE
  omega
 ·intro k
  rw [k,show ((8 : Int) == 1 || (8 : Int) == 2) = false from rfl,zd,show ((8 : Int) == 5) = false from rfl,zd,show ((8 : Int) == 8) = true from rfl,zc] at hE
  obtain ⟨a,b⟩ | ⟨_,a⟩ := cond_someB hE
  ·exact ⟨by simpa using a,by simpa using Option.some.inj b⟩
  ·cases a
theorem set_tot {vars : List LCol} {x : LCol} (hl : vars.length ≤ 100000) : ∃ v,ez vars x = some v ∧ v.length ≤ vars.length + 1 := by
 unfold ez
 rw [deleteCol_eq vars (fun a=>dX a x) _ (fun a _=>rfl) (by omega),bPs]
 have hf := List.length_filter_le (fun a=>!dX a x) vars
 rw [dT (by decide) (by simp only [List.length_cons,List.length_nil]; omega),bPs]
 exact ⟨_,rfl,by simp only [List.length_append,List.length_cons,List.length_nil]; omega⟩
theorem given_tot {c : LProcedureChecker} {q : LQuery} (h : (bR q).length ≤ 10000000) : Tot (cP c q) := by
 unfold cP
 rw [kinds_ok h,bPs]
 refine Tot.bind (Tot.range _ _ _ fun k x s hk=>?_) fun fl _=>Tot.thenR fun _ _=>Tot.mk
 refine Tot.cond (fun _=>Tot.cond (fun _=>Tot.mk) fun h=>?_) fun _=>Tot.mk
 refine Tot.bind (Tot.get (by omega) (by simpa using h)) fun _ _=>Tot.cond (fun _=>Tot.mk) fun _=>Tot.mk
theorem lC (c : LProcedureChecker) (cols vars : List LCol) (e : LExpr) : Tot (cq c cols vars e) := by
 unfold cq
 refine Tot.letP (Tot.cond (fun _=>Tot.mk) fun _=>Tot.bind (given_tot ?_) fun _ _=>Tot.cond (fun _=>Tot.mk) fun _=>Tot.mk)
 rw [fV]
 simp [LQuery.inputs]
theorem pred_tot (c : LProcedureChecker) (cols vars : List LCol) (e : LExpr) : Tot (cu c cols vars e) := by
 unfold cu
 exact Tot.bind (lC c cols vars e) fun _ _=>Tot.cond (fun _=>Tot.cond (fun _=>Tot.cond (fun _=>Tot.mk) fun _=>Tot.mk) fun _=>Tot.mk) fun _=>Tot.mk
theorem tableP_tot (c : LProcedureChecker) (name : List UInt8) : Tot (dH c name) := by
 unfold dH
 rw [mT,bPs]
 refine Tot.cond (fun _=>Tot.mk) fun h=>?_
 have h0 : 0 ≤ bg (fun a0=>cB a0 name) c.s.tables := by simpa using h
 obtain ⟨x,hx,_⟩ := iL h0
 exact Tot.bind ⟨x,iQ h0 hx⟩ fun _ _=>Tot.mk
theorem oj (l : List (List UInt8)) (v : List UInt8) : Tot (bn l v) := by
 unfold bn cR
 refine Tot.bind (Tot.bind (Tot.range _ _ _ fun k x s hk=>?_) fun fl _=>Tot.thenR fun _ _=>Tot.mk) fun _ _=>Tot.mk
 exact Tot.cond (fun _=>Tot.mk) fun _=>Tot.mk
theorem writeP_tot (c : LProcedureChecker) (vars : List LCol) {s : LProcedureStatement} (hs : ShapeP s) (hk : s.kind = 4 ∨ s.kind = 5 ∨ s.kind = 6) : Tot (dE c vars s) := by
 unfold dE
 refine Tot.bind (tableP_tot c s.table) fun tb _=>Tot.cond (fun _=>Tot.mk) fun _=>?_
 refine Tot.bind ?_ fun fl _=>Tot.thenR fun _ _=>?_
 ·refine Tot.cond (fun h=>?_) fun _=>Tot.mk
  have h4 : s.kind ≠ 4 := by simpa using h
  have hw := hs.wher (by omega)
  exact Tot.bind (Tot.get (by omega) (by omega)) fun _ _=>Tot.bind (pred_tot c _ vars _) fun _ _=>Tot.cond (fun _=>Tot.mk) fun _=>Tot.mk
 refine Tot.letP (Tot.cond (fun _=>Tot.mk) fun ht=>?_)
 refine Tot.bind (Tot.range _ _ _ fun j x u hj=>?_) fun fl _=>Tot.thenR fun _ _=>Tot.mk
 simp only [Nat.zero_add]
 have hjl := (zg.1 hj).1
 have pick : ∃ fl5 : Flow (Int × List LCol) Int,(cond (s.kind == (5 : Int))
      (af (ba tb.1.columns (fun a0=>ci a0 s (j : Int))) fun x68 =>
      cond (decide (x68 < (0 : Int)))
       (some (.ret 23))
       (af (jp s.names 0 (j : Int)) fun (x76 : List (List UInt8)) =>
       af (aN s.names (j : Int)) fun (x80 : List UInt8) =>
       af (bn x76 x80) fun x82 =>
       cond x82
        (some (.ret 9))
        (af (bU tb.1.primaryKey x68) fun x87 =>
        cond x87
         (some (.ret 9))
         (some (.next (x68,tb.1.columns))))))
      (some (.next ((j : Int),[])))) = some fl5 ∧ ∀ t,fl5 = .next t ∨ fl5 = .brk t → 0 ≤ t.1 ∧ t.1 < (tb.1.columns.length : Int) := by
  by_cases h5 : s.kind = 5
  ·rw [beqT h5,zc]
   have hn : j < s.names.length := by rw [← hs.upd h5]; exact hjl
   have hg : aN s.names (j : Int) = some s.names[j] := iQ (by omega) (by simp [hn])
   have hi : ba tb.1.columns (fun a0=>ci a0 s (j : Int)) = some (bg (fun a=>a.name == s.names[j]) tb.1.columns) := idxF fun a _=>by
    unfold ci
    rw [hg,bPs]
   rw [hi,bPs]
   by_cases h0 : bg (fun a : LCol=>a.name == s.names[j]) tb.1.columns < 0
   ·rw [zt h0,zc]
    exact ⟨_,rfl,fun t ht=>by rcases ht with ht | ht <;> cases ht⟩
   ·rw [zf h0,zd]
    obtain ⟨x76,h76⟩ := Tot.sub (xs := s.names) (a := 0) (b := (j : Int)) ⟨by omega,by omega,by omega⟩
    obtain ⟨x82,h82⟩ := oj x76 s.names[j]
    rw [h76,bPs,hg,bPs,h82,bPs,nr,bPs]
    cases x82 with
    | true=>exact ⟨_,rfl,fun t ht=>by rcases ht with ht | ht <;> cases ht⟩
    | false =>
     cases tb.1.primaryKey.any (fun x=>bg (fun a : LCol=>a.name == s.names[j]) tb.1.columns == x) with
     | true=>exact ⟨_,rfl,fun t ht=>by rcases ht with ht | ht <;> cases ht⟩
     | false =>
      refine ⟨_,rfl,fun t ht=>?_⟩
      rcases ht with ht | ht
      ·cases ht
       obtain ⟨y,hy,_⟩ := iL (p := fun a : LCol=>a.name == s.names[j]) (l := tb.1.columns) (by omega)
       have := (zg.1 hy).1
       exact ⟨by show 0 ≤ bg _ _; omega,by show bg _ _ < _; omega⟩
      ·cases ht
  ·rw [gC h5,zd]
   refine ⟨_,rfl,fun t ht=>?_⟩
   rcases ht with ht | ht
   ·cases ht
    have h6 : s.kind ≠ 6 := fun e=>by have := hs.del e; omega
    have h4 : s.kind = 4 := by omega
    rw [beqT h4,zc] at ht
    have : (s.exprs.length : Int) = tb.1.columns.length := by simpa using ht
    exact ⟨by show (0 : Int) ≤ (j : Int); omega,by show (j : Int) < _; omega⟩
   ·cases ht
 obtain ⟨fl5,h5,ht5⟩ := pick
 rw [h5,bPs]
 refine Tot.thenF fun t hft=>Tot.bind (lC c t.2 vars x) fun v _=>Tot.cond (fun _=>Tot.mk) fun _=>Tot.cond (fun _=>?_) fun _=>Tot.mk
 obtain ⟨a,b⟩ := ht5 t hft
 exact Tot.bind (Tot.get a b) fun _ _=>Tot.cond (fun _=>Tot.mk) fun _=>Tot.mk
theorem query_bulk {s : LProcedureStatement} {q : LQuery} (hb : aV (ah s) ≤ 1048576) (hq : q ∈ s.query) : TinyQ q := by
 rw [bs] at hb
 have h1 := fD (List.mem_map_of_mem (f := bI) hq)
 simp only [aq,aV,PV.bulk] at hb
 rw [dz] at h1
 exact tiny_bulk (n := 1048576) (by omega) (by omega)
theorem body_bulk {s x : LProcedureStatement} (hb : aV (ah s) ≤ 1048576) (hx : x ∈ s.body ∨ x ∈ s.elseF) : aV (ah x) ≤ 1048576 := by
 rw [bs] at hb
 simp only [aq,aV,PV.bulk] at hb
 rcases hx with hx | hx
 ·have h1 := fD (List.mem_map_of_mem (f := ah) hx); omega
 ·have h1 := fD (List.mem_map_of_mem (f := ah) hx); omega
theorem stmt_tot {c : LProcedureChecker} {s : LProcedureStatement} (hs : ShapeP s) (hb : aV (ah s) ≤ 1048576) {vars : List LCol} (hl : vars.length + 21 * (1 + dD s.body + dD s.elseF) ≤ 10000)
  (h1 : ∀ v : List LCol,v.length + 21 * dD s.body ≤ 10000 → Tot (aW c v s.body)) (h2 : ∀ v : List LCol,v.length + 21 * dD s.elseF ≤ 10000 → Tot (aW c v s.elseF)) :
  ∃ v e,bA aW bc c vars s = some (v,e) ∧ v.length ≤ vars.length + 1 := by
 unfold bA
 by_cases k1 : s.kind = 1
 ·rw [beqT k1,zc]
  obtain ⟨x,hx⟩ := Tot.get (xs := s.exprs) (i := 0) (by omega) (by have := hs.one (.inl k1); omega)
  obtain ⟨y,hy⟩ := lC c ([] : List LCol) vars x
  rw [hx,bPs,hy,bPs,ce]
  cases cw s.name with
  | false=>exact ⟨_,_,rfl,by simp⟩
  | true =>
   simp only [Bool.not_true,zd]
   cases (y.2.2 != (0 : Int)) with
   | true=>exact ⟨_,_,rfl,by simp⟩
   | false =>
    simp only [zd]
    cases (y.1 == (0 : Int)) with
    | true=>exact ⟨_,_,rfl,by simp⟩
    | false =>
     obtain ⟨v,hv,hvl⟩ := set_tot (vars := vars) (x := LCol.mk s.name y.1 y.2.1) (by omega)
     simp only [zd]
     rw [hv,bPs]
     exact ⟨_,_,rfl,hvl⟩
 rw [gC k1,zd]
 by_cases k2 : s.kind = 2
 ·rw [beqT k2,zc]
  obtain ⟨x,hx⟩ := Tot.get (xs := s.exprs) (i := 0) (by omega) (by have := hs.one (.inr k2); omega)
  obtain ⟨y,hy⟩ := pred_tot c ([] : List LCol) vars x
  rw [hx,bPs,hy,bPs]
  cases (y != (0 : Int)) with
  | true=>exact ⟨_,_,rfl,by simp⟩
  | false =>
   obtain ⟨a,ha⟩ := h1 vars (by omega)
   obtain ⟨b,hb'⟩ := h2 vars (by omega)
   simp only [zd]
   rw [ha,bPs,hb',bPs]
   cases (a.2 != (0 : Int)) with
   | true=>exact ⟨_,_,rfl,by simp⟩
   | false=>exact ⟨_,_,rfl,by omega⟩
 rw [gC k2,zd,ce]
 by_cases k3 : s.kind = 3 ∨ s.kind = 7
 ·have e3 : (cond (s.kind == (3 : Int)) (s.kind == (3 : Int)) (s.kind == (7 : Int))) = true := by rcases k3 with k | k <;> rw [k] <;> rfl
  rw [e3,zc]
  obtain ⟨x,hx⟩ := Tot.get (xs := s.query) (i := 0) (by omega) (by have := hs.query k3; omega)
  have hxm : x ∈ s.query := by
   unfold aN at hx
   rw [zp (by omega)] at hx
   exact dS hx
  have ht := query_bulk hb hxm
  obtain ⟨cs,e,hc,_,hcs⟩ := check_eq (s := c.s) (vars := vars) ht.small
  obtain ⟨g,hg⟩ := given_tot (c := c) (q := x) (by have := ht.nodes; omega)
  rw [hx,bPs,hc,bPs]
  by_cases he : e = 0
  ·have hcl : cs.length ≤ 20 := by rw [hcs he]; exact colsQ_len _ _
   simp only [bneF he,zd,bPs,hg]
   cases (g != (0 : Int)) with
   | true=>exact ⟨_,_,rfl,by simp⟩
   | false =>
    simp only [zd]
    obtain ⟨fl,hf1,hf2⟩ := dl (step := fun (_ : Nat) (x2 : LCol) (s2 : List LCol)=>af (ez s2 x2) fun x124=>some (Flow.next (ρ := Empty) x124)) (fun j (t : List LCol)=>t.length ≤ vars.length + j) (fun _=>False) cs 0 vars (by omega) (fun k y t hk hI=>by
     have hkl := (zg.1 hk).1
     obtain ⟨v,hv,hvl⟩ := set_tot (vars := t) (x := y) (by omega)
     rw [hv,bPs]
     exact ⟨_,rfl,by simp only; omega⟩)
    rw [hf1,bPs]
    cases fl with
    | ret r=>exact r.elim
    | brk t=>exact absurd hf2 (by simp)
    | next t =>
     simp only at hf2
     obtain ⟨b,hb'⟩ := h1 t (by omega)
     rw [ew,hb',bPs]
     exact ⟨_,_,rfl,by omega⟩
  ·simp only [hO he,zc]
   exact ⟨_,_,rfl,by simp⟩
 have e3 : (cond (s.kind == (3 : Int)) (s.kind == (3 : Int)) (s.kind == (7 : Int))) = false := by rw [gC (fun e=>k3 (.inl e)),zd,gC (fun e=>k3 (.inr e))]
 rw [e3,zd,ce]
 by_cases k4 : s.kind = 4 ∨ s.kind = 5 ∨ s.kind = 6
 ·have e4 : (cond (s.kind == (4 : Int)) (s.kind == (4 : Int)) (cond (s.kind == (5 : Int)) (s.kind == (5 : Int)) (s.kind == (6 : Int)))) = true := by rcases k4 with k | k | k <;> rw [k] <;> rfl
  rw [e4,zc]
  obtain ⟨w,hw⟩ := writeP_tot c vars hs k4
  rw [hw,bPs]
  exact ⟨_,_,rfl,by omega⟩
 ·have e4 : (cond (s.kind == (4 : Int)) (s.kind == (4 : Int)) (cond (s.kind == (5 : Int)) (s.kind == (5 : Int)) (s.kind == (6 : Int)))) = false := by
   rw [gC (fun e=>k4 (.inl e)),zd,gC (fun e=>k4 (.inr (.inl e))),zd,gC (fun e=>k4 (.inr (.inr e)))]
  rw [e4,zd]
  exact ⟨_,_,rfl,by omega⟩
theorem body_tot (c : LProcedureChecker) : ∀ l : List LProcedureStatement,(∀ s ∈ l,aV (ah s) ≤ 1048576) → ∀ vars : List LCol,vars.length + 21 * dD l ≤ 10000 →
  ∃ v e,aW c vars l = some (v,e) ∧ (e = 0 → ∀ s ∈ l,ShapeP s) := by
 refine kQ fun l ih hb vars hl=>?_
 rw [(body_both l).2.1]
 unfold bT
 obtain ⟨fl,h1,h2⟩ := dl (step := fun (_ : Nat) (x1 : LProcedureStatement) (s1 : List LCol) =>
  af (dC x1) fun x18 =>
  cond (!x18)
   (some (Flow.ret (([] : List LCol),(3 : Int))))
   (af (bc c s1 x1) fun x24 =>
   cond (x24.2 != (0 : Int))
    (some (.ret ([],x24.2)))
    (some (.next x24.1)))) (fun j (t : List LCol)=>t.length + 21 * dD l ≤ vars.length + 21 * dD l + dD (l.take j) ∧ ∀ s ∈ l.take j,ShapeP s) (fun r=>r.2 ≠ 0) l 0 vars ⟨by omega,by simp⟩ (fun k x t hk hI=>by
   simp only [Nat.zero_add] at hI ⊢
   have hx := dS hk
   obtain ⟨b,hbs⟩ := shapeP_tot x
   rw [hbs,bPs]
   cases b with
   | false=>exact ⟨_,rfl,by simp⟩
   | true =>
    have hsh := shapeP_ok hbs
    obtain ⟨c1,c2⟩ := cntS_take hk
    have hm := cntS_mem hx
    obtain ⟨v,e,hv,hvl⟩ := stmt_tot (c := c) (vars := t) hsh (hb x hx) (by have := hI.1; omega)
     (fun v hv=>by obtain ⟨a,b,h,_⟩ := (ih x hx).1 (fun y hy=>body_bulk (hb x hx) (.inl hy)) v hv; exact ⟨_,h⟩)
     (fun v hv=>by obtain ⟨a,b,h,_⟩ := (ih x hx).2 (fun y hy=>body_bulk (hb x hx) (.inr hy)) v hv; exact ⟨_,h⟩)
    rw [← (body_both l).2.2 x hx] at hv
    simp only [Bool.not_true,zd]
    rw [hv,bPs]
    by_cases he : e = 0
    ·simp only [bneF he,zd]
     refine ⟨_,rfl,by have := hI.1; omega,?_⟩
     intro y hy
     rw [List.take_add_one,hk,List.mem_append] at hy
     rcases hy with hy | hy
     ·exact hI.2 y hy
     ·simp at hy; rw [hy]; exact hsh
    ·simp only [hO he,zc]
     exact ⟨_,rfl,he⟩)
 rw [h1,bPs]
 cases fl with
 | next t =>
  simp only [Nat.zero_add,List.take_length] at h2
  exact ⟨t,0,rfl,fun _=>h2.2⟩
 | brk t=>exact absurd h2 (by simp)
 | ret r=>exact ⟨r.1,r.2,rfl,fun e=>absurd e h2⟩
theorem row_ge (s : LProcedureStatement) : 10 + cg (s.body.map ah) + cg (s.elseF.map ah) ≤ aV (ah s) := by
 rw [bs]
 simp only [aq,aV,PV.bulk]
 omega
theorem cnt_bulk : ∀ l : List LProcedureStatement,10 * dD l ≤ cg (l.map ah) := by
 refine kQ fun l ih=>?_
 rw [ir]
 have h : ∀ m : List LProcedureStatement,(∀ x ∈ m,x ∈ l) → 10 * (m.map fun s=>1 + dD s.body + dD s.elseF).sum ≤ cg (m.map ah) := by
  intro m
  induction m with
  | nil=>intro _; simp
  | cons x m ihm =>
   intro hm
   obtain ⟨a,b⟩ := ih x (hm x (by simp))
   have := row_ge x
   have := ihm fun y hy=>hm y (by simp [hy])
   simp only [List.map_cons,List.sum_cons,cg]
   omega
 exact h l fun _ h=>h
theorem checkP_tot {s : LSchema} {p : LProcedureProcedure} (hb : ∀ x ∈ p.body,aV (ah x) ≤ 1048576) (hc : dD p.body ≤ 1000000) :
  ∃ e,dB s p = some e ∧ (e = 0 → ∀ x ∈ p.body,ShapeP x) := by
 unfold dB
 obtain ⟨r,hr,hrl⟩ := stmts_ok p.body hc
 obtain ⟨d,hd⟩ := depth_tot p.body
 rw [hr,bPs]
 by_cases h40 : (r.length : Int) > 40
 ·rw [zt h40]
  exact ⟨2,rfl,fun h=>absurd h (by decide)⟩
 rw [zf h40,zd,hd,bPs]
 cases (decide (d > (6 : Int))) with
 | true=>exact ⟨2,rfl,fun h=>absurd h (by decide)⟩
 | false =>
  rw [zd,bPs]
  cases (decide ((p.parameters.length : Int) > (8 : Int))) with
  | true=>exact ⟨2,rfl,fun h=>absurd h (by decide)⟩
  | false =>
   rw [zd]
   obtain ⟨fl,h1,h2⟩ := dl (step := fun (_ : Nat) (x2 : Int) (_ : Unit) =>
    cond (decide (x2 < (1 : Int)))
     (some (Flow.ret (1 : Int)))
     (cond (decide (x2 > (3 : Int)))
      (some (.ret 1))
      (some (.next ())))) (fun _ (_ : Unit)=>True) (fun r=>r ≠ 0) p.parameters 0 () trivial (fun k x u hk _=>by
    cases (decide (x < (1 : Int))) with
    | true=>exact ⟨_,rfl,by simp⟩
    | false =>
     cases (decide (x > (3 : Int))) with
     | true=>exact ⟨_,rfl,by simp⟩
     | false=>exact ⟨_,rfl,trivial⟩)
   rw [h1,bPs]
   cases fl with
   | brk t=>exact absurd h2 (by simp)
   | ret e=>exact ⟨e,rfl,fun h=>absurd h h2⟩
   | next t =>
    obtain ⟨v,e,hv,hvs⟩ := body_tot (LProcedureChecker.mk s p.parameters) p.body hb [] (by simp only [List.length_nil]; omega)
    rw [fw,hv,bPs]
    exact ⟨e,rfl,hvs⟩
theorem callable_tot {s : LSchema} (hs : lQ s) (st : List LRelation) {p : LProcedureProcedure} (hb : ∀ x ∈ p.body,aV (ah x) ≤ 1048576) (hc : dD p.body ≤ 1000000) :
  ∃ b,dR s st p = some b ∧ (b = true → dB s p = some 0 ∧ cV s st = some 0 ∧ ∀ x ∈ p.body,ShapeP x) := by
 unfold dR
 obtain ⟨r,hr,hrl⟩ := stmts_ok p.body hc
 obtain ⟨v,hv⟩ := validate_tot hs
 obtain ⟨f,hf,_⟩ := conforms hs st
 obtain ⟨e,he,hes⟩ := checkP_tot (s := s) hb hc
 rw [hr,bPs,hv,bPs,hf,bPs,he,bPs]
 cases (decide ((r.length : Int) ≤ (40 : Int))) with
 | false=>exact ⟨false,rfl,fun h=>by cases h⟩
 | true =>
  rw [zc]
  by_cases h1 : v = 0
  ·rw [beqT h1,zc]
   by_cases h2 : f = 0
   ·rw [beqT h2,zc]
    refine ⟨_,rfl,fun h=>?_⟩
    have he0 : e = 0 := by simpa using h
    exact ⟨by rw [he0],by rw [h2],hes he0⟩
   ·rw [gC h2,zd]
    exact ⟨false,rfl,fun h=>by cases h⟩
  ·rw [gC h1,zd]
   exact ⟨false,rfl,fun h=>by cases h⟩
def fq (code : Int) : LProcedureStatement := LProcedureStatement.mk 8 code [] [] [] [] [] [] [] []
theorem raise_body {r : LProcedureRun} {code : Int} {l : List LProcedureStatement} (hst : r.stopped = false) (hl : r.left = 400) (hc : 1 ≤ code ∧ code ≤ 100) : ∃ r',eE r (fq code :: l) = some (100 + code,r') := by
 have hw : (IntKind.i64.wrap ((100 : Int) + code)) = 100 + code := fa (by omega) (by omega)
 have hw2 : (IntKind.i64.wrap ((400 : Int) - 1)) = 399 := by decide
 have hS : ∀ q : LProcedureRun,eG q (fq code) = some (100 + code,q) := by
  intro q
  unfold eG fq cE
  simp only [LProcedureStatement.kind,LProcedureStatement.code,ce,hw]
  rfl
 unfold eE
 rw [aF]
 simp only [hst,zd,hl,hw2,hS,bPs]
 rw [hO (by omega)]
 exact ⟨_,rfl⟩
theorem run_raise {s : LSchema} {st : List LRelation} {ps : List Int} {l : List LProcedureStatement} {code : Int} {args : Rq} (hck : dB s ⟨ps,fq code :: l⟩ = some 0) (hcf : cV s st = some 0) (hc : 1 ≤ code ∧ code ≤ 100) :
  (args.length < ps.length → eD s st ⟨ps,fq code :: l⟩ args = some ([],[],1)) ∧
  (ps.length ≤ args.length → ∃ e,eD s st ⟨ps,fq code :: l⟩ args = some ([],[],e) ∧ (e = 100 + code ∨ e = 7 ∧ 0 < ps.length)) := by
 unfold eD
 rw [hck,bPs,bneF rfl,zd]
 refine ⟨fun h=>?_,fun h=>?_⟩
 ·rw [zt (by show (args.length : Int) < ps.length; omega)]
  rfl
 ·rw [zf (by show ¬ (args.length : Int) < ps.length; omega),zd]
  obtain ⟨fl,h1,h2⟩ := dl (step := fun (j1 : Nat) (x1 : Int) (_ : Unit) =>
    af (aN args (j1 : Int)) fun (x39 : LVal) =>
    letP (iv x39) fun x41 =>
    cond (!x41)
     (some (Flow.ret (([] : List LChange),([] : List LResult),(7 : Int))))
     (af (aN args (j1 : Int)) fun (x46 : LVal) =>
     cond (x46.kind != x1)
      (af (aN args (j1 : Int)) fun (x54 : LVal) =>
      cond (x54.kind != (0 : Int))
       (some (.ret ([],[],7)))
       (some (.next ())))
      (some (.next ())))) (fun _ (_ : Unit)=>True) (fun r=>r = ([],[],7) ∧ 0 < ps.length) ps 0 () trivial (fun k x u hk _=>by
   have hkl := (zg.1 hk).1
   obtain ⟨v,hv⟩ := Tot.get (xs := args) (i := ((0 + k : Nat) : Int)) (by omega) (by omega)
   rw [hv,bPs,ce]
   have hp : 0 < ps.length := by omega
   cases iv v with
   | false=>exact ⟨_,rfl,rfl,hp⟩
   | true =>
    simp only [Bool.not_true,zd,bPs]
    cases (v.kind != x) with
    | false=>exact ⟨_,rfl,trivial⟩
    | true =>
     cases hz : (v.kind != (0 : Int)) with
     | false=>exact ⟨.next (),by simp,trivial⟩
     | true=>exact ⟨.ret ([],[],7),by simp,rfl,hp⟩)
  rw [h1,bPs]
  cases fl with
  | brk t=>exact absurd h2 (by simp)
  | ret r=>exact ⟨7,by rw [ml,h2.1],.inr ⟨rfl,h2.2⟩⟩
  | next t =>
   rw [fw,hcf,bPs,bneF rfl,zd]
   obtain ⟨x,hx⟩ := Tot.sub (xs := args) (a := 0) (b := (ps.length : Int)) ⟨by omega,by omega,by omega⟩
   obtain ⟨r',hr'⟩ := raise_body (r := LProcedureRun.mk s st x [] [] [] [] 400 false) (code := code) (l := l) rfl rfl hc
   rw [hx,bPs,hr',bPs]
   rw [hO (by show (100 + code : Int) ≠ 0; omega),zc]
   exact ⟨_,rfl,.inl rfl⟩
theorem nh {s : LSchema} (hs : lQ s) (st : List LRelation) {p : LProcedureProcedure} (hb : cg (p.body.map ah) ≤ 1048576) (code : Int) (args : Rq) :
  el s st p code args = some true := by
 unfold el
 rw [ce,show (!sampleV) = false from rfl,zd]
 have hcb := cnt_bulk p.body
 have hlen : p.body.length ≤ cg (p.body.map ah) := by
  have := ie (f := ah) (k := 1) (fun x=>by have := row_ge x; omega) p.body
  omega
 rw [dT (by decide) (by simp only [List.length_cons,List.length_nil]; omega),bPs]
 show af (af (dR s st ⟨p.parameters,fq code :: p.body⟩) _) _ = _
 have hbb : ∀ x ∈ fq code :: p.body,aV (ah x) ≤ 1048576 := by
  intro x hx
  rcases List.mem_cons.1 hx with rfl | hx
  ·rw [bs]
   simp [fq,aq,aV,PV.bulk,cg,LProcedureStatement.kind,LProcedureStatement.code,LProcedureStatement.name,LProcedureStatement.table,LProcedureStatement.names,LProcedureStatement.exprs,LProcedureStatement.whereF,LProcedureStatement.query,LProcedureStatement.body,LProcedureStatement.elseF]
  ·have := fD (List.mem_map_of_mem (f := ah) hx)
   omega
 have hcc : dD (fq code :: p.body) ≤ 1000000 := by
  have e0 : dD [] = 0 := by rw [ir]; rfl
  have e1 := ir (fq code :: p.body)
  have e2 := ir p.body
  simp only [List.map_cons,List.sum_cons] at e1
  rw [← e2,show (fq code).body = [] from rfl,show (fq code).elseF = [] from rfl,e0] at e1
  omega
 obtain ⟨b,hcall,hok⟩ := callable_tot (s := s) hs st (p := ⟨p.parameters,fq code :: p.body⟩) hbb hcc
 rw [hcall,bPs]
 cases b with
 | false=>rfl
 | true =>
  obtain ⟨hck,hcf,hsh⟩ := hok rfl
  have hc := (hsh (fq code) (by simp)).code rfl
  have hc : 1 ≤ code ∧ code ≤ 100 := hc
  have hw : (IntKind.i64.wrap ((100 : Int) + code)) = 100 + code := fa (by omega) (by omega)
  simp only [Bool.not_true,zd,bPs]
  cases (decide ((args.length : Int) > (20 : Int))) with
  | true=>rfl
  | false =>
   rw [zd]
   show af (eD s st ⟨p.parameters,fq code :: p.body⟩ args) _ = _
   obtain ⟨r1,r2⟩ := run_raise (args := args) hck hcf hc
   by_cases hl : args.length < p.parameters.length
   ·rw [r1 hl,bPs,zt (by omega)]
    rfl
   ·obtain ⟨e,he,hcase⟩ := r2 (by omega)
    rw [he,bPs,zf (by omega),zd]
    have h0 : (IntKind.i64.wrap ((([] : List LChange).length : Int) + (([] : List LResult).length : Int)) == (0 : Int)) = true := by decide
    rw [h0,zc,ce]
    unfold cE
    rw [hw]
    rcases hcase with rfl | ⟨rfl,hp⟩
    ·simp
    ·by_cases h7 : (7 : Int) = 100 + code
     ·rw [beqT h7]; rfl
     ·rw [gC h7,zd]
      simp [hp]
      try omega
theorem own_knob : ownKnob Tryz.prog.godebug = none := by kernel_rfl
theorem laid_out : laidOutB Tryz.prog = true := by kernel_rfl
def lawTypes : List TypeId := [26,22,73,9,39,70,3,4,50,23,131,24,137,75,28,79,40,77,53,51,55,29,30,92,33,35,31,107,32,36]
theorem lawTypes_ok : lawTypes.all (okT Tryz.prog lawTypes) = true := by kernel_rfl
theorem lawTypes_info : ∀ t ∈ lawTypes,∃ i,Tryz.prog.info? t = some i ∧ i.bytes = Tryz.prog.bytesOf t ∧ i.size = Tryz.prog.cellsOf t := infos_of (by kernel_rfl)
theorem sh9 {n : Nat} {pvs : List PV} (h : Sh Tryz.prog n 9 pvs) : ∃ v : List UInt8,pvs = [.str v] := by
 cases n with
 | zero=>simp [Sh] at h
 | succ n=>simp only [Sh,Tryz.underlying9] at h; obtain ⟨m,rfl,_⟩ := h; exact ⟨m,rfl⟩
theorem sh3 {n : Nat} {pvs : List PV} (h : Sh Tryz.prog n 3 pvs) : ∃ v : Int,pvs = [ak v] := by
 cases n with
 | zero=>simp [Sh] at h
 | succ n=>simp only [Sh,Tryz.underlying3] at h; obtain ⟨m,rfl,_⟩ := h; exact ⟨m,rfl⟩
theorem sh4 {n : Nat} {pvs : List PV} (h : Sh Tryz.prog n 4 pvs) : ∃ v : Bool,pvs = [az v] := by
 cases n with
 | zero=>simp [Sh] at h
 | succ n=>simp only [Sh,Tryz.underlying4] at h; obtain ⟨m,rfl⟩ := h; exact ⟨m,rfl⟩
theorem sh70 {n : Nat} {pvs : List PV} (h : Sh Tryz.prog n 70 pvs) : ∃ v : LCol,pvs = ap v := by
 cases n with
 | zero=>simp [Sh] at h
 | succ n =>
  simp only [Sh,Tryz.underlying70,List.map_cons,List.map_nil,dV] at h
  obtain ⟨p0,r0,rfl,h0,p1,r1,rfl,h1,p2,r2,rfl,h2,rfl⟩ := h
  obtain ⟨v0,rfl⟩ := sh9 h0
  obtain ⟨v1,rfl⟩ := sh3 h1
  obtain ⟨v2,rfl⟩ := sh4 h2
  exact ⟨LCol.mk v0 v1 v2,rfl⟩
theorem sh39 {n : Nat} {pvs : List PV} (h : Sh Tryz.prog n 39 pvs) : ∃ v : List LCol,pvs = [.list 70 (v.map ap)] := by
 cases n with
 | zero=>simp [Sh] at h
 | succ n =>
  simp only [Sh,Tryz.underlying39] at h
  obtain ⟨rows,rfl,hr⟩ := h
  obtain ⟨xs,rfl⟩ := eX (f := ap) (fun r hq=>sh70 (hr r hq))
  exact ⟨xs,rfl⟩
theorem sh50 {n : Nat} {pvs : List PV} (h : Sh Tryz.prog n 50 pvs) : ∃ v : List Int,pvs = [.list 3 (v.map aZ)] := by
 cases n with
 | zero=>simp [Sh] at h
 | succ n =>
  simp only [Sh,Tryz.underlying50] at h
  obtain ⟨rows,rfl,hr⟩ := h
  obtain ⟨xs,rfl⟩ := eX (f := aZ) (fun r hq=>let ⟨v,e⟩ := sh3 (hr r hq); ⟨v,e⟩)
  exact ⟨xs,rfl⟩
theorem sh73 {n : Nat} {pvs : List PV} (h : Sh Tryz.prog n 73 pvs) : ∃ v : LTable,pvs = bu v := by
 cases n with
 | zero=>simp [Sh] at h
 | succ n =>
  simp only [Sh,Tryz.underlying73,List.map_cons,List.map_nil,dV] at h
  obtain ⟨p0,r0,rfl,h0,p1,r1,rfl,h1,p2,r2,rfl,h2,rfl⟩ := h
  obtain ⟨v0,rfl⟩ := sh9 h0
  obtain ⟨v1,rfl⟩ := sh39 h1
  obtain ⟨v2,rfl⟩ := sh50 h2
  exact ⟨LTable.mk v0 v1 v2,rfl⟩
theorem sh22 {n : Nat} {pvs : List PV} (h : Sh Tryz.prog n 22 pvs) : ∃ v : List LTable,pvs = [.list 73 (v.map bu)] := by
 cases n with
 | zero=>simp [Sh] at h
 | succ n =>
  simp only [Sh,Tryz.underlying22] at h
  obtain ⟨rows,rfl,hr⟩ := h
  obtain ⟨xs,rfl⟩ := eX (f := bu) (fun r hq=>sh73 (hr r hq))
  exact ⟨xs,rfl⟩
theorem sh131 {n : Nat} {pvs : List PV} (h : Sh Tryz.prog n 131 pvs) : ∃ v : LForeignKey,pvs = ft v := by
 cases n with
 | zero=>simp [Sh] at h
 | succ n =>
  simp only [Sh,Tryz.underlying131,List.map_cons,List.map_nil,dV] at h
  obtain ⟨p0,r0,rfl,h0,p1,r1,rfl,h1,p2,r2,rfl,h2,rfl⟩ := h
  obtain ⟨v0,rfl⟩ := sh9 h0
  obtain ⟨v1,rfl⟩ := sh50 h1
  obtain ⟨v2,rfl⟩ := sh9 h2
  exact ⟨LForeignKey.mk v0 v1 v2,rfl⟩
theorem sh23 {n : Nat} {pvs : List PV} (h : Sh Tryz.prog n 23 pvs) : ∃ v : List LForeignKey,pvs = [.list 131 (v.map ft)] := by
 cases n with
 | zero=>simp [Sh] at h
 | succ n =>
  simp only [Sh,Tryz.underlying23] at h
  obtain ⟨rows,rfl,hr⟩ := h
  obtain ⟨xs,rfl⟩ := eX (f := ft) (fun r hq=>sh131 (hr r hq))
  exact ⟨xs,rfl⟩
theorem sh75 {n : Nat} {pvs : List PV} (h : Sh Tryz.prog n 75 pvs) : ∃ v : LVal,pvs = aY v := by
 cases n with
 | zero=>simp [Sh] at h
 | succ n =>
  simp only [Sh,Tryz.underlying75,List.map_cons,List.map_nil,dV] at h
  obtain ⟨p0,r0,rfl,h0,p1,r1,rfl,h1,p2,r2,rfl,h2,rfl⟩ := h
  obtain ⟨v0,rfl⟩ := sh3 h0
  obtain ⟨v1,rfl⟩ := sh3 h1
  obtain ⟨v2,rfl⟩ := sh9 h2
  exact ⟨LVal.mk v0 v1 v2,rfl⟩
theorem sh137 {n : Nat} {pvs : List PV} (h : Sh Tryz.prog n 137 pvs) : ∃ v : LConstraint,pvs = gp v := by
 cases n with
 | zero=>simp [Sh] at h
 | succ n =>
  simp only [Sh,Tryz.underlying137,List.map_cons,List.map_nil,dV] at h
  obtain ⟨p0,r0,rfl,h0,p1,r1,rfl,h1,p2,r2,rfl,h2,p3,r3,rfl,h3,p4,r4,rfl,h4,rfl⟩ := h
  obtain ⟨v0,rfl⟩ := sh9 h0
  obtain ⟨v1,rfl⟩ := sh3 h1
  obtain ⟨v2,rfl⟩ := sh9 h2
  obtain ⟨v3,rfl⟩ := sh3 h3
  obtain ⟨v4,rfl⟩ := sh75 h4
  exact ⟨LConstraint.mk v0 v1 v2 v3 v4,rfl⟩
theorem sh24 {n : Nat} {pvs : List PV} (h : Sh Tryz.prog n 24 pvs) : ∃ v : List LConstraint,pvs = [.list 137 (v.map gp)] := by
 cases n with
 | zero=>simp [Sh] at h
 | succ n =>
  simp only [Sh,Tryz.underlying24] at h
  obtain ⟨rows,rfl,hr⟩ := h
  obtain ⟨xs,rfl⟩ := eX (f := gp) (fun r hq=>sh137 (hr r hq))
  exact ⟨xs,rfl⟩
theorem sh26 {n : Nat} {pvs : List PV} (h : Sh Tryz.prog n 26 pvs) : ∃ v : LSchema,pvs = bK v := by
 cases n with
 | zero=>simp [Sh] at h
 | succ n =>
  simp only [Sh,Tryz.underlying26,List.map_cons,List.map_nil,dV] at h
  obtain ⟨p0,r0,rfl,h0,p1,r1,rfl,h1,p2,r2,rfl,h2,rfl⟩ := h
  obtain ⟨v0,rfl⟩ := sh22 h0
  obtain ⟨v1,rfl⟩ := sh23 h1
  obtain ⟨v2,rfl⟩ := sh24 h2
  exact ⟨LSchema.mk v0 v1 v2,rfl⟩
theorem sh77 {n : Nat} {pvs : List PV} (h : Sh Tryz.prog n 77 pvs) : ∃ v : Rq,pvs = [.list 75 (v.map aY)] := by
 cases n with
 | zero=>simp [Sh] at h
 | succ n =>
  simp only [Sh,Tryz.underlying77] at h
  obtain ⟨rows,rfl,hr⟩ := h
  obtain ⟨xs,rfl⟩ := eX (f := aY) (fun r hq=>sh75 (hr r hq))
  exact ⟨xs,rfl⟩
theorem sh40 {n : Nat} {pvs : List PV} (h : Sh Tryz.prog n 40 pvs) : ∃ v : Rz,pvs = [.list 77 (v.map (gL 75 aY))] := by
 cases n with
 | zero=>simp [Sh] at h
 | succ n =>
  simp only [Sh,Tryz.underlying40] at h
  obtain ⟨rows,rfl,hr⟩ := h
  obtain ⟨xs,rfl⟩ := eX (f := (gL 75 aY)) (fun r hq=>let ⟨v,e⟩ := sh77 (hr r hq); ⟨v,e⟩)
  exact ⟨xs,rfl⟩
theorem sh79 {n : Nat} {pvs : List PV} (h : Sh Tryz.prog n 79 pvs) : ∃ v : LRelation,pvs = cy v := by
 cases n with
 | zero=>simp [Sh] at h
 | succ n =>
  simp only [Sh,Tryz.underlying79,List.map_cons,List.map_nil,dV] at h
  obtain ⟨p0,r0,rfl,h0,p1,r1,rfl,h1,rfl⟩ := h
  obtain ⟨v0,rfl⟩ := sh9 h0
  obtain ⟨v1,rfl⟩ := sh40 h1
  exact ⟨LRelation.mk v0 v1,rfl⟩
theorem sh28 {n : Nat} {pvs : List PV} (h : Sh Tryz.prog n 28 pvs) : ∃ v : List LRelation,pvs = [.list 79 (v.map cy)] := by
 cases n with
 | zero=>simp [Sh] at h
 | succ n =>
  simp only [Sh,Tryz.underlying28] at h
  obtain ⟨rows,rfl,hr⟩ := h
  obtain ⟨xs,rfl⟩ := eX (f := cy) (fun r hq=>sh79 (hr r hq))
  exact ⟨xs,rfl⟩
theorem sh29 {n : Nat} {pvs : List PV} (h : Sh Tryz.prog n 29 pvs) : ∃ v : List (List UInt8),pvs = [.list 9 (v.map rStr)] := by
 cases n with
 | zero=>simp [Sh] at h
 | succ n =>
  simp only [Sh,Tryz.underlying29] at h
  obtain ⟨rows,rfl,hr⟩ := h
  obtain ⟨xs,rfl⟩ := eX (f := rStr) (fun r hq=>let ⟨v,e⟩ := sh9 (hr r hq); ⟨v,e⟩)
  exact ⟨xs,rfl⟩
theorem sh92 {n : Nat} {pvs : List PV} (h : Sh Tryz.prog n 92 pvs) : ∃ v : LExpr,pvs = cJ v := by
 induction n generalizing pvs with
 | zero=>simp [Sh] at h
 | succ n ih =>
  simp only [Sh,Tryz.underlying92,List.map_cons,List.map_nil,dV] at h
  obtain ⟨p0,r0,rfl,h0,p1,r1,rfl,h1,p2,r2,rfl,h2,p3,r3,rfl,h3,p4,r4,rfl,h4,rfl⟩ := h
  obtain ⟨v0,rfl⟩ := sh3 h0
  obtain ⟨v1,rfl⟩ := sh9 h1
  obtain ⟨v2,rfl⟩ := sh3 h2
  obtain ⟨v3,rfl⟩ := sh75 h3
  cases n with
  | zero=>simp [Sh] at h4
  | succ n =>
  simp only [Sh,Tryz.underlying30] at h4
  obtain ⟨rows,rfl,hr4⟩ := h4
  obtain ⟨v4,rfl⟩ := rowsUp (f := cJ) (rfl) ih hr4
  exact ⟨LExpr.mk v0 v1 v2 v3 v4,by rw [cv]; rfl⟩
theorem sh30 {n : Nat} {pvs : List PV} (h : Sh Tryz.prog n 30 pvs) : ∃ v : List LExpr,pvs = [.list 92 (v.map cJ)] := by
 cases n with
 | zero=>simp [Sh] at h
 | succ n =>
  simp only [Sh,Tryz.underlying30] at h
  obtain ⟨rows,rfl,hr⟩ := h
  obtain ⟨xs,rfl⟩ := eX (f := cJ) (fun r hq=>sh92 (hr r hq))
  exact ⟨xs,rfl⟩
theorem sh107 {n : Nat} {pvs : List PV} (h : Sh Tryz.prog n 107 pvs) : ∃ v : LAggregateCall,pvs = iS v := by
 cases n with
 | zero=>simp [Sh] at h
 | succ n =>
  simp only [Sh,Tryz.underlying107,List.map_cons,List.map_nil,dV] at h
  obtain ⟨p0,r0,rfl,h0,p1,r1,rfl,h1,p2,r2,rfl,h2,rfl⟩ := h
  obtain ⟨v0,rfl⟩ := sh9 h0
  obtain ⟨v1,rfl⟩ := sh9 h1
  obtain ⟨v2,rfl⟩ := sh30 h2
  exact ⟨LAggregateCall.mk v0 v1 v2,rfl⟩
theorem sh31 {n : Nat} {pvs : List PV} (h : Sh Tryz.prog n 31 pvs) : ∃ v : List LAggregateCall,pvs = [.list 107 (v.map iS)] := by
 cases n with
 | zero=>simp [Sh] at h
 | succ n =>
  simp only [Sh,Tryz.underlying31] at h
  obtain ⟨rows,rfl,hr⟩ := h
  obtain ⟨xs,rfl⟩ := eX (f := iS) (fun r hq=>sh107 (hr r hq))
  exact ⟨xs,rfl⟩
theorem sh32 {n : Nat} {pvs : List PV} (h : Sh Tryz.prog n 32 pvs) : ∃ v : List Bool,pvs = [.list 4 (v.map rBool)] := by
 cases n with
 | zero=>simp [Sh] at h
 | succ n =>
  simp only [Sh,Tryz.underlying32] at h
  obtain ⟨rows,rfl,hr⟩ := h
  obtain ⟨xs,rfl⟩ := eX (f := rBool) (fun r hq=>let ⟨v,e⟩ := sh4 (hr r hq); ⟨v,e⟩)
  exact ⟨xs,rfl⟩
theorem sh35 {n : Nat} {pvs : List PV} (h : Sh Tryz.prog n 35 pvs) : ∃ v : LQuery,pvs = bI v := by
 induction n generalizing pvs with
 | zero=>simp [Sh] at h
 | succ n ih =>
  simp only [Sh,Tryz.underlying35,List.map_cons,List.map_nil,dV] at h
  obtain ⟨p0,r0,rfl,h0,p1,r1,rfl,h1,p2,r2,rfl,h2,p3,r3,rfl,h3,p4,r4,rfl,h4,p5,r5,rfl,h5,p6,r6,rfl,h6,p7,r7,rfl,h7,p8,r8,rfl,h8,rfl⟩ := h
  obtain ⟨v0,rfl⟩ := sh3 h0
  obtain ⟨v1,rfl⟩ := sh9 h1
  obtain ⟨v2,rfl⟩ := sh29 h2
  obtain ⟨v3,rfl⟩ := sh30 h3
  obtain ⟨v4,rfl⟩ := sh31 h4
  obtain ⟨v5,rfl⟩ := sh32 h5
  obtain ⟨v6,rfl⟩ := sh3 h6
  obtain ⟨v7,rfl⟩ := sh3 h7
  cases n with
  | zero=>simp [Sh] at h8
  | succ n =>
  simp only [Sh,Tryz.underlying33] at h8
  obtain ⟨rows,rfl,hr8⟩ := h8
  obtain ⟨v8,rfl⟩ := rowsUp (f := bI) (rfl) ih hr8
  exact ⟨LQuery.mk v0 v1 v2 v3 v4 v5 v6 v7 v8,by rw [dz]; rfl⟩
theorem sh33 {n : Nat} {pvs : List PV} (h : Sh Tryz.prog n 33 pvs) : ∃ v : List LQuery,pvs = [.list 35 (v.map bI)] := by
 cases n with
 | zero=>simp [Sh] at h
 | succ n =>
  simp only [Sh,Tryz.underlying33] at h
  obtain ⟨rows,rfl,hr⟩ := h
  obtain ⟨xs,rfl⟩ := eX (f := bI) (fun r hq=>sh35 (hr r hq))
  exact ⟨xs,rfl⟩
theorem sh55 {n : Nat} {pvs : List PV} (h : Sh Tryz.prog n 55 pvs) : ∃ v : LProcedureStatement,pvs = ah v := by
 induction n generalizing pvs with
 | zero=>simp [Sh] at h
 | succ n ih =>
  simp only [Sh,Tryz.underlying55,List.map_cons,List.map_nil,dV] at h
  obtain ⟨p0,r0,rfl,h0,p1,r1,rfl,h1,p2,r2,rfl,h2,p3,r3,rfl,h3,p4,r4,rfl,h4,p5,r5,rfl,h5,p6,r6,rfl,h6,p7,r7,rfl,h7,p8,r8,rfl,h8,p9,r9,rfl,h9,rfl⟩ := h
  obtain ⟨v0,rfl⟩ := sh3 h0
  obtain ⟨v1,rfl⟩ := sh3 h1
  obtain ⟨v2,rfl⟩ := sh9 h2
  obtain ⟨v3,rfl⟩ := sh9 h3
  obtain ⟨v4,rfl⟩ := sh29 h4
  obtain ⟨v5,rfl⟩ := sh30 h5
  obtain ⟨v6,rfl⟩ := sh30 h6
  obtain ⟨v7,rfl⟩ := sh33 h7
  cases n with
  | zero=>simp [Sh] at h8
  | succ n =>
  simp only [Sh,Tryz.underlying51] at h8
  obtain ⟨rows,rfl,hr8⟩ := h8
  obtain ⟨v8,rfl⟩ := rowsUp (f := ah) (rfl) ih hr8
  simp only [Sh,Tryz.underlying51] at h9
  obtain ⟨rows,rfl,hr9⟩ := h9
  obtain ⟨v9,rfl⟩ := rowsUp (f := ah) (rfl) ih hr9
  exact ⟨LProcedureStatement.mk v0 v1 v2 v3 v4 v5 v6 v7 v8 v9,by rw [bs]; rfl⟩
theorem sh51 {n : Nat} {pvs : List PV} (h : Sh Tryz.prog n 51 pvs) : ∃ v : List LProcedureStatement,pvs = [.list 55 (v.map ah)] := by
 cases n with
 | zero=>simp [Sh] at h
 | succ n =>
  simp only [Sh,Tryz.underlying51] at h
  obtain ⟨rows,rfl,hr⟩ := h
  obtain ⟨xs,rfl⟩ := eX (f := ah) (fun r hq=>sh55 (hr r hq))
  exact ⟨xs,rfl⟩
theorem sh53 {n : Nat} {pvs : List PV} (h : Sh Tryz.prog n 53 pvs) : ∃ v : LProcedureProcedure,pvs = bw v := by
 cases n with
 | zero=>simp [Sh] at h
 | succ n =>
  simp only [Sh,Tryz.underlying53,List.map_cons,List.map_nil,dV] at h
  obtain ⟨p0,r0,rfl,h0,p1,r1,rfl,h1,rfl⟩ := h
  obtain ⟨v0,rfl⟩ := sh50 h0
  obtain ⟨v1,rfl⟩ := sh51 h1
  exact ⟨LProcedureProcedure.mk v0 v1,rfl⟩
theorem sh36 {n : Nat} {pvs : List PV} (h : Sh Tryz.prog n 36 pvs) : ∃ v : Rq,pvs = [.list 75 (v.map aY)] := by
 cases n with
 | zero=>simp [Sh] at h
 | succ n =>
  simp only [Sh,Tryz.underlying36] at h
  obtain ⟨rows,rfl,hr⟩ := h
  obtain ⟨xs,rfl⟩ := eX (f := aY) (fun r hq=>sh75 (hr r hq))
  exact ⟨xs,rfl⟩
theorem law_args : ∀ args,ArgsSh Tryz.prog Tryz.f4.params.toList args → aV args ≤ 1048576 → aH Tryz.prog 4 args (.val (.bool true)) := by
 intro args h hN
 rw [Tryz.params4] at h
 simp only [ArgsSh] at h
 obtain ⟨n0,p0,r0,rfl,h0,n1,p1,r1,rfl,h1,n2,p2,r2,rfl,h2,n3,p3,r3,rfl,h3,n4,p4,r4,rfl,h4,rfl⟩ := h
 obtain ⟨v0,rfl⟩ := sh26 h0
 obtain ⟨v1,rfl⟩ := sh28 h1
 obtain ⟨v2,rfl⟩ := sh53 h2
 obtain ⟨v3,rfl⟩ := sh3 h3
 obtain ⟨v4,rfl⟩ := sh36 h4
 have e0 : fT Tryz.prog 26 (bK v0) = .agg (bK v0) := by simp only [fT,Tryz.underlying26]
 rw [e0] at hN ⊢
 have e1 : fT Tryz.prog 28 [.list 79 (v1.map cy)] = .list 79 (v1.map cy) := by simp only [fT,Tryz.underlying28]; rfl
 rw [e1] at hN ⊢
 have e2 : fT Tryz.prog 53 (bw v2) = .agg (bw v2) := by simp only [fT,Tryz.underlying53]
 rw [e2] at hN ⊢
 have e3 : fT Tryz.prog 3 [ak v3] = ak v3 := by simp only [fT,Tryz.underlying3]; rfl
 rw [e3] at hN ⊢
 have e4 : fT Tryz.prog 36 [.list 75 (v4.map aY)] = .list 75 (v4.map aY) := by simp only [fT,Tryz.underlying36]; rfl
 rw [e4] at hN ⊢
 simp only [aV,PV.bulk] at hN
 have hs0 : lQ v0 := smallS_bulk (n := 1048576) (by omega) (by omega)
 have hb1 : cg (v2.body.map ah) ≤ aV (bw v2) := by simp only [bw,aV,PV.bulk]; omega
 have hb : cg (v2.body.map ah) ≤ 1048576 := by omega
 exact jS v0 v1 v2 v3 v4 true (nh hs0 v1 hb v3 v4)
set_option maxRecDepth 100000 in
theorem law_wf : (fun (P : Program) (f : FuncId) (fn : Func) (s : ChangeSpec) (c : OpenClaim)=>(P.funcs.size,f,fn.params.size,s.name,c.func,c.wf (OpenSpec.ofChange s)).2.2.2.2.2) Tryz.prog 4 Tryz.f4 (Rows.OpenSpec.upto Rows.procedureRaiseSpec).bare Rows.procedureRaiseUptoRow = true := by kernel_rfl
set_option maxRecDepth 100000 in
theorem law_laid : (fun (P : Program) (f : FuncId) (fn : Func) (s : ChangeSpec) (c : OpenClaim)=>(P.funcs.size,f,fn.params.size,s.name,c.func,laidOutB P).2.2.2.2.2) Tryz.prog 4 Tryz.f4 (Rows.OpenSpec.upto Rows.procedureRaiseSpec).bare Rows.procedureRaiseUptoRow = true := by kernel_rfl
set_option maxRecDepth 100000 in
theorem law_mapsRowed : (fun (P : Program) (f : FuncId) (fn : Func) (s : ChangeSpec) (c : OpenClaim)=>(P.funcs.size,f,fn.params.size,s.name,c.func,mapsRowed P).2.2.2.2.2) Tryz.prog 4 Tryz.f4 (Rows.OpenSpec.upto Rows.procedureRaiseSpec).bare Rows.procedureRaiseUptoRow = true := by kernel_rfl
set_option maxRecDepth 100000 in
theorem law_rr : (fun (P : Program) (f : FuncId) (fn : Func) (s : ChangeSpec) (c : OpenClaim)=>(P.funcs.size,f,fn.params.size,s.name,c.func,fn.params.all (P.readableRec ·)).2.2.2.2.2) Tryz.prog 4 Tryz.f4 (Rows.OpenSpec.upto Rows.procedureRaiseSpec).bare Rows.procedureRaiseUptoRow = true := by kernel_rfl
set_option maxRecDepth 100000 in
theorem law_nt : (fun (P : Program) (f : FuncId) (fn : Func) (s : ChangeSpec) (c : OpenClaim)=>(P.funcs.size,f,fn.params.size,s.name,c.func,namedTie P c.named s.vars).2.2.2.2.2) Tryz.prog 4 Tryz.f4 (Rows.OpenSpec.upto Rows.procedureRaiseSpec).bare Rows.procedureRaiseUptoRow = true := by kernel_rfl
set_option maxRecDepth 100000 in
theorem law_st : (fun (P : Program) (f : FuncId) (fn : Func) (s : ChangeSpec) (c : OpenClaim)=>(P.funcs.size,f,fn.params.size,s.name,c.func,(c.stops == []) && (P.stops == []) && (c.knobs == []) && (P.stopKnobs == [])).2.2.2.2.2) Tryz.prog 4 Tryz.f4 (Rows.OpenSpec.upto Rows.procedureRaiseSpec).bare Rows.procedureRaiseUptoRow = true := by kernel_rfl
set_option maxRecDepth 100000 in
theorem law_inPlace : (fun (P : Program) (f : FuncId) (fn : Func) (s : ChangeSpec) (c : OpenClaim)=>(P.funcs.size,f,fn.params.size,s.name,c.func,c.inPlace == P.inPlace f).2.2.2.2.2) Tryz.prog 4 Tryz.f4 (Rows.OpenSpec.upto Rows.procedureRaiseSpec).bare Rows.procedureRaiseUptoRow = true := by kernel_rfl
set_option maxRecDepth 100000 in
theorem law_unf : (fun (P : Program) (f : FuncId) (fn : Func) (s : ChangeSpec) (c : OpenClaim)=>(P.funcs.size,f,fn.params.size,s.name,c.func,c.unfollowed == P.unfollowed f).2.2.2.2.2) Tryz.prog 4 Tryz.f4 (Rows.OpenSpec.upto Rows.procedureRaiseSpec).bare Rows.procedureRaiseUptoRow = true := by kernel_rfl
set_option maxRecDepth 100000 in
theorem law_rec : (fun (P : Program) (f : FuncId) (fn : Func) (s : ChangeSpec) (c : OpenClaim)=>(P.funcs.size,f,fn.params.size,s.name,c.func,c.recurses == P.recurses f).2.2.2.2.2) Tryz.prog 4 Tryz.f4 (Rows.OpenSpec.upto Rows.procedureRaiseSpec).bare Rows.procedureRaiseUptoRow = true := by kernel_rfl
set_option maxRecDepth 100000 in
theorem law_named : (fun (P : Program) (f : FuncId) (fn : Func) (s : ChangeSpec) (c : OpenClaim)=>(P.funcs.size,f,fn.params.size,s.name,c.func,c.named == P.varsNamed f).2.2.2.2.2) Tryz.prog 4 Tryz.f4 (Rows.OpenSpec.upto Rows.procedureRaiseSpec).bare Rows.procedureRaiseUptoRow = true := by kernel_rfl
set_option maxRecDepth 100000 in
theorem law_maps : (fun (P : Program) (f : FuncId) (fn : Func) (s : ChangeSpec) (c : OpenClaim)=>(P.funcs.size,f,fn.params.size,s.name,c.func,(c.maps == (fn.params.toList ++ s.plain.varTypes P).any (P.mapsRec ·)) && (c.ifaces == (fn.params.toList ++ s.plain.varTypes P).any (P.ifacesRec ·)) && (c.mapsOut == P.mapsAmong fn.resultTypes.toList)).2.2.2.2.2) Tryz.prog 4 Tryz.f4 (Rows.OpenSpec.upto Rows.procedureRaiseSpec).bare Rows.procedureRaiseUptoRow = true := by kernel_rfl
set_option maxRecDepth 100000 in
theorem law_loops : (fun (P : Program) (f : FuncId) (fn : Func) (s : ChangeSpec) (c : OpenClaim)=>(P.funcs.size,f,fn.params.size,s.name,c.func,(c.loops == (fn.params.toList ++ s.plain.varTypes P).any (P.loopsFrom ·))).2.2.2.2.2) Tryz.prog 4 Tryz.f4 (Rows.OpenSpec.upto Rows.procedureRaiseSpec).bare Rows.procedureRaiseUptoRow = true := by kernel_rfl
set_option maxRecDepth 100000 in
theorem law_wide : (fun (P : Program) (f : FuncId) (fn : Func) (s : ChangeSpec) (c : OpenClaim)=>(P.funcs.size,f,fn.params.size,s.name,c.func,(c.wideKeys == (fn.params.toList ++ s.plain.varTypes P ++ fn.resultTypes.toList).any (P.wideKeysFrom ·))).2.2.2.2.2) Tryz.prog 4 Tryz.f4 (Rows.OpenSpec.upto Rows.procedureRaiseSpec).bare Rows.procedureRaiseUptoRow = true := by kernel_rfl
set_option maxRecDepth 100000 in
theorem law_rest1 : (fun (P : Program) (f : FuncId) (fn : Func) (s : ChangeSpec) (c : OpenClaim)=>(P.funcs.size,f,fn.params.size,s.name,c.func,s.vars.all (P.varReadable ·) && fn.resultTypes.all (fun t=>P.readableRec t && decide (t < P.types.size)) && (c.ifacesOut == fn.resultTypes.toList.any (P.ifacesRec ·)) && (c.loopsOut == fn.resultTypes.toList.any (P.loopsFrom ·))).2.2.2.2.2) Tryz.prog 4 Tryz.f4 (Rows.OpenSpec.upto Rows.procedureRaiseSpec).bare Rows.procedureRaiseUptoRow = true := by kernel_rfl
set_option maxRecDepth 100000 in
theorem law_plainKeys : (fun (P : Program) (f : FuncId) (fn : Func) (s : ChangeSpec) (c : OpenClaim)=>(P.funcs.size,f,fn.params.size,s.name,c.func,c.plainKeys == P.plainKeys).2.2.2.2.2) Tryz.prog 4 Tryz.f4 (Rows.OpenSpec.upto Rows.procedureRaiseSpec).bare Rows.procedureRaiseUptoRow = true := by kernel_rfl
set_option maxRecDepth 100000 in
theorem law_rest2 : (fun (P : Program) (f : FuncId) (fn : Func) (s : ChangeSpec) (c : OpenClaim)=>(P.funcs.size,f,fn.params.size,s.name,c.func,c.shortTexts.isNone && P.stopsHeard && P.mayEnter && (c.lifted == P.liftsFinal) && (P.make == some c.make)).2.2.2.2.2) Tryz.prog 4 Tryz.f4 (Rows.OpenSpec.upto Rows.procedureRaiseSpec).bare Rows.procedureRaiseUptoRow = true := by kernel_rfl
set_option maxRecDepth 100000 in
theorem law_kinds : (fun (P : Program) (f : FuncId) (fn : Func) (s : ChangeSpec) (c : OpenClaim)=>(P.funcs.size,f,fn.params.size,s.name,c.func,(c.kinds == (if c.domain.isEmpty then [] else fn.params.toList.map fun t=>match P.underlying t with | some (.int k)=>some k | _=>none)) && (c.pinned == c.pinnedBy)).2.2.2.2.2) Tryz.prog 4 Tryz.f4 (Rows.OpenSpec.upto Rows.procedureRaiseSpec).bare Rows.procedureRaiseUptoRow = true := by kernel_rfl
set_option maxRecDepth 100000 in
theorem law_veil : (fun (P : Program) (f : FuncId) (fn : Func) (s : ChangeSpec) (c : OpenClaim)=>(P.funcs.size,f,fn.params.size,s.name,c.func,(c.veiled == (fn.params.toList ++ s.plain.varTypes P ++ fn.resultTypes.toList).any (P.veiledRec ·)) && c.veiledFits P fn.params.toList (fn.params.toList ++ s.plain.varTypes P ++ fn.resultTypes.toList)).2.2.2.2.2) Tryz.prog 4 Tryz.f4 (Rows.OpenSpec.upto Rows.procedureRaiseSpec).bare Rows.procedureRaiseUptoRow = true := by kernel_rfl
set_option maxRecDepth 100000 in
theorem law_facts : joinedFacts Tryz.prog 4 Tryz.f4 (Rows.OpenSpec.upto Rows.procedureRaiseSpec).bare Rows.procedureRaiseUptoRow = true := joined_of law_wf law_laid law_mapsRowed law_rr law_nt law_st law_inPlace law_unf law_rec law_named law_maps law_loops law_wide law_rest1 law_plainKeys law_rest2 law_kinds law_veil
theorem gl_all (W : World) : Gl W [] := by
 refine ⟨⟨?_,?_,?_⟩,?_⟩
 ·intro b hb; simp [glI] at hb
 ·intro b hb; simp [glT] at hb
 ·intro b hb; simp [glN] at hb
 ·intro b hb; simp [glB,glI,glT,glN] at hb
def putVar (h : Array Go.Obj) (g : Nat) (cs : Array Value) : Array Go.Obj := h.modify g fun
 | .cells _ t fz=>.cells cs t fz
 | o=>o
def lowBlk : Nat := (World.holding Tryz.prog default ⟨#[],#[],[]⟩).heap.size
def mS (os : Os) : World :=
 let w0 := World.holding Tryz.prog os ⟨#[.cells #[.string ⟨#[118,97,108,117,101,32,111,117,116,32,111,102,32,114,97,110,103,101]⟩] 319,.cells #[.string ⟨#[105,110,118,97,108,105,100,32,115,121,110,116,97,120]⟩] 319],#[],[]⟩
 { w0 with heap := (putVar (putVar (putVar (putVar (putVar w0.heap 4 #[.int .u8 0,.int .u8 1,.int .u8 28,.int .u8 2,.int .u8 29,.int .u8 14,.int .u8 24,.int .u8 3,.int .u8 30,.int .u8 22,.int .u8 20,.int .u8 15,.int .u8 25,.int .u8 17,.int .u8 4,.int .u8 8,.int .u8 31,.int .u8 27,.int .u8 13,.int .u8 23,.int .u8 21,.int .u8 19,.int .u8 16,.int .u8 7,.int .u8 26,.int .u8 12,.int .u8 18,.int .u8 6,.int .u8 11,.int .u8 5,.int .u8 10,.int .u8 9]) 5 #[.int .u8 0,.int .u8 1,.int .u8 56,.int .u8 2,.int .u8 57,.int .u8 49,.int .u8 28,.int .u8 3,.int .u8 61,.int .u8 58,.int .u8 42,.int .u8 50,.int .u8 38,.int .u8 29,.int .u8 17,.int .u8 4,.int .u8 62,.int .u8 47,.int .u8 59,.int .u8 36,.int .u8 45,.int .u8 43,.int .u8 51,.int .u8 22,.int .u8 53,.int .u8 39,.int .u8 33,.int .u8 30,.int .u8 24,.int .u8 18,.int .u8 12,.int .u8 5,.int .u8 63,.int .u8 55,.int .u8 48,.int .u8 27,.int .u8 60,.int .u8 41,.int .u8 37,.int .u8 16,.int .u8 46,.int .u8 35,.int .u8 44,.int .u8 21,.int .u8 52,.int .u8 32,.int .u8 23,.int .u8 11,.int .u8 54,.int .u8 26,.int .u8 40,.int .u8 15,.int .u8 34,.int .u8 20,.int .u8 31,.int .u8 10,.int .u8 25,.int .u8 14,.int .u8 19,.int .u8 9,.int .u8 13,.int .u8 8,.int .u8 7,.int .u8 6]) 3 #[.int .u64 1,.int .u64 10,.int .u64 100,.int .u64 1000,.int .u64 10000,.int .u64 100000,.int .u64 1000000,.int .u64 10000000,.int .u64 100000000,.int .u64 1000000000,.int .u64 10000000000,.int .u64 100000000000,.int .u64 1000000000000,.int .u64 10000000000000,.int .u64 100000000000000,.int .u64 1000000000000000,.int .u64 10000000000000000,.int .u64 100000000000000000,.int .u64 1000000000000000000,.int .u64 10000000000000000000]) 2 #[.iface 317 (.pointer (some ⟨lowBlk,0,none⟩))]) 1 #[.iface 317 (.pointer (some ⟨lowBlk + 1,0,none⟩))]) }
set_option maxRecDepth 100000 in
theorem laid_met (os : Os) : laidMet Tryz.prog Rows.procedureRaiseUptoRow.laid ((mS os).forCall (fun _ _=>0) ⟨#[],#[.agg #[.slice none 0 0,.slice none 0 0,.slice none 0 0],.slice none 0 0,.agg #[.slice none 0 0,.slice none 0 0],.int .i64 0,.slice none 0 0],[]⟩).memory :=
 laidMet_of_run' 8 (by kernel_rfl) (by kernel_rfl)
theorem law_reads (os : Os) {H : Type} (enc : TypeId × Value → H) : ∃ jf,DataW.whole enc Tryz.prog ((mS os).forCall (fun _ _=>0) ⟨#[],#[.agg #[.slice none 0 0,.slice none 0 0,.slice none 0 0],.slice none 0 0,.agg #[.slice none 0 0,.slice none 0 0],.int .i64 0,.slice none 0 0],[]⟩).memory Tryz.f4.params.toList (Rows.OpenSpec.upto Rows.procedureRaiseSpec).vars false (#[.agg #[.slice none 0 0,.slice none 0 0,.slice none 0 0],.slice none 0 0,.agg #[.slice none 0 0,.slice none 0 0],.int .i64 0,.slice none 0 0] : Array Value).toList 8 = some ([.agg [.nil,.nil,.nil],.nil,.agg [.nil,.nil],.lit (.int .i64 0),.nil],[],jf) :=
 ⟨[],by kernel_rfl⟩
set_option maxRecDepth 100000 in
theorem law_lifted (os : Os) (started : os.Started) (H : Type) (enc : TypeId × Value → H) (F : Stop.Interp) :
  ReturnsInHanded {} Tryz.checked os 4 .any ((Rows.OpenSpec.upto Rows.procedureRaiseSpec).preRow enc Tryz.prog Tryz.f4 Rows.procedureRaiseUptoRow.domain false Rows.procedureRaiseUptoRow.laid) (((Rows.OpenSpec.upto Rows.procedureRaiseSpec).at F).post enc Tryz.prog Tryz.f4 false true false false) := by
 obtain ⟨jf,hx⟩ := law_reads os enc
 refine returnsInHanded_of_row (C := Tryz.checked) (s := Rows.OpenSpec.upto Rows.procedureRaiseSpec) own_knob started (by kernel_rfl) Tryz.func4
  (witness_row_at (enc := enc) (C := Tryz.checked) false (mS os) #[.agg #[.slice none 0 0,.slice none 0 0,.slice none 0 0],.slice none 0 0,.agg #[.slice none 0 0,.slice none 0 0],.int .i64 0,.slice none 0 0] rfl (by kernel_rfl) (by kernel_rfl) (by kernel_rfl)
   (OpenSpec.preRow_of_cond 8 hx (by kernel_rfl) (fun k hk=>by obtain rfl := Option.some.inj hk; kernel_rfl) (by kernel_rfl) (laid_met os))) ?_
 intro W base args ds gs before hval hW _ hk hsz _ _ _
 have hN : ((ds ++ gs).map (fun d=>Rows.uptoBulk d)).sum ≤ 1048576 := by
  rw [ll]; exact of_decide_eq_true (hk Rows.uptoSmall rfl)
 refine law_callsB (s := Rows.procedureRaiseSpec) (tb := 4) bulk_is laid_out rfl ?_ rfl Tryz.underlying4 ?_ lawTypes_ok lawTypes_info ?_ law_args hval hW (gl_all W) hsz hN
 ·rw [Tryz.params4]
  intro t ht
  simp only [List.mem_cons,List.mem_nil_iff,or_false] at ht
  rcases ht with rfl | rfl | rfl | rfl | rfl <;> exact ⟨by kernel_rfl,of_decide_eq_true (by kernel_rfl)⟩
 ·intro ds hlen
  rw [Tryz.params4] at hlen
  match ds,hlen with
  | [d0,d1,d2,d3,d4],_=>rfl
 ·rw [Tryz.params4]
  intro t ht
  simp only [List.mem_cons,List.mem_nil_iff,or_false] at ht
  rcases ht with rfl | rfl | rfl | rfl | rfl <;> simp [lawTypes]
theorem law_said : Rows.ProcedureRaiseUptoSaid :=
 OpenClaim.holds_of_cond 4 Tryz.f4 rfl rfl rfl rfl rfl rfl rfl ⟨rfl,rfl,rfl,rfl,rfl⟩ rfl rfl rfl rfl rfl (by kernel_rfl) Tryz.func4 law_facts
  (of_decide_eq_true (by kernel_rfl)) (by unfold Func.isWrapper; first | (rw [zp (by decide +kernel)]; kernel_rfl) | (rw [zy (by decide +kernel)]; exact ⟨rfl,rfl⟩))
  (fun os started H enc _ F=>by rw [OpenClaim.pre_eq_preRow]; exact law_lifted os started H enc F)
theorem law_plain (f : FuncId) (fn : Func) (hf : Tryz.pinned.checked.prog.funcNamed "stemma/stemkeep3.ProcedureRaise" = some f) (hfn : Tryz.pinned.checked.prog.funcs[f]? = some fn) :
  true = Tryz.pinned.checked.prog.looks [] ∧ ∀ (j : Nat) t,fn.params[j]? = some t → Tryz.pinned.checked.prog.wantsStandIn t = false := by
 obtain rfl : f = 4 := Option.some.inj ((show Tryz.prog.funcNamed "stemma/stemkeep3.ProcedureRaise" = some 4 by kernel_rfl).symm.trans hf) |>.symm
 obtain rfl : fn = Tryz.f4 := (Option.some.inj (Tryz.func4.symm.trans hfn)).symm
 refine ⟨by kernel_rfl,fun j t ht=>?_⟩
 have hall : (Tryz.f4.params.toList.all fun u=>!Tryz.prog.wantsStandIn u) = true := by kernel_rfl
 have hm : t ∈ Tryz.f4.params.toList := by simpa using Array.mem_of_getElem? ht
 exact (show Tryz.prog.wantsStandIn t = false by simpa using List.all_eq_true.1 hall t hm)
theorem procedureRaiseUpto_holds : Rows.ProcedureRaiseUptoCardSaid :=
 Claim7.holds_tied_plain_at .later [] _ _ _ _ law_said (fun _ h=>by cases h) (by kernel_rfl) (fun _ h=>by cases h) procedureRaiseUpto_row_tie rfl ⟨rfl,rfl⟩ (by kernel_rfl) rfl law_plain (by kernel_rfl)
end
end Go.Proofs.YteceobbkljmbmaaGreatDoor
