/- pruneColumnsReducesScansUpto_holds, part 6: the layer, the plain functions and what they compute; conditions as in the statement. -/
import Derived.Test.YtppmcepdcpmpcaaGreatDoorPre
set_option maxHeartbeats 4000000
namespace Go.Proofs.YtppmcepdcpmpcaaGreatDoor
noncomputable section
open Go Go.Ab
attribute [local irreducible] V Ao Do Gh Eff PH IntKind.wrap
set_option maxRecDepth 4000
def dY (sA : LSchema) (q : LQuery) (names : List (List UInt8)) : Option (Bool) :=
 be (sampleV) fun x8 =>
 cond (!x8)
  (some false)
  (ae (
   ae (eU sA q) fun x12 =>
   cond (!x12)
    (some true)
    (some (decide ((names.length : Int) > (30 : Int))))) fun (t1 : Bool) =>
  cond t1
   (some true)
   (ae (fy sA q names) fun x22 =>
   ae (eU sA x22) fun x25 =>
   cond (!x25)
    (some true)
    (ae (fX sA x22) fun x30 =>
    ae (fX sA q) fun x33 =>
    some (decide (x30 ≤ x33)))))
theorem jQ (sA : LSchema) (q : LQuery) (names : List (List UInt8)) (r : Bool) (H : dY sA q names = some r) :
  ba Tryz.prog 4 [(.agg (bK sA)),(.agg (aA q)),(.list 9 (names.map ah))] (aG r) := by
 unfold dY at H
 refine PH.ay Tryz.func4 Tryz.ntmps4 ?_
 refine ab (aa (aS ?_))
 refine aS ?_
 refine ak tk rfl (ac (ab (ab (aa ?_))))
 obtain ⟨x8,h8,H⟩ := bR H
 have s8 := sampleV_spec
 rw [h8] at s8
 refine aq Tryz.call6 (dS.r) s8 ?_
 refine ak tk rfl (ac ?_)
 refine aL rfl H (fun H=>?_) (fun H=>?_)
 ·refine al 1 tk rfl ?_
  exact bB tk H rfl
 refine au (ab (ab ?_))
 refine fp (γ := Unit) (fun t1 g1=>⟨36,upd (upd (upd (upd (fun _=>.any) 18 (aG t1)) 4 (.ptr (aA q))) 3 (.ptr (bK sA))) 2 (.list 9 (names.map ah)),fun _=>none,fun _=>none⟩) H (fun _ H=>?_) (fun t1 g1 H=>?_)
 ·refine aa (ag 2 tk rfl ?_)
  obtain ⟨x12,h12,H⟩ := am H
  have s12 := mQ sA q _ h12
  refine aq Tryz.call7 (dS.r) s12 ?_
  refine ag 2 tk rfl ?_
  refine bw rfl rfl rfl H (fun H=>?_) (fun H=>?_)
  ·refine ag 4 tk rfl (ac ?_)
   refine aQ _ () (ax H) Gh.d
  refine ak tk rfl (aK tk (zl _) ?_)
  refine ag 2 tk rfl (ac ?_)
  refine aQ _ () (ax H) Gh.d
 refine aL rfl H (fun H=>?_) (fun H=>?_)
 ·refine al 1 tk rfl ?_
  exact bB tk H rfl
 refine au (ab (aa (ag 3 tk rfl ?_)))
 obtain ⟨x22,h22,H⟩ := am H
 have s22 := om sA q names _ h22
 refine aq Tryz.call10 (dS.r) s22 ?_
 refine aX tk fun b7=>?_
 refine av tk ?_
 refine ac (ab (bj tk mok ⟨true,false,[23,28,31,32]⟩ [0,1,2,3,4,5,6,8,9,7,10,11,12,13] rfl (by decide +kernel) rfl (bN rfl (bh ?_))))
 obtain ⟨x25,h25,H⟩ := am H
 have s25 := mQ sA x22 _ h25
 refine br Tryz.call7 (dS.r) s25 ?_
 refine aI 2 rfl ?_
 refine ir H (fun H=>?_) (fun H=>?_)
 ·refine aI 9 rfl (aY ?_)
  exact bB tk H rfl
 refine bN rfl (bh ?_)
 refine aI 2 rfl ?_
 obtain ⟨x30,h30,H⟩ := am H
 have s30 := jL sA x22 _ h30
 refine br Tryz.call11 (dS.r) s30 ?_
 obtain ⟨x33,h33,H⟩ := am H
 have s33 := jL sA q _ h33
 refine br Tryz.call11 (dS.r) s33 ?_
 refine aI 3 rfl (aY ?_)
 exact bB tk H rfl
end
end Go.Proofs.YtppmcepdcpmpcaaGreatDoor

namespace Go.Proofs.YtppmcepdcpmpcaaGreatDoor
noncomputable section
open Go Go.Ab
theorem LQuery.inputs_lt {q x : LQuery} (h : x ∈ q.inputs) : SizeOf.sizeOf x < SizeOf.sizeOf q := by
 cases q
 simp only [LQuery.inputs] at h
 have := List.sizeOf_lt_of_mem h
 simp only [LQuery.mk.sizeOf_spec]
 omega
theorem LQuery.ind {p : LQuery → Prop} (h : ∀ q : LQuery,(∀ x ∈ q.inputs,p x) → p q) : ∀ q,p q := by
 intro q
 generalize hn : SizeOf.sizeOf q = n
 induction n using Nat.strongRecOn generalizing q with
 | _ n ih=>exact h q fun x hx=>ih _ (hn ▸ LQuery.inputs_lt hx) x rfl
theorem oY {α : Type} {p : α → Nat → Prop} : ∀ (xs : List α),(∀ x ∈ xs,∃ N,∀ n,N ≤ n → p x n) → ∃ N,∀ n,N ≤ n → ∀ x ∈ xs,p x n
 | [],_=>⟨0,fun _ _ x hx=>by simp at hx⟩
 | y :: xs,h=>by
  obtain ⟨N,hN⟩ := h y (by simp)
  obtain ⟨N',hN'⟩ := oY xs fun x hx=>h x (by simp [hx])
  refine ⟨N + N',fun n hn x hx=>?_⟩
  rcases List.mem_cons.1 hx with rfl | hx
  ·exact hN n (by omega)
  ·exact hN' n (by omega) x hx
theorem jj {α σ ρ : Type} {step step' : Nat → α → σ → Option (Flow σ ρ)} : ∀ (xs : List α) (j : Nat) (s : σ),(∀ k x s,xs[k]? = some x → step (j + k) x s = step' (j + k) x s) → aM step j xs s = aM step' j xs s
 | [],_,_,_=>rfl
 | x :: xs,j,s,h=>by
  have h0 := h 0 x s rfl
  rw [Nat.add_zero] at h0
  rw [aM,aM,h0]
  split
  ·rfl
  ·exact jj xs (j + 1) _ fun k y t hk=>by
    have := h (k + 1) y t (by simpa using hk)
    rwa [show j + (k + 1) = j + 1 + k from by omega] at this
  ·rfl
  ·rfl
theorem fu {α : Type} {xs : List α} {k : Nat} {x : α} (h : xs[k]? = some x) : x ∈ xs := List.mem_of_getElem? h
theorem mZ {γ β : Type} {F : Nat → γ → LQuery → Option β} {O : (γ → LQuery → Option β) → γ → LQuery → Option β} (hF : ∀ n,F (n + 1) = O (F n)) (c : γ) (q : LQuery)
  (hc : ∀ r r' : γ → LQuery → Option β,(∀ x ∈ q.inputs,r c x = r' c x) → O r c q = O r' c q) (hx : ∀ x ∈ q.inputs,∃ v,gg (fun n=>F n c x) = some v) {r : β} (h : O (fun c q=>gg fun n=>F n c q) c q = some r) :
  gg (fun n=>F n c q) = some r := by
 obtain ⟨N,hN⟩ := oY (p := fun x n=>F n c x = gg fun n=>F n c x) q.inputs (fun x hm=>by
  obtain ⟨v,hv⟩ := hx x hm
  obtain ⟨N,hN⟩ := limN_ev hv
  exact ⟨N,fun n hn=>by rw [hN n hn,hv]⟩)
 refine lf (N + 1) fun m hm=>?_
 obtain ⟨m,rfl⟩ : ∃ k,m = k + 1 := ⟨m - 1,by omega⟩
 rw [hF,hc _ (fun c q=>gg fun n=>F n c q) (hN m (by omega)),h]
def bJ (q : LQuery) : List LQuery := q :: (q.inputs.attach.map fun x=>bJ x.1).flatten
termination_by SizeOf.sizeOf q
decreasing_by exact LQuery.inputs_lt x.2
theorem eT (q : LQuery) : bJ q = q :: (q.inputs.map bJ).flatten := by
 rw [bJ,List.attach_map_val (f := bJ)]
theorem kw (q : LQuery) : 1 ≤ (bJ q).length := by rw [eT]; simp
theorem flat_le {α β : Type} {f : α → List β} {xs : List α} {x : α} (h : x ∈ xs) : (f x).length ≤ ((xs.map f).flatten).length := by
 induction xs with
 | nil=>simp at h
 | cons y xs ih =>
  simp only [List.map_cons,List.flatten_cons,List.length_append]
  rcases List.mem_cons.1 h with rfl | h
  ·omega
  ·have := ih h; omega
theorem kA {q x : LQuery} (h : x ∈ q.inputs) : (bJ x).length + 1 ≤ (bJ q).length := by
 rw [eT q]
 have := flat_le (f := bJ) h
 simp only [List.length_cons]
 omega
theorem cU {α : Type} {bytes : Nat} {xs ys : List α} (hb : bytes ≤ 200) (h : xs.length + ys.length ≤ 10000000) : dF bytes xs ys = some (xs ++ ys) := by
 refine appI_ok ?_ (by unfold maxLen; omega)
 have : (xs.length + ys.length) * bytes ≤ 10000000 * 200 := Nat.mul_le_mul h hb
 omega
theorem take_flat {α β : Type} {f : α → List β} {xs : List α} {k : Nat} : (((xs.take k).map f).flatten).length ≤ ((xs.map f).flatten).length := by
 induction xs generalizing k with
 | nil=>simp
 | cons y xs ih =>
  cases k with
  | zero=>simp
  | succ k=>simp only [List.take_succ_cons,List.map_cons,List.flatten_cons,List.length_append]; have := ih (k := k); omega
theorem nodes_ok : ∀ q : LQuery,(bJ q).length ≤ 10000000 → iM q = some (bJ q) := by
 refine LQuery.ind fun q ih hb=>?_
 refine mZ (γ := Unit) (F := fun n _ q=>iQ n q) (O := fun r _ q=>iL (fun x=>r () x) q) (fun n=>rfl) () q ?_ (fun x hx=>⟨_,ih x hx (by have := kA hx; omega)⟩) ?_
 ·intro r r' h
  simp only [iL]
  congr 1
  exact jj q.inputs 0 _ fun k x s hk=>by rw [h x (fu hk)]
 ·have hr := rMa (step := fun (_ : Nat) (x1 : LQuery) (s1 : List LQuery)=>ae (iM x1) fun x17=>ae (dF 160 s1 x17) fun (x18 : List LQuery)=>some (Flow.next (ρ := Empty) x18)) (xs := q.inputs) (s := [q])
   (fun k=>q :: ((q.inputs.take k).map bJ).flatten) (by simp) (fun k x hk=>by
    have hx := fu hk
    rw [ih x hx (by have := kA hx; omega),bPs,cU (by decide),bPs]
    ·rw [List.take_add_one,hk]; simp
    ·have h1 : (((q.inputs.take (k + 1)).map bJ).flatten).length ≤ ((q.inputs.map bJ).flatten).length := take_flat
     rw [List.take_add_one,hk] at h1
     rw [eT] at hb
     simp at h1 hb ⊢
     omega)
  simp only [iL]
  have e : ∀ x,(gg fun n=>iQ n x) = iM x := fun _=>rfl
  simp only [e]
  rw [hr,bPs,bI,List.take_length,eT]
def eK (a b : Int) : Int := if b > a then b else a
theorem oV {a b c : Int} (h : a ≤ c) (h' : b ≤ c) : eK a b ≤ c := by unfold eK; split <;> assumption
theorem lK (a b : Int) : a ≤ eK a b := by unfold eK; split <;> omega
theorem maxI_r (a b : Int) : b ≤ eK a b := by unfold eK; split <;> omega
def fv (q : LQuery) : Int := (q.inputs.attach.map fun x=>fv x.1).foldl eK 0 + 1
termination_by SizeOf.sizeOf q
decreasing_by exact LQuery.inputs_lt x.2
theorem oz (q : LQuery) : fv q = (q.inputs.map fv).foldl eK 0 + 1 := by
 rw [fv,List.attach_map_val (f := fv)]
theorem qh : ∀ {l : List Int} {a c : Int},a ≤ c → (∀ x ∈ l,x ≤ c) → l.foldl eK a ≤ c
 | [],_,_,h,_=>h
 | x :: l,a,c,h,hl=>qh (l := l) (oV h (hl x (by simp))) fun y hy=>hl y (by simp [hy])
theorem mP : ∀ {l : List Int} {a : Int},a ≤ l.foldl eK a ∧ ∀ x ∈ l,x ≤ l.foldl eK a
 | [],a=>⟨Int.le_refl a,by simp⟩
 | x :: l,a=>by
  obtain ⟨h1,h2⟩ := mP (l := l) (a := eK a x)
  simp only [List.foldl_cons]
  refine ⟨Int.le_trans (lK a x) h1,fun y hy=>?_⟩
  rcases List.mem_cons.1 hy with rfl | hy
  ·exact Int.le_trans (maxI_r a y) h1
  ·exact h2 y hy
theorem depthQ_nodes : ∀ q : LQuery,1 ≤ fv q ∧ fv q ≤ (bJ q).length := by
 refine LQuery.ind fun q ih=>?_
 rw [oz,eT]
 have h1 : (q.inputs.map fv).foldl eK 0 ≤ (((q.inputs.map bJ).flatten).length : Nat) := qh (by omega) fun x hx=>by
  obtain ⟨y,hy,rfl⟩ := List.mem_map.1 hx
  have := (ih y hy).2
  have := flat_le (f := bJ) hy
  omega
 have h2 := (mP (l := q.inputs.map fv) (a := 0)).1
 simp only [List.length_cons]
 omega
theorem depthQ_sub {q x : LQuery} (h : x ∈ q.inputs) : fv x + 1 ≤ fv q := by
 rw [oz q]
 have := (mP (l := q.inputs.map fv) (a := 0)).2 (fv x) (List.mem_map.2 ⟨x,h,rfl⟩)
 omega
theorem depth_ok : ∀ q : LQuery,(bJ q).length ≤ 10000000 → jD q = some (fv q) := by
 refine LQuery.ind fun q ih hb=>?_
 refine mZ (γ := Unit) (F := fun n _ q=>iP n q) (O := fun r _ q=>iK (fun x=>r () x) q) (fun n=>rfl) () q ?_ (fun x hx=>⟨_,ih x hx (by have := kA hx; omega)⟩) ?_
 ·intro r r' h
  simp only [iK]
  congr 1
  exact jj q.inputs 0 _ fun k x s hk=>by rw [h x (fu hk)]
 ·have hr := rMa (step := fun (_ : Nat) (x1 : LQuery) (s1 : Int)=>ae (jD x1) fun x15=>some (Flow.next (ρ := Empty) (if x15 > s1 then x15 else s1))) (xs := q.inputs) (s := 0)
   (fun k=>((q.inputs.take k).map fv).foldl eK 0) (by simp) (fun k x hk=>by
    have hx := fu hk
    rw [ih x hx (by have := kA hx; omega),bPs,List.take_add_one,hk]
    simp [eK])
  simp only [iK]
  have e : ∀ x,(gg fun n=>iP n x) = jD x := fun _=>rfl
  simp only [e]
  rw [hr,bPs,bI,List.take_length,oz]
  have h := depthQ_nodes q
  rw [oz] at h
  rw [ep (by omega) (by omega)]
def capI (n : Int) : Int := if 20001 < n then 20001 else n
def ju (kind : Int) (s : Int × Int) (j : Nat) (x : Int × Int) : Int × Int :=
 (capI (if j = 0 then x.1 else if kind = 6 then s.1 + x.1 else if kind = 4 ∨ kind = 5 then s.1 * eK 1 x.1 else s.1),eK s.2 x.2)
def eh (kind : Int) : Nat → List (Int × Int) → Int × Int → Int × Int
 | _,[],s=>s
 | j,x :: l,s=>eh kind (j + 1) l (ju kind s j x)
def fa (q : LQuery) : Int × Int :=
 let s := eh q.kind 0 (q.inputs.attach.map fun x=>fa x.1) (0,0)
 if q.kind = 1 then (24,eK s.2 24) else (s.1,eK s.2 s.1)
termination_by SizeOf.sizeOf q
decreasing_by exact LQuery.inputs_lt x.2
theorem mostQ_eq (q : LQuery) : fa q = if q.kind = 1 then (24,eK (eh q.kind 0 (q.inputs.map fa) (0,0)).2 24) else ((eh q.kind 0 (q.inputs.map fa) (0,0)).1,eK (eh q.kind 0 (q.inputs.map fa) (0,0)).2 (eh q.kind 0 (q.inputs.map fa) (0,0)).1) := by
 rw [fa,List.attach_map_val (f := fa)]
def ml (s : Int × Int) : Prop := 0 ≤ s.1 ∧ s.1 ≤ 20001 ∧ 0 ≤ s.2 ∧ s.2 ≤ 20001
theorem capI_b {n : Int} (h : 0 ≤ n) : 0 ≤ capI n ∧ capI n ≤ 20001 := by unfold capI; split <;> omega
theorem mostStep_r {kind : Int} {s x : Int × Int} {j : Nat} (hs : ml s) (hx : ml x) : ml (ju kind s j x) := by
 obtain ⟨a1,a2,a3,a4⟩ := hs
 obtain ⟨b1,b2,b3,b4⟩ := hx
 unfold ju
 have h1 : 0 ≤ (if j = 0 then x.1 else if kind = 6 then s.1 + x.1 else if kind = 4 ∨ kind = 5 then s.1 * eK 1 x.1 else s.1) := by
  split
  ·exact b1
  ·split
   ·omega
   ·split
    ·exact Int.mul_nonneg a1 (Int.le_trans (by decide) (lK 1 x.1))
    ·exact a1
 exact ⟨(capI_b h1).1,(capI_b h1).2,Int.le_trans a3 (lK _ _),oV a4 b4⟩
theorem pM {kind : Int} : ∀ {l : List (Int × Int)} {j : Nat} {s : Int × Int},ml s → (∀ x ∈ l,ml x) → ml (eh kind j l s)
 | [],_,_,h,_=>h
 | x :: l,j,s,h,hl=>pM (l := l) (mostStep_r h (hl x (by simp))) fun y hy=>hl y (by simp [hy])
theorem mostQ_r : ∀ q : LQuery,ml (fa q) := by
 refine LQuery.ind fun q ih=>?_
 rw [mostQ_eq]
 have h : ml (eh q.kind 0 (q.inputs.map fa) (0,0)) := pM ⟨by decide,by decide,by decide,by decide⟩ fun x hx=>by
  obtain ⟨y,hy,rfl⟩ := List.mem_map.1 hx
  exact ih y hy
 obtain ⟨a1,a2,a3,a4⟩ := h
 split
 ·exact ⟨show (0 : Int) ≤ 24 by decide,show (24 : Int) ≤ 20001 by decide,Int.le_trans a3 (lK _ _),oV a4 (by decide)⟩
 ·exact ⟨a1,a2,Int.le_trans a3 (lK _ _),oV a4 a2⟩
theorem qN (kind : Int) : ∀ (l : List (Int × Int)) (j : Nat) (s x : Int × Int),eh kind j (l ++ [x]) s = ju kind (eh kind j l s) (j + l.length) x
 | [],j,s,x=>by simp [eh]
 | y :: l,j,s,x=>by
  rw [List.cons_append,eh,qN kind l (j + 1),eh]
  congr 1
  simp
  omega
theorem mostStep_run {kind : Int} {s x : Int × Int} {j : Nat} (hs : ml s) (hx : ml x) :
  (cond ((j : Int) == (0 : Int))
   (some (Flow.next (ρ := Empty) ((if (20001 : Int) < x.1 then (20001 : Int) else x.1),(if x.2 > s.2 then x.2 else s.2))))
   (cond (kind == (6 : Int))
    (some (.next ((if (20001 : Int) < (IntKind.i64.wrap (s.1 + x.1)) then (20001 : Int) else (IntKind.i64.wrap (s.1 + x.1))),(if x.2 > s.2 then x.2 else s.2))))
    (be (
     cond (kind == (4 : Int))
      (true)
      ((kind == (5 : Int)))) fun (t4 : Bool) =>
    cond t4
     (some (.next ((if (20001 : Int) < (IntKind.i64.wrap (s.1 * (if x.1 > (1 : Int) then x.1 else (1 : Int)))) then (20001 : Int) else (IntKind.i64.wrap (s.1 * (if x.1 > (1 : Int) then x.1 else (1 : Int))))),(if x.2 > s.2 then x.2 else s.2))))
     (some (.next ((if (20001 : Int) < s.1 then (20001 : Int) else s.1),(if x.2 > s.2 then x.2 else s.2))))))) = some (.next (ju kind s j x)) := by
 obtain ⟨a1,a2,a3,a4⟩ := hs
 obtain ⟨b1,b2,b3,b4⟩ := hx
 have hm : 1 ≤ eK 1 x.1 ∧ eK 1 x.1 ≤ 20001 := ⟨lK _ _,oV (by decide) b2⟩
 have hp : 0 ≤ s.1 * eK 1 x.1 ∧ s.1 * eK 1 x.1 ≤ 20001 * 20001 := ⟨Int.mul_nonneg a1 (by omega),Int.mul_le_mul a2 hm.2 (by omega) (by decide)⟩
 have hw1 : IntKind.i64.wrap (s.1 + x.1) = s.1 + x.1 := ep (by omega) (by omega)
 have hw2 : IntKind.i64.wrap (s.1 * (if x.1 > (1 : Int) then x.1 else (1 : Int))) = s.1 * eK 1 x.1 := ep (by show _ ≤ s.1 * eK 1 x.1; omega) (by show s.1 * eK 1 x.1 ≤ _; omega)
 rw [hw1,hw2]
 unfold ju capI eK be
 by_cases h0 : j = 0
 ·subst h0; simp
 ·have : ((j : Int) == (0 : Int)) = false := by simp; omega
  rw [this]
  by_cases h6 : kind = 6
  ·subst h6; simp [h0]
  ·by_cases h4 : kind = 4
   ·subst h4; simp [h0]
   ·by_cases h5 : kind = 5
    ·subst h5; simp [h0]
    ·have e6 : (kind == (6 : Int)) = false := by simpa using h6
     have e4 : (kind == (4 : Int)) = false := by simpa using h4
     have e5 : (kind == (5 : Int)) = false := by simpa using h5
     simp [h0,h6,h4,h5,e6,e4,e5]
theorem most_ok : ∀ q : LQuery,lu q = some (fa q) := by
 refine LQuery.ind fun q ih=>?_
 refine mZ (γ := Unit) (F := fun n _ q=>jk n q) (O := fun r _ q=>ji (fun x=>r () x) q) (fun n=>rfl) () q ?_ (fun x hx=>⟨_,ih x hx⟩) ?_
 ·intro r r' h
  simp only [ji]
  congr 1
  exact jj q.inputs 0 _ fun k x s hk=>by rw [h x (fu hk)]
 ·simp only [ji]
  have e : ∀ x,(gg fun n=>jk n x) = lu x := fun _=>rfl
  simp only [e]
  rw [rMa (xs := q.inputs) (s := (0,0)) (fun k=>eh q.kind 0 ((q.inputs.take k).map fa) (0,0)) (by simp [eh]) (fun k x hk=>by
    have hx := fu hk
    rw [ih x hx,bPs,mostStep_run (pM ⟨by decide,by decide,by decide,by decide⟩ fun y hy=>by
     obtain ⟨z,_,rfl⟩ := List.mem_map.1 hy
     exact mostQ_r z) (mostQ_r x),List.take_add_one,hk]
    have hk' := (zg.1 hk).1
    simp only [Option.toList_some,List.map_append,List.map_cons,List.map_nil]
    rw [qN]
    congr 3
    simp
    omega)]
  rw [bPs,bI,List.take_length,mostQ_eq]
  by_cases h1 : q.kind = 1
  ·simp [h1,eK]
  ·have : (q.kind == (1 : Int)) = false := by simpa using h1
   simp [h1,this,eK]
def nK : List (Int → Int) → Int → Int
 | [],s=>s
 | f :: l,s=>if s < 0 then -1 else nK l (f (IntKind.i64.wrap (s - 1)))
def sizeHere (q : LQuery) (m : Int) : Int :=
 q.aggregates.foldl (fun s a=>a.args.foldl (fun s e=>iE e (IntKind.i64.wrap (s - 1))) s) (q.exprs.foldl (fun s e=>iE e (IntKind.i64.wrap (s - 1))) m)
def kS (q : LQuery) : Int → Int := fun m=>nK (q.inputs.attach.map fun x=>kS x.1) (sizeHere q m)
termination_by SizeOf.sizeOf q
decreasing_by exact LQuery.inputs_lt x.2
theorem sizeQ_eq (q : LQuery) (m : Int) : kS q m = nK (q.inputs.map kS) (sizeHere q m) := by
 rw [kS,List.attach_map_val (f := kS)]
theorem qz {f : LQuery → Int → Option Int} : ∀ (l : List LQuery) (j : Nat) (s : Int),(∀ x ∈ l,∀ m,f x m = some (kS x m)) →
  ae (aM (σ := Int) (ρ := Int) (fun (_ : Nat) (x6 : LQuery) (s6 : Int)=>cond (decide (s6 < (0 : Int))) (some (.ret (-1))) (ae (f x6 (IntKind.i64.wrap (s6 - (1 : Int)))) fun x57=>some (.next x57))) j l s) (fun fl6=>fl6.thenR fun (s6 : Int)=>some s6) = some (nK (l.map kS) s)
 | [],j,s,_=>rfl
 | x :: l,j,s,h=>by
  rw [aM,List.map_cons,nK]
  by_cases hs : s < 0
  ·simp [hs]
  ·simp only [hs,decide_false,zd,if_false]
   rw [h x (by simp),bPs]
   exact qz l (j + 1) _ fun y hy=>h y (by simp [hy])
theorem size_ok : ∀ (q : LQuery) (m : Int),kW q m = some (kS q m) := by
 have key : ∀ q : LQuery,∃ N,∀ n,N ≤ n → ∀ m,fQ n q m = some (kS q m) := by
  refine LQuery.ind fun q ih=>?_
  obtain ⟨N,hN⟩ := oY (p := fun x n=>∀ m,fQ n x m = some (kS x m)) q.inputs ih
  refine ⟨N + 1,fun n hn m=>?_⟩
  obtain ⟨n,rfl⟩ : ∃ k,n = k + 1 := ⟨n - 1,by omega⟩
  rw [fQ]
  simp only [jo,cj]
  rw [oQ (xs := q.exprs) (fun s e=>iE e (IntKind.i64.wrap (s - 1))) (fun _ _ _=>rfl),bPs,bI]
  rw [oQ (xs := q.aggregates) (fun s a=>a.args.foldl (fun s e=>iE e (IntKind.i64.wrap (s - 1))) s) (fun k a _=>by
   rw [oQ (xs := a.args) (fun s e=>iE e (IntKind.i64.wrap (s - 1))) (fun _ _ _=>rfl),bPs,bI]),bPs,bI]
  rw [qz q.inputs 0 _ (hN n (by omega)),sizeQ_eq]
  rfl
 intro q m
 obtain ⟨N,hN⟩ := key q
 exact lf N fun n hn=>hN n hn m
theorem LExpr.args_lt {e x : LExpr} (h : x ∈ e.args) : SizeOf.sizeOf x < SizeOf.sizeOf e := by
 cases e
 simp only [LExpr.args] at h
 have := List.sizeOf_lt_of_mem h
 simp only [LExpr.mk.sizeOf_spec]
 omega
theorem LExpr.ind {p : LExpr → Prop} (h : ∀ e : LExpr,(∀ x ∈ e.args,p x) → p e) : ∀ e,p e := by
 intro e
 generalize hn : SizeOf.sizeOf e = n
 induction n using Nat.strongRecOn generalizing e with
 | _ n ih=>exact h e fun x hx=>ih _ (hn ▸ LExpr.args_lt hx) x rfl
def iW (e : LExpr) : List (Nat × Int) := if e.kind = 3 ∧ 0 ≤ e.index ∧ e.index < 8 then [(e.index.toNat,e.value.kind)] else []
def dW (e : LExpr) : List (Nat × Int) := iW e ++ (e.args.attach.map fun x=>dW x.1).flatten
termination_by SizeOf.sizeOf e
decreasing_by exact LExpr.args_lt x.2
theorem pX (e : LExpr) : dW e = iW e ++ (e.args.map dW).flatten := by
 rw [dW,List.attach_map_val (f := dW)]
abbrev PSt := List Int × Bool × List Bool
def ik (out : List Int) (i : Nat) : List Int := out ++ List.replicate (i + 1 - out.length) 0
def eD (s : PSt) (p : Nat × Int) : PSt :=
 ((ik s.1 p.1).set p.1 p.2,s.2.1 || (s.2.2.getD p.1 false && (ik s.1 p.1).getD p.1 0 != p.2),s.2.2.set p.1 true)
def POk (s : PSt) : Prop := s.1.length ≤ 8 ∧ s.2.2.length = 8
theorem mr (out : List Int) (i : Nat) : (ik out i).length = max out.length (i + 1) := by simp [ik]; omega
theorem pstep_ok {s : PSt} {p : Nat × Int} (h : POk s) (hp : p.1 < 8) : POk (eD s p) := by
 refine ⟨?_,by simp [eD,h.2]⟩
 show ((ik s.1 p.1).set p.1 p.2).length ≤ 8
 rw [List.length_set,mr]
 have := h.1
 omega
theorem ls : ∀ e : LExpr,∀ p ∈ dW e,p.1 < 8 := by
 refine LExpr.ind fun e ih p hp=>?_
 rw [pX,List.mem_append] at hp
 rcases hp with hp | hp
 ·unfold iW at hp
  split at hp
  ·rename_i h; simp at hp; subst hp; simp; omega
  ·simp at hp
 ·obtain ⟨l,hl,hp⟩ := List.mem_flatten.1 hp
  obtain ⟨x,hx,rfl⟩ := List.mem_map.1 hl
  exact ih x hx p hp
theorem kZ : ∀ {l : List (Nat × Int)} {s : PSt},POk s → (∀ p ∈ l,p.1 < 8) → POk (l.foldl eD s)
 | [],_,h,_=>h
 | p :: l,s,h,hl=>kZ (l := l) (pstep_ok h (hl p (by simp))) fun q hq=>hl q (by simp [hq])
theorem pad_while (i : Nat) (hi : i < 8) : ∀ (n : Nat) (out : List Int),i + 1 - out.length = n → out.length ≤ 8 →
  whileM (σ := List Int) (ρ := Empty) (fun (s7 : List Int)=>cond (decide ((s7.length : Int) ≤ (i : Int))) (ae (dF 8 s7 ([0] : List Int)) fun (x28 : List Int)=>some (.next x28)) (some (.brk s7))) out = some (.next (ik out i))
 | 0,out,hn,ho=>by
  refine ek (fl := .brk out) ?_ ?_
  ·have : ¬ ((out.length : Int) ≤ (i : Int)) := by omega
   simp [this]
  ·simp [ik,hn]
 | n + 1,out,hn,ho=>by
  refine ek (fl := .next (out ++ [0])) ?_ ?_
  ·have : (out.length : Int) ≤ (i : Int) := by omega
   simp only [this,decide_true,zc]
   rw [cU (by decide) (by simp; omega)]
   rfl
  ·have := pad_while i hi n (out ++ [0]) (by simp; omega) (by simp; omega)
   simp only
   rw [this]
   simp only [ik,List.length_append,List.length_singleton,List.append_assoc,hn]
   rw [show i + 1 - (out.length + 1) = n from by omega,show (List.replicate (n + 1) (0 : Int)) = [0] ++ List.replicate n 0 from rfl]
theorem arrI_at {xs : List Bool} {i : Nat} (h : xs.length = 8) (hi : i < 8) : arrI 8 xs (i : Int) = some (xs.getD i false) := by
 have : xs[i]? = some (xs.getD i false) := by rw [List.getD_eq_getElem?_getD,ze (by omega)]; rfl
 exact arrI_eq (by omega) (by simpa using this)
theorem getI_at {xs : List Int} {i : Nat} (h : i < xs.length) : aC xs (i : Int) = some (xs.getD i 0) := by
 have : xs[i]? = some (xs.getD i 0) := by rw [List.getD_eq_getElem?_getD,ze h]; rfl
 exact jS this
theorem look_ok : ∀ e : LExpr,∃ N,∀ n,N ≤ n → ∀ s : PSt,POk s → dg n e s.1 s.2.1 s.2.2 = some ((dW e).foldl eD s) := by
 refine LExpr.ind fun e ih=>?_
 obtain ⟨N,hN⟩ := oY (p := fun x n=>∀ s : PSt,POk s → dg n x s.1 s.2.1 s.2.2 = some ((dW x).foldl eD s)) e.args ih
 refine ⟨N + 1,fun n hn s hs=>?_⟩
 obtain ⟨n,rfl⟩ : ∃ k,n = k + 1 := ⟨n - 1,by omega⟩
 rw [dg]
 simp only [gr]
 have h1 : POk ((iW e).foldl eD s) := kZ hs fun p hp=>ls e p (by rw [pX]; simp [hp])
 have hloop : ∀ s : PSt,POk s → ae (aM (σ := List Int × Bool × List Bool) (ρ := Empty) (fun (_ : Nat) (x11 : LExpr) (s11 : List Int × Bool × List Bool) =>
   ae (dg n x11 s11.1 s11.2.1 s11.2.2) fun x66=>some (.next (x66.1,x66.2.1,x66.2.2))) 0 e.args (s.1,s.2.1,s.2.2)) (fun fl11=>fl11.thenP fun (s11 : List Int × Bool × List Bool)=>some (s11.1,s11.2.1,s11.2.2)) =
   some (((e.args.map dW).flatten).foldl eD s) := by
  intro s hs
  rw [rMa (xs := e.args) (s := (s.1,s.2.1,s.2.2)) (fun k=>(((e.args.take k).map dW).flatten).foldl eD s) rfl (fun k x hk=>by
   have hx := fu hk
   have hok : POk ((((e.args.take k).map dW).flatten).foldl eD s) := kZ hs fun p hp=>by
    obtain ⟨l,hl,hp⟩ := List.mem_flatten.1 hp
    obtain ⟨y,hy,rfl⟩ := List.mem_map.1 hl
    exact ls y p hp
   rw [hN n (by omega) x hx _ hok,bPs,List.take_add_one,hk]
   simp)]
  rw [bPs,bI,List.take_length]
 have key : (ae (cond (be (cond (e.kind == (3 : Int)) (cond (decide (e.index ≥ (0 : Int))) ((decide (e.index < (8 : Int)))) (false)) (false)) fun (t1 : Bool)=>t1)
   (ae (whileM (σ := List Int) (ρ := Empty) (fun (s7 : List Int)=>cond (decide ((s7.length : Int) ≤ e.index)) (ae (dF 8 s7 ([0] : List Int)) fun (x28 : List Int)=>some (.next x28)) (some (.brk s7))) s.1) fun fl7=>fl7.thenP fun (s7 : List Int) =>
   ae (cond s.2.1 (some true) (ae (arrI 8 s.2.2 e.index) fun (x33 : Bool)=>cond x33 (ae (aC s7 e.index) fun (x39 : Int)=>some (x39 != e.value.kind)) (some false))) fun (t8 : Bool) =>
   ae (aC s7 e.index) fun (_ : Int)=>be (s7.set e.index.toNat e.value.kind) fun (y9 : List Int)=>ae (arrI 8 s.2.2 e.index) fun (_ : Bool)=>be (s.2.2.set e.index.toNat true) fun (y10 : List Bool)=>some (y9,t8,y10))
   (some (s.1,s.2.1,s.2.2))) fun t=>some t) = some ((iW e).foldl eD s) := by
  unfold be
  by_cases hc : e.kind = 3 ∧ 0 ≤ e.index ∧ e.index < 8
  ·obtain ⟨hk,h0,h8⟩ := hc
   obtain ⟨i,hi⟩ : ∃ i : Nat,e.index = i := ⟨e.index.toNat,by omega⟩
   have hi8 : i < 8 := by omega
   have e0 : (e.kind == (3 : Int)) = true := by simpa using hk
   have e1 : decide (e.index ≥ (0 : Int)) = true := zt h0
   have e2 : decide (e.index < (8 : Int)) = true := zt h8
   rw [e0,e1,e2]
   simp only [zc]
   rw [hi,pad_while i hi8 _ s.1 rfl hs.1]
   simp only [bPs,bI]
   have hl : i < (ik s.1 i).length := by rw [mr]; omega
   rw [arrI_at hs.2 hi8,getI_at hl]
   simp only [bPs,Int.toNat_natCast]
   have hh : iW e = [(i,e.value.kind)] := by unfold iW; rw [zp ⟨hk,h0,h8⟩,hi,Int.toNat_natCast]
   rw [hh]
   simp only [List.foldl_cons,List.foldl_nil,eD]
   cases hb : s.2.1 <;> cases hc : s.2.2.getD i false <;> simp
  ·have hh : iW e = [] := by unfold iW; rw [zy hc]
   rw [hh]
   have e0 : (cond (e.kind == (3 : Int)) (cond (decide (e.index ≥ (0 : Int))) ((decide (e.index < (8 : Int)))) (false)) (false)) = false := by
    by_cases a : e.kind = 3
    ·by_cases b : 0 ≤ e.index
     ·have : ¬ e.index < 8 := fun h=>hc ⟨a,b,h⟩
      simp [this]
     ·have : ¬ e.index ≥ 0 := b
      simp [this]
    ·have : (e.kind == (3 : Int)) = false := by simpa using a
     simp [this]
   rw [e0]
   rfl
 simp only [cj] at key ⊢
 rw [pX,List.foldl_append,← hloop _ h1]
 generalize hg : (cond _ _ _ : Option PSt) = o at key
 cases o with
 | none=>cases key
 | some t =>
  simp only [bPs,zo] at key
  subst key
  rfl
theorem look_eq (e : LExpr) {s : PSt} (h : POk s) : fq e s.1 s.2.1 s.2.2 = some ((dW e).foldl eD s) := by
 obtain ⟨N,hN⟩ := look_ok e
 exact lf N fun n hn=>hN n hn s h
def jl (x : LQuery) : List (Nat × Int) := (x.exprs.map dW).flatten ++ (x.aggregates.map fun a=>(a.args.map dW).flatten).flatten
def kD (q : LQuery) : List (Nat × Int) := ((bJ q).map jl).flatten
theorem mV {x : LQuery} : ∀ p ∈ jl x,p.1 < 8 := by
 intro p hp
 rcases List.mem_append.1 hp with hp | hp
 ·obtain ⟨l,hl,hp⟩ := List.mem_flatten.1 hp
  obtain ⟨e,_,rfl⟩ := List.mem_map.1 hl
  exact ls e p hp
 ·obtain ⟨l,hl,hp⟩ := List.mem_flatten.1 hp
  obtain ⟨a,_,rfl⟩ := List.mem_map.1 hl
  obtain ⟨l,hl,hp⟩ := List.mem_flatten.1 hp
  obtain ⟨e,_,rfl⟩ := List.mem_map.1 hl
  exact ls e p hp
theorem paramsQ_lt {q : LQuery} : ∀ p ∈ kD q,p.1 < 8 := by
 intro p hp
 obtain ⟨l,hl,hp⟩ := List.mem_flatten.1 hp
 obtain ⟨x,_,rfl⟩ := List.mem_map.1 hl
 exact mV p hp
theorem lookAll {l : List LExpr} {s : PSt} (h : POk s) : aM (σ := PSt) (ρ := Empty) (fun (_ : Nat) (x12 : LExpr) (s12 : PSt) =>
   ae (fq x12 s12.1 s12.2.1 s12.2.2) fun x33=>some (.next (x33.1,x33.2.1,x33.2.2))) 0 l (s.1,s.2.1,s.2.2) = some (.next (((l.map dW).flatten).foldl eD s)) := by
 rw [rMa (xs := l) (s := (s.1,s.2.1,s.2.2)) (fun k=>(((l.take k).map dW).flatten).foldl eD s) rfl (fun k x hk=>by
  have hok : POk ((((l.take k).map dW).flatten).foldl eD s) := kZ h fun p hp=>by
   obtain ⟨m,hm,hp⟩ := List.mem_flatten.1 hp
   obtain ⟨y,hy,rfl⟩ := List.mem_map.1 hm
   exact ls y p hp
  rw [look_eq x hok,bPs,List.take_add_one,hk]
  simp),List.take_length]
def iS (q : LQuery) : PSt := (kD q).foldl eD ([],false,List.replicate 8 false)
theorem kinds_ok {q : LQuery} (hb : (bJ q).length ≤ 10000000) : fN q = some (cond (iS q).2.1 ([],13) ((iS q).1,0)) := by
 unfold fN
 rw [nodes_ok q hb,bPs]
 rw [rMa (xs := bJ q) (s := ([],false,List.replicate 8 false)) (fun k=>((((bJ q).take k).map jl).flatten).foldl eD ([],false,List.replicate 8 false)) rfl (fun k x hk=>by
  have hok : POk (((((bJ q).take k).map jl).flatten).foldl eD ([],false,List.replicate 8 false)) := kZ ⟨by simp,by simp⟩ fun p hp=>by
   obtain ⟨m,hm,hp⟩ := List.mem_flatten.1 hp
   obtain ⟨y,hy,rfl⟩ := List.mem_map.1 hm
   exact mV p hp
  rw [lookAll hok,bPs,bI]
  rw [show ((((bJ q).take (k + 1)).map jl).flatten).foldl eD ([],false,List.replicate 8 false) = (jl x).foldl eD (((((bJ q).take k).map jl).flatten).foldl eD ([],false,List.replicate 8 false)) from by
   rw [List.take_add_one,hk]
   simp only [Option.toList_some,List.map_append,List.map_cons,List.map_nil,List.flatten_append,List.flatten_cons,List.flatten_nil,List.append_nil,List.foldl_append]]
  generalize (((((bJ q).take k).map jl).flatten).foldl eD ([],false,List.replicate 8 false)) = s at hok ⊢
  have hok2 : POk (((x.exprs.map dW).flatten).foldl eD s) := kZ hok fun p hp=>mV (x := x) p (by unfold jl; simp only [List.mem_append]; exact .inl hp)
  rw [rMa (xs := x.aggregates) (s := ((((x.exprs.map dW).flatten).foldl eD s).1,(((x.exprs.map dW).flatten).foldl eD s).2.1,(((x.exprs.map dW).flatten).foldl eD s).2.2))
   (fun k=>((((x.aggregates.take k).map fun a=>(a.args.map dW).flatten).flatten).foldl eD (((x.exprs.map dW).flatten).foldl eD s))) rfl (fun k a ha=>by
    have hok3 : POk ((((x.aggregates.take k).map fun a=>(a.args.map dW).flatten).flatten).foldl eD (((x.exprs.map dW).flatten).foldl eD s)) := kZ hok2 fun p hp=>mV (x := x) p (by
     unfold jl
     simp only [List.mem_append]
     obtain ⟨m,hm,hp⟩ := List.mem_flatten.1 hp
     obtain ⟨y,hy,rfl⟩ := List.mem_map.1 hm
     exact .inr (List.mem_flatten.2 ⟨_,List.mem_map.2 ⟨y,List.mem_of_mem_take hy,rfl⟩,hp⟩))
    rw [lookAll hok3,bPs,bI,List.take_add_one,ha]
    simp)]
  rw [bPs,bI,List.take_length]
  unfold jl
  rw [List.foldl_append])]
 rw [bPs,bI,List.take_length]
 show (cond (iS q).2.1 (some ([],13)) (some ((iS q).1,0))) = _
 cases (iS q).2.1 <;> rfl
def qT (l : List (Nat × Int)) : Prop := ∀ i k k',(i,k) ∈ l → (i,k') ∈ l → k = k'
structure PInv (l : List (Nat × Int)) (s : PSt) : Prop where
 ok : POk s
 seen : ∀ i,i < 8 → (s.2.2.getD i false = true ↔ ∃ k,(i,k) ∈ l)
 len : ∀ i k,(i,k) ∈ l → i < s.1.length
 last : s.1.length = 0 ∨ ∃ k,(s.1.length - 1,k) ∈ l
 zero : ∀ i,(∀ k,(i,k) ∉ l) → s.1.getD i 0 = 0
 good : s.2.1 = false → ∀ i k,(i,k) ∈ l → s.1.getD i 0 = k
 bad : qT l → s.2.1 = false
theorem oC (out : List Int) (i j : Nat) : (ik out i).getD j 0 = out.getD j 0 := by
 simp only [ik,List.getD_eq_getElem?_getD]
 by_cases h : j < out.length
 ·rw [List.getElem?_append_left h]
 ·rw [List.getElem?_append_right (by omega),List.getElem?_eq_none (l := out) (by omega),List.getElem?_replicate]
  split <;> rfl
theorem PInv.init : PInv [] ([],false,List.replicate 8 false) :=
 ⟨⟨by simp,by simp⟩,fun i hi=>by
  have : (List.replicate 8 false).getD i false = false := by rw [List.getD_eq_getElem?_getD,List.getElem?_replicate]; split <;> rfl
  exact ⟨fun h=>(by rw [show (([],false,List.replicate 8 false) : PSt).2.2 = List.replicate 8 false from rfl,this] at h; cases h),fun ⟨k,hk⟩=>(by simp at hk)⟩,fun i k h=>by simp at h,.inl rfl,fun i _=>by simp,fun _ i k h=>by simp at h,fun _=>rfl⟩
theorem PInv.step {l : List (Nat × Int)} {s : PSt} (h : PInv l s) {p : Nat × Int} (hp : p.1 < 8) : PInv (l ++ [p]) (eD s p) := by
 obtain ⟨i,k⟩ := p
 simp only at hp
 have hset : ∀ (xs : List Int) (j : Nat) (v : Int),i < xs.length → (xs.set i v).getD j 0 = if j = i then v else xs.getD j 0 := by
  intro xs j v hl
  rw [List.getD_eq_getElem?_getD,List.getD_eq_getElem?_getD,List.getElem?_set]
  by_cases hji : i = j
  ·subst hji; simp [hl]
  ·have : j ≠ i := fun h=>hji h.symm
   simp [hji,this]
 have hl1 : i < (ik s.1 i).length := by rw [mr]; omega
 refine ⟨pstep_ok h.ok hp,fun j hj=>?_,fun j k' hm=>?_,?_,fun j hno=>?_,fun hb j k' hm=>?_,fun hk=>?_⟩
 ·show (s.2.2.set i true).getD j false = true ↔ _
  rw [List.getD_eq_getElem?_getD,List.getElem?_set]
  by_cases hji : i = j
  ·subst hji
   have : i < s.2.2.length := by rw [h.ok.2]; exact hp
   simp [this]
  ·have h1 := h.seen j hj
   rw [List.getD_eq_getElem?_getD] at h1
   have hji' : j ≠ i := fun h=>hji h.symm
   simp only [hji,if_false,h1,List.mem_append,List.mem_singleton,Prod.mk.injEq,hji',false_and,or_false]
 ·show j < ((ik s.1 i).set i k).length
  rw [List.length_set,mr]
  rcases List.mem_append.1 hm with hm | hm
  ·have := h.len j k' hm; omega
  ·simp at hm; omega
 ·show ((ik s.1 i).set i k).length = 0 ∨ ∃ k',(((ik s.1 i).set i k).length - 1,k') ∈ l ++ [(i,k)]
  rw [List.length_set,mr]
  by_cases hle : s.1.length ≤ i + 1
  ·right
   exact ⟨k,by rw [show max s.1.length (i + 1) - 1 = i from by omega]; simp⟩
  ·rcases h.last with h0 | ⟨k',hk'⟩
   ·omega
   ·right
    exact ⟨k',by rw [show max s.1.length (i + 1) - 1 = s.1.length - 1 from by omega]; simp [hk']⟩
 ·show ((ik s.1 i).set i k).getD j 0 = 0
  have hji : j ≠ i := fun e=>hno k (by simp [e])
  rw [hset _ _ _ hl1,zy hji,oC]
  exact h.zero j fun k' hm=>hno k' (by simp [hm])
 ·have hb' : s.2.1 = false ∧ (s.2.2.getD i false && (ik s.1 i).getD i 0 != k) = false := by
   have : (s.2.1 || (s.2.2.getD i false && (ik s.1 i).getD i 0 != k)) = false := hb
   simpa using this
  show ((ik s.1 i).set i k).getD j 0 = k'
  rw [hset _ _ _ hl1]
  have hold := h.good hb'.1
  rcases List.mem_append.1 hm with hm1 | hm
  ·by_cases hji : j = i
   ·subst hji
    rw [zp rfl]
    have hs := (h.seen j hp).2 ⟨k',hm1⟩
    have := hb'.2
    rw [hs,oC,hold j k' hm1] at this
    simp at this
    exact this.symm
   ·rw [zy hji,oC]
    exact hold j k' hm1
  ·simp at hm
   rw [zp hm.1,hm.2]
 ·have h1 := h.bad fun i k k' a b=>hk i k k' (by simp [a]) (by simp [b])
  show (s.2.1 || (s.2.2.getD i false && (ik s.1 i).getD i 0 != k)) = false
  rw [h1,Bool.false_or,oC]
  cases hs : s.2.2.getD i false with
  | false=>rfl
  | true =>
   obtain ⟨k',hk'⟩ := (h.seen i hp).1 hs
   rw [h.good h1 i k' hk',hk i k' k (by simp [hk']) (by simp)]
   simp
theorem PInv.fold : ∀ {r l : List (Nat × Int)} {s : PSt},PInv l s → (∀ p ∈ r,p.1 < 8) → PInv (l ++ r) (r.foldl eD s)
 | [],l,s,h,_=>by simpa using h
 | p :: r,l,s,h,hr=>by
  have := PInv.fold (r := r) (h.step (hr p (by simp))) fun q hq=>hr q (by simp [hq])
  simpa using this
theorem kinds_inv (q : LQuery) : PInv (kD q) (iS q) := by
 have := PInv.fold (r := kD q) PInv.init paramsQ_lt
 rw [List.nil_append] at this
 exact this
theorem kinds_bad {q : LQuery} : (iS q).2.1 = false ↔ qT (kD q) := by
 have h := kinds_inv q
 refine ⟨fun hb i k k' a b=>?_,h.bad⟩
 rw [← h.good hb i k a,← h.good hb i k' b]
def Tot {α : Type} (o : Option α) : Prop := ∃ v,o = some v
theorem Tot.mk {α : Type} {v : α} : Tot (Option.some v) := ⟨v,rfl⟩
theorem Tot.bind {α β : Type} {o : Option α} {k : α → Option β} (h : Tot o) (hk : ∀ v,o = some v → Tot (k v)) : Tot (ae o k) := by
 obtain ⟨v,hv⟩ := h
 rw [hv]
 exact hk v hv
theorem Tot.cond {α : Type} {b : Bool} {x y : Option α} (hx : b = true → Tot x) (hy : b = false → Tot y) : Tot (cond b x y) := by
 cases b
 ·exact hy rfl
 ·exact hx rfl
theorem Tot.get {α : Type} {xs : List α} {i : Int} (h0 : 0 ≤ i) (h : i < xs.length) : Tot (aC xs i) := by
 have : i.toNat < xs.length := by omega
 exact ⟨xs[i.toNat],nu h0 (ze this)⟩
theorem Tot.sub {α : Type} {xs : List α} {a b : Int} (h : 0 ≤ a ∧ a ≤ b ∧ b ≤ xs.length) : Tot (mi xs a b) := ⟨_,pj h⟩
theorem Tot.range {α σ ρ : Type} {step : Nat → α → σ → Option (Flow σ ρ)} : ∀ (xs : List α) (j : Nat) (s : σ),(∀ k x s,xs[k]? = some x → Tot (step (j + k) x s)) → Tot (aM step j xs s)
 | [],_,s,_=>⟨.next s,rfl⟩
 | x :: xs,j,s,h=>by
  obtain ⟨fl,hfl⟩ := h 0 x s rfl
  rw [Nat.add_zero] at hfl
  rw [aM,hfl]
  cases fl with
  | next s' =>
   exact Tot.range xs (j + 1) s' fun k y t hk=>by
    have := h (k + 1) y t (by simpa using hk)
    rwa [show j + (k + 1) = j + 1 + k from by omega] at this
  | brk s'=>exact ⟨_,rfl⟩
  | ret r=>exact ⟨_,rfl⟩
theorem Tot.thenR {σ ρ : Type} {fl : Flow σ ρ} {k : σ → Option ρ} (h : ∀ s,(fl = .next s ∨ fl = .brk s) → Tot (k s)) : Tot (fl.thenR k) := by
 cases fl with
 | next s=>exact h s (.inl rfl)
 | brk s=>exact h s (.inr rfl)
 | ret r=>exact ⟨r,rfl⟩
theorem bneT {a b : Int} (h : a ≠ b) : (a != b) = true := by simpa using h
theorem bneF {a b : Int} (h : a = b) : (a != b) = false := by simp [h]
theorem beqF {a b : Int} (h : a ≠ b) : (a == b) = false := by simpa using h
theorem beqT {a b : Int} (h : a = b) : (a == b) = true := by simp [h]
theorem idxF {α : Type} {l : List α} {f : α → Option Bool} {p : α → Bool} (h : ∀ x ∈ l,f x = some (p x)) :
  ae (aM (σ := Unit) (ρ := Int) (fun (j1 : Nat) (x1 : α) (_ : Unit)=>ae (f x1) fun x16=>cond x16 (some (.ret (j1 : Int))) (some (.next ()))) 0 l ()) (fun fl1=>fl1.thenR fun (_ : Unit)=>some (-1)) = some (cu p l) := by
 rw [rr p (fun j _=>(j : Int)) l 0 (fun k x hk=>by
  rw [h x (fu hk),bPs]
  cases p x <;> simp)]
 unfold cu
 cases hf : l.findIdx? p with
 | none=>rfl
 | some i =>
  have hi := (List.findIdx?_eq_some_iff_getElem.1 hf).1
  simp only [ze hi]
  simp
theorem idxF2 {α : Type} {l : List α} {p : α → Bool} :
  ae (aM (σ := Unit) (ρ := Int) (fun (j1 : Nat) (x1 : α) (_ : Unit)=>cond (p x1) (some (.ret (j1 : Int))) (some (.next ()))) 0 l ()) (fun fl1=>fl1.thenR fun (_ : Unit)=>some (-1)) = some (cu p l) := idxF (f := fun x=>some (p x)) fun _ _=>rfl
theorem qB {α : Type} {p : α → Bool} {l : List α} (h : 0 ≤ cu p l) : ∃ x,l[(cu p l).toNat]? = some x ∧ p x = true := by
 unfold cu at h ⊢
 cases hf : l.findIdx? p with
 | none=>rw [hf] at h; simp at h
 | some i =>
  obtain ⟨hi,hp,_⟩ := List.findIdx?_eq_some_iff_getElem.1 hf
  exact ⟨l[i],by simp [hi],hp⟩
theorem idx_table (l : List LTable) (p : LTable → Bool) : cJ l (fun a=>some (p a)) = some (cu p l) := idxF fun _ _=>rfl
theorem idx_column (l : List LCol) (p : LCol → Bool) : cB l (fun a=>some (p a)) = some (cu p l) := idxF fun _ _=>rfl
theorem nX (s : LSchema) (name : List UInt8) : fm s name = some (eK 0 (cu (fun t=>cW t name) s.tables),decide (cu (fun t=>cW t name) s.tables ≥ 0)) := by
 unfold fm
 rw [idx_table,bPs]
 congr 2
 unfold eK
 split <;> split <;> omega
theorem findColumn_eq (t : LTable) (name : List UInt8) : fK t name = some (eK 0 (cu (fun c=>dO c name) t.columns),decide (cu (fun c=>dO c name) t.columns ≥ 0)) := by
 unfold fK
 rw [idx_column,bPs]
 congr 2
 unfold eK
 split <;> split <;> omega
theorem oL {n : Int} (h : 0 ≤ n) : eK 0 n = n := by unfold eK; split <;> omega
theorem qe (s : List UInt8) : Tot (fo s) := by
 unfold fo
 refine Tot.bind ?_ fun b hb=>?_
 ·refine Tot.cond (fun _=>Tot.mk) fun h1=>?_
  refine Tot.cond (fun _=>Tot.mk) fun h2=>?_
  have h1 := of_decide_eq_false h1
  refine Tot.bind (Tot.get (by decide) (by omega)) fun x _=>?_
  refine Tot.cond (fun _=>?_) fun _=>Tot.mk
  exact Tot.bind (Tot.get (by decide) (by omega)) fun x _=>Tot.mk
 ·refine Tot.cond (fun _=>Tot.mk) fun h=>?_
  subst h
  have hl : (s.length : Int) ≤ 12 := by
   by_cases h1 : (s.length : Int) < 1
   ·omega
   ·by_cases h2 : (s.length : Int) > 12
    ·rw [zf h1,zt h2] at hb; simp at hb
    ·omega
  refine Tot.bind ⟨(),cf (by omega)⟩ fun _ _=>?_
  refine Tot.bind (Tot.range _ _ _ fun k x _ _=>?_) fun fl _=>Tot.thenR fun _ _=>Tot.mk
  repeat' first | exact Tot.mk | refine Tot.cond (fun _=>?_) (fun _=>?_)
structure TableOk (t : LTable) : Prop where
 pk : ∀ x ∈ t.primaryKey,0 ≤ x ∧ x < t.columns.length
theorem validTable (t : LTable) (hsm : t.primaryKey.length ≤ 10000000) : ∃ e,eS t = some e ∧ (e = 0 → TableOk t) := by
 unfold eS
 obtain ⟨b,hb⟩ := qe t.name
 rw [hb,bPs]
 cases b with
 | false=>exact ⟨23,rfl,fun h=>by omega⟩
 | true =>
  simp only [Bool.not_true,zd]
  by_cases h0 : (t.columns.length : Int) = 0
  ·exact ⟨3,by simp [h0],fun h=>by omega⟩
  by_cases h6 : (t.columns.length : Int) > 6
  ·have : ((t.columns.length : Int) == 0) = false := by simpa using h0
   exact ⟨2,by rw [this]; simp [h6],fun h=>by omega⟩
  have e0 : ((t.columns.length : Int) == 0) = false := by simpa using h0
  rw [e0,zf h6]
  simp only [zd]
  obtain ⟨fl,hfl,hr⟩ := fW (step := fun (j1 : Nat) (x1 : LCol) (_ : Unit) =>
    ae (fo x1.name) fun x31=>cond (!x31) (some (Flow.ret (σ := Unit) (23 : Int)))
     (ae (fK t x1.name) fun x37=>cond (decide (x37.1 < (j1 : Int))) (some (.ret 5)) (cond (decide (x1.kind < (1 : Int))) (some (.ret 7)) (cond (decide (x1.kind > (3 : Int))) (some (.ret 7)) (some (.next ())))))) (fun _ _=>True) (fun r=>r ≠ 0) t.columns 0 () trivial (fun k x s hk _=>by
    obtain ⟨b,hb⟩ := qe x.name
    rw [hb,bPs,findColumn_eq,bPs]
    cases b with
    | false=>exact ⟨_,rfl,by simp⟩
    | true =>
     simp only [Bool.not_true,zd]
     by_cases a1 : eK 0 (cu (fun c=>dO c x.name) t.columns) < ((0 + k : Nat) : Int)
     ·exact ⟨.ret 5,by rw [zt a1]; rfl,by simp⟩
     ·rw [zf a1]
      by_cases a2 : x.kind < 1
      ·exact ⟨.ret 7,by rw [zt a2]; rfl,by simp⟩
      ·rw [zf a2]
       by_cases a3 : x.kind > 3
       ·exact ⟨.ret 7,by rw [zt a3]; rfl,by simp⟩
       ·exact ⟨.next (),by rw [zf a3]; rfl,trivial⟩)
  rw [hfl,bPs]
  cases fl with
  | brk s=>exact absurd hr (by simp)
  | ret r=>exact ⟨r,rfl,fun h=>absurd h hr⟩
  | next s =>
   rw [kJ]
   obtain ⟨fl,hfl,hr⟩ := fW (step := fun (j2 : Nat) (x2 : Int) (_ : Unit) =>
     cond (decide (x2 < (0 : Int))) (some (Flow.ret (σ := Unit) (9 : Int))) (cond (decide (x2 ≥ (t.columns.length : Int))) (some (.ret 9))
      (ae (aC t.columns x2) fun (x73 : LCol)=>cond x73.nullable (some (.ret 9)) (cond (decide ((j2 : Int) > (0 : Int)))
       (ae (aC t.primaryKey (IntKind.i64.wrap ((j2 : Int) - (1 : Int)))) fun (x86 : Int)=>cond (decide (x2 ≤ x86)) (some (.ret 9)) (some (.next ()))) (some (.next ())))))) (fun j _=>∀ k x,k < j → t.primaryKey[k]? = some x → 0 ≤ x ∧ x < t.columns.length) (fun r=>r ≠ 0) t.primaryKey 0 () (fun k x h=>by omega) (fun k x s hk hI=>by
     simp only [Nat.zero_add] at hI ⊢
     by_cases a1 : x < 0
     ·exact ⟨.ret 9,by rw [zt a1]; rfl,by simp⟩
     rw [zf a1]
     by_cases a2 : x ≥ (t.columns.length : Int)
     ·exact ⟨.ret 9,by rw [zt a2]; rfl,by simp⟩
     rw [zf a2]
     simp only [zd]
     obtain ⟨c,hc⟩ := Tot.get (xs := t.columns) (i := x) (by omega) (by omega)
     rw [hc,bPs]
     have next : ∀ k' x',k' < k + 1 → t.primaryKey[k']? = some x' → 0 ≤ x' ∧ x' < t.columns.length := fun k' x' h1 h2=>by
      by_cases he : k' = k
      ·subst he; rw [hk] at h2; cases h2; omega
      ·exact hI k' x' (by omega) h2
     cases c.nullable with
     | true=>exact ⟨_,rfl,by simp⟩
     | false =>
      simp only [zd]
      by_cases a3 : (k : Int) > 0
      ·rw [zt a3]
       have hkl := (zg.1 hk).1
       rw [ep (by omega) (by omega)]
       obtain ⟨y,hy⟩ := Tot.get (xs := t.primaryKey) (i := (k : Int) - 1) (by omega) (by omega)
       rw [zc,hy,bPs]
       by_cases a4 : x ≤ y
       ·exact ⟨.ret 9,by rw [zt a4]; rfl,by simp⟩
       ·exact ⟨.next (),by rw [zf a4]; rfl,next⟩
      ·exact ⟨.next (),by rw [zf a3]; rfl,next⟩)
   rw [hfl,bPs]
   cases fl with
   | brk s=>exact absurd hr (by simp)
   | ret r=>exact ⟨r,rfl,fun h=>absurd h hr⟩
   | next s =>
    rw [kJ]
    simp only [Nat.zero_add] at hr
    by_cases hp : (t.primaryKey.length : Int) = 0
    ·exact ⟨9,by simp [hp],fun h=>by omega⟩
    ·have : ((t.primaryKey.length : Int) == 0) = false := by simpa using hp
     refine ⟨0,by rw [this]; rfl,fun _=>⟨fun x hx=>?_⟩⟩
     obtain ⟨k,hk,rfl⟩ := List.mem_iff_getElem.1 hx
     exact hr k _ hk (ze hk)
theorem kC {α : Type} {xs : List α} {k : Nat} (h : k < xs.length) : aC xs (k : Int) = some xs[k] := jS (ze h)
theorem foreignKey_tot {s : LSchema} (hs : ∀ t ∈ s.tables,TableOk t) (fk : LForeignKey) : Tot (eF s fk) := by
 unfold eF
 rw [nX,nX]
 simp only [bPs,cj]
 generalize hi : cu (fun t=>cW t fk.table) s.tables = i
 generalize hj : cu (fun t=>cW t fk.refTable) s.tables = j
 by_cases h1 : i ≥ 0
 ·by_cases h2 : j ≥ 0
  ·rw [zt h1,zt h2]
   simp only [Bool.not_true,zd]
   rw [oL h1,oL h2]
   obtain ⟨t,ht,_⟩ := qB (hi ▸ h1)
   obtain ⟨u,hu,_⟩ := qB (hj ▸ h2)
   rw [hi] at ht
   rw [hj] at hu
   rw [nu h1 ht,nu h2 hu]
   simp only [bPs]
   refine Tot.cond (fun _=>Tot.mk) fun hl=>?_
   have hl : fk.columns.length = u.primaryKey.length := by
    by_cases h : (fk.columns.length : Int) = (u.primaryKey.length : Int)
    ·omega
    ·simp [h] at hl
   refine Tot.bind (Tot.range _ _ _ fun k x st hk=>?_) fun fl _=>Tot.thenR fun _ _=>Tot.mk
   have hkl := (zg.1 hk).1
   by_cases a1 : x < 0
   ·rw [zt a1]; exact Tot.mk
   ·rw [zf a1]
    by_cases a2 : x ≥ (t.columns.length : Int)
    ·rw [zt a2]; exact Tot.mk
    ·rw [zf a2]
     simp only [zd]
     obtain ⟨c,hc⟩ := Tot.get (xs := t.columns) (i := x) (by omega) (by omega)
     rw [hc,bPs,Nat.zero_add,kC (by omega),bPs]
     have hp := (hs u (fu hu)).pk u.primaryKey[k] (List.getElem_mem _)
     obtain ⟨d,hd⟩ := Tot.get (xs := u.columns) (i := u.primaryKey[k]) hp.1 hp.2
     rw [hd,bPs]
     exact Tot.cond (fun _=>Tot.mk) fun _=>Tot.mk
  ·rw [zf h2]
   simp only [Bool.not_false]
   cases decide (i ≥ 0) <;> exact Tot.mk
 ·rw [zf h1]
  exact Tot.mk
theorem constraint_tot (s : LSchema) (c : LConstraint) : Tot (eE s c) := by
 unfold eE
 rw [nX]
 simp only [bPs,cj]
 generalize hi : cu (fun t=>cW t c.table) s.tables = i
 by_cases h1 : i ≥ 0
 ·rw [zt h1]
  simp only [Bool.not_true,zd]
  rw [oL h1]
  obtain ⟨t,ht,_⟩ := qB (hi ▸ h1)
  rw [hi] at ht
  rw [nu h1 ht,bPs]
  refine Tot.cond (fun _=>Tot.mk) fun hl=>?_
  by_cases a1 : c.left < 0
  ·rw [zt a1] at hl; cases hl
  rw [zf a1,zd] at hl
  by_cases a2 : c.left ≥ (t.columns.length : Int)
  ·rw [zt a2] at hl; cases hl
  rw [zf a2,zd] at hl
  obtain ⟨x,hx⟩ := Tot.get (xs := t.columns) (i := c.left) (by omega) (by omega)
  rw [hx]
  refine Tot.cond (fun a3=>?_) fun _=>?_
  ·have a3 := of_decide_eq_true a3
   have a4 : c.right < (t.columns.length : Int) := by
    rcases Int.lt_or_le c.right (t.columns.length : Int) with h | h
    ·exact h
    ·have e : decide (c.right ≥ (t.columns.length : Int)) = true := zt h
     rw [e] at hl
     revert hl
     cases ((gA (LVal.mk 0 0 []) c.op (LVal.mk 0 0 [])).2 != 0) <;> cases decide (c.right < -1) <;> simp
   obtain ⟨y,hy⟩ := Tot.get (xs := t.columns) (i := c.right) a3 a4
   rw [hy]
   simp only [bPs]
   exact Tot.cond (fun _=>Tot.mk) fun _=>Tot.mk
  ·rw [bPs]
   exact Tot.cond (fun _=>Tot.mk) fun _=>Tot.mk
 ·rw [zf h1]
  exact Tot.mk
theorem equalInts_tot (a b : List Int) : Tot (fw a b) := by
 unfold fw
 refine Tot.cond (fun _=>Tot.mk) fun h=>?_
 have h : a.length = b.length := by
  by_cases h' : (a.length : Int) = (b.length : Int)
  ·omega
  ·simp [h'] at h
 refine Tot.bind (Tot.range _ _ _ fun k x s hk=>?_) fun fl _=>Tot.thenR fun _ _=>Tot.mk
 have hkl := (zg.1 hk).1
 rw [Nat.zero_add,kC (by omega),bPs]
 exact Tot.cond (fun _=>Tot.mk) fun _=>Tot.mk
theorem fkIn_tot (l : List LForeignKey) (x : LForeignKey) : Tot (bU l (fun a0=>fI a0 x)) := by
 unfold bU cC
 refine Tot.bind (Tot.bind (Tot.range _ _ _ fun k y s hk=>?_) fun fl _=>Tot.thenR fun _ _=>Tot.mk) fun _ _=>Tot.mk
 refine Tot.bind ?_ fun _ _=>Tot.cond (fun _=>Tot.mk) fun _=>Tot.mk
 unfold fI
 refine Tot.bind ?_ fun _ _=>Tot.mk
 unfold fY
 refine Tot.cond (fun _=>Tot.bind (equalInts_tot _ _) fun _ _=>Tot.cond (fun _=>Tot.mk) fun _=>Tot.mk) fun _=>Tot.mk
theorem csIn_tot (l : List LConstraint) (x : LConstraint) : Tot (cg l x) := by
 unfold cg cP
 refine Tot.bind (Tot.bind (Tot.range _ _ _ fun k y s hk=>?_) fun fl _=>Tot.thenR fun _ _=>Tot.mk) fun _ _=>Tot.mk
 exact Tot.cond (fun _=>Tot.mk) fun _=>Tot.mk
def pr (s : LSchema) : Prop := ∀ t ∈ s.tables,t.primaryKey.length ≤ 10000000
theorem qA {s : LSchema} (hsm : pr s) : Tot (iu s) := by
 unfold iu
 rw [cj]
 refine Tot.cond (fun _=>Tot.mk) fun ht=>?_
 have h6 : s.tables.length ≤ 6 := by
  by_cases h : (s.tables.length : Int) > 6
  ·rw [zt h] at ht; cases ht
  ·omega
 obtain ⟨fl,hfl,hr⟩ := fW (step := fun (j2 : Nat) (x2 : LTable) (_ : Unit) =>
   ae (eS x2) fun x37=>cond (x37 != (0 : Int)) (some (Flow.ret (σ := Unit) x37)) (cond (decide ((j2 : Int) > (0 : Int)))
     (ae (aC s.tables (IntKind.i64.wrap ((j2 : Int) - (1 : Int)))) fun (x50 : LTable)=>cond (Op.bytesLess x2.name x50.name || x2.name == x50.name) (some (.ret 6)) (some (.next ()))) (some (.next ())))) (fun j _=>∀ k x,k < j → s.tables[k]? = some x → TableOk x) (fun _=>True) s.tables 0 () (fun k x h=>by omega) (fun k x st hk hI=>by
    simp only [Nat.zero_add] at hI ⊢
    obtain ⟨e,he,hok⟩ := validTable x (hsm x (fu hk))
    rw [he,bPs]
    by_cases h0 : e = 0
    ·have next : ∀ k' x',k' < k + 1 → s.tables[k']? = some x' → TableOk x' := fun k' x' h1 h2=>by
      by_cases heq : k' = k
      ·subst heq; rw [hk] at h2; cases h2; exact hok h0
      ·exact hI k' x' (by omega) h2
     rw [show (e != (0 : Int)) = false from by simp [h0],zd]
     by_cases a3 : (k : Int) > 0
     ·have hkl := (zg.1 hk).1
      rw [zt a3,ep (by omega) (by omega)]
      obtain ⟨y,hy⟩ := Tot.get (xs := s.tables) (i := (k : Int) - 1) (by omega) (by omega)
      rw [zc,hy,bPs]
      cases (Op.bytesLess x.name y.name || x.name == y.name) with
      | true=>exact ⟨.ret 6,rfl,trivial⟩
      | false=>exact ⟨.next (),rfl,next⟩
     ·exact ⟨.next (),by rw [zf a3]; rfl,next⟩
    ·exact ⟨.ret e,by rw [show (e != (0 : Int)) = true from by simp [h0]]; rfl,trivial⟩)
 rw [hfl,bPs]
 cases fl with
 | brk s=>exact absurd hr (by simp)
 | ret r=>exact Tot.mk
 | next u =>
  rw [kJ]
  simp only [Nat.zero_add] at hr
  have hok : ∀ t ∈ s.tables,TableOk t := fun t ht=>by
   obtain ⟨k,hk,rfl⟩ := List.mem_iff_getElem.1 ht
   exact hr k _ hk (ze hk)
  refine Tot.bind (Tot.range _ _ _ fun k x st hk=>?_) fun fl _=>Tot.thenR fun _ _=>?_
  ·refine Tot.bind (foreignKey_tot hok x) fun e _=>Tot.cond (fun _=>Tot.mk) fun _=>?_
   have hkl := (zg.1 hk).1
   refine Tot.bind (Tot.sub ⟨by omega,by omega,by omega⟩) fun l _=>?_
   exact Tot.bind (fkIn_tot l x) fun _ _=>Tot.cond (fun _=>Tot.mk) fun _=>Tot.mk
  ·refine Tot.bind (Tot.range _ _ _ fun k x st hk=>?_) fun fl _=>Tot.thenR fun _ _=>Tot.mk
   refine Tot.bind (constraint_tot s x) fun e _=>Tot.cond (fun _=>Tot.mk) fun _=>?_
   have hkl := (zg.1 hk).1
   refine Tot.bind (Tot.sub ⟨by omega,by omega,by omega⟩) fun l _=>?_
   exact Tot.bind (csIn_tot l x) fun _ _=>Tot.cond (fun _=>Tot.mk) fun _=>Tot.mk
theorem containsI (l : List Int) (v : Int) : eP l v = some (l.any fun x=>v == x) := by
 unfold eP gL
 rw [idxF2 (p := fun x=>v == x),bPs,oE]
theorem shape1 (l : List Int) (q : LQuery) : dr l q = some (l.any fun x=>q.kind == x) := by
 unfold dr
 rw [containsI,bPs]
def nP (k : Int) : Nat := if k = 1 then 0 else if k = 4 ∨ k = 5 ∨ k = 6 ∨ k = 7 then 2 else 1
def jA (q : LQuery) : Bool :=
 decide (1 ≤ q.kind) && decide (q.kind ≤ 10) && decide (q.inputs.length = nP q.kind) && (q.kind == 1 || q.table == []) && (q.kind == 3 || q.kind == 8 || decide (q.names.length = 0)) &&
 (q.kind == 8 || decide (q.aggregates.length = 0)) && (q.kind == 9 || decide (q.descending.length = 0)) && (q.kind == 10 || (q.count == 0 && q.offset == 0)) &&
 (if q.kind = 2 ∨ q.kind = 4 ∨ q.kind = 5 then decide (q.exprs.length = 1)
  else if q.kind = 3 ∨ q.kind = 8 then decide (q.exprs.length = q.names.length) && decide (0 < q.exprs.length + q.aggregates.length)
  else if q.kind = 9 then decide (q.exprs.length = q.descending.length) && decide (0 < q.exprs.length)
  else if q.kind = 10 then decide (q.exprs.length = 0) && decide (q.count ≥ 0) && decide (q.offset ≥ 0)
  else decide (q.exprs.length = 0))
theorem natE (a b : Nat) : ((a : Int) == (b : Int)) = decide (a = b) := by
 by_cases h : a = b
 ·simp [h]
 ·rw [zf h]; exact beqF (by omega)
theorem natNE (a b : Nat) : ((a : Int) != (b : Int)) = !decide (a = b) := by rw [bne,natE]
theorem natPos (a : Nat) : decide ((a : Int) > 0) = !decide (a = 0) := by
 by_cases h : a = 0
 ·simp [h]
 ·rw [zf h,zt (by omega)]; rfl
theorem condSome {α : Type} (b : Bool) (x y : α) : (cond b (some x) (some y)) = some (cond b x y) := by cases b <;> rfl
theorem shape_eq (q : LQuery) (hs : q.exprs.length ≤ 10000000 ∧ q.aggregates.length ≤ 10000000) : jB q = some (jA q) := by
 unfold jB
 simp only [shape1,bPs]
 by_cases k0 : q.kind < 1
 ·rw [zt k0]
  simp [jA,show ¬ (1 ≤ q.kind) from by omega]
 rw [zf k0]
 by_cases k10 : q.kind > 10
 ·rw [zt k10]
  simp [jA,show ¬ (q.kind ≤ 10) from by omega]
 rw [zf k10]
 have hw : IntKind.i64.wrap ((q.exprs.length : Int) + (q.aggregates.length : Int)) = ((q.exprs.length + q.aggregates.length : Nat) : Int) := by rw [ep (by omega) (by omega)]; simp
 rw [hw]
 have hk : q.kind = 1 ∨ q.kind = 2 ∨ q.kind = 3 ∨ q.kind = 4 ∨ q.kind = 5 ∨ q.kind = 6 ∨ q.kind = 7 ∨ q.kind = 8 ∨ q.kind = 9 ∨ q.kind = 10 := by omega
 unfold jA
 have e0 : ∀ n : Nat,((n : Int) == 0) = decide (n = 0) := fun n=>natE n 0
 have e1 : ∀ n : Nat,((n : Int) == 1) = decide (n = 1) := fun n=>natE n 1
 have n0 : ∀ n : Nat,((n : Int) != 0) = !decide (n = 0) := fun n=>natNE n 0
 have n1 : ∀ n : Nat,((n : Int) != 1) = !decide (n = 1) := fun n=>natNE n 1
 have n2 : ∀ n : Nat,((n : Int) != 2) = !decide (n = 2) := fun n=>natNE n 2
 have c0 : (q.count != 0) = !(q.count == 0) := rfl
 have o0 : (q.offset != 0) = !(q.offset == 0) := rfl
 have p0 : decide (0 < q.exprs.length) = !decide (q.exprs.length = 0) := by rw [← natPos]; simp
 have p1 : decide (0 < q.exprs.length + q.aggregates.length) = !decide (q.exprs.length + q.aggregates.length = 0) := by rw [← natPos]; simp; omega
 simp only [natPos,natE,e0,e1,c0,o0,p0,p1]
 generalize (q.table == []) = b1
 generalize decide (q.names.length = 0) = b2
 generalize decide (q.aggregates.length = 0) = b3
 generalize decide (q.descending.length = 0) = b4
 generalize (q.count == 0) = b5
 generalize (q.offset == 0) = b6
 generalize decide (q.exprs.length = 1) = b7
 generalize decide (q.exprs.length = q.names.length) = b8
 generalize decide (q.exprs.length + q.aggregates.length = 0) = b9
 generalize decide (q.exprs.length = q.descending.length) = b10
 generalize decide (q.exprs.length = 0) = b11
 generalize decide (q.count ≥ 0) = b12
 generalize decide (q.offset ≥ 0) = b13
 generalize hL : q.inputs.length = L
 rcases hk with h | h | h | h | h | h | h | h | h | h <;> rw [h]
 all_goals simp only [nP,aC]
 all_goals simp [n0,n1,n2,condSome,Bool.and_assoc]
def e0Q (q : LQuery) : LExpr := q.exprs.headD (.mk 1 [] 0 .nul [])
def nz (a b : List LCol) (left : Bool) : List LCol := a ++ b.map fun x=>⟨x.name,x.kind,x.nullable || left⟩
def setCols (kind : Int) (a b : List LCol) : List LCol × Int :=
 if a.length = b.length ∧ a.map LCol.kind = b.map LCol.kind then (List.zipWith (fun x y=>⟨x.name,x.kind,x.nullable || (kind == 6 && y.nullable)⟩) a b,0) else ([],7)
def eg (vars cols : List LCol) : List LExpr → List (List UInt8) → List LCol × Int
 | e :: es,n :: ns=>if ec n = false then ([],3) else if (fG cols vars e).2.2 ≠ 0 then ([],(fG cols vars e).2.2) else if (fG cols vars e).1 = 0 then ([],7)
  else if (eg vars cols es ns).2 ≠ 0 then ([],(eg vars cols es ns).2) else (⟨n,(fG cols vars e).1,(fG cols vars e).2.1⟩ :: (eg vars cols es ns).1,0)
 | _,_=>([],0)
abbrev lG : List UInt8 := [99,111,117,110,116]
abbrev sSum : List UInt8 := [115,117,109]
abbrev sMin : List UInt8 := [109,105,110]
abbrev sMax : List UInt8 := [109,97,120]
def aggQ (vars cols : List LCol) (a : LAggregateCall) : Int × Int :=
 if ec a.name = false ∨ ¬ a.function ∈ [lG,sSum,sMin,sMax] ∨ 1 < a.args.length ∨ (a.args.length < 1 ∧ a.function ≠ lG) then (0,3)
 else match a.args with
  | []=>(1,0)
  | e :: _=>if (fG cols vars e).2.2 ≠ 0 then (0,(fG cols vars e).2.2) else if (fG cols vars e).1 = 0 ∨ (a.function = sSum ∧ (fG cols vars e).1 ≠ 1) then (0,7)
   else if a.function = lG then (1,0) else ((fG cols vars e).1,0)
def gC (vars cols : List LCol) : List LAggregateCall → List LCol × Int
 | []=>([],0)
 | a :: l=>if (aggQ vars cols a).2 ≠ 0 then ([],(aggQ vars cols a).2) else if (gC vars cols l).2 ≠ 0 then ([],(gC vars cols l).2)
  else (⟨a.name,(aggQ vars cols a).1,!(a.function == lG)⟩ :: (gC vars cols l).1,0)
def namedQ (vars cols : List LCol) (q : LQuery) : List LCol × Int :=
 if (eg vars cols q.exprs q.names).2 ≠ 0 then ([],(eg vars cols q.exprs q.names).2)
 else if (gC vars cols q.aggregates).2 ≠ 0 then ([],(gC vars cols q.aggregates).2)
 else ((eg vars cols q.exprs q.names).1 ++ (gC vars cols q.aggregates).1,0)
def ld (vars cols : List LCol) : List LExpr → Int
 | []=>0
 | e :: l=>if (fG cols vars e).2.2 ≠ 0 then (fG cols vars e).2.2 else ld vars cols l
def lQ (c : LChecker) (q : LQuery) (ins : List (List LCol)) : List LCol × Int :=
 if q.kind = 1 then (match c.s.tables.find? fun t=>t.name == q.table with | some t=>(t.columns,0) | none=>([],4))
 else if q.kind = 2 then (ins.getD 0 [],dB c (ins.getD 0 []) (e0Q q))
 else if q.kind = 4 ∨ q.kind = 5 then (nz (ins.getD 0 []) (ins.getD 1 []) (q.kind == 5),dB c (nz (ins.getD 0 []) (ins.getD 1 []) (q.kind == 5)) (e0Q q))
 else if q.kind = 6 ∨ q.kind = 7 then setCols q.kind (ins.getD 0 []) (ins.getD 1 [])
 else if q.kind = 3 ∨ q.kind = 8 then namedQ c.vars (ins.getD 0 []) q
 else if q.kind = 9 then (if ld c.vars (ins.getD 0 []) q.exprs ≠ 0 then ([],ld c.vars (ins.getD 0 []) q.exprs) else (ins.getD 0 [],0))
 else (ins.getD 0 [],0)
theorem find_idx {α : Type} (p : α → Bool) (l : List α) : (l.find? p = none ∧ cu p l = -1) ∨ ∃ x,l.find? p = some x ∧ 0 ≤ cu p l ∧ l[(cu p l).toNat]? = some x := by
 induction l with
 | nil=>exact .inl ⟨rfl,rfl⟩
 | cons a l ih =>
  by_cases h : p a = true
  ·right
   exact ⟨a,by simp [h],by unfold cu; simp [List.findIdx?_cons,h],by unfold cu; simp [List.findIdx?_cons,h]⟩
  ·have h : p a = false := by simpa using h
   have hi : cu p (a :: l) = if cu p l < 0 then -1 else cu p l + 1 := by
    unfold cu
    simp only [List.findIdx?_cons,h,Bool.false_eq_true,if_false]
    cases l.findIdx? p with
    | none=>rfl
    | some i=>rw [zy (by simp only; omega)]; simp
   rw [List.find?_cons,h,hi]
   rcases ih with ⟨h1,h2⟩ | ⟨x,h1,h2,h3⟩
   ·left; exact ⟨h1,by rw [h2]; rfl⟩
   ·right
    refine ⟨x,h1,by split <;> omega,?_⟩
    rw [zy (by omega),show (cu p l + 1).toNat = (cu p l).toNat + 1 from by omega,List.getElem?_cons_succ,h3]
theorem set_ok (kind : Int) (a b : List LCol) : hX kind a b = some (setCols kind a b) := by
 unfold hX setCols
 by_cases hl : a.length = b.length
 ·rw [natNE,zt hl]
  simp only [Bool.not_true,zd]
  let z : LCol → LCol → LCol := fun x y=>⟨x.name,x.kind,x.nullable || (kind == 6 && y.nullable)⟩
  obtain ⟨fl,hfl,hr⟩ := fW (step := fun (j1 : Nat) (x1 : LCol) (s1 : List LCol) =>
   ae (aC b (j1 : Int)) fun (x29 : LCol)=>cond (x1.kind != x29.kind) (some (Flow.ret (([],7) : List LCol × Int)))
    (cond x1.nullable (ae (aC s1 (j1 : Int)) fun (x51 : LCol)=>be (s1.set ((j1 : Int).toNat) (LCol.mk x51.name x51.kind true)) fun (y8 : List LCol)=>some (.next y8))
     (cond (kind == (6 : Int)) (ae (aC b (j1 : Int)) fun (x46 : LCol)=>ae (aC s1 (j1 : Int)) fun (x51 : LCol)=>be (s1.set ((j1 : Int).toNat) (LCol.mk x51.name x51.kind x46.nullable)) fun (y9 : List LCol)=>some (.next y9))
      (ae (aC s1 (j1 : Int)) fun (x51 : LCol)=>be (s1.set ((j1 : Int).toNat) (LCol.mk x51.name x51.kind false)) fun (y10 : List LCol)=>some (.next y10)))))
   (fun j s=>s = (List.zipWith z a b).take j ++ a.drop j ∧ (a.take j).map LCol.kind = (b.take j).map LCol.kind) (fun r=>r = ([],7) ∧ a.map LCol.kind ≠ b.map LCol.kind) a 0 a ⟨by simp,rfl⟩ (fun k x s hk hI=>by
    simp only [Nat.zero_add] at hI ⊢
    have hka := (zg.1 hk).1
    have hxe := (zg.1 hk).2
    have hkb : k < b.length := by omega
    rw [kC hkb,bPs,bPs]
    by_cases hkk : x.kind = b[k].kind
    ·have hzl : ((List.zipWith z a b).take k).length = k := by simp; omega
     have hs : s[k]? = some x := by
      rw [hI.1,List.getElem?_append_right (by omega),hzl,Nat.sub_self,List.getElem?_drop,Nat.add_zero,hk]
     have hkinds : (a.take (k + 1)).map LCol.kind = (b.take (k + 1)).map LCol.kind := by
      rw [List.take_add_one,List.take_add_one,hk,ze hkb,List.map_append,List.map_append,hI.2]
      congr 1
      show [x.kind] = [b[k].kind]
      rw [hkk]
     have hset : ∀ v : LCol,v = z x b[k] → s.set k v = (List.zipWith z a b).take (k + 1) ++ a.drop (k + 1) := by
      intro v hv
      rw [hI.1,List.set_append_right _ _ (by omega),hzl,Nat.sub_self]
      rw [List.drop_eq_getElem_cons hka,List.set_cons_zero,List.take_add_one,List.append_assoc]
      congr 1
      rw [List.getElem?_zipWith,hk,ze hkb]
      simp [hv]
     rw [bneF hkk,zd,jS hs]
     simp only [bPs,cj,Int.toNat_natCast]
     cases hx : x.nullable with
     | true=>exact ⟨_,rfl,hset _ (by simp [z,hx]),hkinds⟩
     | false =>
      by_cases h6 : kind = 6
      ·exact ⟨.next _,by rw [beqT h6]; rfl,hset _ (by simp [z,hx,h6]),hkinds⟩
      ·exact ⟨.next _,by rw [beqF h6]; rfl,hset _ (by simp [z,hx,h6]),hkinds⟩
    ·refine ⟨.ret ([],7),by rw [bneT hkk]; rfl,rfl,fun he=>hkk ?_⟩
     have := congrArg (fun l=>l[k]?) he
     simp only [List.getElem?_map,hk,ze hkb,Option.map_some,zo] at this
     exact this)
  rw [hfl,bPs]
  cases fl with
  | brk s=>exact absurd hr (by simp)
  | ret r=>rw [hr.1,zy (fun h=>hr.2 h.2)]; rfl
  | next s =>
   simp only [Nat.zero_add] at hr
   rw [kJ,hr.1,zp ⟨hl,by have := hr.2; rwa [List.take_length,hl,List.take_length] at this⟩]
   have : (List.zipWith z a b).take a.length = List.zipWith z a b := List.take_of_length_le (by simp; omega)
   rw [this,List.drop_length,List.append_nil]
 ·rw [natNE,zf hl,zy (fun h=>hl h.1)]
  rfl
theorem nc {α : Type} {l : List α} {d : α} (h : 0 < l.length) : aC l 0 = some (l.getD 0 d) := by
 cases l with
 | nil=>simp at h
 | cons a l=>rfl
theorem getD1 {α : Type} {l : List α} {d : α} (h : 1 < l.length) : aC l 1 = some (l.getD 1 d) := by
 match l with
 | []=>simp at h
 | [_]=>simp at h
 | a :: b :: l=>rfl
theorem e0_get {q : LQuery} (h : 0 < q.exprs.length) : aC q.exprs 0 = some (e0Q q) := by
 unfold e0Q
 cases hq : q.exprs with
 | nil=>rw [hq] at h; simp at h
 | cons a l=>rfl
theorem mC (l : List (List UInt8)) (v : List UInt8) : bv l v = some (decide (v ∈ l)) := by
 unfold bv dy
 rw [idxF2 (p := fun x=>v == x),bPs,oE]
 congr 1
 by_cases h : v ∈ l
 ·rw [zt h,List.any_eq_true]; exact ⟨v,h,by simp⟩
 ·rw [zf h,List.any_eq_false]
  intro x hx he
  exact h (by simp at he; rwa [he])
theorem agg_eq (c : LChecker) (cols : List LCol) (a : LAggregateCall) : fH c cols a = some (aggQ c.vars cols a) := by
 unfold fH aggQ
 simp only [cj,mC,bPs]
 by_cases h1 : ec a.name = false
 ·simp [h1]
 have h1' : ec a.name = true := by simpa using h1
 by_cases h2 : a.function ∈ [lG,sSum,sMin,sMax]
 ·rw [zt (show a.function ∈ ([[99,111,117,110,116],[115,117,109],[109,105,110],[109,97,120]] : List (List UInt8)) from h2)]
  cases ha : a.args with
  | nil =>
   by_cases h3 : a.function = lG
   ·simp [h1',h3]
   ·have h3' : (a.function == ([99,111,117,110,116] : List UInt8)) = false := by simpa using h3
    simp [h1',h3,h2,h3']
  | cons e l =>
   cases l with
   | cons e2 l =>
    have : (1 : Int) < (l.length : Int) + 1 + 1 := by omega
    simp [h1',h2,this]
   | nil =>
    simp only [h1',Bool.not_true,zd,List.length_singleton]
    have hno : ¬ (True = False ∨ ¬ a.function ∈ [lG,sSum,sMin,sMax] ∨ 1 < 1 ∨ (1 < 1 ∧ a.function ≠ lG)) := by simp [h2]
    simp only [aC]
    by_cases h4 : (fG cols c.vars e).2.2 = 0
    ·by_cases h5 : (fG cols c.vars e).1 = 0
     ·simp [h2,h4,h5]
     ·by_cases h6 : a.function = sSum
      ·by_cases h7 : (fG cols c.vars e).1 = 1
       ·simp [h4,h6,h7]
       ·simp [h4,h5,h6,h7,bneT h7]
      ·have h6' : (a.function == ([115,117,109] : List UInt8)) = false := by simpa using h6
       by_cases h8 : a.function = lG
       ·simp [h4,h5,h8,beqF h5]
       ·have h8' : (a.function == ([99,111,117,110,116] : List UInt8)) = false := by simpa using h8
        simp [h2,h4,h5,h6,h8,h6',h8',beqF h5]
    ·simp [h2,h4,bneT h4]
 ·rw [zf (show ¬ a.function ∈ ([[99,111,117,110,116],[115,117,109],[109,105,110],[109,97,120]] : List (List UInt8)) from h2)]
  simp [h1',h2]
theorem namedE_run (vars cols : List LCol) (names : List (List UInt8)) : ∀ (es : List LExpr) (j : Nat) (s : List LCol),es.length + j = names.length → s.length + es.length ≤ 10000000 →
  ∀ k : List LCol → Option (List LCol × Int),ae (aM (σ := List LCol) (ρ := ((List LCol) × Int)) (fun (j1 : Nat) (x1 : LExpr) (s1 : List LCol) =>
  be (fG cols vars x1) fun x31 =>
  ae (aC names (j1 : Int)) fun (x39 : List UInt8) =>
  be (ec x39) fun x41 =>
  cond (!x41)
   (some (.ret ([],3)))
   (cond (x31.2.2 != (0 : Int))
    (some (.ret ([],x31.2.2)))
    (cond (x31.1 == (0 : Int))
     (some (.ret ([],7)))
     (ae (aC names (j1 : Int)) fun (x54 : List UInt8) =>
     ae (dF 32 s1 ([(LCol.mk x54 x31.1 x31.2.1)] : List LCol)) fun (x60 : List LCol) =>
     some (.next x60))))) j es s) (fun fl1=>fl1.thenR k) = if (eg vars cols es (names.drop j)).2 ≠ 0 then some ([],(eg vars cols es (names.drop j)).2) else k (s ++ (eg vars cols es (names.drop j)).1)
 | [],j,s,_,_,k=>by simp [aM,eg]
 | e :: es,j,s,hl,hb,k=>by
  have hj : j < names.length := by simp at hl; omega
  rw [aM,List.drop_eq_getElem_cons hj,eg,cj,kC hj,bPs,cj]
  cases h1 : ec names[j] with
  | false=>simp
  | true =>
   simp only [Bool.not_true,zd,Bool.true_eq_false,if_false]
   by_cases h2 : (fG cols vars e).2.2 = 0
   ·rw [bneF h2,zd]
    simp only [h2,ne_eq,not_true_eq_false,if_false]
    by_cases h3 : (fG cols vars e).1 = 0
    ·rw [beqT h3]; simp [h3]
    ·rw [beqF h3,zd,bPs,cU (by decide) (by simp at hb ⊢; omega),bPs]
     simp only [h3,if_false]
     rw [namedE_run vars cols names es (j + 1) _ (by simp at hl; omega) (by simp at hb ⊢; omega) k]
     by_cases h4 : (eg vars cols es (names.drop (j + 1))).2 = 0
     ·simp [h4]
     ·simp [h4]
   ·rw [bneT h2]
    simp [h2]
theorem namedA_run (c : LChecker) (cols : List LCol) : ∀ (l : List LAggregateCall) (j : Nat) (s : List LCol),s.length + l.length ≤ 10000000 →
  ae (aM (σ := List LCol) (ρ := ((List LCol) × Int)) (fun (_ : Nat) (x2 : LAggregateCall) (s2 : List LCol) =>
  ae (fH c cols x2) fun x73 =>
  cond (x73.2 != (0 : Int))
   (some (.ret ([],x73.2)))
   (ae (dF 32 s2 ([(LCol.mk x2.name x73.1 (!(x2.function == ([99,111,117,110,116] : List UInt8))))] : List LCol)) fun (x88 : List LCol) =>
   some (.next x88))) j l s) (fun fl2=>fl2.thenR fun (s2 : List LCol)=>some (s2,0)) = some (if (gC c.vars cols l).2 ≠ 0 then ([],(gC c.vars cols l).2) else (s ++ (gC c.vars cols l).1,0))
 | [],j,s,_=>by simp [aM,gC]
 | a :: l,j,s,hb=>by
  rw [aM,gC,agg_eq,bPs]
  by_cases h1 : (aggQ c.vars cols a).2 = 0
  ·rw [bneF h1,zd,cU (by decide) (by simp at hb ⊢; omega),bPs]
   simp only [h1,ne_eq,not_true_eq_false,if_false]
   rw [namedA_run c cols l (j + 1) _ (by simp at hb ⊢; omega)]
   by_cases h4 : (gC c.vars cols l).2 = 0
   ·simp [h4]
   ·simp [h4]
  ·rw [bneT h1]
   simp [h1]
theorem named_eq (c : LChecker) (q : LQuery) (cols : List LCol) (hl : q.exprs.length = q.names.length) (hb : q.exprs.length ≤ 1000000 ∧ q.aggregates.length ≤ 1000000) : ez c q cols = some (namedQ c.vars cols q) := by
 unfold ez namedQ
 rw [namedE_run c.vars cols q.names q.exprs 0 [] (by omega) (by simp; omega),List.drop_zero]
 by_cases h : (eg c.vars cols q.exprs q.names).2 = 0
 ·have hlen : ∀ (es : List LExpr) (ns : List (List UInt8)),(eg c.vars cols es ns).1.length ≤ es.length := by
   intro es
   induction es with
   | nil=>intro ns; simp [eg]
   | cons e es ih =>
    intro ns
    cases ns with
    | nil=>simp [eg]
    | cons n ns =>
     simp only [eg]
     split
     ·simp
     ·split
      ·simp
      ·split
       ·simp
       ·split
        ·simp
        ·have := ih ns; simp; omega
  simp only [h,ne_eq,not_true_eq_false,if_false,List.nil_append]
  rw [namedA_run c cols q.aggregates 0 _ (by have := hlen q.exprs q.names; omega)]
 ·simp [h]
structure SmallQ (q : LQuery) : Prop where
 nodes : (bJ q).length ≤ 10000000
 here : ∀ x ∈ bJ q,x.exprs.length ≤ 1000000 ∧ x.aggregates.length ≤ 1000000
theorem mem_nodes {q x y : LQuery} (h : x ∈ q.inputs) (hy : y ∈ bJ x) : y ∈ bJ q := by
 rw [eT]
 exact List.mem_cons_of_mem _ (List.mem_flatten.2 ⟨_,List.mem_map.2 ⟨x,h,rfl⟩,hy⟩)
theorem self_nodes (q : LQuery) : q ∈ bJ q := by rw [eT]; exact List.mem_cons_self
theorem SmallQ.sub {q x : LQuery} (h : SmallQ q) (hx : x ∈ q.inputs) : SmallQ x :=
 ⟨by have := kA hx; have := h.nodes; omega,fun y hy=>h.here y (mem_nodes hx hy)⟩
theorem SmallQ.self {q : LQuery} (h : SmallQ q) : q.exprs.length ≤ 1000000 ∧ q.aggregates.length ≤ 1000000 := h.here q (self_nodes q)
structure ShapeOk (q : LQuery) : Prop where
 kind : 1 ≤ q.kind ∧ q.kind ≤ 10
 arity : q.inputs.length = nP q.kind
 one : q.kind = 2 ∨ q.kind = 4 ∨ q.kind = 5 → q.exprs.length = 1
 named : q.kind = 3 ∨ q.kind = 8 → q.exprs.length = q.names.length
 aggs : q.kind ≠ 8 → q.aggregates = []
 sorted : q.kind = 9 → q.exprs.length = q.descending.length
 limit : q.kind = 10 → 0 ≤ q.count ∧ 0 ≤ q.offset
theorem shape_ok {q : LQuery} (h : jA q = true) : ShapeOk q := by
 unfold jA at h
 simp only [Bool.and_eq_true,decide_eq_true_eq] at h
 obtain ⟨⟨⟨⟨⟨⟨⟨⟨h1,h2⟩,h3⟩,h4⟩,h5⟩,h6⟩,h7⟩,h8⟩,h9⟩ := h
 refine ⟨⟨h1,h2⟩,h3,fun hk=>?_,fun hk=>?_,fun hk=>?_,fun hk=>?_,fun hk=>?_⟩
 ·rw [zp hk] at h9; simpa using h9
 ·rw [zy (by omega),zp hk] at h9; simp at h9; exact h9.1
 ·have : (q.kind == 8) = false := beqF hk
  rw [this] at h6; simp at h6; exact h6
 ·rw [zy (by omega),zy (by omega),zp hk] at h9; simp at h9; exact h9.1
 ·rw [zy (by omega),zy (by omega),zy (by omega),zp hk] at h9; simp at h9; omega
theorem join_run (left : Bool) : ∀ (b : List LCol) (j : Nat) (a : List LCol),a.length + b.length ≤ 10000000 →
  aM (σ := List LCol) (ρ := Empty) (fun (_ : Nat) (x2 : LCol) (s2 : List LCol)=>cond x2.nullable
          (ae (dF 32 s2 ([(LCol.mk x2.name x2.kind true)] : List LCol)) fun (x76 : List LCol)=>some (.next x76))
          (ae (dF 32 s2 ([(LCol.mk x2.name x2.kind left)] : List LCol)) fun (x76 : List LCol)=>some (.next x76))) j b a = some (.next (nz a b left))
 | [],j,a,_=>by simp [aM,nz]
 | x :: b,j,a,h=>by
  have step : (cond x.nullable (ae (dF 32 a ([(LCol.mk x.name x.kind true)] : List LCol)) fun (x76 : List LCol)=>some (Flow.next (ρ := Empty) x76))
    (ae (dF 32 a ([(LCol.mk x.name x.kind left)] : List LCol)) fun (x76 : List LCol)=>some (.next x76))) = some (.next (a ++ [⟨x.name,x.kind,x.nullable || left⟩])) := by
   rw [cU (by decide) (by simp at h ⊢; omega),cU (by decide) (by simp at h ⊢; omega)]
   cases x.nullable <;> simp
  rw [aM,step]
  simp only
  rw [join_run left b (j + 1) _ (by simp at h ⊢; omega)]
  simp [nz]
theorem sort_run (vars cols : List LCol) (ins : List (List LCol)) (h0 : aC ins 0 = some cols) : ∀ (es : List LExpr) (j : Nat) (k : Unit → Option (List LCol × Int)),
  ae (aM (σ := Unit) (ρ := ((List LCol) × Int)) (fun (_ : Nat) (x5 : LExpr) (_ : Unit)=>ae (aC ins 0) fun (x122 : List LCol)=>be (fG x122 vars x5) fun x127=>cond (x127.2.2 != (0 : Int)) (some (.ret ([],x127.2.2))) (some (.next ()))) j es ()) (fun fl5=>fl5.thenR k) =
   if ld vars cols es ≠ 0 then some ([],ld vars cols es) else k ()
 | [],j,k=>by simp [aM,ld]
 | e :: es,j,k=>by
  rw [aM,ld,h0,bPs,cj]
  by_cases h : (fG cols vars e).2.2 = 0
  ·rw [bneF h,zd]
   simp only [h,ne_eq,not_true_eq_false,if_false]
   rw [← h0]
   exact sort_run vars cols ins h0 es (j + 1) k
  ·rw [bneT h]; simp [h]
theorem out_eq {c : LChecker} {q : LQuery} {ins : List (List LCol)} (hs : ShapeOk q) (hsm : SmallQ q) (hl : ins.length = q.inputs.length) (hb : ∀ l ∈ ins,l.length ≤ 20) : gP c q ins = some (lQ c q ins) := by
 obtain ⟨hk,ha,h1,hn,_,_,_⟩ := hs
 have hself := hsm.self
 have hi : ∀ i,i < ins.length → (ins.getD i []).length ≤ 20 := fun i hi=>by
  rw [List.getD_eq_getElem?_getD,ze hi]
  exact hb _ (List.getElem_mem hi)
 have e0 : q.exprs.length = 1 → aC q.exprs 0 = some (e0Q q) := fun h=>e0_get (by omega)
 unfold gP lQ
 have kk : q.kind = 1 ∨ q.kind = 2 ∨ q.kind = 3 ∨ q.kind = 4 ∨ q.kind = 5 ∨ q.kind = 6 ∨ q.kind = 7 ∨ q.kind = 8 ∨ q.kind = 9 ∨ q.kind = 10 := by omega
 rcases kk with h | h | h | h | h | h | h | h | h | h
 ·rw [h,idx_table]
  simp only [bPs]
  rcases find_idx (fun a0=>eu a0 q) c.s.tables with ⟨f1,f2⟩ | ⟨t,f1,f2,f3⟩
  ·have f1' : c.s.tables.find? (fun t=>t.name == q.table) = none := f1
   rw [f2,f1']
   rfl
  ·have f1' : c.s.tables.find? (fun t=>t.name == q.table) = some t := f1
   rw [f1',zf (show ¬ cu (fun a0=>eu a0 q) c.s.tables < 0 from by omega),nu f2 f3]
   rfl
 all_goals rw [h] at ha
 all_goals simp only [nP] at ha
 ·have g0 : aC ins 0 = some (ins.getD 0 []) := nc (by simp at ha; omega)
  rw [h,g0,e0 (h1 (.inl h))]
  simp [cj]
 ·have g0 : aC ins 0 = some (ins.getD 0 []) := nc (by simp at ha; omega)
  rw [h,g0]
  simp only [bPs]
  rw [named_eq c q _ (hn (.inl h)) hself]
  simp [cj]
 ·have g0 : aC ins 0 = some (ins.getD 0 []) := nc (by simp at ha; omega)
  have g1 : aC ins 1 = some (ins.getD 1 []) := getD1 (by simp at ha; omega)
  rw [h,g0,g1,e0 (h1 (.inr (.inl h)))]
  simp only [bPs]
  rw [join_run ((4 : Int) == 5) _ 0 _ (by have := hi 0 (by simp at ha; omega); have := hi 1 (by simp at ha; omega); omega)]
  simp [cj]
 ·have g0 : aC ins 0 = some (ins.getD 0 []) := nc (by simp at ha; omega)
  have g1 : aC ins 1 = some (ins.getD 1 []) := getD1 (by simp at ha; omega)
  rw [h,g0,g1,e0 (h1 (.inr (.inr h)))]
  simp only [bPs]
  rw [join_run ((5 : Int) == 5) _ 0 _ (by have := hi 0 (by simp at ha; omega); have := hi 1 (by simp at ha; omega); omega)]
  simp [cj]
 ·have g0 : aC ins 0 = some (ins.getD 0 []) := nc (by simp at ha; omega)
  have g1 : aC ins 1 = some (ins.getD 1 []) := getD1 (by simp at ha; omega)
  rw [h,g0,g1]
  simp only [bPs,set_ok]
  simp [cj]
 ·have g0 : aC ins 0 = some (ins.getD 0 []) := nc (by simp at ha; omega)
  have g1 : aC ins 1 = some (ins.getD 1 []) := getD1 (by simp at ha; omega)
  rw [h,g0,g1]
  simp only [bPs,set_ok]
  simp [cj]
 ·have g0 : aC ins 0 = some (ins.getD 0 []) := nc (by simp at ha; omega)
  rw [h,g0]
  simp only [bPs]
  rw [named_eq c q _ (hn (.inr h)) hself]
  simp [cj]
 ·have g0 : aC ins 0 = some (ins.getD 0 []) := nc (by simp at ha; omega)
  rw [h,sort_run c.vars _ ins g0,g0]
  simp only [cj,bPs]
  by_cases hse : ld c.vars (ins.getD 0 []) q.exprs = 0
  ·simp only [hse,ne_eq,not_true_eq_false,if_false]; rfl
  ·simp only [hse,ne_eq,not_false_eq_true,if_true]; rfl
 ·have g0 : aC ins 0 = some (ins.getD 0 []) := nc (by simp at ha; omega)
  rw [h,g0]
  simp [cj]
def dL : List (List LCol × Int) → List (List LCol) × Int
 | []=>([],0)
 | r :: l=>if r.2 ≠ 0 then ([],r.2) else if (dL l).2 ≠ 0 then ([],(dL l).2) else (r.1 :: (dL l).1,0)
def oc (c : LChecker) (q : LQuery) (ins : List (List LCol × Int)) : List LCol × Int :=
 if jA q = false then ([],3) else if (dL ins).2 ≠ 0 then ([],(dL ins).2)
 else if (lQ c q (dL ins).1).2 ≠ 0 then ([],(lQ c q (dL ins).1).2)
 else if 20 < (lQ c q (dL ins).1).1.length then ([],2)
 else if ((lQ c q (dL ins).1).1.map LCol.name).Nodup then ((lQ c q (dL ins).1).1,0) else ([],23)
def fc (c : LChecker) (q : LQuery) : List LCol × Int := oc c q (q.inputs.attach.map fun x=>fc c x.1)
termination_by SizeOf.sizeOf q
decreasing_by exact LQuery.inputs_lt x.2
theorem colsQ_eq (c : LChecker) (q : LQuery) : fc c q = oc c q (q.inputs.map (fc c)) := by
 rw [fc,List.attach_map_val (f := fc c)]
theorem ry (f : LQuery → Option (List LCol × Int)) (g : LQuery → List LCol × Int) : ∀ (l : List LQuery) (j : Nat) (s : List (List LCol)),(∀ x ∈ l,f x = some (g x)) → s.length + l.length ≤ 10000000 → ∀ k : List (List LCol) → Option (List LCol × Int),
  ae (aM (σ := List (List LCol)) (ρ := ((List LCol) × Int)) (fun (_ : Nat) (x1 : LQuery) (s1 : List (List LCol))=>ae (f x1) fun x28=>cond (x28.2 != (0 : Int)) (some (.ret ([],x28.2)))
    (ae (dF 24 s1 ([x28.1] : List (List LCol))) fun (x37 : List (List LCol))=>some (.next x37))) j l s) (fun fl1=>fl1.thenR k) =
   if (dL (l.map g)).2 ≠ 0 then some ([],(dL (l.map g)).2) else k (s ++ (dL (l.map g)).1)
 | [],j,s,_,_,k=>by simp [aM,dL]
 | x :: l,j,s,h,hb,k=>by
  rw [aM,h x (by simp),bPs,List.map_cons,dL]
  by_cases h1 : (g x).2 = 0
  ·rw [bneF h1,zd,cU (by decide) (by simp at hb ⊢; omega),bPs]
   simp only [h1,ne_eq,not_true_eq_false,if_false]
   rw [ry f g l (j + 1) _ (fun y hy=>h y (by simp [hy])) (by simp at hb ⊢; omega) k]
   by_cases h2 : (dL (l.map g)).2 = 0
   ·simp [h2]
   ·simp [h2]
  ·rw [bneT h1]; simp [h1]
theorem pY : ∀ {l : List (List LCol × Int)},(dL l).2 = 0 → (∀ r ∈ l,r.2 = 0) ∧ (dL l).1 = l.map (·.1)
 | [],_=>⟨by simp,rfl⟩
 | r :: l,h=>by
  simp only [dL] at h ⊢
  by_cases h1 : r.2 = 0
  ·by_cases h2 : (dL l).2 = 0
   ·obtain ⟨a,b⟩ := pY h2
    refine ⟨fun x hx=>?_,by simp [h1,h2,b]⟩
    rcases List.mem_cons.1 hx with rfl | hx
    ·exact h1
    ·exact a x hx
   ·simp [h1,h2] at h
  ·simp [h1] at h
theorem dup_run (out : List LCol) : ae (aM (σ := Unit) (ρ := ((List LCol) × Int)) (fun (j2 : Nat) (x2 : LCol) (_ : Unit) =>
     ae (mi out 0 (j2 : Int)) fun (x61 : List LCol) =>
     ae (bW x61 (fun a0=>some (cm a0 x2))) fun x63 =>
     cond x63 (some (.ret ([],23))) (some (.next ()))) 0 out ()) (fun fl2=>fl2.thenR fun (_ : Unit)=>some (out,0)) = some (if (out.map LCol.name).Nodup then (out,0) else ([],23)) := by
 obtain ⟨fl,hfl,hr⟩ := fW (step := fun (j2 : Nat) (x2 : LCol) (_ : Unit) =>
     ae (mi out 0 (j2 : Int)) fun (x61 : List LCol) =>
     ae (bW x61 (fun a0=>some (cm a0 x2))) fun x63 =>
     cond x63 (some (Flow.ret (([],23) : List LCol × Int))) (some (.next ())))
  (fun j _=>((out.take j).map LCol.name).Nodup) (fun r=>r = ([],23) ∧ ¬ (out.map LCol.name).Nodup) out 0 () (by simp) (fun k x s hk hI=>by
   simp only [Nat.zero_add] at hI ⊢
   have hkl := (zg.1 hk).1
   rw [pj ⟨by omega,by omega,by omega⟩,bPs]
   unfold bW
   rw [idx_column,bPs,bPs,oE]
   simp only [Int.toNat_natCast,Int.toNat_zero,List.drop_zero]
   cases ha : (out.take k).any fun a0=>cm a0 x with
   | true =>
    refine ⟨_,rfl,rfl,fun hnd=>?_⟩
    obtain ⟨y,hy,he⟩ := List.any_eq_true.1 ha
    have he : y.name = x.name := by simpa [cm] using he
    obtain ⟨i,hi,hyi⟩ := List.mem_take_iff_getElem.1 hy
    have hii : i < k := by omega
    rw [List.nodup_iff_pairwise_ne,List.pairwise_iff_getElem] at hnd
    refine hnd i k (by simp; omega) (by simpa using hkl) hii ?_
    simp only [List.getElem_map]
    rw [(zg.1 hk).2,hyi,he]
   | false =>
    refine ⟨_,rfl,?_⟩
    simp only
    rw [List.take_add_one,hk,List.map_append,List.nodup_append]
    refine ⟨hI,by simp,fun a ha' b hb hab=>?_⟩
    simp at hb
    subst hb
    subst hab
    obtain ⟨y,hy,he⟩ := List.mem_map.1 ha'
    have := List.any_eq_false.1 ha y hy
    exact this (by simpa [cm] using he))
 rw [hfl,bPs]
 cases fl with
 | brk s=>exact absurd hr (by simp)
 | ret r=>rw [thenR_retS,hr.1,zy hr.2]
 | next s =>
  simp only [Nat.zero_add,List.take_length] at hr
  rw [kJ,zp hr]
theorem colsQ_len (c : LChecker) (q : LQuery) : (fc c q).1.length ≤ 20 := by
 rw [colsQ_eq]
 unfold oc
 repeat' split
 all_goals first | (simp; done) | (simp only; omega)
theorem cols_ok (c : LChecker) : ∀ q : LQuery,SmallQ q → fB c q = some (fc c q) := by
 refine LQuery.ind fun q ih hsm=>?_
 refine mZ (γ := LChecker) (F := fun n c q=>eH n c q) (O := fun r c q=>eJ r c q) (fun n=>rfl) c q ?_ (fun x hx=>⟨_,ih x hx (hsm.sub hx)⟩) ?_
 ·intro r r' h
  simp only [eJ]
  congr 1
  funext b
  congr 2
  exact jj q.inputs 0 _ fun k x s hk=>by rw [h x (fu hk)]
 ·have e : ∀ c x,(gg fun n=>eH n c x) = fB c x := fun _ _=>rfl
  simp only [eJ,e]
  have hself := hsm.self
  rw [shape_eq q ⟨by omega,by omega⟩,bPs,colsQ_eq]
  unfold oc
  cases hs : jA q with
  | false=>rfl
  | true =>
   have hok := shape_ok hs
   have hin : q.inputs.length ≤ 2 := by rw [hok.arity]; unfold nP; split <;> (try split) <;> omega
   simp only [Bool.not_true,zd,Bool.true_eq_false,if_false]
   rw [ry (fB c) (fc c) q.inputs 0 [] (fun x hx=>ih x hx (hsm.sub hx)) (by simp; omega),List.nil_append]
   by_cases h1 : (dL (q.inputs.map (fc c))).2 = 0
   ·obtain ⟨a,b⟩ := pY h1
    simp only [h1,ne_eq,not_true_eq_false,if_false]
    rw [out_eq hok hsm (by rw [b]; simp) (fun l hl=>by
     rw [b] at hl
     obtain ⟨r,hr,rfl⟩ := List.mem_map.1 hl
     obtain ⟨x,_,rfl⟩ := List.mem_map.1 hr
     exact colsQ_len c x),bPs]
    generalize lQ c q (dL (q.inputs.map (fc c))).1 = o
    by_cases h2 : o.2 = 0
    ·rw [bneF h2,zd]
     simp only [h2,not_true_eq_false,if_false]
     by_cases h3 : 20 < o.1.length
     ·rw [zt (show (o.1.length : Int) > 20 from by omega),zp h3]; rfl
     ·rw [zf (show ¬ (o.1.length : Int) > 20 from by omega),zy h3,zd]
      exact dup_run o.1
    ·rw [bneT h2]; simp [h2]
   ·simp [h1]
theorem whileM_by {σ ρ : Type} {step : σ → Option (Flow σ ρ)} (I : σ → Prop) (μ : σ → Nat) (Q : σ → Prop) (R : ρ → Prop) (hs : ∀ s,I s → ∃ fl,step s = some fl ∧ (match fl with | .next s'=>I s' ∧ μ s' < μ s | .brk s'=>Q s' | .ret r=>R r)) :
  ∀ s,I s → ∃ fl,whileM step s = some fl ∧ (match fl with | .next s'=>Q s' | .brk _=>False | .ret r=>R r) := by
 intro s
 generalize hn : μ s = n
 induction n using Nat.strongRecOn generalizing s with
 | _ n ih =>
  intro hI
  obtain ⟨fl,h1,h2⟩ := hs s hI
  cases fl with
  | next s' =>
   obtain ⟨fl,h3,h4⟩ := ih (μ s') (hn ▸ h2.2) s' rfl h2.1
   exact ⟨fl,ek h1 h3,h4⟩
  | brk s'=>exact ⟨.next s',ek h1 rfl,h2⟩
  | ret r=>exact ⟨.ret r,ek h1 rfl,h2⟩
theorem gF {σ β : Type} {step : σ → Option (Flow σ Empty)} {k : σ → Option β} {R : β → Prop} {s : σ} (I : σ → Prop) (μ : σ → Nat) (Q : σ → Prop) (h0 : I s)
  (hs : ∀ s,I s → ∃ fl,step s = some fl ∧ (match fl with | .next s'=>I s' ∧ μ s' < μ s | .brk s'=>Q s' | .ret _=>False)) (hk : ∀ s',Q s' → ∃ r,k s' = some r ∧ R r) :
  ∃ r,ae (whileM step s) (fun fl=>fl.thenP k) = some r ∧ R r := by
 obtain ⟨fl,h1,h2⟩ := whileM_by (step := step) I μ Q (fun _=>False) (fun s hI=>by
  obtain ⟨fl,h1,h2⟩ := hs s hI
  refine ⟨fl,h1,?_⟩
  cases fl with
  | next s'=>exact h2
  | brk s'=>exact h2
  | ret r=>exact r.elim) s h0
 cases fl with
 | next s'=>rw [h1]; exact hk s' h2
 | brk s'=>exact absurd h2 (by simp)
 | ret r=>exact r.elim
section
variable {α : Type}
end
section
abbrev Rows := Rz
abbrev Cmp := Rq → Rq → Option Int
variable {cmp : Cmp} {d0 : Rows}
def LeO {β : Type} (o o' : Option β) : Prop := ∀ r,o = some r → o' = some r
theorem LeO.refl {β : Type} (o : Option β) : LeO o o := fun _ h=>h
theorem LeO.bind {β γ : Type} {o o' : Option β} {k k' : β → Option γ} (h : LeO o o') (hk : ∀ v,LeO (k v) (k' v)) : LeO (ae o k) (ae o' k') := by
 intro r hr
 cases o with
 | none=>cases hr
 | some v=>rw [h v rfl]; exact hk v r hr
theorem LeO.cond {β : Type} {b : Bool} {x x' y y' : Option β} (hx : LeO x x') (hy : LeO y y') : LeO (cond b x y) (cond b x' y') := by
 cases b
 ·exact hy
 ·exact hx
end
end
end Go.Proofs.YtppmcepdcpmpcaaGreatDoor

namespace Go.Proofs.YtppmcepdcpmpcaaGreatDoor
noncomputable section
open Go Go.Ab
open Go.Sort (swp insInner insOuter insertionSort siftDown heapBuild heapPop heapSort scanUp scanDown partLoop partition partEqLoop partitionEqual scanSorted shiftDown shiftUp partialIns partialInsertionSort reverseLoop reverseRange size_swp SWO PermIn SortedIn Below permIn_refl permIn_trans swp_permIn)
abbrev bM := List (List UInt8)
theorem mf {β : Type} {x y : List UInt8} (k : Bool → β) : be (bi x y) k = k (Op.bytesLess x y) := by
 have h : bi x y = Op.bytesLess x y := by
  unfold bi fV
  simp [cj]
 rw [cj,h]
section
variable {α : Type} [Inhabited α] {v : α → List UInt8} {lt : α → α → Bool}
def rpZ (v : α → List UInt8) (A : Array α) : bM := A.toList.map v
structure CmpIsZ (v : α → List UInt8) (lt : α → α → Bool) : Prop where
 is : ∀ x y,Op.bytesLess (v x) (v y) = lt x y
theorem oq {β : Type} {o : Option β} {x : β} (h : ∃ r,o = some r ∧ r = x) : o = some x := by
 obtain ⟨r,h1,rfl⟩ := h
 exact h1
theorem nk {σ β : Type} {step : σ → Option (Flow σ β)} {k : σ → Option β} {R : β → Prop} {s : σ} (I : σ → Prop) (μ : σ → Nat) (Q : σ → Prop) (h0 : I s)
  (hs : ∀ s,I s → ∃ fl,step s = some fl ∧ (match fl with | .next s'=>I s' ∧ μ s' < μ s | .brk s'=>Q s' | .ret r=>R r)) (hk : ∀ s',Q s' → ∃ r,k s' = some r ∧ R r) :
  ∃ r,ae (whileM step s) (fun fl=>fl.thenR k) = some r ∧ R r := by
 obtain ⟨fl,h1,h2⟩ := whileM_by (step := step) I μ Q R hs s h0
 cases fl with
 | next s'=>rw [h1]; exact hk s' h2
 | brk s'=>exact absurd h2 (by simp)
 | ret r=>exact ⟨r,by rw [h1]; rfl,h2⟩
theorem bu {z : Int} {n : Nat} (h : z = n := by omega) (hn : n ≤ 1000000000 := by omega) : IntKind.i64.wrap z = (n : Int) := by rw [h]; exact ep (by omega) (by omega)
omit [Inhabited α] in
theorem dX (A : Array α) : (rpZ v A).length = A.size := by simp [rpZ]
theorem dt {A : Array α} {n : Nat} (h : n < A.size) : aC (rpZ v A) (n : Int) = some (v A[n]!) := by
 rw [kC (by rw [dX]; exact h)]
 simp [rpZ,getElem!_pos A n h]
omit [Inhabited α] in
theorem rp_setZ (A : Array α) (n : Nat) (x : α) : (rpZ v A).set n (v x) = rpZ v (A.setIfInBounds n x) := by simp [rpZ]
theorem fR {β : Type} {A : Array α} {i j : Nat} (hi : i < A.size) (hj : j < A.size) (k : bM → Option β) :
  (ae (aC (rpZ v A) (j : Int)) fun (x : List UInt8)=>ae (aC (rpZ v A) (i : Int)) fun (y : List UInt8)=>ae (aC (rpZ v A) (i : Int)) fun (_ : List UInt8)=>be ((rpZ v A).set ((i : Int)).toNat x) fun (z : bM)=>ae (aC z (j : Int)) fun (_ : List UInt8)=>be (z.set ((j : Int)).toNat y) fun (w : bM)=>k w) = k (rpZ v (swp A i j)) := by
 rw [dt hj,dt hi]
 simp only [bPs,cj,Int.toNat_natCast]
 rw [rp_setZ,dt (A := A.setIfInBounds i A[j]!) (by simpa using hj),bPs,rp_setZ]
 rfl
theorem qg (a : Nat) : ∀ (j : Nat) (D : Array α),(insInner lt a j D).size = D.size
 | 0,D=>rfl
 | j + 1,D=>by
  rw [insInner]
  split
  ·rw [qg a j,size_swp]
  ·rfl
theorem ins_simZ (hC : CmpIsZ v lt) {A : Array α} {a b : Nat} (hs : A.size ≤ 1000000) (ha : a ≤ A.size) (hb : b ≤ A.size) : da (rpZ v A) (a : Int) (b : Int) = some (rpZ v (insertionSort lt A a b)) := by
 unfold da
 rw [bu (z := (a : Int) + 1) (n := a + 1)]
 refine oq (gF (fun s=>∃ (D : Array α) (i : Nat),s = (rpZ v D,(i : Int)) ∧ D.size = A.size ∧ a < i ∧ insOuter lt a b i D = insertionSort lt A a b) (fun s=>((b : Int) - s.2).toNat) (fun s=>s.1 = rpZ v (insertionSort lt A a b)) ⟨A,a + 1,rfl,rfl,by omega,rfl⟩ (fun s hI=>?_) (fun s hq=>⟨_,rfl,hq⟩))
 obtain ⟨D,i,rfl,hD,hai,hO⟩ := hI
 dsimp only
 rw [insOuter] at hO
 by_cases hlt : i < b
 ·rw [zt (show (i : Int) < (b : Int) from by omega),zc]
  rw [zp hlt] at hO
  refine gF (fun t=>∃ (E : Array α) (j : Nat),t = (rpZ v E,(j : Int)) ∧ E.size = A.size ∧ j < b ∧ a ≤ j ∧ insInner lt a j E = insInner lt a i D) (fun t=>t.2.toNat) (fun t=>t.1 = rpZ v (insInner lt a i D)) ⟨D,i,rfl,hD,hlt,by omega,rfl⟩ (fun t hI=>?_) (fun t hq=>⟨_,rfl,?_⟩)
  ·obtain ⟨E,j,rfl,hE,hjb,haj,hO2⟩ := hI
   dsimp only
   by_cases hgt : a < j
   ·obtain ⟨k,rfl⟩ : ∃ k,j = k + 1 := ⟨j - 1,by omega⟩
    rw [zt (show ((k + 1 : Nat) : Int) > (a : Int) from by omega),zc,bu (z := ((k + 1 : Nat) : Int) - 1) (n := k)]
    have hl := hC.is E[k + 1]! E[k]!
    rw [insInner] at hO2
    have hsw := fR (v := v) (A := E) (i := k + 1) (j := k) (β := Flow (bM × Int) Empty) (by omega) (by omega) (fun y=>some (.next (y,(k : Int))))
    rw [dt (by omega),bPs,dt (by omega),bPs,mf,bPs,hl]
    cases hx : lt E[k + 1]! E[k]! with
    | true =>
     rw [hx] at hO2
     dsimp only
     rw [zc]
     refine ⟨_,hsw,⟨swp E (k + 1) k,k,rfl,by rw [size_swp]; exact hE,by omega,by omega,?_⟩,by show ((k : Int)).toNat < (((k + 1 : Nat) : Int)).toNat; omega⟩
     rw [← hO2,zp (by simp; omega)]
    | false =>
     rw [hx] at hO2
     refine ⟨_,rfl,?_⟩
     show rpZ v E = rpZ v _
     rw [← hO2,zy (by simp)]
   ·rw [zf (show ¬ (j : Int) > (a : Int) from by omega),zd]
    refine ⟨_,rfl,?_⟩
    show rpZ v E = rpZ v _
    rw [← hO2]
    cases j with
    | zero=>rfl
    | succ k=>rw [insInner,zy (by simp; omega)]
  ·have e := bu (z := (i : Int) + 1) (n := i + 1)
   show (∃ (D : Array α) (j : Nat),(t.1,IntKind.i64.wrap ((i : Int) + 1)) = (rpZ v D,(j : Int)) ∧ _) ∧ ((b : Int) - IntKind.i64.wrap ((i : Int) + 1)).toNat < ((b : Int) - (i : Int)).toNat
   rw [e]
   exact ⟨⟨insInner lt a i D,i + 1,by rw [hq],by rw [qg]; exact hD,by omega,hO⟩,by omega⟩
 ·rw [zf (show ¬ (i : Int) < (b : Int) from by omega),zd]
  rw [zy hlt] at hO
  exact ⟨_,rfl,by show rpZ v D = _; rw [hO]⟩
theorem iO (hi first : Nat) : ∀ (n root : Nat) (D : Array α),hi - root ≤ n → (siftDown lt hi first root D).size = D.size
 | 0,root,D,hn=>by
  rw [siftDown,dif_pos (by omega)]
 | n + 1,root,D,hn=>by
  rw [siftDown]
  split
  ·rfl
  ·split
   ·split
    ·rfl
    ·split
     ·rw [iO hi first n _ _ (by omega),size_swp]
     ·rfl
   ·split
    ·rfl
    ·rw [iO hi first n _ _ (by omega),size_swp]
theorem sift_simZ (hC : CmpIsZ v lt) {A : Array α} {lo hi first : Nat} (hs : A.size ≤ 1000000) (hh : first + hi ≤ A.size) (hl : lo ≤ A.size) : cX (rpZ v A) (lo : Int) (hi : Int) (first : Int) = some (rpZ v (siftDown lt hi first lo A)) := by
 unfold cX
 refine oq (nk (fun s=>∃ (D : Array α) (r : Nat),s = (rpZ v D,(r : Int)) ∧ D.size = A.size ∧ r ≤ 1000000 ∧ siftDown lt hi first r D = siftDown lt hi first lo A) (fun s=>((hi : Int) - s.2).toNat) (fun s=>s.1 = rpZ v (siftDown lt hi first lo A)) ⟨A,lo,rfl,rfl,by omega,rfl⟩ (fun s hI=>?_) (fun s hq=>⟨_,rfl,hq⟩))
 obtain ⟨D,r,rfl,hD,hr,hO⟩ := hI
 dsimp only
 rw [bu (z := 2 * (r : Int)) (n := 2 * r),bu (z := ((2 * r : Nat) : Int) + 1) (n := 2 * r + 1),bu (z := ((2 * r + 1 : Nat) : Int) + 1) (n := 2 * r + 2)]
 rw [siftDown] at hO
 by_cases hge : 2 * r + 1 ≥ hi
 ·rw [zt (show ((2 * r + 1 : Nat) : Int) ≥ (hi : Int) from by omega),zc]
  rw [dif_pos hge] at hO
  exact ⟨_,rfl,by show rpZ v D = _; rw [hO]⟩
 ·rw [zf (show ¬ ((2 * r + 1 : Nat) : Int) ≥ (hi : Int) from by omega),zd,bu (z := (first : Int) + ((2 * r + 1 : Nat) : Int)) (n := first + (2 * r + 1)),bu (z := ((first + (2 * r + 1) : Nat) : Int) + 1) (n := first + (2 * r + 1) + 1) (by omega) (by omega),bu (z := (first : Int) + (r : Int)) (n := first + r)]
  rw [dif_neg hge] at hO
  -- which child
  obtain ⟨ch,h1,h2,h3⟩ : ∃ ch : Nat,ch < hi ∧ r < ch ∧ (ae (cond (decide (((2 * r + 2 : Nat) : Int) < (hi : Int)))
     (ae (aC (rpZ v D) ((first + (2 * r + 1) : Nat) : Int)) fun (x29 : List UInt8)=>ae (aC (rpZ v D) ((first + (2 * r + 1) + 1 : Nat) : Int)) fun (x36 : List UInt8)=>be (bi x29 x36) fun x38=>some (rpZ v D,x38))
     (some (rpZ v D,false))) fun (t10 : bM × Bool)=>some (cond t10.2 ((t10.1,((2 * r + 2 : Nat) : Int))) ((t10.1,((2 * r + 1 : Nat) : Int))))) = some (rpZ v D,(ch : Int)) ∧
    (if !lt D[first + r]! D[first + ch]! then D else siftDown lt hi first ch (swp D (first + r) (first + ch))) = siftDown lt hi first lo A := by
   by_cases hc1 : 2 * r + 2 < hi
   ·have hl := hC.is D[first + (2 * r + 1)]! D[first + (2 * r + 1) + 1]!
    rw [zt (show ((2 * r + 2 : Nat) : Int) < (hi : Int) from by omega),zc,dt (by omega),bPs,dt (by omega),bPs,mf,bPs,hl]
    cases hx : lt D[first + (2 * r + 1)]! D[first + (2 * r + 1) + 1]! with
    | true =>
     refine ⟨2 * r + 2,hc1,by omega,rfl,?_⟩
     rw [zp (by rw [hx]; simp; omega)] at hO
     rw [← hO]
     split <;> rfl
    | false =>
     refine ⟨2 * r + 1,by omega,by omega,rfl,?_⟩
     rw [zy (by rw [hx]; simp)] at hO
     exact hO
   ·rw [zf (show ¬ ((2 * r + 2 : Nat) : Int) < (hi : Int) from by omega),zd,bPs]
    refine ⟨2 * r + 1,by omega,by omega,rfl,?_⟩
    rw [zy (by simp; omega)] at hO
    exact hO
  generalize hq : (cond (decide (((2 * r + 2 : Nat) : Int) < (hi : Int))) _ _ : Option (bM × Bool)) = o at h3 ⊢
  cases o with
  | none=>exact absurd h3.1 (by simp [ae])
  | some t10 =>
   obtain ⟨h3,h4⟩ := h3
   rw [bPs,zo] at h3
   rw [bPs,cj,h3]
   dsimp only
   rw [bu (z := (first : Int) + (ch : Int)) (n := first + ch)]
   have hl := hC.is D[first + r]! D[first + ch]!
   have hsw := fR (v := v) (A := D) (i := first + r) (j := first + ch) (β := Flow (bM × Int) bM) (by omega) (by omega) (fun y=>some (.next (y,(ch : Int))))
   rw [hsw,dt (by omega),bPs,dt (by omega),bPs,mf,hl]
   cases hx : lt D[first + r]! D[first + ch]! with
   | true =>
    rw [hx] at h4
    exact ⟨_,rfl,⟨swp D (first + r) (first + ch),ch,rfl,by rw [size_swp]; exact hD,by omega,h4⟩,by show ((hi : Int) - (ch : Int)).toNat < ((hi : Int) - (r : Int)).toNat; omega⟩
   | false =>
    rw [hx] at h4
    exact ⟨_,rfl,by show rpZ v D = _; rw [← h4]; rfl⟩
theorem heap_simZ (hC : CmpIsZ v lt) {A : Array α} {a b : Nat} (hs : A.size ≤ 1000000) (hab : a ≤ b) (hb : b ≤ A.size) : dR (rpZ v A) (a : Int) (b : Int) = some (rpZ v (heapSort lt A a b)) := by
 unfold dR
 have e0 : IntKind.i64.wrap (Int.tdiv (IntKind.i64.wrap (((b - a : Nat) : Int) - 1)) 2) = (((b - a - 1) / 2 + 1 : Nat) : Int) - 1 := by
  rw [ep (n := ((b - a : Nat) : Int) - 1) (by omega) (by omega)]
  by_cases h : b - a = 0
  ·rw [h]; rfl
  ·rw [Int.tdiv_eq_ediv_of_nonneg (by omega),ep (by omega) (by omega)]
   omega
 rw [bu (z := (b : Int) - (a : Int)) (n := b - a),e0,ep (n := ((b - a : Nat) : Int) - 1) (by omega) (by omega)]
 unfold heapSort
 refine oq (gF (fun s=>∃ (D : Array α) (k : Nat),s = (rpZ v D,(k : Int) - 1) ∧ D.size = A.size ∧ k ≤ b - a + 1 ∧ heapBuild lt (b - a) a k D = heapBuild lt (b - a) a ((b - a - 1) / 2 + 1) A) (fun s=>(s.2 + 1).toNat) (fun s=>∃ D : Array α,D.size = A.size ∧ s.1 = rpZ v D ∧ D = heapBuild lt (b - a) a ((b - a - 1) / 2 + 1) A) ⟨A,(b - a - 1) / 2 + 1,rfl,rfl,by omega,rfl⟩ (fun s hI=>?_) (fun s hq=>?_))
 ·obtain ⟨D,k,rfl,hD,hk,hO⟩ := hI
  dsimp only
  cases k with
  | zero =>
   rw [zf (by omega),zd]
   exact ⟨_,rfl,D,hD,rfl,hO⟩
  | succ k =>
   rw [zt (by omega),zc,show ((k + 1 : Nat) : Int) - 1 = (k : Int) from by omega,sift_simZ hC (by omega) (by omega) (by omega),bPs,cf (by rw [dX,dX,iO _ _ _ _ _ (Nat.le_refl _)]),bPs,ep (by omega) (by omega)]
   exact ⟨_,rfl,⟨_,k,rfl,by rw [iO _ _ _ _ _ (Nat.le_refl _)]; exact hD,by omega,hO⟩,by show ((k : Int) - 1 + 1).toNat < ((k : Int) + 1).toNat; omega⟩
 ·obtain ⟨D,hD,h1,h2⟩ := hq
  rw [h1,← h2]
  clear h1 h2 e0
  refine gF (fun s=>∃ (E : Array α) (k : Nat),s = (rpZ v E,(k : Int) - 1) ∧ E.size = A.size ∧ k ≤ b - a ∧ heapPop lt a k E = heapPop lt a (b - a) D) (fun s=>(s.2 + 1).toNat) (fun s=>s.1 = rpZ v (heapPop lt a (b - a) D)) ⟨D,b - a,rfl,hD,Nat.le_refl _,rfl⟩ (fun s hI=>?_) (fun s hq=>⟨_,rfl,hq⟩)
  obtain ⟨E,k,rfl,hE,hk,hO⟩ := hI
  dsimp only
  cases k with
  | zero =>
   rw [zf (by omega),zd]
   exact ⟨_,rfl,by show rpZ v E = _; rw [← hO]; rfl⟩
  | succ k =>
   rw [zt (by omega),zc,show ((k + 1 : Nat) : Int) - 1 = (k : Int) from by omega,bu (z := (a : Int) + (k : Int)) (n := a + k)]
   rw [fR (by omega) (by omega)]
   have hz : (swp E a (a + k)).size = A.size := by rw [size_swp]; exact hE
   have hsf := sift_simZ (lo := 0) (hi := k) (first := a) hC (A := swp E a (a + k)) (by omega) (by omega) (by omega)
   rw [show ((0 : Nat) : Int) = 0 from rfl] at hsf
   rw [hsf,bPs,cf (by rw [dX,dX,iO _ _ _ _ _ (Nat.le_refl _)]),bPs,ep (by omega) (by omega)]
   exact ⟨_,rfl,⟨_,k,rfl,by rw [iO _ _ _ _ _ (Nat.le_refl _)]; exact hz,by omega,hO⟩,by show ((k : Int) - 1 + 1).toNat < ((k : Int) + 1).toNat; omega⟩
theorem reverse_simZ {A : Array α} {a b : Nat} (hs : A.size ≤ 1000000) (hab : a < b) (hb : b ≤ A.size) : dp (rpZ v A) (a : Int) (b : Int) = some (rpZ v (reverseRange A a b)) := by
 unfold dp
 rw [bu (z := (b : Int) - 1) (n := b - 1)]
 refine oq (gF (fun s=>∃ (D : Array α) (i j : Nat),s = (rpZ v D,(i : Int),(j : Int)) ∧ D.size = A.size ∧ i ≤ j + 1 ∧ j < b ∧ reverseLoop i j D = reverseRange A a b) (fun s=>(s.2.2 - s.2.1).toNat) (fun s=>s.1 = rpZ v (reverseRange A a b)) ⟨A,a,b - 1,rfl,rfl,by omega,by omega,rfl⟩ (fun s hI=>?_) (fun s hq=>⟨_,rfl,hq⟩))
 obtain ⟨D,i,j,rfl,hD,hij,hjb,hO⟩ := hI
 dsimp only
 rw [reverseLoop] at hO
 by_cases hlt : i < j
 ·rw [zt (by omega),zc,bu (z := (i : Int) + 1) (n := i + 1),bu (z := (j : Int) - 1) (n := j - 1),fR (by omega) (by omega)]
  rw [zp hlt] at hO
  exact ⟨_,rfl,⟨swp D i j,i + 1,j - 1,rfl,by rw [size_swp]; exact hD,by omega,by omega,hO⟩,by show (((j - 1 : Nat) : Int) - ((i + 1 : Nat) : Int)).toNat < ((j : Int) - (i : Int)).toNat; omega⟩
 ·rw [zf (by omega),zd]
  rw [zy hlt] at hO
  exact ⟨_,rfl,by show rpZ v D = _; rw [hO]⟩
theorem up_runZ {step : bM × Int → Option (Flow (bM × Int) Empty)} {p : α → Bool} {D : Array α} {j : Nat}
  (hst : ∀ i : Nat,step (rpZ v D,(i : Int)) = if i ≤ j && p D[i]! then some (.next (rpZ v D,((i + 1 : Nat) : Int))) else some (.brk (rpZ v D,(i : Int)))) (i : Nat) : whileM step (rpZ v D,(i : Int)) = some (.next (rpZ v D,((scanUp p D j i : Nat) : Int))) := by
 generalize hn : j + 1 - i = n
 induction n generalizing i with
 | zero =>
  rw [scanUp,zy (by simp; omega)]
  exact ek (by rw [hst,zy (by simp; omega)]) rfl
 | succ n ih =>
  rw [scanUp]
  by_cases h : (decide (i ≤ j) && p D[i]!) = true
  ·rw [zp h]
   exact ek (by rw [hst,zp h]) (ih (i + 1) (by omega))
  ·rw [zy h]
   exact ek (by rw [hst,zy h]) rfl
theorem oA {step : bM × Int → Option (Flow (bM × Int) Empty)} {p : α → Bool} {D : Array α} {i : Nat} (hi : 0 < i)
  (hst : ∀ j : Nat,j < D.size → step (rpZ v D,(j : Int)) = if i ≤ j && p D[j]! then some (.next (rpZ v D,(j : Int) - 1)) else some (.brk (rpZ v D,(j : Int)))) : ∀ j : Nat,j < D.size → whileM step (rpZ v D,(j : Int)) = some (.next (rpZ v D,((scanDown p D i j : Nat) : Int)))
 | 0,hj=>by
  rw [scanDown]
  exact ek (by rw [hst 0 hj,zy (by simp; omega)]) rfl
 | j + 1,hj=>by
  have ih := oA hi hst j (by omega)
  rw [scanDown]
  by_cases h : (decide (i ≤ j + 1) && p D[j + 1]!) = true
  ·rw [zp h]
   exact ek (fl := .next (rpZ v D,(j : Int))) (by rw [hst _ hj,zp h,show ((j + 1 : Nat) : Int) - 1 = (j : Int) from by omega]) ih
  ·rw [zy h]
   exact ek (by rw [hst _ hj,zy h]) rfl
theorem pN (p q : α → Bool) (hq : ∀ x,q x = !p x) (d : Array α) {i j : Nat} (hi : 0 < i) (hij : i ≤ j + 1) :
  i ≤ scanUp p d j i ∧ scanUp p d j i ≤ j + 1 ∧ scanDown q d (scanUp p d j i) j ≤ j ∧ scanUp p d j i ≤ scanDown q d (scanUp p d j i) j + 1 ∧ (¬ scanUp p d j i > scanDown q d (scanUp p d j i) j → scanUp p d j i < scanDown q d (scanUp p d j i) j) := by
 obtain ⟨u1,u2,_,u4⟩ := Go.Sort.scanUp_spec p d j _ i rfl
 obtain ⟨w1,w2,_,w4⟩ := Go.Sort.scanDown_spec q d (scanUp p d j i) j
 have hu := u2 hij
 refine ⟨u1,hu,w1,w2 hu,fun h=>?_⟩
 have f1 := u4 (by omega)
 have f2 := w4 (by omega) (by omega)
 rw [hq] at f2
 rcases Nat.lt_or_ge (scanUp p d j i) (scanDown q d (scanUp p d j i) j) with h' | h'
 ·exact h'
 ·have e : scanUp p d j i = scanDown q d (scanUp p d j i) j := by omega
  rw [← e,f1] at f2
  cases f2
theorem upStepZ (hC : CmpIsZ v lt) {D : Array α} {a j i : Nat} (hs : D.size ≤ 1000000) (ha : a < D.size) (hj : j < D.size) :
  (cond (decide ((i : Int) ≤ (j : Int))) (ae (aC (rpZ v D) (i : Int)) fun (x39 : List UInt8)=>ae (aC (rpZ v D) (a : Int)) fun (x43 : List UInt8)=>be (bi x39 x43) fun x45=>cond x45 (some (.next (rpZ v D,(IntKind.i64.wrap ((i : Int) + (1 : Int)))))) (some (.brk (rpZ v D,(i : Int))))) (some (.brk (rpZ v D,(i : Int)))) : Option (Flow (bM × Int) Empty)) = if (decide (i ≤ j) && (fun x=>lt x D[a]!) D[i]!) = true then some (.next (rpZ v D,((i + 1 : Nat) : Int))) else some (.brk (rpZ v D,(i : Int))) := by
 by_cases h : i ≤ j
 ·rw [zt (show (i : Int) ≤ (j : Int) from by omega),zc,dt (by omega),bPs,dt ha,bPs]
  have hl := hC.is D[i]! D[a]!
  rw [mf,hl,bu (z := (i : Int) + 1) (n := i + 1)]
  cases hx : lt D[i]! D[a]! <;> simp [hx,h]
 ·rw [zf (show ¬ (i : Int) ≤ (j : Int) from by omega),zd,zy (by simp [h])]
theorem downStepZ (hC : CmpIsZ v lt) {D : Array α} {a j i : Nat} (hs : D.size ≤ 1000000) (ha : a < D.size) (hj : j < D.size) :
  (cond (decide ((i : Int) ≤ (j : Int))) (ae (aC (rpZ v D) (j : Int)) fun (x39 : List UInt8)=>ae (aC (rpZ v D) (a : Int)) fun (x43 : List UInt8)=>be (bi x39 x43) fun x45=>cond (!x45) (some (.next (rpZ v D,(IntKind.i64.wrap ((j : Int) - (1 : Int)))))) (some (.brk (rpZ v D,(j : Int))))) (some (.brk (rpZ v D,(j : Int)))) : Option (Flow (bM × Int) Empty)) = if (decide (i ≤ j) && (fun x=>!lt x D[a]!) D[j]!) = true then some (.next (rpZ v D,(j : Int) - 1)) else some (.brk (rpZ v D,(j : Int))) := by
 by_cases h : i ≤ j
 ·rw [zt (show (i : Int) ≤ (j : Int) from by omega),zc,dt (by omega),bPs,dt ha,bPs]
  have hl := hC.is D[j]! D[a]!
  rw [mf,hl,ep (n := (j : Int) - 1) (by omega) (by omega)]
  cases hx : lt D[j]! D[a]! <;> simp [hx,h]
 ·rw [zf (show ¬ (i : Int) ≤ (j : Int) from by omega),zd,zy (by simp [h])]
theorem upStepEZ (hC : CmpIsZ v lt) {D : Array α} {a j i : Nat} (hs : D.size ≤ 1000000) (ha : a < D.size) (hj : j < D.size) :
  (cond (decide ((i : Int) ≤ (j : Int))) (ae (aC (rpZ v D) (a : Int)) fun (x39 : List UInt8)=>ae (aC (rpZ v D) (i : Int)) fun (x43 : List UInt8)=>be (bi x39 x43) fun x45=>cond (!x45) (some (.next (rpZ v D,(IntKind.i64.wrap ((i : Int) + (1 : Int)))))) (some (.brk (rpZ v D,(i : Int))))) (some (.brk (rpZ v D,(i : Int)))) : Option (Flow (bM × Int) Empty)) = if (decide (i ≤ j) && (fun x=>!lt D[a]! x) D[i]!) = true then some (.next (rpZ v D,((i + 1 : Nat) : Int))) else some (.brk (rpZ v D,(i : Int))) := by
 by_cases h : i ≤ j
 ·rw [zt (show (i : Int) ≤ (j : Int) from by omega),zc,dt ha,bPs,dt (by omega),bPs]
  have hl := hC.is D[a]! D[i]!
  rw [mf,hl,bu (z := (i : Int) + 1) (n := i + 1)]
  cases hx : lt D[a]! D[i]! <;> simp [hx,h]
 ·rw [zf (show ¬ (i : Int) ≤ (j : Int) from by omega),zd,zy (by simp [h])]
theorem downStepEZ (hC : CmpIsZ v lt) {D : Array α} {a j i : Nat} (hs : D.size ≤ 1000000) (ha : a < D.size) (hj : j < D.size) :
  (cond (decide ((i : Int) ≤ (j : Int))) (ae (aC (rpZ v D) (a : Int)) fun (x39 : List UInt8)=>ae (aC (rpZ v D) (j : Int)) fun (x43 : List UInt8)=>be (bi x39 x43) fun x45=>cond x45 (some (.next (rpZ v D,(IntKind.i64.wrap ((j : Int) - (1 : Int)))))) (some (.brk (rpZ v D,(j : Int))))) (some (.brk (rpZ v D,(j : Int)))) : Option (Flow (bM × Int) Empty)) = if (decide (i ≤ j) && (fun x=>lt D[a]! x) D[j]!) = true then some (.next (rpZ v D,(j : Int) - 1)) else some (.brk (rpZ v D,(j : Int))) := by
 by_cases h : i ≤ j
 ·rw [zt (show (i : Int) ≤ (j : Int) from by omega),zc,dt ha,bPs,dt (by omega),bPs]
  have hl := hC.is D[a]! D[j]!
  rw [mf,hl,ep (n := (j : Int) - 1) (by omega) (by omega)]
  cases hx : lt D[a]! D[j]! <;> simp [hx,h]
 ·rw [zf (show ¬ (i : Int) ≤ (j : Int) from by omega),zd,zy (by simp [h])]
theorem part_simZ (hC : CmpIsZ v lt) {A : Array α} {a b p : Nat} (hs : A.size ≤ 1000000) (hap : a ≤ p) (hpb : p < b) (hb : b ≤ A.size) : dJ (rpZ v A) (a : Int) (b : Int) (p : Int) = some (((partition lt A a b p).1 : Int),(partition lt A a b p).2.1,rpZ v (partition lt A a b p).2.2) := by
 unfold dJ partition
 rw [fR (by omega) (by omega)]
 have hB : (swp A a p).size = A.size := size_swp _ _ _
 generalize swp A a p = B at hB ⊢
 dsimp only
 rw [bu (z := (b : Int) - 1) (n := b - 1),bu (z := (a : Int) + 1) (n := a + 1)]
 rw [up_runZ (v := v) (p := fun x=>lt x B[a]!) (D := B) (j := b - 1) (fun i=>upStepZ hC (by omega) (by omega) (by omega)) (a + 1),bPs,bI]
 obtain ⟨f1,f2,f3,f4,f5⟩ := pN (fun x=>lt x B[a]!) (fun x=>!lt x B[a]!) (fun _=>rfl) B (i := a + 1) (j := b - 1) (by omega) (by omega)
 generalize scanUp (fun x=>lt x B[a]!) B (b - 1) (a + 1) = i3 at f1 f2 f3 f4 f5 ⊢
 dsimp only
 rw [oA (v := v) (p := fun x=>!lt x B[a]!) (D := B) (i := i3) (by omega) (fun j hj=>downStepZ hC (by omega) (by omega) hj) (b - 1) (by omega),bPs,bI]
 generalize scanDown (fun x=>!lt x B[a]!) B i3 (b - 1) = j4 at f3 f4 f5 ⊢
 dsimp only
 by_cases hgt : i3 > j4
 ·rw [zt (show (i3 : Int) > (j4 : Int) from by omega),zc,zp hgt,fR (by omega) (by omega)]
 ·rw [zf (show ¬ (i3 : Int) > (j4 : Int) from by omega),zd,zy hgt,fR (by omega) (by omega)]
  have hlt := f5 hgt
  have hCs : (swp B i3 j4).size = A.size := by rw [size_swp]; exact hB
  generalize swp B i3 j4 = C at hCs ⊢
  rw [bu (z := (i3 : Int) + 1) (n := i3 + 1),bu (z := (j4 : Int) - 1) (n := j4 - 1)]
  refine oq (gF (fun s=>∃ (D : Array α) (i j : Nat),s = (rpZ v D,(i : Int),(j : Int)) ∧ D.size = A.size ∧ a < i ∧ i ≤ j + 1 ∧ j < b ∧ partLoop lt a i j D = partLoop lt a (i3 + 1) (j4 - 1) C) (fun s=>(s.2.2 + 1 - s.2.1).toNat) (fun s=>∃ (D : Array α) (j : Nat),s.1 = rpZ v D ∧ s.2.2 = (j : Int) ∧ D.size = A.size ∧ j < b ∧ (j,D) = partLoop lt a (i3 + 1) (j4 - 1) C) ⟨C,i3 + 1,j4 - 1,rfl,hCs,by omega,by omega,by omega,rfl⟩ (fun s hI=>?_) (fun s hq=>?_))
  ·obtain ⟨D,i,j,rfl,hD,hai,hij,hjb,hO⟩ := hI
   dsimp only
   rw [up_runZ (v := v) (p := fun x=>lt x D[a]!) (D := D) (j := j) (fun i=>upStepZ hC (by omega) (by omega) (by omega)) i,bPs,bI]
   rw [Go.Sort.partLoop_eq] at hO
   obtain ⟨g1,g2,g3,g4,g5⟩ := pN (fun x=>lt x D[a]!) (fun x=>!lt x D[a]!) (fun _=>rfl) D (i := i) (j := j) (by omega) (by omega)
   generalize scanUp (fun x=>lt x D[a]!) D j i = i5 at g1 g2 g3 g4 g5 hO ⊢
   dsimp only
   rw [oA (v := v) (p := fun x=>!lt x D[a]!) (D := D) (i := i5) (by omega) (fun j hj=>downStepZ hC (by omega) (by omega) hj) j (by omega),bPs,bI]
   generalize scanDown (fun x=>!lt x D[a]!) D i5 j = j5 at g3 g4 g5 hO ⊢
   dsimp only
   by_cases hgt : i5 > j5
   ·rw [zt (show (i5 : Int) > (j5 : Int) from by omega),zc]
    rw [zp hgt] at hO
    exact ⟨_,rfl,D,j5,rfl,rfl,hD,by omega,hO⟩
   ·have hl5 := g5 hgt
    rw [zf (show ¬ (i5 : Int) > (j5 : Int) from by omega),zd,fR (by omega) (by omega),bu (z := (i5 : Int) + 1) (n := i5 + 1),bu (z := (j5 : Int) - 1) (n := j5 - 1)]
    rw [zy hgt] at hO
    exact ⟨_,rfl,⟨swp D i5 j5,i5 + 1,j5 - 1,rfl,by rw [size_swp]; exact hD,by omega,by omega,by omega,hO⟩,by show (((j5 - 1 : Nat) : Int) + 1 - ((i5 + 1 : Nat) : Int)).toNat < ((j : Int) + 1 - (i : Int)).toNat; omega⟩
  ·obtain ⟨D,j,h1,h2,hD,hjb,h3⟩ := hq
   rw [h1,h2,← h3,fR (by omega) (by omega)]
   exact ⟨_,rfl,rfl⟩
theorem partEq_simZ (hC : CmpIsZ v lt) {A : Array α} {a b p : Nat} (hs : A.size ≤ 1000000) (hap : a ≤ p) (hpb : p < b) (hb : b ≤ A.size) : cS (rpZ v A) (a : Int) (b : Int) (p : Int) = some (((partitionEqual lt A a b p).1 : Int),rpZ v (partitionEqual lt A a b p).2) := by
 unfold cS partitionEqual
 rw [fR (by omega) (by omega)]
 have hB : (swp A a p).size = A.size := size_swp _ _ _
 generalize swp A a p = B at hB ⊢
 rw [bu (z := (b : Int) - 1) (n := b - 1),bu (z := (a : Int) + 1) (n := a + 1)]
 refine oq (gF (fun s=>∃ (D : Array α) (i j : Nat),s = (rpZ v D,(i : Int),(j : Int)) ∧ D.size = A.size ∧ a < i ∧ i ≤ j + 1 ∧ j < b ∧ partEqLoop lt a i j D = partEqLoop lt a (a + 1) (b - 1) B) (fun s=>(s.2.2 + 1 - s.2.1).toNat) (fun s=>∃ (D : Array α) (i : Nat),s.1 = rpZ v D ∧ s.2.1 = (i : Int) ∧ (i,D) = partEqLoop lt a (a + 1) (b - 1) B) ⟨B,a + 1,b - 1,rfl,hB,by omega,by omega,by omega,rfl⟩ (fun s hI=>?_) (fun s hq=>?_))
 ·obtain ⟨D,i,j,rfl,hD,hai,hij,hjb,hO⟩ := hI
  dsimp only
  rw [up_runZ (v := v) (p := fun x=>!lt D[a]! x) (D := D) (j := j) (fun i=>upStepEZ hC (by omega) (by omega) (by omega)) i,bPs,bI]
  rw [Go.Sort.partEqLoop_eq] at hO
  obtain ⟨g1,g2,g3,g4,g5⟩ := pN (fun x=>!lt D[a]! x) (fun x=>lt D[a]! x) (fun _=>by simp) D (i := i) (j := j) (by omega) (by omega)
  generalize scanUp (fun x=>!lt D[a]! x) D j i = i5 at g1 g2 g3 g4 g5 hO ⊢
  dsimp only
  rw [oA (v := v) (p := fun x=>lt D[a]! x) (D := D) (i := i5) (by omega) (fun j hj=>downStepEZ hC (by omega) (by omega) hj) j (by omega),bPs,bI]
  generalize scanDown (fun x=>lt D[a]! x) D i5 j = j5 at g3 g4 g5 hO ⊢
  dsimp only
  by_cases hgt : i5 > j5
  ·rw [zt (show (i5 : Int) > (j5 : Int) from by omega),zc]
   rw [zp hgt] at hO
   exact ⟨_,rfl,D,i5,rfl,rfl,hO⟩
  ·have hl5 := g5 hgt
   rw [zf (show ¬ (i5 : Int) > (j5 : Int) from by omega),zd,fR (by omega) (by omega),bu (z := (i5 : Int) + 1) (n := i5 + 1),bu (z := (j5 : Int) - 1) (n := j5 - 1)]
   rw [zy hgt] at hO
   exact ⟨_,rfl,⟨swp D i5 j5,i5 + 1,j5 - 1,rfl,by rw [size_swp]; exact hD,by omega,by omega,by omega,hO⟩,by show (((j5 - 1 : Nat) : Int) + 1 - ((i5 + 1 : Nat) : Int)).toNat < ((j : Int) + 1 - (i : Int)).toNat; omega⟩
 ·obtain ⟨D,i,h1,h2,h3⟩ := hq
  rw [h1,h2,← h3]
  exact ⟨_,rfl,rfl⟩
theorem nv {β γ : Type} {o : Option β} {k : β → Option γ} {R : γ → Prop} {P : β → Prop} (h : ∃ t,o = some t ∧ P t) (hk : ∀ t,P t → ∃ r,k t = some r ∧ R r) : ∃ r,ae o k = some r ∧ R r := by
 obtain ⟨t,rfl,ht⟩ := h
 exact hk t ht
theorem sorted_runZ (hC : CmpIsZ v lt) {D : Array α} {b : Nat} (hs : D.size ≤ 1000000) (hb : b ≤ D.size) : ∀ (n i : Nat),b - i ≤ n → 0 < i → i ≤ b → whileM (σ := bM × Int) (ρ := Empty) (fun (s52 : bM × Int)=>cond (decide (s52.2 < (b : Int)))
     (ae (aC s52.1 s52.2) fun (x26 : List UInt8) =>
     ae (aC s52.1 (IntKind.i64.wrap (s52.2 - (1 : Int)))) fun (x31 : List UInt8) =>
     be (bi x26 x31) fun x33 =>
     cond (!x33)
      (some (.next (s52.1,(IntKind.i64.wrap (s52.2 + (1 : Int))))))
      (some (.brk (s52.1,s52.2))))
     (some (.brk (s52.1,s52.2)))) (rpZ v D,(i : Int)) = some (.next (rpZ v D,((scanSorted lt D b i : Nat) : Int))) ∧ i ≤ scanSorted lt D b i ∧ scanSorted lt D b i ≤ b := by
 intro n
 induction n with
 | zero =>
  intro i hn h0 hi
  rw [scanSorted,zy (by simp; omega)]
  refine ⟨ek (fl := .brk (rpZ v D,(i : Int))) ?_ rfl,Nat.le_refl _,hi⟩
  dsimp only
  rw [zf (by omega),zd]
 | succ n ih =>
  intro i hn h0 hi
  rw [scanSorted]
  by_cases hlt : i < b
  ·have hl := hC.is D[i]! D[i - 1]!
   cases hx : lt D[i]! D[i - 1]! with
   | true =>
    rw [zy (by simp)]
    refine ⟨ek (fl := .brk (rpZ v D,(i : Int))) ?_ rfl,Nat.le_refl _,hi⟩
    dsimp only
    rw [zt (by omega),zc,bu (z := (i : Int) - 1) (n := i - 1),dt (by omega),bPs,dt (by omega),bPs,mf,hl,hx]
    rfl
   | false =>
    rw [zp (by simp [hlt])]
    obtain ⟨e1,e2,e3⟩ := ih (i + 1) (by omega) (by omega) (by omega)
    refine ⟨ek (fl := .next (rpZ v D,((i + 1 : Nat) : Int))) ?_ e1,by omega,e3⟩
    dsimp only
    rw [zt (by omega),zc,bu (z := (i : Int) - 1) (n := i - 1),bu (z := (i : Int) + 1) (n := i + 1),dt (by omega),bPs,dt (by omega),bPs,mf,hl,hx]
    rfl
  ·rw [zy (by simp [hlt])]
   refine ⟨ek (fl := .brk (rpZ v D,(i : Int))) ?_ rfl,Nat.le_refl _,hi⟩
   dsimp only
   rw [zf (by omega),zd]
theorem pt : ∀ (j : Nat) (D : Array α),(shiftDown lt j D).size = D.size
 | 0,D=>rfl
 | j + 1,D=>by
  rw [shiftDown]
  split
  ·rfl
  ·rw [pt j,size_swp]
theorem qM (b : Nat) : ∀ (n j : Nat) (D : Array α),b - j ≤ n → (shiftUp lt b j D).size = D.size
 | 0,j,D,h=>by rw [shiftUp,zy (by omega)]
 | n + 1,j,D,h=>by
  rw [shiftUp]
  split
  ·split
   ·rfl
   ·rw [qM b n _ _ (by omega),size_swp]
  ·rfl
theorem sd_runZ {β : Type} {Q : β → Prop} (hC : CmpIsZ v lt) {A : Array α} {j : Nat} (hs : A.size ≤ 1000000) (hj : j < A.size) {k : bM × Int → Option β} (hk : ∀ z,∃ r,k (rpZ v (shiftDown lt j A),z) = some r ∧ Q r) :
  ∃ r,ae (whileM (σ := bM × Int) (ρ := Empty) (fun (s63 : bM × Int) =>
              cond (decide (s63.2 ≥ (1 : Int)))
                (ae (aC s63.1 s63.2) fun (x75 : List UInt8) =>
                ae (aC s63.1 (IntKind.i64.wrap (s63.2 - (1 : Int)))) fun (x80 : List UInt8) =>
                be (bi x75 x80) fun x82 =>
                cond (!x82)
                  (some (.brk (s63.1,s63.2)))
                  (ae (aC s63.1 (IntKind.i64.wrap (s63.2 - (1 : Int)))) fun (x93 : List UInt8) =>
                  ae (aC s63.1 s63.2) fun (x97 : List UInt8) =>
                  ae (aC s63.1 s63.2) fun (_ : List UInt8) =>
                  be (s63.1.set s63.2.toNat x93) fun (y68 : bM) =>
                  ae (aC y68 (IntKind.i64.wrap (s63.2 - (1 : Int)))) fun (_ : List UInt8) =>
                  be (y68.set ((IntKind.i64.wrap (s63.2 - (1 : Int))).toNat) x97) fun (y69 : bM) =>
                  some (.next (y69,(IntKind.i64.wrap (s63.2 - (1 : Int)))))))
                (some (.brk (s63.1,s63.2)))) (rpZ v A,(j : Int))) (fun fl63=>fl63.thenP k) = some r ∧ Q r := by
 refine gF (fun s=>∃ (D : Array α) (i : Nat),s = (rpZ v D,(i : Int)) ∧ D.size = A.size ∧ i < A.size ∧ shiftDown lt i D = shiftDown lt j A) (fun s=>s.2.toNat) (fun s=>s.1 = rpZ v (shiftDown lt j A)) ⟨A,j,rfl,rfl,hj,rfl⟩ (fun s hI=>?_) (fun s hq=>?_)
 ·obtain ⟨D,i,rfl,hD,hi,hO⟩ := hI
  dsimp only
  cases i with
  | zero =>
   rw [zf (by omega),zd]
   exact ⟨_,rfl,by show rpZ v D = _; rw [← hO]; rfl⟩
  | succ i =>
   have hl := hC.is D[i + 1]! D[i]!
   rw [zt (by omega),zc,bu (z := ((i + 1 : Nat) : Int) - 1) (n := i),fR (by omega) (by omega),dt (by omega),bPs,dt (by omega),bPs,mf,hl]
   rw [shiftDown] at hO
   cases hx : lt D[i + 1]! D[i]! with
   | true =>
    rw [hx,zy (by simp)] at hO
    exact ⟨_,rfl,⟨swp D (i + 1) i,i,rfl,by rw [size_swp]; exact hD,by omega,hO⟩,by show ((i : Int)).toNat < (((i + 1 : Nat) : Int)).toNat; omega⟩
   | false =>
    rw [hx,zp (by simp)] at hO
    exact ⟨_,rfl,by show rpZ v D = _; rw [hO]⟩
 ·obtain ⟨s1,s2⟩ := s
  dsimp only at hq
  rw [hq]
  exact hk s2
theorem su_runZ {β : Type} {Q : β → Prop} (hC : CmpIsZ v lt) {A : Array α} {b j : Nat} (hs : A.size ≤ 1000000) (hb : b ≤ A.size) (hj : 0 < j) (hjb : j ≤ b) {k : bM × Int → Option β} (hk : ∀ z,∃ r,k (rpZ v (shiftUp lt b j A),z) = some r ∧ Q r) :
  ∃ r,ae (whileM (σ := bM × Int) (ρ := Empty) (fun (s70 : bM × Int) =>
       cond (decide (s70.2 < (b : Int)))
        (ae (aC s70.1 s70.2) fun (x115 : List UInt8) =>
        ae (aC s70.1 (IntKind.i64.wrap (s70.2 - (1 : Int)))) fun (x120 : List UInt8) =>
        be (bi x115 x120) fun x122 =>
        cond (!x122)
         (some (.brk (s70.1,s70.2)))
         (ae (aC s70.1 (IntKind.i64.wrap (s70.2 - (1 : Int)))) fun (x133 : List UInt8) =>
         ae (aC s70.1 s70.2) fun (x137 : List UInt8) =>
         ae (aC s70.1 s70.2) fun (_ : List UInt8) =>
         be (s70.1.set s70.2.toNat x133) fun (y75 : bM) =>
         ae (aC y75 (IntKind.i64.wrap (s70.2 - (1 : Int)))) fun (_ : List UInt8) =>
         be (y75.set ((IntKind.i64.wrap (s70.2 - (1 : Int))).toNat) x137) fun (y76 : bM) =>
         some (.next (y76,(IntKind.i64.wrap (s70.2 + (1 : Int)))))))
        (some (.brk (s70.1,s70.2)))) (rpZ v A,(j : Int))) (fun fl70=>fl70.thenP k) = some r ∧ Q r := by
 refine gF (fun s=>∃ (D : Array α) (i : Nat),s = (rpZ v D,(i : Int)) ∧ D.size = A.size ∧ 0 < i ∧ i ≤ b ∧ shiftUp lt b i D = shiftUp lt b j A) (fun s=>((b : Int) - s.2).toNat) (fun s=>s.1 = rpZ v (shiftUp lt b j A)) ⟨A,j,rfl,rfl,hj,hjb,rfl⟩ (fun s hI=>?_) (fun s hq=>?_)
 ·obtain ⟨D,i,rfl,hD,h0,hi,hO⟩ := hI
  dsimp only
  rw [shiftUp] at hO
  by_cases hlt : i < b
  ·have hl := hC.is D[i]! D[i - 1]!
   rw [zt (by omega),zc,bu (z := (i : Int) - 1) (n := i - 1),bu (z := (i : Int) + 1) (n := i + 1),fR (by omega) (by omega),dt (by omega),bPs,dt (by omega),bPs,mf,hl]
   rw [zp hlt] at hO
   cases hx : lt D[i]! D[i - 1]! with
   | true =>
    rw [hx,zy (by simp)] at hO
    exact ⟨_,rfl,⟨swp D i (i - 1),i + 1,rfl,by rw [size_swp]; exact hD,by omega,by omega,hO⟩,by show ((b : Int) - ((i + 1 : Nat) : Int)).toNat < ((b : Int) - (i : Int)).toNat; omega⟩
   | false =>
    rw [hx,zp (by simp)] at hO
    exact ⟨_,rfl,by show rpZ v D = _; rw [hO]⟩
  ·rw [zf (by omega),zd]
   rw [zy hlt] at hO
   exact ⟨_,rfl,by show rpZ v D = _; rw [hO]⟩
 ·obtain ⟨s1,s2⟩ := s
  dsimp only at hq
  rw [hq]
  exact hk s2
theorem pis_simZ (hC : CmpIsZ v lt) {A : Array α} {a b : Nat} (hs : A.size ≤ 1000000) (hab : a < b) (hb : b ≤ A.size) : cp (rpZ v A) (a : Int) (b : Int) = some ((partialInsertionSort lt A a b).2,rpZ v (partialInsertionSort lt A a b).1) := by
 unfold cp
 rw [bu (z := (a : Int) + 1) (n := a + 1),bu (z := (b : Int) - (a : Int)) (n := b - a)]
 refine oq (nk (fun s=>∃ (D : Array α) (i m : Nat),s = (rpZ v D,(i : Int),(5 : Int) - (m : Int)) ∧ D.size = A.size ∧ m ≤ 5 ∧ a < i ∧ i ≤ b ∧ partialIns lt a b m i D = partialInsertionSort lt A a b) (fun s=>(5 - s.2.2).toNat) (fun s=>s.1 = rpZ v (partialInsertionSort lt A a b).1 ∧ (partialInsertionSort lt A a b).2 = false) ⟨A,a + 1,5,rfl,rfl,by omega,by omega,by omega,rfl⟩ (fun s hI=>?_) (fun s hq=>⟨_,rfl,by rw [hq.1,hq.2]⟩))
 obtain ⟨D,i,m,rfl,hD,hm,hai,hib,hO⟩ := hI
 dsimp only
 cases m with
 | zero =>
  rw [zf (by omega),zd]
  rw [partialIns] at hO
  exact ⟨_,rfl,by show rpZ v D = _; rw [← hO],by rw [← hO]⟩
 | succ m =>
  rw [zt (by omega),zc]
  obtain ⟨e1,e2,e3⟩ := sorted_runZ hC (D := D) (b := b) (by omega) (by omega) _ i (Nat.le_refl _) (by omega) hib
  rw [e1,bPs,bI]
  clear e1
  rw [Go.Sort.partialIns_succ] at hO
  unfold Go.Sort.fixDown Go.Sort.fixUp at hO
  generalize scanSorted lt D b i = i2 at e2 e3 hO ⊢
  dsimp only
  by_cases h1 : i2 = b
  ·rw [beqT (show (i2 : Int) = (b : Int) from by omega),zc]
   rw [zp h1] at hO
   exact ⟨_,rfl,by rw [← hO]⟩
  ·rw [beqF (show ¬ (i2 : Int) = (b : Int) from by omega),zd]
   rw [zy h1] at hO
   by_cases h2 : b - a < 50
   ·rw [zt (by omega),zc]
    rw [zp h2] at hO
    exact ⟨_,rfl,by rw [← hO]⟩
   ·rw [zf (by omega),zd]
    rw [zy h2] at hO
    rw [bu (z := (i2 : Int) - 1) (n := i2 - 1),bu (z := (i2 : Int) - (a : Int)) (n := i2 - a),bu (z := (b : Int) - (i2 : Int)) (n := b - i2),bu (z := (i2 : Int) + 1) (n := i2 + 1),fR (by omega) (by omega)]
    have hE : (swp D i2 (i2 - 1)).size = A.size := by rw [size_swp]; exact hD
    generalize swp D i2 (i2 - 1) = E at hE hO ⊢
    refine nv (P := fun t=>t = rpZ v (if i2 - a ≥ 2 then shiftDown lt (i2 - 1) E else E)) ?_ (fun t ht=>?_)
    ·by_cases h3 : i2 - a ≥ 2
     ·rw [zt (by omega),zc,zp h3]
      exact sd_runZ hC (by omega) (by omega) (fun z=>⟨_,rfl,rfl⟩)
     ·rw [zf (by omega),zd,zy h3]
      exact ⟨_,rfl,rfl⟩
    ·subst ht
     have hG : (if i2 - a ≥ 2 then shiftDown lt (i2 - 1) E else E).size = A.size := by
      split
      ·rw [pt]; exact hE
      ·exact hE
     generalize (if i2 - a ≥ 2 then shiftDown lt (i2 - 1) E else E) = G at hG hO ⊢
     rw [ep (n := (5 : Int) - ((m + 1 : Nat) : Int) + 1) (by omega) (by omega),show (5 : Int) - ((m + 1 : Nat) : Int) + 1 = 5 - (m : Int) from by omega]
     by_cases h4 : b - i2 ≥ 2
     ·rw [zt (by omega),zc]
      rw [zp h4] at hO
      exact su_runZ hC (by omega) (by omega) (by omega) (by omega) (fun z=>⟨_,rfl,⟨_,i2,m,rfl,by rw [qM b _ _ _ (Nat.le_refl _)]; exact hG,by omega,by omega,e3,hO⟩,by show (5 - ((5 : Int) - (m : Int))).toNat < (5 - ((5 : Int) - ((m + 1 : Nat) : Int))).toNat; omega⟩)
     ·rw [zf (by omega),zd]
      rw [zy h4] at hO
      exact ⟨_,rfl,⟨G,i2,m,rfl,hG,by omega,by omega,e3,hO⟩,by show (5 - ((5 : Int) - (m : Int))).toNat < (5 - ((5 : Int) - ((m + 1 : Nat) : Int))).toNat; omega⟩
theorem pZ (hC : CmpIsZ v lt) {A : Array α} {a b : Nat} (ha : a < A.size) (hb : b < A.size) (sw : Int) : ∃ (x y : Nat) (sw' : Int),cK (rpZ v A) (a : Int) (b : Int) sw = some ((x : Int),(y : Int),rpZ v A,sw') ∧ ((x = a ∧ y = b) ∨ (x = b ∧ y = a)) := by
 unfold cK
 rw [dt hb,bPs,dt ha,bPs,mf,hC.is]
 cases lt A[b]! A[a]!
 ·exact ⟨a,b,_,rfl,.inl ⟨rfl,rfl⟩⟩
 ·exact ⟨b,a,_,rfl,.inr ⟨rfl,rfl⟩⟩
theorem pR (hC : CmpIsZ v lt) {A : Array α} {a b c : Nat} (ha : a < A.size) (hb : b < A.size) (hc : c < A.size) (sw : Int) : ∃ (m : Nat) (sw' : Int),cL (rpZ v A) (a : Int) (b : Int) (c : Int) sw = some ((m : Int),rpZ v A,sw') ∧ (m = a ∨ m = b ∨ m = c) := by
 unfold cL
 obtain ⟨x1,y1,w1,e1,h1⟩ := pZ hC ha hb sw
 rw [e1,bPs,cf rfl,bPs]
 obtain ⟨x2,y2,w2,e2,h2⟩ := pZ hC (a := y1) (b := c) (by omega) hc w1
 dsimp only
 rw [e2,bPs,cf rfl,bPs]
 obtain ⟨x3,y3,w3,e3,h3⟩ := pZ hC (A := A) (a := x1) (b := x2) (by omega) (by omega) w2
 dsimp only
 rw [e3,bPs,cf rfl,bPs]
 exact ⟨y3,w3,rfl,by omega⟩
theorem od (hC : CmpIsZ v lt) {A : Array α} {a : Nat} (hs : A.size ≤ 1000000) (h0 : 0 < a) (ha : a + 1 < A.size) (sw : Int) : ∃ (m : Nat) (sw' : Int),ce (rpZ v A) (a : Int) sw = some ((m : Int),rpZ v A,sw') ∧ a ≤ m + 1 ∧ m ≤ a + 1 := by
 unfold ce
 rw [bu (z := (a : Int) - 1) (n := a - 1),bu (z := (a : Int) + 1) (n := a + 1)]
 obtain ⟨m,w,e,h⟩ := pR hC (A := A) (a := a - 1) (b := a) (c := a + 1) (by omega) (by omega) ha sw
 rw [e,bPs,cf rfl,bPs]
 exact ⟨m,w,rfl,by omega,by omega⟩
theorem pivot_okZ (hC : CmpIsZ v lt) {A : Array α} {a b : Nat} (hs : A.size ≤ 1000000) (hab : a + 12 < b) (hb : b ≤ A.size) : ∃ r,dw (rpZ v A) (a : Int) (b : Int) = some r ∧ ∃ (p : Nat) (h : Int),r = ((p : Int),h,rpZ v A) ∧ a ≤ p ∧ p < b := by
 unfold dw
 rw [bu (z := (b : Int) - (a : Int)) (n := b - a),zt (show ((b - a : Nat) : Int) ≥ 8 from by omega),zc,Int.tdiv_eq_ediv_of_nonneg (by omega)]
 rw [bu (z := ((b - a : Nat) : Int) / 4) (n := (b - a) / 4)]
 generalize hq : (b - a) / 4 = q
 have hq1 : 4 * q ≤ b - a ∧ b - a < 4 * q + 4 := by omega
 clear hq
 rw [bu (z := (q : Int) * 1) (n := q),bu (z := (q : Int) * 2) (n := 2 * q),bu (z := (q : Int) * 3) (n := 3 * q),bu (z := (a : Int) + (q : Int)) (n := a + q),bu (z := (a : Int) + ((2 * q : Nat) : Int)) (n := a + 2 * q),bu (z := (a : Int) + ((3 * q : Nat) : Int)) (n := a + 3 * q)]
 refine nv (P := fun t=>∃ (p : Nat) (w : Int),t = (rpZ v A,(p : Int),w) ∧ a ≤ p ∧ p < b) ?_ (fun t ht=>?_)
 ·by_cases h : b - a ≥ 50
  ·rw [zt (by omega),zc]
   obtain ⟨m1,w1,e1,h1⟩ := od hC (A := A) (a := a + q) hs (by omega) (by omega) 0
   rw [e1,bPs,cf rfl,bPs]
   dsimp only
   obtain ⟨m2,w2,e2,h2⟩ := od hC (A := A) (a := a + 2 * q) hs (by omega) (by omega) w1
   rw [e2,bPs,cf rfl,bPs]
   dsimp only
   obtain ⟨m3,w3,e3,h3⟩ := od hC (A := A) (a := a + 3 * q) hs (by omega) (by omega) w2
   rw [e3,bPs,cf rfl,bPs]
   dsimp only
   obtain ⟨m,w',e,h⟩ := pR hC (A := A) (a := m1) (b := m2) (c := m3) (by omega) (by omega) (by omega) w3
   rw [e,bPs,cf rfl,bPs]
   exact ⟨_,rfl,m,w',rfl,by omega,by omega⟩
  ·rw [zf (by omega),zd]
   obtain ⟨m,w',e,h⟩ := pR hC (A := A) (a := a + q) (b := a + 2 * q) (c := a + 3 * q) (by omega) (by omega) (by omega) 0
   rw [e,bPs,cf rfl,bPs]
   exact ⟨_,rfl,m,w',rfl,by omega,by omega⟩
 ·obtain ⟨p,w,rfl,h1,h2⟩ := ht
  dsimp only
  cases w == 0 with
  | true=>exact ⟨_,rfl,p,_,rfl,h1,h2⟩
  | false =>
   cases w == 12 with
   | true=>exact ⟨_,rfl,p,_,rfl,h1,h2⟩
   | false=>exact ⟨_,rfl,p,_,rfl,h1,h2⟩
theorem u64_id {n : Nat} (h : n < 18446744073709551616) : IntKind.u64.wrap (n : Int) = (n : Int) := by
 simp only [IntKind.wrap,IntKind.bits,IntKind.signed]
 simp
 omega
theorem and_small {m : Nat} (x : Int) : ∃ o : Nat,andI .u64 x (m : Int) = (o : Int) ∧ o ≤ m := by
 refine ⟨(BitVec.ofInt 64 x &&& BitVec.ofInt 64 (m : Int)).toNat,?_,?_⟩
 ·unfold andI
  show IntKind.u64.wrap (((BitVec.ofInt 64 x &&& BitVec.ofInt 64 (m : Int)).toNat : Nat) : Int) = _
  exact u64_id (BitVec.isLt _)
 ·rw [BitVec.toNat_and]
  refine Nat.le_trans Nat.and_le_right ?_
  rw [BitVec.ofInt_natCast,BitVec.toNat_ofNat]
  exact Nat.mod_le _ _
def oZ : List UInt8 := [0,1,2,2,3,3,3,3,4,4,4,4,4,4,4,4,5,5,5,5,5,5,5,5,5,5,5,5,5,5,5,5,6,6,6,6,6,6,6,6,6,6,6,6,6,6,6,6,6,6,6,6,6,6,6,6,6,6,6,6,6,6,6,6,7,7,7,7,7,7,7,7,7,7,7,7,7,7,7,7,7,7,7,7,7,7,7,7,7,7,7,7,7,7,7,7,7,7,7,7,7,7,7,7,7,7,7,7,7,7,7,7,7,7,7,7,7,7,7,7,7,7,7,7,7,7,7,7,8,8,8,8,8,8,8,8,8,8,8,8,8,8,8,8,8,8,8,8,8,8,8,8,8,8,8,8,8,8,8,8,8,8,8,8,8,8,8,8,8,8,8,8,8,8,8,8,8,8,8,8,8,8,8,8,8,8,8,8,8,8,8,8,8,8,8,8,8,8,8,8,8,8,8,8,8,8,8,8,8,8,8,8,8,8,8,8,8,8,8,8,8,8,8,8,8,8,8,8,8,8,8,8,8,8,8,8,8,8,8,8,8,8,8,8,8,8,8,8,8,8,8,8,8,8,8,8]
theorem tab_ok : ∀ y : Fin 256,∃ z,oZ[y.val]? = some z ∧ 2 ^ z.toNat ≤ max 1 (2 * y.val) ∧ z.toNat ≤ 8 ∧ y.val < 2 ^ z.toNat := by
 have h : ∀ y : Fin 256,(match oZ[y.val]? with | some z=>decide (2 ^ z.toNat ≤ max 1 (2 * y.val) ∧ z.toNat ≤ 8 ∧ y.val < 2 ^ z.toNat) | none=>false) = true := by decide +kernel
 intro y
 have hy := h y
 cases hz : oZ[y.val]? with
 | none=>rw [hz] at hy; cases hy
 | some z=>rw [hz] at hy; exact ⟨z,rfl,of_decide_eq_true hy⟩
theorem tab_get {y : Nat} (hy : y < 256) : ∃ z : UInt8,aC oZ ((u8of (y : Int)).toNat : Int) = some z ∧ 2 ^ z.toNat ≤ max 1 (2 * y) ∧ z.toNat ≤ 8 ∧ y < 2 ^ z.toNat := by
 obtain ⟨z,h1,h2⟩ := tab_ok ⟨y,hy⟩
 refine ⟨z,?_,h2⟩
 have e : ((u8of (y : Int)).toNat : Int) = (y : Int) := by
  rw [← u8of_eq]
  simp only [IntKind.wrap,IntKind.bits,IntKind.signed]
  simp
  omega
 rw [e]
 exact jS h1
set_option maxRecDepth 10000 in
theorem len_ok {x : Nat} (hx : x ≤ 1000000) : ∃ n : Nat,im (x : Int) = some (n : Int) ∧ 2 ^ n ≤ max 1 (2 * x) ∧ n ≤ 20 ∧ x < 2 ^ n := by
 unfold im jd
 simp only [cj]
 change ∃ n : Nat,(ae (ae (aC oZ _) _) _ : Option Int) = _ ∧ _
 rw [zf (show ¬ (x : Int) ≥ 4294967296 from by omega),zd]
 have key : ∀ (y k : Nat),y < 256 → k ≤ 12 + 4 → ∃ z : Nat,(ae (ae (aC oZ ((u8of (y : Int)).toNat : Int)) fun (x22 : UInt8)=>some (IntKind.i64.wrap ((k : Int) + IntKind.i64.wrap (x22.toNat : Int)))) fun x7=>some x7) = some ((k + z : Nat) : Int) ∧ 2 ^ z ≤ max 1 (2 * y) ∧ z ≤ 8 ∧ y < 2 ^ z := fun y k hy hk=>by
  obtain ⟨z,h1,h2,h3,h4⟩ := tab_get hy
  refine ⟨z.toNat,?_,h2,h3,h4⟩
  rw [h1,bPs,bPs,ep (n := (z.toNat : Int)) (by omega) (by omega),ep (by omega) (by omega)]
  simp
 by_cases h1 : x ≥ 65536
 ·rw [zt (show (x : Int) ≥ 65536 from by omega),zc]
  have e : Int.fdiv (x : Int) (2 ^ 16) = ((x / 65536 : Nat) : Int) := by
   rw [Int.fdiv_eq_ediv_of_nonneg _ (by decide)]; rfl
  dsimp only
  rw [e,zf (show ¬ ((x / 65536 : Nat) : Int) ≥ 256 from by omega),zd]
  dsimp only
  rw [show IntKind.i64.wrap ((0 : Int) + 16) = ((16 : Nat) : Int) from by decide +kernel]
  obtain ⟨z,e1,h2,h3,h4⟩ := key (x / 65536) 16 (by omega) (by omega)
  refine ⟨16 + z,e1,?_,?_,?_⟩
  ·rw [Nat.pow_add]
   have : (2 : Nat) ^ 16 = 65536 := by decide
   omega
  ·have : 2 ^ z ≤ 2 * (x / 65536) := by omega
   have hz : 2 ^ z < 2 ^ 5 := by have : (2 : Nat) ^ 5 = 32 := by decide
                                 omega
   have := (Nat.pow_lt_pow_iff_right (by omega : 1 < 2)).1 hz
   omega
  ·rw [Nat.pow_add]
   have : (2 : Nat) ^ 16 = 65536 := by decide
   omega
 ·rw [zf (show ¬ (x : Int) ≥ 65536 from by omega),zd]
  dsimp only
  by_cases h2 : x ≥ 256
  ·rw [zt (show (x : Int) ≥ 256 from by omega),zc]
   have e : Int.fdiv (x : Int) (2 ^ 8) = ((x / 256 : Nat) : Int) := by
    rw [Int.fdiv_eq_ediv_of_nonneg _ (by decide)]; rfl
   dsimp only
   rw [e,show IntKind.i64.wrap ((0 : Int) + 8) = ((8 : Nat) : Int) from by decide +kernel]
   obtain ⟨z,e1,h2,h3,h4⟩ := key (x / 256) 8 (by omega) (by omega)
   refine ⟨8 + z,e1,?_,by omega,?_⟩
   ·rw [Nat.pow_add]
    have : (2 : Nat) ^ 8 = 256 := by decide
    omega
   ·rw [Nat.pow_add]
    have : (2 : Nat) ^ 8 = 256 := by decide
    omega
  ·rw [zf (show ¬ (x : Int) ≥ 256 from by omega),zd]
   dsimp only
   obtain ⟨z,e1,h2,h3,h4⟩ := key x 0 (by omega) (by omega)
   refine ⟨z,?_,h2,by omega,h4⟩
   rw [show ((0 : Nat) : Int) = 0 from rfl] at e1
   rw [show ((z : Nat) : Int) = ((0 + z : Nat) : Int) from by simp]
   exact e1
theorem next_ok (r : Int) : ∃ x r',gZ r = some (x,r') := ⟨_,_,rfl⟩
theorem pow_ok {x : Nat} (h0 : 0 < x) (hx : x ≤ 1000000) : ∃ n : Nat,fA (x : Int) = some (n : Int) ∧ 0 < n ∧ n ≤ 2 * x := by
 unfold fA
 obtain ⟨n,e,h1,h2,_⟩ := len_ok hx
 have hp : 0 < 2 ^ n := Nat.pow_pos (by omega)
 have hp2 : 2 ^ n ≤ 2 * x := by omega
 rw [u64_id (by omega),e,bPs]
 refine ⟨2 ^ n,?_,hp,hp2⟩
 unfold shlI
 rw [zp (by omega),bPs,Int.toNat_natCast,show min n IntKind.u64.bits = n from by show min n 64 = n; omega,Int.one_mul,show ((2 : Int) ^ n) = ((2 ^ n : Nat) : Int) from by simp,u64_id (by omega)]
theorem break_okZ {A : Array α} {a b : Nat} (hs : A.size ≤ 1000000) (hab : a + 12 < b) (hb : b ≤ A.size) : ∃ r,dh (rpZ v A) (a : Int) (b : Int) = some r ∧ ∃ A',r = rpZ v A' ∧ PermIn a b A A' := by
 unfold dh
 rw [bu (z := (b : Int) - (a : Int)) (n := b - a),zt (show ((b - a : Nat) : Int) ≥ 8 from by omega),zc,Int.tdiv_eq_ediv_of_nonneg (by omega)]
 rw [bu (z := ((b - a : Nat) : Int) / 4) (n := (b - a) / 4)]
 obtain ⟨M,eM,hM0,hM⟩ := pow_ok (x := b - a) (by omega) (by omega)
 rw [eM,bPs]
 generalize hq : (b - a) / 4 = q
 have hq1 : 4 * q ≤ b - a ∧ b - a < 4 * q + 4 := by omega
 clear hq
 rw [bu (z := (q : Int) * 2) (n := 2 * q),bu (z := (a : Int) + ((2 * q : Nat) : Int)) (n := a + 2 * q),bu (z := ((a + 2 * q : Nat) : Int) - 1) (n := a + 2 * q - 1),bu (z := ((a + 2 * q : Nat) : Int) + 1) (n := a + 2 * q + 1),show (M : Int) - 1 = ((M - 1 : Nat) : Int) from by omega,u64_id (n := M - 1) (by omega)]
 refine gF (fun s=>∃ (D : Array α) (i : Nat) (r : Int),s = (rpZ v D,(i : Int),r) ∧ a ≤ i ∧ i ≤ a + 2 * q + 2 ∧ PermIn a b A D) (fun s=>(((a + 2 * q + 2 : Nat) : Int) - s.2.1).toNat) (fun s=>∃ D : Array α,s.1 = rpZ v D ∧ PermIn a b A D) ⟨A,a + 2 * q - 1,_,rfl,by omega,by omega,permIn_refl _ _ _⟩ (fun s hI=>?_) (fun s hq=>?_)
 ·obtain ⟨D,i,r,rfl,hai,hi,hP⟩ := hI
  have hD := hP.1
  dsimp only
  by_cases hle : i ≤ a + 2 * q + 1
  ·rw [zt (by omega),zc]
   obtain ⟨x,r',e⟩ := next_ok r
   rw [e,bPs]
   dsimp only
   obtain ⟨o,eo,ho⟩ := and_small (m := M - 1) x
   rw [eo,bu (z := (o : Int)) (n := o) rfl (by omega),cj]
   obtain ⟨t,ht,hlt⟩ : ∃ t : Nat,(cond (decide ((o : Int) ≥ ((b - a : Nat) : Int))) ((rpZ v D,(IntKind.i64.wrap ((o : Int) - ((b - a : Nat) : Int))))) ((rpZ v D,(o : Int))) : bM × Int) = (rpZ v D,(t : Int)) ∧ t < b - a := by
    by_cases h : o ≥ b - a
    ·rw [zt (by omega),zc,bu (z := (o : Int) - ((b - a : Nat) : Int)) (n := o - (b - a))]
     exact ⟨_,rfl,by omega⟩
    ·rw [zf (by omega),zd]
     exact ⟨_,rfl,by omega⟩
   rw [ht]
   dsimp only
   rw [bu (z := (a : Int) + (t : Int)) (n := a + t),fR (by omega) (by omega),bu (z := (i : Int) + 1) (n := i + 1)]
   exact ⟨_,rfl,⟨swp D i (a + t),i + 1,r',rfl,by omega,by omega,permIn_trans _ _ _ _ _ hP (swp_permIn D a b i (a + t) hai (by omega) (by omega) (by omega) (by omega))⟩,by show (((a + 2 * q + 2 : Nat) : Int) - ((i + 1 : Nat) : Int)).toNat < (((a + 2 * q + 2 : Nat) : Int) - (i : Int)).toNat; omega⟩
  ·rw [zf (by omega),zd]
   exact ⟨_,rfl,D,rfl,hP⟩
 ·obtain ⟨D,h1,h2⟩ := hq
  exact ⟨_,rfl,D,h1,h2⟩
theorem LeO.whileM {σ ρ : Type} {st st' : σ → Option (Flow σ ρ)} (h : ∀ s,LeO (st s) (st' s)) (s : σ) : LeO (whileM st s) (whileM st' s) := by
 intro r hr
 rw [whileM_iff] at hr ⊢
 obtain ⟨n,hn⟩ := hr
 refine ⟨n,?_⟩
 induction n generalizing s with
 | zero=>simp [ij] at hn
 | succ n ih =>
  simp only [ij] at hn ⊢
  cases hs : st s with
  | none=>rw [hs] at hn; cases hn
  | some fl =>
   rw [h s fl hs]
   rw [hs] at hn
   cases fl with
   | next s'=>exact ih s' hn
   | brk s'=>exact hn
   | ret x=>exact hn
theorem LeO.thenF {σ τ ρ : Type} {fl : Flow σ ρ} {k k' : σ → Option (Flow τ ρ)} (hk : ∀ s,LeO (k s) (k' s)) : LeO (fl.thenF k) (fl.thenF k') := by
 cases fl with
 | next s=>exact hk s
 | brk s=>exact hk s
 | ret r=>exact LeO.refl _
theorem pdq_monoZ {r r' : bM → Int → Int → Int → Option bM} (h : ∀ d a b l,LeO (r d a b l) (r' d a b l)) (d : bM) (a b l : Int) : LeO (cD r d a b l) (cD r' d a b l) := by
 unfold cD
 simp only [cj]
 refine LeO.bind (LeO.whileM (fun s=>LeO.cond (LeO.refl _) (LeO.cond (LeO.refl _) (LeO.bind (LeO.refl _) fun t=>LeO.bind (LeO.refl _) fun u=>LeO.bind (LeO.refl _) fun _=>LeO.bind (LeO.refl _) fun w=>LeO.bind (LeO.refl _) fun fl=>LeO.thenF fun x=>LeO.bind (LeO.refl _) fun y=>LeO.cond (LeO.refl _) (LeO.bind (LeO.refl _) fun z=>LeO.bind (LeO.refl _) fun _=>LeO.cond (LeO.bind (h _ _ _ _) fun _=>LeO.refl _) (LeO.bind (h _ _ _ _) fun _=>LeO.refl _))))) _) fun fl=>LeO.refl _
theorem pdq_stepZ : ∀ (n : Nat) (d : bM) (a b l : Int),LeO (bt n d a b l) (bt (n + 1) d a b l)
 | 0,d,a,b,l=>fun r h=>by simp [bt] at h
 | n + 1,d,a,b,l=>by
  rw [bt,bt]
  exact pdq_monoZ (fun d a b l=>pdq_stepZ n d a b l) d a b l
theorem pdq_limZ {n : Nat} {d : bM} {a b l : Int} {r : bM} (h : bt n d a b l = some r) : gd d a b l = some r := by
 refine lf n fun k hk=>?_
 obtain ⟨j,rfl⟩ : ∃ j,k = n + j := ⟨k - n,by omega⟩
 clear hk
 induction j with
 | zero=>exact h
 | succ j ih=>exact pdq_stepZ (n + j) d a b l r ih
theorem pdq_okZ (hC : CmpIsZ v lt) (hS : SWO lt) : ∀ (n : Nat) {A : Array α} {a b lim : Nat},A.size ≤ 1000000 → a ≤ b → b ≤ A.size → lim ≤ 1000000 → Below lt a b A → b - a < n →
  ∃ r,bt n (rpZ v A) (a : Int) (b : Int) (lim : Int) = some r ∧ ∃ A',r = rpZ v A' ∧ PermIn a b A A' ∧ SortedIn lt a b A'
 | 0,_,_,_,_,_,_,_,_,_,hn=>by omega
 | n + 1,A,a,b,lim,hs,hab,hb,hlim,hB,hn=>by
  rw [bt]
  unfold cD
  refine nk (fun s=>∃ (D : Array α) (x y l : Nat) (wb wp : Bool),s = (rpZ v D,(x : Int),(y : Int),(l : Int),wb,wp) ∧ D.size = A.size ∧ x ≤ y ∧ y ≤ A.size ∧ l ≤ 1000000 ∧ Below lt x y D ∧ y - x ≤ b - a ∧ ∀ R,PermIn x y D R → SortedIn lt x y R → PermIn a b A R ∧ SortedIn lt a b R) (fun s=>(s.2.2.1 - s.2.1).toNat) (fun _=>False) ⟨A,a,b,lim,true,true,rfl,rfl,hab,hb,hlim,hB,Nat.le_refl _,fun R h1 h2=>⟨h1,h2⟩⟩ (fun s hI=>?_) (fun s hq=>hq.elim)
  obtain ⟨D,x,y,l,wb,wp,rfl,hD,hxy,hy,hl,hBD,hle,hfin⟩ := hI
  dsimp only
  rw [bu (z := (y : Int) - (x : Int)) (n := y - x)]
  by_cases h12 : y - x ≤ 12
  ·rw [zt (by omega),zc,ins_simZ hC (by omega) (by omega) (by omega),bPs]
   have hi := Go.Sort.insertionSort_holds (lt := lt) hS D x y hxy (by omega)
   rw [cf (by rw [dX,dX,hi.1.1]),bPs]
   exact ⟨_,rfl,_,rfl,hfin _ hi.1 hi.2⟩
  rw [zf (by omega),zd]
  by_cases h0 : l = 0
  ·rw [beqT (show (l : Int) = 0 from by omega),zc,heap_simZ hC (by omega) hxy (by omega),bPs]
   have hi := Go.Sort.heapSort_holds (lt := lt) hS D x y hxy (by omega)
   rw [cf (by rw [dX,dX,hi.1.1]),bPs]
   exact ⟨_,rfl,_,rfl,hfin _ hi.1 hi.2⟩
  rw [beqF (show ¬ (l : Int) = 0 from by omega),zd]
  -- broken patterns
  refine nv (P := fun t=>∃ (D1 : Array α) (l1 : Nat),t = (rpZ v D1,(l1 : Int)) ∧ l1 ≤ 1000000 ∧ PermIn x y D D1) ?_ (fun t ht=>?_)
  ·cases wb with
   | true=>exact ⟨_,rfl,D,l,rfl,hl,permIn_refl _ _ _⟩
   | false =>
    rw [Bool.not_false,zc]
    obtain ⟨r,e,D1,rfl,hP⟩ := break_okZ (v := v) (A := D) (a := x) (b := y) (by omega) (by omega) (by omega)
    rw [e,bPs,cf (by rw [dX,dX,hP.1]),bPs,bu (z := (l : Int) - 1) (n := l - 1)]
    exact ⟨_,rfl,D1,l - 1,rfl,by omega,hP⟩
  obtain ⟨D1,l1,rfl,hl1,hP1⟩ := ht
  have hD1 := hP1.1
  have hB1 : Below lt x y D1 := hBD.perm (by omega) hP1
  dsimp only
  obtain ⟨r,e,p,h,rfl,hp1,hp2⟩ := pivot_okZ hC (A := D1) (a := x) (b := y) (by omega) (by omega) (by omega)
  rw [e,bPs,cf rfl,bPs]
  dsimp only
  -- turned round
  refine nv (P := fun t=>∃ (D2 : Array α) (p2 : Nat) (h2 : Int),t = (rpZ v D2,(p2 : Int),h2) ∧ x ≤ p2 ∧ p2 < y ∧ PermIn x y D1 D2) ?_ (fun t ht=>?_)
  ·cases h == 2 with
   | true =>
    have hr := Go.Sort.reverseRange_holds D1 x y hxy (by omega)
    rw [zc,reverse_simZ (by omega) (by omega) (by omega),bPs,cf (by rw [dX,dX,hr.1]),bPs,bu (z := (y : Int) - 1) (n := y - 1),bu (z := (p : Int) - (x : Int)) (n := p - x),bu (z := ((y - 1 : Nat) : Int) - ((p - x : Nat) : Int)) (n := y - 1 - (p - x))]
    exact ⟨_,rfl,_,_,_,rfl,by omega,by omega,hr⟩
   | false=>exact ⟨_,rfl,D1,p,h,rfl,hp1,hp2,permIn_refl _ _ _⟩
  obtain ⟨D2,p2,h2,rfl,hq1,hq2,hP2⟩ := ht
  have hD2 := hP2.1
  have hB2 : Below lt x y D2 := hB1.perm (by omega) hP2
  rw [cj]
  obtain ⟨bb,hbb⟩ : ∃ bb : Bool,(cond wb (cond wp ((rpZ v D2,(h2 == (1 : Int)))) ((rpZ v D2,false))) ((rpZ v D2,false)) : bM × Bool) = (rpZ v D2,bb) := by
   cases wb
   ·exact ⟨_,rfl⟩
   ·cases wp
    ·exact ⟨_,rfl⟩
    ·exact ⟨_,rfl⟩
  dsimp only
  rw [hbb]
  -- insertion in part
  refine nv (P := fun fl=>(∃ D3,fl = .next (rpZ v D3) ∧ PermIn x y D2 D3) ∨ ∃ D3,fl = .ret (rpZ v D3) ∧ PermIn x y D2 D3 ∧ SortedIn lt x y D3) ?_ (fun fl hfl=>?_)
  ·cases bb with
   | false=>exact ⟨_,rfl,.inl ⟨D2,rfl,permIn_refl _ _ _⟩⟩
   | true =>
    have hi := Go.Sort.partialInsertionSort_holds (lt := lt) hS D2 x y (by omega) (by omega) hB2
    dsimp only
    rw [zc,pis_simZ hC (by omega) (by omega) (by omega),bPs]
    dsimp only
    rw [cf (by rw [dX,dX,hi.1.1]),bPs]
    cases hx : (partialInsertionSort lt D2 x y).2 with
    | true=>exact ⟨_,rfl,.inr ⟨_,rfl,hi.1,hi.2 hx⟩⟩
    | false=>exact ⟨_,rfl,.inl ⟨_,rfl,hi.1⟩⟩
  rcases hfl with ⟨D3,rfl,hP3⟩ | ⟨D3,rfl,hP3,hS3⟩
  rotate_left
  ·exact ⟨_,rfl,D3,rfl,hfin _ (permIn_trans _ _ _ _ _ (permIn_trans _ _ _ _ _ hP1 hP2) hP3) hS3⟩
  rw [thenF_nextS]
  have hD3 := hP3.1
  have hB3 : Below lt x y D3 := hB2.perm (by omega) hP3
  have hP : PermIn x y D D3 := permIn_trans _ _ _ _ _ (permIn_trans _ _ _ _ _ hP1 hP2) hP3
  have hfin3 : ∀ R,PermIn x y D3 R → SortedIn lt x y R → PermIn a b A R ∧ SortedIn lt a b R := fun R h1 h2=>hfin R (permIn_trans _ _ _ _ _ hP h1) h2
  -- many that are equal?
  refine nv (P := fun t=>∃ bb : Bool,t = (rpZ v D3,bb) ∧ (bb = true → 0 < x ∧ lt D3[x - 1]! D3[p2]! = false)) ?_ (fun t ht=>?_)
  ·by_cases hx : 0 < x
   ·have hlc := hC.is D3[x - 1]! D3[p2]!
    rw [zt (by omega),zc,bu (z := (x : Int) - 1) (n := x - 1),dt (by omega),bPs,dt (by omega),bPs,mf,hlc]
    exact ⟨_,rfl,_,rfl,fun h=>⟨hx,by simpa using h⟩⟩
   ·rw [zf (by omega),zd]
    exact ⟨_,rfl,false,rfl,fun h=>by cases h⟩
  obtain ⟨bb,rfl,hbb⟩ := ht
  dsimp only
  cases bb with
  | true =>
   rw [zc,partEq_simZ hC (by omega) hq1 hq2 (by omega),bPs]
   obtain ⟨hx0,hnl⟩ := hbb rfl
   obtain ⟨k1,k2,k3,k4,k5⟩ := Go.Sort.round_eq hS (Go.Sort.partitionEqual_holds lt) hx0 hq1 hq2 (by omega) hB3 hnl (mid := (partitionEqual lt D3 x y p2).1) (d4 := (partitionEqual lt D3 x y p2).2) rfl
   dsimp only
   rw [cf (by rw [dX,dX,k3]),bPs]
   exact ⟨_,rfl,⟨_,_,y,l1,wb,wp,rfl,by omega,k2,hy,hl1,k4,by omega,fun R h1 h2=>hfin3 R (k5 R h1 h2).1 (k5 R h1 h2).2⟩,by show ((y : Int) - ((partitionEqual lt D3 x y p2).1 : Int)).toNat < ((y : Int) - (x : Int)).toNat; omega⟩
  | false =>
   rw [zd,part_simZ hC (by omega) hq1 hq2 (by omega),bPs]
   obtain ⟨k1,k2,k3,k4,k5,k6,k7⟩ := Go.Sort.round_part hS (Go.Sort.partition_holds lt) hq1 hq2 (by omega) hB3 (mid := (partition lt D3 x y p2).1) (ap := (partition lt D3 x y p2).2.1) (d4 := (partition lt D3 x y p2).2.2) rfl
   dsimp only
   rw [cf (by rw [dX,dX,k3]),bPs]
   generalize (partition lt D3 x y p2).1 = mid at k1 k2 k4 k5 k6 k7 ⊢
   generalize (partition lt D3 x y p2).2.1 = ap at ⊢
   generalize (partition lt D3 x y p2).2.2 = D4 at k3 k4 k5 k6 k7 ⊢
   rw [bu (z := (mid : Int) - (x : Int)) (n := mid - x),bu (z := (y : Int) - (mid : Int)) (n := y - mid),bu (z := (mid : Int) + 1) (n := mid + 1)]
   by_cases hlt : mid - x < y - mid
   ·rw [zt (by omega),zc]
    obtain ⟨r,e,L,rfl,hL1,hL2⟩ := pdq_okZ hC hS n (A := D4) (a := x) (b := mid) (lim := l1) (by omega) k1 (by omega) hl1 k4 (by omega)
    rw [e,bPs,cf (by rw [dX,dX,hL1.1]),bPs]
    obtain ⟨m1,m2⟩ := k6 L hL1 hL2
    have hLs := hL1.1
    exact ⟨_,rfl,⟨L,mid + 1,y,l1,_,_,rfl,by omega,by omega,hy,hl1,m1,by omega,fun R h1 h2=>hfin3 R (m2 R h1 h2).1 (m2 R h1 h2).2⟩,by show ((y : Int) - ((mid + 1 : Nat) : Int)).toNat < ((y : Int) - (x : Int)).toNat; omega⟩
   ·rw [zf (by omega),zd]
    obtain ⟨r,e,L,rfl,hL1,hL2⟩ := pdq_okZ hC hS n (A := D4) (a := mid + 1) (b := y) (lim := l1) (by omega) (by omega) (by omega) hl1 k5 (by omega)
    rw [e,bPs,cf (by rw [dX,dX,hL1.1]),bPs]
    obtain ⟨m1,m2⟩ := k7 L hL1 hL2
    have hLs := hL1.1
    exact ⟨_,rfl,⟨L,x,mid,l1,_,_,rfl,by omega,k1,by omega,hl1,m1,by omega,fun R h1 h2=>hfin3 R (m2 R h1 h2).1 (m2 R h1 h2).2⟩,by show ((mid : Int) - (x : Int)).toNat < ((y : Int) - (x : Int)).toNat; omega⟩
theorem sortFunc_okZ (hC : CmpIsZ v lt) (hS : SWO lt) {A : Array α} (hs : A.size ≤ 1000000) : ∃ A',dD (rpZ v A) = some (rpZ v A') ∧ PermIn 0 A.size A A' ∧ SortedIn lt 0 A.size A' := by
 unfold dD
 rw [dX]
 obtain ⟨n,e,_,hn,_⟩ := len_ok (x := A.size) hs
 rw [u64_id (by omega),e,bPs]
 obtain ⟨r,e2,A',rfl,h1,h2⟩ := pdq_okZ hC hS (A.size + 1) (A := A) (a := 0) (b := A.size) (lim := n) hs (Nat.zero_le _) (Nat.le_refl _) (by omega) (.inl rfl) (by omega)
 have e3 := pdq_limZ e2
 rw [show ((0 : Nat) : Int) = 0 from rfl] at e3
 rw [e3,bPs,cf (by rw [dX,h1.1]),bPs]
 exact ⟨A',rfl,h1,h2⟩
end
end
end Go.Proofs.YtppmcepdcpmpcaaGreatDoor

namespace Go.Proofs.YtppmcepdcpmpcaaGreatDoor
noncomputable section
open Go Go.Ab
open Go.Sort (SWO PermIn SortedIn)
structure STO {α : Type} (lt : α → α → Bool) : Prop where
 irrefl : ∀ x,lt x x = false
 trans : ∀ x y z,lt x y = true → lt y z = true → lt x z = true
 tri : ∀ x y,lt x y = false → lt y x = false → x = y
theorem STO.swo {α : Type} {lt : α → α → Bool} (h : STO lt) : SWO lt where
 irrefl := h.irrefl
 trans := h.trans
 ntrans := fun x y z h1 h2=>by
  cases hxz : lt x z with
  | false=>rfl
  | true =>
   cases hyx : lt y x with
   | true=>rw [h.trans y x z hyx hxz] at h2; cases h2
   | false =>
    have := h.tri x y h1 hyx
    subst this
    rw [hxz] at h2; cases h2
theorem bytes_sto : STO Op.bytesLess where
 irrefl := fun x=>by
  induction x with
  | nil=>rfl
  | cons a x ih=>simp [Op.bytesLess,ih]
 trans := fun x=>by
  induction x with
  | nil =>
   intro y z h1 h2
   cases y with
   | nil=>cases z with
    | nil=>exact h2
    | cons c z=>rfl
   | cons b y=>cases z with
    | nil=>simp [Op.bytesLess] at h2
    | cons c z=>rfl
  | cons a x ih =>
   intro y z h1 h2
   cases y with
   | nil=>simp [Op.bytesLess] at h1
   | cons b y=>cases z with
    | nil=>simp [Op.bytesLess] at h2
    | cons c z =>
     simp only [Op.bytesLess,Bool.or_eq_true,decide_eq_true_eq,Bool.and_eq_true,beq_iff_eq,UInt8.lt_iff_toNat_lt] at h1 h2 ⊢
     rcases h1 with h1 | ⟨e1,h1⟩
     ·rcases h2 with h2 | ⟨e2,h2⟩
      ·exact .inl (by omega)
      ·exact .inl (by rw [← e2]; exact h1)
     ·rcases h2 with h2 | ⟨e2,h2⟩
      ·exact .inl (by rw [e1]; exact h2)
      ·exact .inr ⟨e1.trans e2,ih y z h1 h2⟩
 tri := fun x=>by
  induction x with
  | nil =>
   intro y h1 h2
   cases y with
   | nil=>rfl
   | cons b y=>simp [Op.bytesLess] at h1
  | cons a x ih =>
   intro y h1 h2
   cases y with
   | nil=>simp [Op.bytesLess] at h2
   | cons b y =>
    simp only [Op.bytesLess,Bool.or_eq_false_iff,decide_eq_false_iff_not,Bool.and_eq_false_iff,UInt8.lt_iff_toNat_lt] at h1 h2
    have e : a = b := UInt8.toNat_inj.1 (by omega)
    subst e
    have h3 : Op.bytesLess x y = false := by rcases h1.2 with h | h; simp at h; exact h
    have h4 : Op.bytesLess y x = false := by rcases h2.2 with h | h; simp at h; exact h
    rw [ih y h3 h4]
theorem beqTLP {x y : List UInt8} (h : x = y) : (x == y) = true := by simp [h]
theorem beqFLP {x y : List UInt8} (h : ¬ x = y) : (x == y) = false := by simpa using h
theorem getS_okP {α : Type} {xs : List α} {l h : Nat} {j : Int} {n : Nat} {x : α} (h0 : 0 ≤ j) (hn : l + j.toNat = n) (h1 : n < h) (hx : xs[n]? = some x) : getS xs l h j = some x := by
 unfold getS
 rw [zp ⟨h0,by omega⟩,hn,hx]
theorem po {α : Type} {xs : List α} {k : Nat} (h : k ≤ xs.length) : cutI xs (k : Int) = some (xs.take k) := by
 unfold cutI
 rw [zp ⟨by omega,by simpa using h⟩,Int.toNat_natCast]
def ou (l : bM) : Prop := ∀ (p : Nat) (x y : List UInt8),l[p]? = some x → l[p + 1]? = some y → x ≠ y
theorem ou.app {l : bM} {z : List UInt8} (h : ou l) (hz : ∀ x,l[l.length - 1]? = some x → x ≠ z) : ou (l ++ [z]) := by
 intro p x y hx hy
 by_cases hp : p + 1 < l.length
 ·rw [List.getElem?_append_left (by omega)] at hx
  rw [List.getElem?_append_left hp] at hy
  exact h p x y hx hy
 ·have h1 := (zg.1 hy).1
  simp at h1
  have h2 : p + 1 = l.length := by omega
  rw [List.getElem?_append_right (by omega),h2] at hy
  simp at hy
  rw [List.getElem?_append_left (by omega)] at hx
  rw [← hy]
  exact hz x (by rw [← hx]; congr 1; omega)
theorem compactN (A : bM) (hs : A.length ≤ 1000000) : ∃ r,cZ A = some r ∧ r.Sublist A ∧ (∀ x ∈ A,x ∈ r) ∧ ou r := by
 unfold cZ
 by_cases h2 : A.length < 2
 ·rw [zt (by omega),zc]
  exact ⟨_,rfl,List.Sublist.refl _,fun x h=>h,fun p x y _ hy=>by have := (zg.1 hy).1; omega⟩
 ·rw [zf (by omega),zd]
  refine nk (fun s=>∃ i : Nat,s = (A,(i : Int)) ∧ 1 ≤ i ∧ ou (A.take i)) (fun s=>((A.length : Int) - s.2).toNat) (fun s=>s.1 = A ∧ ou A) ⟨1,rfl,Nat.le_refl _,fun p x y _ hy=>by have := (zg.1 hy).1; simp at this; omega⟩ (fun s hI=>?_) (fun s hq=>⟨_,rfl,by rw [hq.1]; exact ⟨List.Sublist.refl _,fun x h=>h,hq.2⟩⟩)
  obtain ⟨k0,rfl,hk0,hadj0⟩ := hI
  dsimp only
  by_cases hlt : k0 < A.length
  ·rw [zt (by omega),zc,bu (z := (k0 : Int) - 1) (n := k0 - 1),bu (z := (k0 : Int) + 1) (n := k0 + 1),kC hlt,bPs,kC (show k0 - 1 < A.length by omega),bPs]
   by_cases he : A[k0] = A[k0 - 1]
   ·rw [beqTLP he,zc,po (by omega),bPs]
    refine gF (fun s=>∃ (D : bM) (k j : Nat),s = (D,(k : Int),(j : Int)) ∧ D.length = A.length ∧ k0 ≤ k ∧ 1 ≤ j ∧ k + 1 ≤ k0 + j ∧ k0 + j ≤ A.length ∧ (∀ p,k ≤ p → D[p]? = A[p]?) ∧ (D.take k).Sublist (A.take (k0 + j)) ∧ (∀ x ∈ A.take (k0 + j),x ∈ D.take k) ∧ ou (D.take k) ∧ D[k - 1]? = A[k0 + j - 1]?) (fun s=>((A.length : Int) - s.2.2).toNat) (fun s=>∃ (D : bM) (k : Nat),s.1 = D ∧ s.2.1 = (k : Int) ∧ k ≤ D.length ∧ (D.take k).Sublist A ∧ (∀ x ∈ A,x ∈ D.take k) ∧ ou (D.take k)) ⟨A,k0,1,rfl,rfl,Nat.le_refl _,Nat.le_refl _,by omega,by omega,fun _ _=>rfl,?_,fun x hx=>?_,hadj0,by rw [ze (show k0 - 1 < A.length by omega),show k0 + 1 - 1 = k0 from rfl,ze hlt,he]⟩ (fun s hI=>?_) (fun s hq=>?_)
    ·rw [List.take_add_one]
     exact List.sublist_append_left _ _
    ·rw [List.take_add_one,ze hlt,he] at hx
     rcases List.mem_append.1 hx with hx | hx
     ·exact hx
     ·simp at hx
      rw [hx]
      exact List.mem_take_iff_getElem.2 ⟨k0 - 1,by omega,rfl⟩
    ·obtain ⟨D,k,j,rfl,hD,hk,hj,hkj,hjl,hsame,hsub,hmem,hadj,hlast⟩ := hI
     dsimp only
     rw [zl,Int.toNat_natCast]
     by_cases hl2 : k0 + j < A.length
     ·have e1 : D[k0 + j]? = some A[k0 + j] := by rw [hsame _ (by omega),ze hl2]
      have e2 : D[k0 + j - 1]? = some A[k0 + j - 1] := by rw [hsame _ (by omega),ze (by omega)]
      rw [zt (by omega),zc,bu (z := (j : Int) - 1) (n := j - 1),bu (z := (j : Int) + 1) (n := j + 1),bu (z := (k : Int) + 1) (n := k + 1),getS_okP (n := k0 + j) (by omega) (by omega) hl2 e1,bPs,getS_okP (n := k0 + j - 1) (by omega) (by omega) (by omega) e2,bPs]
      have htake : A.take (k0 + (j + 1)) = A.take (k0 + j) ++ [A[k0 + j]] := by
       rw [show k0 + (j + 1) = k0 + j + 1 from rfl,List.take_add_one,ze hl2]
       rfl
      by_cases heq : A[k0 + j] = A[k0 + j - 1]
      ·rw [beqTLP heq,Bool.not_true,zd]
       refine ⟨_,rfl,⟨D,k,j + 1,rfl,hD,hk,by omega,by omega,by omega,hsame,?_,fun x hx=>?_,hadj,by rw [hlast,show k0 + (j + 1) - 1 = k0 + j from rfl,ze hl2,heq,ze (show k0 + j - 1 < A.length by omega)]⟩,by show ((A.length : Int) - ((j + 1 : Nat) : Int)).toNat < ((A.length : Int) - (j : Int)).toNat; omega⟩
       ·rw [htake]
        exact hsub.trans (List.sublist_append_left _ _)
       ·rw [htake] at hx
        rcases List.mem_append.1 hx with hx | hx
        ·exact hmem x hx
        ·simp at hx
         rw [hx,heq]
         exact hmem _ (List.mem_take_iff_getElem.2 ⟨k0 + j - 1,by omega,rfl⟩)
      ·rw [beqFLP heq,Bool.not_false,zc,bPs,kC (show k < D.length by omega),bPs,cj,Int.toNat_natCast]
       have ht2 : (D.set k A[k0 + j]).take (k + 1) = D.take k ++ [A[k0 + j]] := by
        rw [List.take_add_one,List.getElem?_set_self (by omega),List.take_set_of_le (Nat.le_refl _)]
        rfl
       refine ⟨_,rfl,⟨D.set k A[k0 + j],k + 1,j + 1,rfl,by simpa using hD,by omega,by omega,by omega,by omega,fun p hp=>?_,?_,fun x hx=>?_,by rw [ht2]; exact hadj.app fun x hx e=>heq (by
        have hkl : (D.take k).length = k := by simp; omega
        rw [hkl,List.getElem?_take_of_lt (by omega),hlast,ze (show k0 + j - 1 < A.length by omega)] at hx
        rw [← e,← Option.some.inj hx]),by rw [show k + 1 - 1 = k from rfl,List.getElem?_set_self (by omega),show k0 + (j + 1) - 1 = k0 + j from rfl,ze hl2]⟩,by show ((A.length : Int) - ((j + 1 : Nat) : Int)).toNat < ((A.length : Int) - (j : Int)).toNat; omega⟩
       ·rw [List.getElem?_set_ne (by omega)]
        exact hsame p (by omega)
       ·rw [ht2,htake]
        exact List.Sublist.append hsub (List.Sublist.refl _)
       ·rw [htake] at hx
        rw [ht2]
        rcases List.mem_append.1 hx with hx | hx
        ·exact List.mem_append_left _ (hmem x hx)
        ·exact List.mem_append_right _ hx
     ·rw [zf (by omega),zd]
      have hz : k0 + j = A.length := by omega
      rw [hz,List.take_length] at hsub hmem
      exact ⟨_,rfl,D,k,rfl,rfl,by omega,hsub,hmem,hadj⟩
    ·obtain ⟨D,k,q1,q2,hkl,hsub,hmem,hadj⟩ := hq
     rw [q1,q2,po hkl,bPs,po (by simp; omega),bPs,List.take_take,Nat.min_self]
     exact ⟨_,rfl,hsub,hmem,hadj⟩
   ·rw [beqFLP he,zd]
    exact ⟨_,rfl,⟨k0 + 1,rfl,by omega,by
     rw [List.take_add_one,ze hlt]
     exact hadj0.app fun x hx e=>he (by
      have hkl : (A.take k0).length = k0 := by simp; omega
      rw [hkl,List.getElem?_take_of_lt (by omega),ze (show k0 - 1 < A.length by omega)] at hx
      rw [← e,← Option.some.inj hx])⟩,by show ((A.length : Int) - ((k0 + 1 : Nat) : Int)).toNat < ((A.length : Int) - (k0 : Int)).toNat; omega⟩
  ·rw [zf (by omega),zd]
   exact ⟨_,rfl,rfl,by rw [List.take_of_length_le (by omega)] at hadj0; exact hadj0⟩
theorem nodup_of {l : bM} (hs : l.Pairwise fun x y=>Op.bytesLess y x = false) (ha : ou l) : l.Nodup := by
 refine List.pairwise_iff_getElem.2 fun i j hi hj hij e=>?_
 by_cases h : i + 1 = j
 ·subst h
  exact ha i _ _ (ze hi) (ze hj) e
 ·have h1 := List.pairwise_iff_getElem.1 hs i (i + 1) hi (by omega) (by omega)
  have h2 := List.pairwise_iff_getElem.1 hs (i + 1) j (by omega) hj (by omega)
  rw [← e] at h2
  exact ha i _ _ (ze hi) (ze (by omega)) (bytes_sto.tri _ _ h2 h1)
theorem sorted_set {T : bM} (hT : T.length ≤ 1000000) : ∃ s r,dD T = some s ∧ s.length = T.length ∧ cZ s = some r ∧ r.Nodup ∧ (∀ x,x ∈ r ↔ x ∈ T) ∧ r.length ≤ T.length := by
 have mk : rpZ (fun x : List UInt8=>x) T.toArray = T := by unfold rpZ; simp
 obtain ⟨A',e,hP,hS⟩ := sortFunc_okZ (v := fun x : List UInt8=>x) (lt := Op.bytesLess) ⟨fun _ _=>rfl⟩ bytes_sto.swo (A := T.toArray) (by simpa using hT)
 rw [mk] at e
 have mk2 : rpZ (fun x : List UInt8=>x) A' = A'.toList := by unfold rpZ; simp
 rw [mk2] at e
 have hz : A'.toList.length = T.length := by have := hP.1; simpa using this
 have hperm : A'.toList.Perm T := by
  have h3 := hP.2.2
  have z1 : T.toArray.extract 0 T.toArray.size = T.toArray := by simp
  have z2 : A'.extract 0 T.toArray.size = A' := by rw [← hP.1]; simp
  rw [z1,z2] at h3
  exact h3
 obtain ⟨r,er,hsub,hmem,hadj⟩ := compactN A'.toList (by omega)
 have hsrt : A'.toList.Pairwise fun x y=>Op.bytesLess y x = false := by
  rw [List.pairwise_iff_getElem]
  intro i j hi hj hij
  have hj2 : j < A'.size := by simpa using hj
  have := hS i j (Nat.zero_le _) hij (by rw [← hP.1]; exact hj2)
  rw [getElem!_pos A' j hj2,getElem!_pos A' i (by omega)] at this
  simpa using this
 refine ⟨A'.toList,r,e,hz,er,nodup_of (hsrt.sublist hsub) hadj,fun x=>⟨fun h=>hperm.mem_iff.1 (hsub.subset h),fun h=>hmem x (hperm.mem_iff.2 h)⟩,by rw [← hz]; exact hsub.length_le⟩
end
end Go.Proofs.YtppmcepdcpmpcaaGreatDoor

namespace Go.Proofs.YtppmcepdcpmpcaaGreatDoor
noncomputable section
open Go Go.Ab
theorem cols_inv {c : LChecker} {q : LQuery} (h : (fc c q).2 = 0) : jA q = true ∧ (∀ x ∈ q.inputs,(fc c x).2 = 0) ∧ (lQ c q (q.inputs.map fun x=>(fc c x).1)).2 = 0 ∧ (fc c q).1 = (lQ c q (q.inputs.map fun x=>(fc c x).1)).1 ∧ ((fc c q).1.map LCol.name).Nodup := by
 rw [colsQ_eq] at h ⊢
 unfold oc at h ⊢
 by_cases h1 : jA q = false
 ·simp [h1] at h
 rw [zy h1] at h ⊢
 by_cases h2 : (dL (q.inputs.map (fc c))).2 = 0
 ·obtain ⟨a,b⟩ := pY h2
  have e : (q.inputs.map (fc c)).map (·.1) = q.inputs.map fun x=>(fc c x).1 := by rw [List.map_map]; rfl
  rw [e] at b
  rw [b] at h ⊢
  rw [zy (by simpa using h2)] at h ⊢
  by_cases h3 : (lQ c q (q.inputs.map fun x=>(fc c x).1)).2 = 0
  ·rw [zy (by simpa using h3)] at h ⊢
   by_cases h4 : 20 < (lQ c q (q.inputs.map fun x=>(fc c x).1)).1.length
   ·rw [zp h4] at h; simp at h
   ·rw [zy h4] at h ⊢
    by_cases h5 : ((lQ c q (q.inputs.map fun x=>(fc c x).1)).1.map LCol.name).Nodup
    ·rw [zp h5] at h ⊢
     exact ⟨by simpa using h1,fun x hx=>a _ (List.mem_map.2 ⟨x,hx,rfl⟩),h3,rfl,h5⟩
    ·rw [zy h5] at h; simp at h
  ·rw [zp h3] at h; exact absurd h h3
 ·rw [zp h2] at h; exact absurd h h2
theorem most_inv {q : LQuery} (h : (fa q).2 ≤ 20000) : (fa q).1 ≤ (fa q).2 ∧ ∀ x ∈ q.inputs,(fa x).2 ≤ 20000 := by
 have key : ∀ (l : List (Int × Int)) (j : Nat) (s : Int × Int),s.2 ≤ (eh q.kind j l s).2 ∧ ∀ x ∈ l,x.2 ≤ (eh q.kind j l s).2 := by
  intro l
  induction l with
  | nil=>intro j s; exact ⟨Int.le_refl _,by simp⟩
  | cons y l ih =>
   intro j s
   obtain ⟨h1,h2⟩ := ih (j + 1) (ju q.kind s j y)
   rw [eh]
   have h3 : s.2 ≤ (ju q.kind s j y).2 := lK _ _
   have h4 : y.2 ≤ (ju q.kind s j y).2 := maxI_r _ _
   refine ⟨by omega,fun x hx=>?_⟩
   rcases List.mem_cons.1 hx with rfl | hx
   ·omega
   ·exact h2 x hx
 have hk := key (q.inputs.map fa) 0 (0,0)
 rw [mostQ_eq] at h ⊢
 by_cases h1 : q.kind = 1
 ·rw [zp h1] at h ⊢
  refine ⟨maxI_r _ _,fun x hx=>?_⟩
  have := hk.2 (fa x) (List.mem_map.2 ⟨x,hx,rfl⟩)
  have := lK (eh q.kind 0 (q.inputs.map fa) (0,0)).2 24
  simp only at h
  omega
 ·rw [zy h1] at h ⊢
  refine ⟨maxI_r _ _,fun x hx=>?_⟩
  have := hk.2 (fa x) (List.mem_map.2 ⟨x,hx,rfl⟩)
  have := lK (eh q.kind 0 (q.inputs.map fa) (0,0)).2 (eh q.kind 0 (q.inputs.map fa) (0,0)).1
  simp only at h
  omega
theorem params_sub {q x : LQuery} (h : x ∈ q.inputs) : ∀ p ∈ kD x,p ∈ kD q := by
 intro p hp
 obtain ⟨l,hl,hp⟩ := List.mem_flatten.1 hp
 obtain ⟨y,hy,rfl⟩ := List.mem_map.1 hl
 exact List.mem_flatten.2 ⟨_,List.mem_map.2 ⟨y,mem_nodes h hy,rfl⟩,hp⟩
theorem two {q : LQuery} (h : q.inputs.length = 2) : ∃ x y,q.inputs = [x,y] := by
 match hq : q.inputs,h with
 | [x,y],_=>exact ⟨x,y,rfl⟩
theorem one {q : LQuery} (h : q.inputs.length = 1) : ∃ x,q.inputs = [x] := by
 match hq : q.inputs,h with
 | [x],_=>exact ⟨x,rfl⟩
def SizeOk (q : LQuery) : Prop := (bJ q).length ≤ 24 ∧ fv q ≤ 12 ∧ (fa q).2 ≤ 20000
instance (q : LQuery) : Decidable (SizeOk q) := by unfold SizeOk; infer_instance
theorem check_eq {s : LSchema} {vars : List LCol} {q : LQuery} (h : SmallQ q) : ∃ cs e,eW s vars q = some (cs,e) ∧ (e = 0 ↔ SizeOk q ∧ qT (kD q) ∧ (fc ⟨s,vars⟩ q).2 = 0) ∧ (e = 0 → cs = (fc ⟨s,vars⟩ q).1) := by
 unfold eW
 rw [nodes_ok q h.nodes,bPs]
 by_cases h1 : (bJ q).length ≤ 24
 ·rw [zf (show ¬ ((bJ q).length : Int) > 24 from by omega),zd,depth_ok q h.nodes,bPs]
  by_cases h2 : fv q ≤ 12
  ·rw [zf (show ¬ fv q > 12 from by omega),zd]
   unfold eG
   rw [most_ok,bPs,bPs]
   by_cases h3 : (fa q).2 ≤ 20000
   ·rw [zf (show ¬ (fa q).2 > 20000 from by omega),bPs,zd,kinds_ok h.nodes,bPs]
    cases hb : (iS q).2.1 with
    | true =>
     refine ⟨[],13,rfl,⟨fun h=>by omega,fun hh=>?_⟩,fun h=>by omega⟩
     rw [kinds_bad.2 hh.2.1] at hb
     cases hb
    | false =>
     have hk := kinds_bad.1 hb
     simp only [zd]
     rw [cols_ok _ q h]
     refine ⟨(fc ⟨s,vars⟩ q).1,(fc ⟨s,vars⟩ q).2,rfl,⟨fun h0=>⟨⟨h1,h2,h3⟩,hk,h0⟩,fun hh=>hh.2.2⟩,fun _=>rfl⟩
   ·rw [zt (show (fa q).2 > 20000 from by omega)]
    exact ⟨[],2,rfl,⟨fun h=>by omega,fun hh=>absurd hh.1.2.2 h3⟩,fun h=>by omega⟩
  ·rw [zt (show fv q > 12 from by omega)]
   exact ⟨[],2,rfl,⟨fun h=>by omega,fun hh=>absurd hh.1.2.1 h2⟩,fun h=>by omega⟩
 ·rw [zt (show ((bJ q).length : Int) > 24 from by omega)]
  exact ⟨[],2,rfl,⟨fun h=>by omega,fun hh=>absurd hh.1.1 h1⟩,fun h=>by omega⟩
structure TinyQ (q : LQuery) : Prop where
 nodes : (bJ q).length ≤ 2000000
 here : ∀ x ∈ bJ q,x.exprs.length ≤ 1000000 ∧ x.aggregates.length ≤ 1000000
theorem TinyQ.small {q : LQuery} (h : TinyQ q) : SmallQ q := ⟨by have := h.nodes; omega,h.here⟩
theorem oD {H : Type} : ∀ ds : List (DataW H),(ds.map (fun d=>Rows.uptoBulk d)).sum = Rows.uptoBulkAll ds
 | []=>by simp [Rows.uptoBulkAll]
 | d :: ds=>by simp only [List.map_cons,List.sum_cons,Rows.uptoBulkAll,oD ds]
theorem bulk_is : IsBulk (fun _ d=>Rows.uptoBulk d) where
 one := by
  intro H d
  cases d with
  | lit l=>cases l <;> simp [Rows.uptoBulk]
  | nil=>simp [Rows.uptoBulk]
  | ptr d=>simp [Rows.uptoBulk]
  | slice elems spare=>simp [Rows.uptoBulk]
  | agg parts=>simp [Rows.uptoBulk]
  | iface t d=>simp [Rows.uptoBulk]
  | map entries=>simp [Rows.uptoBulk]
  | held h=>simp [Rows.uptoBulk]
 str := by intro H l; simp [Rows.uptoBulk]
 slice := by intro H a b; rw [oD]; simp only [Rows.uptoBulk]; omega
 agg := by intro H a; rw [oD]; simp only [Rows.uptoBulk]; omega
theorem gf {r : List PV} : ∀ {rs : List (List PV)},r ∈ rs → aO r ≤ dc rs
 | x :: rs,h=>by
  simp only [dc]
  rcases List.mem_cons.1 h with rfl | h
  ·omega
  ·have := gf h; omega
theorem jm {α : Type} {f : α → List PV} {k : Nat} (hf : ∀ x,k ≤ aO (f x)) : ∀ l : List α,k * l.length ≤ dc (l.map f)
 | []=>by simp
 | x :: l=>by
  have := jm hf l
  have := hf x
  simp only [List.map_cons,dc,List.length_cons,Nat.mul_add]
  omega
theorem pW (e : LExpr) : 2 ≤ aO (aF e) := by
 cases e; simp only [aF,aO,PV.bulk]; omega
theorem call_pos (c : LAggregateCall) : 2 ≤ aO (bV c) := by
 simp only [bV,aO,PV.bulk]; omega
theorem smallS_bulk {s : LSchema} {n : Nat} (hn : n ≤ 10000000) (h : aO (bK s) ≤ n) : pr s := by
 intro t ht
 have h1 : dc (s.tables.map dz) ≤ aO (bK s) := by
  simp only [bK,aO,PV.bulk]; omega
 have h2 := gf (List.mem_map_of_mem (f := dz) ht)
 have h3 : dc (t.primaryKey.map bP) ≤ aO (dz t) := by
  simp only [dz,aO,PV.bulk]; omega
 have h4 := jm (f := bP) (k := 1) (fun x=>by simp [aO,PV.bulk]) t.primaryKey
 omega
theorem nodes_bulk : ∀ q : LQuery,(bJ q).length + 1 ≤ aO (aZ q) ∧ ∀ x ∈ bJ q,2 * x.exprs.length ≤ aO (aZ q) ∧ 2 * x.aggregates.length ≤ aO (aZ q) := by
 apply LQuery.ind
 intro q ih
 have e : aO (aZ q) = aO (aA q) := by rw [bH]
 have hr : dc (q.inputs.map aZ) + 8 ≤ aO (aA q) := by
  simp only [aA,aO,PV.bulk]; omega
 have hsum : ∀ l : List LQuery,(∀ x ∈ l,x ∈ q.inputs) → ((l.map bJ).flatten).length + l.length ≤ dc (l.map aZ) := by
  intro l
  induction l with
  | nil=>intro _; simp
  | cons x l ihl =>
   intro hm
   have h1 := (ih x (hm x (by simp))).1
   have h2 := ihl (fun y hy=>hm y (by simp [hy]))
   simp only [List.map_cons,List.flatten_cons,List.length_append,List.length_cons,dc]
   omega
 have h0 := hsum q.inputs (fun _ h=>h)
 rw [e]
 refine ⟨?_,fun x hx=>?_⟩
 ·rw [eT]; simp only [List.length_cons]; omega
 ·rw [eT] at hx
  rcases List.mem_cons.1 hx with rfl | hx
  ·have h1 := jm pW x.exprs
   have h2 := jm call_pos x.aggregates
   constructor
   ·simp only [aA,aO,PV.bulk]; omega
   ·simp only [aA,aO,PV.bulk]; omega
  ·simp only [List.mem_flatten,List.mem_map] at hx
   obtain ⟨l,⟨y,hy,rfl⟩,hx⟩ := hx
   have h1 := (ih y hy).2 x hx
   have h2 := gf (List.mem_map_of_mem (f := aZ) hy)
   omega
theorem qu {q : LQuery} {n : Nat} (hn : n ≤ 1048576) (h : aO (aA q) ≤ n) : TinyQ q := by
 rw [← bH] at h
 have := nodes_bulk q
 exact ⟨by omega,fun x hx=>by have := this.2 x hx; omega⟩
theorem args_lt {e a : LExpr} (h : a ∈ e.args) : SizeOf.sizeOf a < SizeOf.sizeOf e := by
 cases e
 have := List.sizeOf_lt_of_mem (show a ∈ _ from h)
 simp only [LExpr.mk.sizeOf_spec,LExpr.args] at *
 omega
theorem bulk_arg {e a : LExpr} (h : a ∈ e.args) : aO (aF a) ≤ aO (aF e) := by
 have h1 := gf (List.mem_map_of_mem (f := aF) h)
 rw [cb e]
 simp only [cG,aO,PV.bulk]
 omega
theorem args_bulk (e : LExpr) : e.args.length ≤ aO (aF e) := by
 have h1 := jm pW e.args
 rw [cb e]
 simp only [cG,aO,PV.bulk]
 omega
theorem subst_id : ∀ (n : Nat) (e : LExpr),SizeOf.sizeOf e ≤ n → aO (aF e) ≤ 1048576 → en (n + 1) e [] [] = some e
 | 0,e,h,_=>by cases e; simp at h
 | n + 1,e,h,hb=>by
  have ih := fun a (ha : a ∈ e.args)=>subst_id n a (by have := args_lt ha; omega) (by have := bulk_arg ha; omega)
  have hl := args_bulk e
  rw [en]
  unfold jf
  have hi : dy [] e.name = some (-1) := rfl
  rw [hi]
  have hr := rMa (step := fun (_ : Nat) (x2 : LExpr) (s2 : List LExpr)=>ae (en (n + 1) x2 [] []) fun x45=>ae (dF 88 s2 ([x45] : List LExpr)) fun (x47 : List LExpr)=>some (Flow.next (ρ := Empty) x47)) (xs := e.args) (s := [])
   (fun k=>e.args.take k) (by simp) (fun k x hk=>by
    have hkl := (zg.1 hk).1
    rw [ih x (fu hk),bPs,cU (by decide) (by simp; omega),bPs,List.take_add_one,hk]
    rfl)
  rw [hr]
  cases e.kind == 2 <;> cases e <;> simp [bPs,Flow.thenR,Flow.thenP,LExpr.kind,LExpr.name,LExpr.index,LExpr.value,LExpr.args]
theorem clone_eq {e : LExpr} (hb : aO (aF e) ≤ 1048576) : jh e = some e := by
 unfold jh
 refine lf (SizeOf.sizeOf e + 2) fun m hm=>?_
 obtain ⟨m,rfl⟩ : ∃ k,m = k + 2 := ⟨m - 2,by omega⟩
 rw [iF]
 unfold lx
 show (ae (en (m + 1) e [] []) fun x4=>some x4) = some e
 rw [subst_id m e (by omega) hb]
 rfl
theorem range_tot {α σ β : Type} {step : Nat → α → σ → Option (Flow σ Empty)} {k : σ → Option β} {R : β → Prop} {xs : List α} {s0 : σ} (I : Nat → σ → Prop) (h0 : I 0 s0)
  (hs : ∀ j x s,xs[j]? = some x → I j s → ∃ s',step j x s = some (.next s') ∧ I (j + 1) s') (hk : ∀ s,I xs.length s → ∃ r,k s = some r ∧ R r) :
  ∃ r,ae (aM step 0 xs s0) (fun fl=>fl.thenP k) = some r ∧ R r := by
 obtain ⟨fl,h1,h2⟩ := fW (step := step) I (fun _=>False) xs 0 s0 h0 (fun j x s hj hI=>by
  rw [Nat.zero_add] at hI ⊢
  obtain ⟨s',h1,h2⟩ := hs j x s hj hI
  exact ⟨_,h1,h2⟩)
 rw [h1]
 cases fl with
 | next s=>simp only [Nat.zero_add] at h2; exact hk s h2
 | brk s=>exact absurd h2 (by simp)
 | ret r=>exact r.elim
structure CQ (s : LSchema) (q : LQuery) : Prop where
 bulk : aO (aA q) ≤ 1048576
 size : SizeOk q
 kinds : qT (kD q)
 cols : (fc ⟨s,[]⟩ q).2 = 0
theorem CQ.small {s : LSchema} {q : LQuery} (h : CQ s q) : SmallQ q := (qu (Nat.le_refl _) h.bulk).small
theorem bulk_sub {q x : LQuery} (h : x ∈ q.inputs) : aO (aA x) ≤ aO (aA q) := by
 have h2 := gf (List.mem_map_of_mem (f := aZ) h)
 rw [bH] at h2
 cases q
 simp only [aA,aO,PV.bulk,LQuery.inputs] at h2 ⊢
 omega
theorem CQ.sub {s : LSchema} {q x : LQuery} (h : CQ s q) (hx : x ∈ q.inputs) : CQ s x := by
 have hp := params_sub hx
 refine ⟨Nat.le_trans (bulk_sub hx) h.bulk,⟨?_,?_,(most_inv h.size.2.2).2 x hx⟩,fun i k k' a b=>h.kinds i k k' (hp _ a) (hp _ b),(cols_inv h.cols).2.1 x hx⟩
 ·have := kA hx; have := h.size.1; omega
 ·have := depthQ_sub hx; have := h.size.2.1; omega
theorem valid_tot {s : LSchema} (hs : pr s) {q : LQuery} (hq : aO (aA q) ≤ 1048576) : ∃ b,eU s q = some b ∧ (b = true → CQ s q) := by
 unfold eU
 rw [size_ok,bPs]
 obtain ⟨v,hv⟩ := qA hs
 have hsm : SmallQ q := (qu (Nat.le_refl _) hq).small
 obtain ⟨cs,e,hc,he,_⟩ := check_eq (s := s) (vars := []) hsm
 unfold fP
 rw [hv,hc]
 simp only [bPs]
 by_cases c1 : kS q 400 < 0
 ·rw [zt c1]; exact ⟨false,rfl,fun h=>by cases h⟩
 rw [zf c1,zd,bPs]
 by_cases c2 : v = 0
 ·rw [bneF c2,zd]
  refine ⟨_,rfl,fun h=>?_⟩
  have h : e = 0 := by simpa using h
  obtain ⟨a,b,c⟩ := he.1 h
  exact ⟨hq,a,b,c⟩
 ·rw [bneT c2]; exact ⟨false,rfl,fun h=>by cases h⟩
theorem appI_mid {α : Type} {bytes : Nat} {xs ys : List α} (hb : bytes ≤ 200) (h : xs.length + ys.length ≤ 100000000) : dF bytes xs ys = some (xs ++ ys) := by
 refine appI_ok ?_ (by unfold maxLen; omega)
 have := Nat.mul_le_mul h hb
 omega
theorem indexO (l : List (List UInt8)) (v : List UInt8) (h : l.length ≤ 10000000) : ∃ i,dQ l v = some (i,l) := by
 unfold dQ
 rw [qr (by omega),bPs,Int.toNat_natCast]
 obtain ⟨fl,h1,h2⟩ := fW (step := fun (j1 : Nat) (_ : Nat) (s1 : List (List UInt8)) =>
  ae (aC s1 (j1 : Int)) fun (x14 : List UInt8) =>
  cond (v == x14)
   (some (.ret ((j1 : Int),s1)))
   (some (.next s1))) (fun _ s=>s = l) (fun r : Int × List (List UInt8)=>r.2 = l) (List.range l.length) 0 l rfl (fun k x s hk hI=>by
  subst hI
  have hlt := (zg.1 hk).1
  rw [List.length_range] at hlt
  rw [Nat.zero_add,jS (ze hlt),bPs]
  cases v == s[k] with
  | true=>exact ⟨_,rfl,rfl⟩
  | false=>exact ⟨_,rfl,rfl⟩)
 rw [h1]
 cases fl with
 | next s=>exact ⟨-1,by rw [show s = l from h2]; rfl⟩
 | brk s=>exact absurd h2 (by simp)
 | ret r=>exact ⟨r.1,by rw [← (show r.2 = l from h2)]; rfl⟩
theorem contO (l : List (List UInt8)) (v : List UInt8) (h : l.length ≤ 10000000) : ∃ b,cE l v = some (b,l) := by
 obtain ⟨i,hi⟩ := indexO l v h
 unfold cE
 rw [hi,bPs,cf rfl,bPs]
 exact ⟨_,rfl⟩
theorem qF {β : Type} {F : Nat → Option β} {v : Option β} (n : Nat) (h : ∀ m,n ≤ m → F m = v) : gg F = v := by
 cases v with
 | some r=>exact lf n h
 | none =>
  cases hl : gg F with
  | none=>rfl
  | some r =>
   obtain ⟨k,hk⟩ := limN_ev hl
   have := hk (max n k) (Nat.le_max_right n k)
   rw [h _ (Nat.le_max_left n k)] at this
   cases this
theorem names_both (e : LExpr) : (∃ N,∀ n,N ≤ n → ∀ k l,ia n e k l = fL e k l) ∧ ∀ k l,fL e k l = fO fL e k l := by
 induction e using LExpr.ind with
 | _ e ih =>
  obtain ⟨N,hN⟩ := oY (p := fun x n=>∀ k l,ia n x k l = fL x k l) e.args fun x hx=>(ih x hx).1
  have key : ∀ n,N + 1 ≤ n → ∀ k l,ia n e k l = fO fL e k l := by
   intro n hn k l
   obtain ⟨n,rfl⟩ : ∃ k,n = k + 1 := ⟨n - 1,by omega⟩
   show fO (fun b0 b1 b2=>ia n b0 b1 b2) e k l = _
   simp only [fO]
   congr 1
   funext t1
   congr 1
   funext t2
   congr 1
   exact jj e.args 0 _ fun j x s hj=>by rw [hN n (by omega) x (fu hj)]
  have e1 : ∀ k l,fL e k l = fO fL e k l := fun k l=>qF (N + 1) fun n hn=>key n hn k l
  exact ⟨⟨N + 1,fun n hn k l=>by rw [key n hn,e1]⟩,e1⟩
theorem rows_drop {xs : List LExpr} {j : Nat} {x : LExpr} (h : xs[j]? = some x) : dc ((xs.drop j).map aF) = aO (aF x) + dc ((xs.drop (j + 1)).map aF) := by
 obtain ⟨hlt,he⟩ := zg.1 h
 rw [List.drop_eq_getElem_cons hlt,he,List.map_cons]
 simp only [dc]
theorem nargs_bulk (e : LExpr) : dc (e.args.map aF) + 2 ≤ aO (aF e) := by
 rw [cb e]
 simp only [cG,aO,PV.bulk]
 omega
theorem exprs_eq {l : List LExpr} (hl : l.length ≤ 1000000) (hb : ∀ e ∈ l,aO (aF e) ≤ 1048576) : iN l = some l := by
 unfold iN
 rw [jz (xs := l) id (fun k x hk=>by
  have hlt := (zg.1 hk).1
  rw [clone_eq (hb x (fu hk)),bPs,cU (by decide) (by simp; omega),bPs]
  rfl),bPs,bI,List.map_id]
theorem bulk_exprs {q : LQuery} {e : LExpr} (h : e ∈ q.exprs) : aO (aF e) ≤ aO (aA q) := by
 have h2 := gf (List.mem_map_of_mem (f := aF) h)
 simp only [aA,aO,PV.bulk]
 omega
theorem bulk_agg {q : LQuery} {a : LAggregateCall} (h : a ∈ q.aggregates) : aO (bV a) ≤ aO (aA q) := by
 have h2 := gf (List.mem_map_of_mem (f := bV) h)
 simp only [aA,aO,PV.bulk] at h2 ⊢
 omega
theorem bulk_args {a : LAggregateCall} {e : LExpr} (h : e ∈ a.args) : aO (aF e) ≤ aO (bV a) := by
 have h2 := gf (List.mem_map_of_mem (f := aF) h)
 simp only [bV,aO,PV.bulk]
 omega
theorem args_len (a : LAggregateCall) : 2 * a.args.length ≤ aO (bV a) := by
 have := jm (f := aF) (k := 2) pW a.args
 simp only [bV,aO,PV.bulk]
 omega
theorem check_len {s : LSchema} {vars : List LCol} {q : LQuery} (h : SmallQ q) : ∃ cs e,eW s vars q = some (cs,e) ∧ cs.length ≤ 20 := by
 unfold eW
 rw [nodes_ok q h.nodes,bPs]
 by_cases h1 : (bJ q).length ≤ 24
 ·rw [zf (show ¬ ((bJ q).length : Int) > 24 from by omega),zd,depth_ok q h.nodes,bPs]
  by_cases h2 : fv q ≤ 12
  ·rw [zf (show ¬ fv q > 12 from by omega),zd]
   unfold eG
   rw [most_ok,bPs,bPs]
   by_cases h3 : (fa q).2 ≤ 20000
   ·rw [zf (show ¬ (fa q).2 > 20000 from by omega),bPs,zd,kinds_ok h.nodes,bPs]
    cases hb : (iS q).2.1 with
    | true=>exact ⟨[],13,rfl,by simp⟩
    | false =>
     simp only [zd]
     rw [cols_ok _ q h]
     exact ⟨(fc ⟨s,vars⟩ q).1,(fc ⟨s,vars⟩ q).2,rfl,colsQ_len _ _⟩
   ·rw [zt (show (fa q).2 > 20000 from by omega)]
    exact ⟨[],2,rfl,by simp⟩
  ·rw [zt (show fv q > 12 from by omega)]
   exact ⟨[],2,rfl,by simp⟩
 ·rw [zt (show ((bJ q).length : Int) > 24 from by omega)]
  exact ⟨[],2,rfl,by simp⟩
theorem ny (m : LPushdownPruner) {q : LQuery} (h : SmallQ q) : ∃ l : bM,cV m q = some l ∧ cn m q = some l ∧ l.length ≤ 20 := by
 obtain ⟨cs,e,hc,hl⟩ := check_len (s := m.s) (vars := []) h
 refine ⟨cs.map LCol.name,?_,?_,by rw [zl]; exact hl⟩
 ·unfold cV fP
  rw [hc,bPs,bPs,jz (xs := cs) LCol.name (fun k x hk=>by
   have hlt := (zg.1 hk).1
   rw [cU (by decide) (by simp; omega),bPs]),bPs,bI]
 ·unfold cn fP
  rw [hc,bPs,bPs,jz (xs := cs) LCol.name (fun k x hk=>by
   have hlt := (zg.1 hk).1
   rw [cU (by decide) (by simp; omega),bPs]),bPs,bI]
theorem valid_small {s : LSchema} (hs : pr s) {q : LQuery} (hsm : SmallQ q) : ∃ b,eU s q = some b := by
 unfold eU
 rw [size_ok,bPs]
 obtain ⟨v,hv⟩ := qA hs
 obtain ⟨cs,e,hc,_⟩ := check_len (s := s) (vars := []) hsm
 unfold fP
 rw [hv,hc]
 simp only [bPs]
 by_cases c1 : kS q 400 < 0
 ·rw [zt c1]; exact ⟨false,rfl⟩
 rw [zf c1,zd,bPs]
 by_cases c2 : v = 0
 ·rw [bneF c2,zd]
  exact ⟨_,rfl⟩
 ·rw [bneT c2]; exact ⟨false,rfl⟩
theorem indexF_ok (A : bM) (p : List UInt8 → Bool) (hs : A.length ≤ 1000000) : ∃ i,dv A (fun a=>some (p a)) = some (i,A) ∧ ((i = -1 ∧ ∀ x ∈ A,p x = false) ∨ ∃ k : Nat,i = (k : Int) ∧ k < A.length ∧ (∀ x ∈ A.take k,p x = false) ∧ ∀ x,A[k]? = some x → p x = true) := by
 unfold dv
 rw [qr (by omega),bPs,Int.toNat_natCast]
 obtain ⟨fl,h1,h2⟩ := fW (step := fun (j1 : Nat) (_ : Nat) (s1 : bM)=>ae (aC s1 (j1 : Int)) fun (x14 : List UInt8)=>ae (some (p x14)) fun x16=>cond x16 (some (Flow.ret (ρ := (Int × (List (List UInt8)))) ((j1 : Int),s1))) (some (.next s1)))
  (fun j s=>s = A ∧ ∀ x ∈ A.take j,p x = false) (fun r=>r.2 = A ∧ ∃ k : Nat,r.1 = (k : Int) ∧ k < A.length ∧ (∀ x ∈ A.take k,p x = false) ∧ ∀ x,A[k]? = some x → p x = true) (List.range A.length) 0 A ⟨rfl,by simp⟩ (fun j i s hj hI=>by
   simp only [Nat.zero_add] at hI ⊢
   obtain ⟨rfl,hI⟩ := hI
   have hlt : j < s.length := by simpa using (zg.1 hj).1
   rw [jS (ze hlt),bPs,bPs]
   cases hp : p s[j] with
   | true=>exact ⟨_,rfl,rfl,j,rfl,hlt,hI,fun x hx=>by rw [ze hlt] at hx; cases hx; exact hp⟩
   | false =>
    refine ⟨_,rfl,rfl,fun x hx=>?_⟩
    rw [List.take_add_one,ze hlt] at hx
    rcases List.mem_append.1 hx with hx | hx
    ·exact hI x hx
    ·have : x = s[j] := by simpa using hx
     rw [this,hp])
 rw [h1,bPs]
 cases fl with
 | next s =>
  simp only [Nat.zero_add,List.length_range] at h2
  obtain ⟨rfl,h2⟩ := h2
  rw [List.take_length] at h2
  exact ⟨-1,rfl,.inl ⟨rfl,h2⟩⟩
 | brk s=>exact absurd h2 (by simp)
 | ret r =>
  obtain ⟨h3,k,h4,h5,h6,h7⟩ := h2
  obtain ⟨r1,r2⟩ := r
  simp only at h3 h4
  subst h3
  subst h4
  exact ⟨(k : Int),rfl,.inr ⟨k,rfl,h5,h6,h7⟩⟩
theorem filter_take {A : bM} {p : List UInt8 → Bool} {k : Nat} (h : ∀ x ∈ A.take k,p x = false) : (A.take k).filter (fun x=>!p x) = A.take k := List.filter_eq_self.2 fun x hx=>by rw [h x hx]; rfl
theorem delete_ok (A : bM) (p : List UInt8 → Bool) (hs : A.length ≤ 1000000) : cF A (fun a=>some (p a)) = some (A.filter fun x=>!p x) := by
 unfold cF
 obtain ⟨i,hi,hc⟩ := indexF_ok A p hs
 rw [hi,bPs,cf rfl,bPs]
 rcases hc with ⟨rfl,hc⟩ | ⟨k0,rfl,hk0,hpre,hat⟩
 ·rw [show ((-1 : Int) == -1) = true from rfl,zc,List.filter_eq_self.2 fun x hx=>by rw [hc x hx]; rfl]
 ·rw [show (((k0 : Int)) == -1) = false from by simp,zd,bu (z := (k0 : Int) + 1) (n := k0 + 1)]
  refine oq (gF (fun s=>∃ (D : bM) (i j : Nat),s = (D,(i : Int),(j : Int)) ∧ D.length = A.length ∧ i < j ∧ j ≤ A.length ∧ (∀ q,j ≤ q → D[q]? = A[q]?) ∧ D.take i = (A.take j).filter fun x=>!p x) (fun s=>((A.length : Int) - s.2.2).toNat)
   (fun s=>∃ (D : bM) (i : Nat),s.1 = D ∧ s.2.1 = (i : Int) ∧ i ≤ D.length ∧ D.take i = A.filter fun x=>!p x) ⟨A,k0,k0 + 1,rfl,rfl,by omega,by omega,fun _ _=>rfl,?_⟩ (fun s hI=>?_) (fun s hq=>?_))
  ·rw [List.take_add_one,ze hk0,List.filter_append,filter_take hpre]
   simp [hat _ (ze hk0)]
  ·obtain ⟨D,i,j,rfl,hD,hij,hjl,hsame,htk⟩ := hI
   dsimp only
   by_cases hlt : j < A.length
   ·have e1 : D[j]? = some A[j] := by rw [hsame _ (Nat.le_refl _),ze hlt]
    have htake : A.take (j + 1) = A.take j ++ [A[j]] := by
     rw [List.take_add_one,ze hlt]
     rfl
    rw [zt (by omega),zc,jS e1,bPs,bPs,bu (z := (j : Int) + 1) (n := j + 1),bu (z := (i : Int) + 1) (n := i + 1)]
    cases hp : p A[j] with
    | true =>
     rw [Bool.not_true,zd]
     refine ⟨_,rfl,⟨D,i,j + 1,rfl,hD,by omega,by omega,fun q hq=>hsame q (by omega),?_⟩,by show ((A.length : Int) - ((j + 1 : Nat) : Int)).toNat < ((A.length : Int) - (j : Int)).toNat; omega⟩
     rw [htake,List.filter_append,htk]
     simp [hp]
    | false =>
     rw [Bool.not_false,zc,kC (show i < D.length by omega),bPs,cj,Int.toNat_natCast]
     refine ⟨_,rfl,⟨D.set i A[j],i + 1,j + 1,rfl,by simpa using hD,by omega,by omega,fun q hq=>?_,?_⟩,by show ((A.length : Int) - ((j + 1 : Nat) : Int)).toNat < ((A.length : Int) - (j : Int)).toNat; omega⟩
     ·rw [List.getElem?_set_ne (by omega)]
      exact hsame q (by omega)
     ·rw [List.take_add_one,List.getElem?_set_self (by omega),List.take_set_of_le (Nat.le_refl _),htk,htake,List.filter_append]
      simp [hp]
   ·rw [zf (by omega),zd]
    have : j = A.length := by omega
    rw [this,List.take_length] at htk
    exact ⟨_,rfl,D,i,rfl,rfl,by omega,htk⟩
  ·obtain ⟨D,i,q1,q2,hi,htk⟩ := hq
   rw [q1,q2,po hi,bPs,po (by simp; omega),bPs,List.take_take,Nat.min_self]
   exact ⟨_,rfl,htk⟩
def ma (x : List UInt8) : LExpr := LExpr.mk 2 x 0 (LVal.mk 0 0 []) []
theorem only_ok (m : LPushdownPruner) {q : LQuery} (h : SmallQ q) (names : bM) : ∃ p cs,cV m q = some cs ∧ cs.length ≤ 20 ∧ ej m q names = some p ∧
  (p = q ∨ ∃ keep : bM,keep.Sublist cs ∧ keep.length < cs.length ∧ (∀ x ∈ keep,x ∈ names) ∧ p = LQuery.mk 3 [] keep (keep.map ma) [] [] 0 0 [q]) := by
 obtain ⟨cs,hc,_,hl⟩ := ny m h
 have hf : (fun a0=>dH a0 names) = fun a0=>some (!decide (a0 ∈ names)) := by
  funext a0
  unfold dH
  rw [mC,bPs]
 have hd : cF cs (fun a0=>dH a0 names) = some (cs.filter fun x=>!!decide (x ∈ names)) := by
  rw [hf]; exact delete_ok cs _ (by omega)
 generalize hk : (cs.filter fun x=>!!decide (x ∈ names)) = keep at hd
 have hsub : keep.Sublist cs := by rw [← hk]; exact List.filter_sublist
 have hle := hsub.length_le
 unfold ej
 rw [hc,bPs,hd,bPs,cj]
 by_cases h1 : keep.length = cs.length
 ·refine ⟨q,cs,rfl,hl,?_,.inl rfl⟩
  rw [show ((keep.length : Int) == (cs.length : Int)) = true from by simp [h1],zc,zc]
 ·rw [show ((keep.length : Int) == (cs.length : Int)) = false from by rw [beq_eq_false_iff_ne]; omega,zd]
  by_cases h2 : keep.length = 0
  ·refine ⟨q,cs,rfl,hl,?_,.inl rfl⟩
   rw [show ((keep.length : Int) == (0 : Int)) = true from by simp [h2],zc]
  ·refine ⟨_,cs,rfl,hl,?_,.inr ⟨keep,hsub,by omega,fun x hx=>?_,rfl⟩⟩
   ·rw [show ((keep.length : Int) == (0 : Int)) = false from by rw [beq_eq_false_iff_ne]; omega,zd,jz (xs := keep) ma (fun k x hk=>by
     have hlt := (zg.1 hk).1
     show ae (dF 88 _ [ma x]) _ = _
     rw [cU (by decide) (by simp; omega),bPs]),bPs,bI]
   ·rw [← hk,List.mem_filter] at hx
    simpa using hx.2
theorem picks_ok {q : LQuery} (names : bM) (hl : q.exprs.length = q.names.length) (h1 : 1 ≤ q.names.length) (h2 : q.names.length ≤ 1000000) :
  ∃ ns es,gV q names = some (LQuery.mk q.kind q.table ns es q.aggregates q.descending q.count q.offset q.inputs) ∧ es.Sublist q.exprs := by
 unfold gV
 obtain ⟨fl,e1,e2⟩ := fW (step := fun (j1 : Nat) (x1 : List UInt8) (s1 : List (List UInt8) × List LExpr) =>
   ae (bv names x1) fun x21 =>
   cond x21
    (ae (aC q.exprs (j1 : Int)) fun (x32 : LExpr) =>
    ae (dF 16 s1.1 ([x1] : List (List UInt8))) fun (x26 : List (List UInt8)) =>
    ae (dF 88 s1.2 ([x32] : List LExpr)) fun (x35 : List LExpr) =>
    some (Flow.next (ρ := Empty) (x26,x35)))
    (some (.next (s1.1,s1.2)))) (fun j s=>s.1.length ≤ j ∧ s.2.length ≤ j ∧ s.2.Sublist (q.exprs.take j)) (fun _=>False) q.names 0 ([],[]) ⟨Nat.le_refl _,Nat.le_refl _,by simp⟩ (fun j x s hj hI=>by
   simp only [Nat.zero_add] at hI ⊢
   obtain ⟨i1,i2,i3⟩ := hI
   have hlt := (zg.1 hj).1
   have hle : j < q.exprs.length := by omega
   rw [mC,bPs]
   have htake : q.exprs.take (j + 1) = q.exprs.take j ++ [q.exprs[j]] := by
    rw [List.take_add_one,ze hle]
    rfl
   cases decide (x ∈ names) with
   | true =>
    rw [zc,jS (ze hle),bPs,cU (by decide) (by simp; omega),bPs,cU (by decide) (by simp; omega),bPs]
    refine ⟨_,rfl,by simp; omega,by simp; omega,?_⟩
    rw [htake]
    exact List.Sublist.append i3 (List.Sublist.refl _)
   | false =>
    refine ⟨_,rfl,by show s.1.length ≤ j + 1; omega,by show s.2.length ≤ j + 1; omega,?_⟩
    rw [htake]
    exact i3.trans (List.sublist_append_left _ _))
 rw [e1,bPs]
 cases fl with
 | next s =>
  simp only [Nat.zero_add] at e2
  rw [bI]
  cases ((s.1.length : Int) == (0 : Int)) with
  | true =>
   rw [zc,pj ⟨by omega,by omega,by omega⟩,bPs,pj ⟨by omega,by omega,by omega⟩,bPs]
   exact ⟨_,_,rfl,(List.drop_sublist _ _).trans (List.take_sublist _ _)⟩
  | false=>exact ⟨_,_,rfl,e2.2.2.trans (List.take_sublist _ _)⟩
 | brk s=>exact absurd e2 (by simp)
 | ret r=>exact r.elim
theorem aggs_ok {q : LQuery} (names : bM) (h1 : 1 ≤ q.aggregates.length + q.exprs.length) (h2 : q.aggregates.length ≤ 1000000) (h3 : q.exprs.length ≤ 1000000) :
  ∃ as',ig q names = some (LQuery.mk q.kind q.table q.names q.exprs as' q.descending q.count q.offset q.inputs) ∧ as'.Sublist q.aggregates := by
 unfold ig
 obtain ⟨fl,e1,e2⟩ := fW (step := fun (_ : Nat) (x1 : LAggregateCall) (s1 : List LAggregateCall) =>
   ae (bv names x1.name) fun x20 =>
   cond x20
    (ae (dF 56 s1 ([x1] : List LAggregateCall)) fun (x25 : List LAggregateCall) =>
    some (Flow.next (ρ := Empty) x25))
    (some (.next s1))) (fun j s=>s.length ≤ j ∧ s.Sublist (q.aggregates.take j)) (fun _=>False) q.aggregates 0 [] ⟨Nat.le_refl _,by simp⟩ (fun j x s hj hI=>by
   simp only [Nat.zero_add] at hI ⊢
   obtain ⟨i1,i3⟩ := hI
   have hlt := (zg.1 hj).1
   rw [mC,bPs]
   have htake : q.aggregates.take (j + 1) = q.aggregates.take j ++ [x] := by
    rw [List.take_add_one,hj]
    rfl
   cases decide (x.name ∈ names) with
   | true =>
    rw [zc,cU (by decide) (by simp; omega),bPs]
    refine ⟨_,rfl,by simp; omega,?_⟩
    rw [htake]
    exact List.Sublist.append i3 (List.Sublist.refl _)
   | false =>
    refine ⟨_,rfl,by show s.length ≤ j + 1; omega,?_⟩
    rw [htake]
    exact i3.trans (List.sublist_append_left _ _))
 rw [e1,bPs]
 cases fl with
 | next s =>
  simp only [Nat.zero_add] at e2
  have hsl := e2.1
  rw [bI,ep (n := (s.length : Int) + (q.exprs.length : Int)) (by omega) (by omega)]
  by_cases h0 : s.length + q.exprs.length = 0
  ·rw [show ((s.length : Int) + (q.exprs.length : Int) == (0 : Int)) = true from by rw [beq_iff_eq]; omega,zc,pj ⟨by omega,by omega,by omega⟩,bPs]
   exact ⟨_,rfl,(List.drop_sublist _ _).trans (List.take_sublist _ _)⟩
  ·rw [show ((s.length : Int) + (q.exprs.length : Int) == (0 : Int)) = false from by rw [beq_eq_false_iff_ne]; omega,zd]
   exact ⟨_,rfl,e2.2.trans (List.take_sublist _ _)⟩
 | brk s=>exact absurd e2 (by simp)
 | ret r=>exact r.elim
theorem cloneT_ev : ∀ q : LQuery,aO (aA q) ≤ 1048576 → ∃ N,∀ n,N ≤ n → gp n q = some q := by
 refine LQuery.ind fun q ih hb=>?_
 have hsm : SmallQ q := (qu (Nat.le_refl _) hb).small
 obtain ⟨hE,hA⟩ := hsm.self
 have hi : q.inputs.length ≤ 10000000 := by
  have := hsm.nodes
  rw [eT] at this
  have h2 : q.inputs.length ≤ ((q.inputs.map bJ).flatten).length := by
   have : ∀ l : List LQuery,l.length ≤ ((l.map bJ).flatten).length := by
    intro l
    induction l with
    | nil=>simp
    | cons x l ih=>have := kw x; simp only [List.map_cons,List.flatten_cons,List.length_append,List.length_cons]; omega
   exact this _
  simp only [List.length_cons] at this
  omega
 obtain ⟨N,hN⟩ := oY (p := fun x n=>gp n x = some x) q.inputs fun x hx=>ih x hx (Nat.le_trans (bulk_sub hx) hb)
 refine ⟨N + 1,fun n hn=>?_⟩
 obtain ⟨n,rfl⟩ : ∃ k,n = k + 1 := ⟨n - 1,by omega⟩
 rw [gp]
 unfold jO
 rw [jz (xs := q.exprs) id (fun k x hk=>by
  have hlt := (zg.1 hk).1
  rw [clone_eq (Nat.le_trans (bulk_exprs (fu hk)) hb),bPs,cU (by decide) (by simp; omega),bPs]
  rfl),bPs,bI,List.map_id]
 rw [jz (xs := q.aggregates) id (fun k x hk=>by
  have hlt := (zg.1 hk).1
  have hbx := Nat.le_trans (bulk_agg (fu hk)) hb
  have hlx := args_len x
  rw [exprs_eq (l := x.args) (by omega) (fun e he=>Nat.le_trans (bulk_args he) hbx),bPs,cU (by decide) (by simp; omega),bPs]
  rfl),bPs,bI,List.map_id]
 rw [jz (xs := q.inputs) id (fun k x hk=>by
  have hlt := (zg.1 hk).1
  dsimp only
  rw [hN n (by omega) x (fu hk),bPs,cU (by decide) (by simp; omega),bPs]
  rfl),bPs,bI,List.map_id]
 cases q
 rfl
theorem cloneT_eq {q : LQuery} (hb : aO (aA q) ≤ 1048576) : lF q = some q := by
 obtain ⟨N,h⟩ := cloneT_ev q hb
 exact lf N h
def kH (s : LSchema) (q : LQuery) (v : Int) : Prop := ∃ N,∀ n,N ≤ n → cv n s q = some v
theorem kH.lim {s : LSchema} {q : LQuery} {v : Int} (h : kH s q v) : fX s q = some v := by
 obtain ⟨N,h⟩ := h
 exact qF N h
theorem sc_scan {s : LSchema} {q : LQuery} (hk : q.kind = 1) {cs : bM} (hc : cV (LPushdownPruner.mk s) q = some cs) : kH s q (cs.length : Int) := by
 refine ⟨1,fun n hn=>?_⟩
 obtain ⟨n,rfl⟩ : ∃ k,n = k + 1 := ⟨n - 1,by omega⟩
 show ca (fun b0 b1=>cv n b0 b1) s q = _
 unfold ca
 rw [hk,show ((1 : Int) == (1 : Int)) = true from rfl,zc,hc,bPs]
theorem qZ {s : LSchema} {q x : LQuery} (hk : q.kind = 3) (hi : q.inputs = [x]) (hx : x.kind = 1) {r : bM} (hr : bG ([] : List (List UInt8)) q.exprs = some r) : kH s q (r.length : Int) := by
 refine ⟨1,fun n hn=>?_⟩
 obtain ⟨n,rfl⟩ : ∃ k,n = k + 1 := ⟨n - 1,by omega⟩
 show ca (fun b0 b1=>cv n b0 b1) s q = _
 unfold ca
 rw [hk,show ((3 : Int) == (1 : Int)) = false from rfl,zd,show ((3 : Int) == (3 : Int)) = true from rfl,zc,hi,show ((([x] : List LQuery).length : Int) == (1 : Int)) = true from rfl,zc,show aC ([x] : List LQuery) 0 = some x from rfl,bPs,hx,bPs,show ((1 : Int) == (1 : Int)) = true from rfl,zc,hr,bPs]
def Adds (q : LQuery) : Prop := q.kind ≠ 1 ∧ ¬ (q.kind = 3 ∧ ∃ x,q.inputs = [x] ∧ x.kind = 1)
theorem sc_test {q : LQuery} (h : Adds q) : (cond (q.kind == (3 : Int)) (cond ((q.inputs.length : Int) == (1 : Int)) (ae (aC q.inputs 0) fun (x28 : LQuery)=>some (x28.kind == (1 : Int))) (some false)) (some false)) = some false := by
 by_cases h3 : q.kind = 3
 ·rw [h3,show ((3 : Int) == (3 : Int)) = true from rfl,zc]
  by_cases hl : q.inputs.length = 1
  ·obtain ⟨x,hx⟩ := List.length_eq_one_iff.1 hl
   rw [hx,show ((([x] : List LQuery).length : Int) == (1 : Int)) = true from rfl,zc,show aC ([x] : List LQuery) 0 = some x from rfl,bPs]
   have : ¬ x.kind = 1 := fun e=>h.2 ⟨h3,x,hx,e⟩
   rw [beq_eq_false_iff_ne.2 this]
  ·rw [show ((q.inputs.length : Int) == (1 : Int)) = false from by rw [beq_eq_false_iff_ne]; omega,zd]
 ·rw [beq_eq_false_iff_ne.2 h3,zd]
theorem pg {s : LSchema} {q x : LQuery} (h : Adds q) (hi : q.inputs = [x]) {v : Int} (hv : kH s x v) (h0 : 0 ≤ v) (h1 : v ≤ 1000000000) : kH s q v := by
 obtain ⟨N,hN⟩ := hv
 refine ⟨N + 1,fun n hn=>?_⟩
 obtain ⟨n,rfl⟩ : ∃ k,n = k + 1 := ⟨n - 1,by omega⟩
 show ca (fun b0 b1=>cv n b0 b1) s q = _
 unfold ca
 rw [beq_eq_false_iff_ne.2 h.1,zd,sc_test h,bPs,zd,hi]
 simp only [aM,hN n (by omega),bPs]
 rw [ep (n := 0 + v) (by omega) (by omega),Int.zero_add]
 rfl
theorem sc_two {s : LSchema} {q x y : LQuery} (h : Adds q) (hi : q.inputs = [x,y]) {v w : Int} (hv : kH s x v) (hw : kH s y w) (h0 : 0 ≤ v) (h1 : v ≤ 1000000000) (h2 : 0 ≤ w) (h3 : w ≤ 1000000000) : kH s q (v + w) := by
 obtain ⟨N,hN⟩ := hv
 obtain ⟨M,hM⟩ := hw
 refine ⟨N + M + 1,fun n hn=>?_⟩
 obtain ⟨n,rfl⟩ : ∃ k,n = k + 1 := ⟨n - 1,by omega⟩
 show ca (fun b0 b1=>cv n b0 b1) s q = _
 unfold ca
 rw [beq_eq_false_iff_ne.2 h.1,zd,sc_test h,bPs,zd,hi]
 simp only [aM,hN n (by omega),hM n (by omega),bPs]
 rw [ep (n := 0 + v) (by omega) (by omega),Int.zero_add,ep (n := v + w) (by omega) (by omega)]
 rfl
theorem names_tot3 (e : LExpr) : ∀ l : bM,2 * l.length + aO (aF e) ≤ 10000000 → ∃ l',fL e 2 l = some l' ∧ 2 * l'.length ≤ 2 * l.length + aO (aF e) := by
 induction e using LExpr.ind with
 | _ e ih =>
  intro l hl
  have hb := nargs_bulk e
  rw [(names_both e).2]
  unfold fO
  obtain ⟨b,hb1⟩ := contO l e.name (by omega)
  have ht : ∃ b2,(cond (e.kind == (2 : Int)) (ae (cE l e.name) fun x17=>ae (dC (x17.2.length = l.length) ()) fun (_ : Unit)=>some (x17.2,(!x17.1))) (some (l,false))) = some (l,b2) := by
   cases e.kind == (2 : Int) with
   | true=>exact ⟨!b,by rw [zc,hb1,bPs,cf rfl,bPs]⟩
   | false=>exact ⟨false,rfl⟩
  obtain ⟨b2,ht⟩ := ht
  rw [ht,bPs]
  have hu : ∃ l1,(cond b2 (ae (dF 16 l ([e.name] : List (List UInt8))) fun (x24 : List (List UInt8))=>some x24) (some l)) = some l1 ∧ l1.length ≤ l.length + 1 := by
   cases b2 with
   | true=>exact ⟨l ++ [e.name],by rw [zc,cU (by decide) (by simp; omega),bPs],by simp⟩
   | false=>exact ⟨l,rfl,by omega⟩
  obtain ⟨l1,hu,hu1⟩ := hu
  simp only
  rw [hu,bPs]
  refine range_tot (R := fun l' : List (List UInt8)=>2 * l'.length ≤ 2 * l.length + aO (aF e)) (fun j s=>2 * s.length + dc ((e.args.drop j).map aF) ≤ 2 * l.length + aO (aF e)) (by rw [List.drop_zero]; omega) (fun j x s hj hI=>?_) (fun s hI=>?_)
  ·rw [rows_drop hj] at hI
   obtain ⟨l',h1,h2⟩ := ih x (fu hj) s (by omega)
   exact ⟨l',by rw [h1,bPs],by omega⟩
  ·exact ⟨s,rfl,by omega⟩
theorem columns_two {e : LExpr} (hb : aO (aF e) ≤ 1048576) : ∃ l,dV e = some l ∧ 2 * l.length ≤ aO (aF e) := by
 obtain ⟨l,h,hl⟩ := names_tot3 e [] (by simp; omega)
 unfold dV
 rw [h,bPs]
 exact ⟨l,rfl,by simpa using hl⟩
theorem qx (x : List UInt8) : ∃ c,dV (ma x) = some c ∧ 2 * c.length ≤ 2 ∧ ∀ y ∈ c,y = x := by
 unfold dV
 rw [(names_both (ma x)).2]
 unfold fO
 obtain ⟨b,hb1⟩ := contO [] x (by simp)
 have e1 : (ma x).kind = 2 := rfl
 have e2 : (ma x).name = x := rfl
 have e3 : (ma x).args = [] := rfl
 rw [e1,e2,e3,show ((2 : Int) == 2) = true from rfl,zc,hb1,bPs,cf rfl,bPs,bPs]
 cases b with
 | true=>exact ⟨[],rfl,by simp,by simp⟩
 | false =>
  simp only [Bool.not_false,zc]
  rw [cU (by decide) (by simp),bPs,bPs]
  exact ⟨[x],rfl,by simp,by simp⟩
theorem sum_drop {α : Type} (f : α → Nat) {xs : List α} {j : Nat} {x : α} (h : xs[j]? = some x) : ((xs.drop j).map f).sum = f x + ((xs.drop (j + 1)).map f).sum := by
 obtain ⟨hlt,he⟩ := zg.1 h
 rw [List.drop_eq_getElem_cons hlt,he,List.map_cons,List.sum_cons]
theorem sum_sub {α : Type} (f : α → Nat) {l m : List α} (h : l.Sublist m) : (l.map f).sum ≤ (m.map f).sum := by
 induction h with
 | slnil=>simp
 | cons a _ ih=>simp only [List.map_cons,List.sum_cons]; omega
 | cons_cons a _ ih=>simp only [List.map_cons,List.sum_cons]; omega
theorem pu {names : bM} {l : List LExpr} (f : LExpr → Nat) (hf : ∀ e ∈ l,∃ c,dV e = some c ∧ 2 * c.length ≤ f e) (hn : 2 * names.length + (l.map f).sum ≤ 1100000) :
  ∃ r,bG names l = some r ∧ r.Nodup ∧ 2 * r.length ≤ 2 * names.length + (l.map f).sum ∧ ∀ x,x ∈ r ↔ x ∈ names ∨ ∃ e ∈ l,∃ c,dV e = some c ∧ x ∈ c := by
 unfold bG
 obtain ⟨fl,h1,h2⟩ := fW (step := fun (_ : Nat) (x1 : LExpr) (s1 : bM)=>ae (dV x1) fun x18=>ae (dF 16 s1 x18) fun (x19 : List (List UInt8))=>some (Flow.next (ρ := Empty) x19))
  (fun j s=>2 * s.length + ((l.drop j).map f).sum ≤ 2 * names.length + (l.map f).sum ∧ ∀ x,x ∈ s ↔ x ∈ names ∨ ∃ e ∈ l.take j,∃ c,dV e = some c ∧ x ∈ c) (fun _=>False) l 0 names ⟨by simp,fun x=>by simp⟩ (fun j e s hj hI=>by
   simp only [Nat.zero_add] at hI ⊢
   obtain ⟨hI1,hI2⟩ := hI
   rw [sum_drop f hj] at hI1
   obtain ⟨c,hc,hcl⟩ := hf e (fu hj)
   refine ⟨.next (s ++ c),?_,?_,fun x=>?_⟩
   ·rw [hc,bPs,appI_mid (by decide) (by omega),bPs]
   ·rw [List.length_append]; omega
   ·rw [List.mem_append,hI2,List.take_add_one,hj]
    constructor
    ·rintro ((h | ⟨e',h,h'⟩) | h)
     ·exact .inl h
     ·exact .inr ⟨e',List.mem_append_left _ h,h'⟩
     ·exact .inr ⟨e,List.mem_append_right _ (by simp),c,hc,h⟩
    ·rintro (h | ⟨e',h,c',hc',h'⟩)
     ·exact .inl (.inl h)
     ·rcases List.mem_append.1 h with h | h
      ·exact .inl (.inr ⟨e',h,c',hc',h'⟩)
      ·have : e' = e := by simpa using h
       subst this
       rw [hc] at hc'
       cases hc'
       exact .inr h')
 rw [h1,bPs]
 cases fl with
 | next s =>
  simp only [Nat.zero_add] at h2
  obtain ⟨h3,h4⟩ := h2
  rw [List.take_length] at h4
  have h3 : 2 * s.length ≤ 2 * names.length + (l.map f).sum := by omega
  obtain ⟨s',r,e1,e2,e3,e4,e5,e6⟩ := sorted_set (T := s) (by omega)
  rw [bI,e1,bPs,cf e2,bPs,e3,bPs]
  exact ⟨r,rfl,e4,by omega,fun x=>(e5 x).trans (h4 x)⟩
 | brk s=>exact absurd h2 (by simp)
 | ret r=>exact r.elim
def bE (e : LExpr) : Nat := aO (aF e)
def bA (a : LAggregateCall) : Nat := aO (bV a)
theorem rows_sum {α : Type} (f : α → List PV) (l : List α) : dc (l.map f) = (l.map fun x=>aO (f x)).sum := by
 induction l with
 | nil=>rfl
 | cons x l ih=>simp only [List.map_cons,List.sum_cons,dc,ih]
theorem lh {names : bM} {l : List LExpr} (hb : ∀ e ∈ l,bE e ≤ 1048576) (hn : 2 * names.length + (l.map bE).sum ≤ 1100000) :
  ∃ r,bG names l = some r ∧ r.Nodup ∧ 2 * r.length ≤ 2 * names.length + (l.map bE).sum ∧ ∀ x,x ∈ r ↔ x ∈ names ∨ ∃ e ∈ l,∃ c,dV e = some c ∧ x ∈ c :=
 pu bE (fun e he=>columns_two (hb e he)) hn
theorem ref_cols {keep : bM} (hk : keep.length ≤ 1000) : ∃ r,bG [] (keep.map ma) = some r ∧ r.Nodup ∧ ∀ x ∈ r,x ∈ keep := by
 have hs : ((keep.map ma).map fun _=>2).sum ≤ 2 * keep.length := by
  clear hk
  induction keep with
  | nil=>simp
  | cons x l ih=>simp only [List.map_cons,List.sum_cons,List.length_cons]; omega
 obtain ⟨r,h1,h2,_,h4⟩ := pu (names := []) (l := keep.map ma) (fun _=>2) (fun e he=>by
  obtain ⟨x,_,rfl⟩ := List.mem_map.1 he
  obtain ⟨c,hc,hl,_⟩ := qx x
  exact ⟨c,hc,hl⟩) (by simp only [List.length_nil]; omega)
 refine ⟨r,h1,h2,fun x hx=>?_⟩
 rcases (h4 x).1 hx with h | ⟨e,he,c,hc,hxc⟩
 ·simp at h
 ·obtain ⟨y,hy,rfl⟩ := List.mem_map.1 he
  obtain ⟨c',hc',_,hall⟩ := qx y
  rw [hc] at hc'
  cases hc'
  rw [hall x hxc]
  exact hy
theorem nodup_le {l : bM} : ∀ {m : bM},l.Nodup → (∀ x ∈ l,x ∈ m) → l.length ≤ m.length := by
 induction l with
 | nil=>simp
 | cons x l ih =>
  intro m h hs
  have hx := hs x (by simp)
  have h1 := List.nodup_cons.1 h
  have h2 := ih (m := m.erase x) h1.2 (fun y hy=>(List.mem_erase_of_ne (fun e=>h1.1 (by rw [← e]; exact hy))).2 (hs y (by simp [hy])))
  rw [List.length_erase_of_mem hx] at h2
  have := List.length_pos_of_mem hx
  simp only [List.length_cons]
  omega
structure Sm (p : LQuery) (n : Nat) : Prop where
 nodes : (bJ p).length ≤ n
 here : ∀ x ∈ bJ p,x.exprs.length ≤ 1000000 ∧ x.aggregates.length ≤ 1000000
theorem Sm.mono {p : LQuery} {n m : Nat} (h : Sm p n) (hm : n ≤ m) : Sm p m := ⟨Nat.le_trans h.nodes hm,h.here⟩
theorem Sm.small {p : LQuery} {n : Nat} (h : Sm p n) (hn : n ≤ 10000000) : SmallQ p := ⟨Nat.le_trans h.nodes hn,h.here⟩
theorem Sm.one {p b : LQuery} {n : Nat} (hi : p.inputs = [b]) (he : p.exprs.length ≤ 1000000) (ha : p.aggregates.length ≤ 1000000) (h : Sm b n) : Sm p (n + 1) := by
 refine ⟨?_,fun x hx=>?_⟩
 ·rw [eT,hi]
  have := h.nodes
  simp
  omega
 ·rw [eT,hi] at hx
  rcases List.mem_cons.1 hx with rfl | hx
  ·exact ⟨he,ha⟩
  ·exact h.here x (by simpa using hx)
theorem Sm.two {p b c : LQuery} {n m : Nat} (hi : p.inputs = [b,c]) (he : p.exprs.length ≤ 1000000) (ha : p.aggregates.length ≤ 1000000) (h : Sm b n) (h' : Sm c m) : Sm p (n + m + 1) := by
 refine ⟨?_,fun x hx=>?_⟩
 ·rw [eT,hi]
  have := h.nodes
  have := h'.nodes
  simp
  omega
 ·rw [eT,hi] at hx
  rcases List.mem_cons.1 hx with rfl | hx
  ·exact ⟨he,ha⟩
  ·simp only [List.map_cons,List.map_nil,List.flatten_cons,List.flatten_nil,List.append_nil,List.mem_append] at hx
   rcases hx with hx | hx
   ·exact h.here x hx
   ·exact h'.here x hx
theorem sc_uniq {s : LSchema} {q : LQuery} {v w : Int} (h : kH s q v) (h' : kH s q w) : v = w := by
 obtain ⟨N,h⟩ := h
 obtain ⟨M,h'⟩ := h'
 have a := h (N + M) (by omega)
 rw [h' (N + M) (by omega)] at a
 cases a
 rfl
structure Pr (s : LSchema) (q : LQuery) (v : Int) (names : bM) (p : LQuery) : Prop where
 run : ∃ N,∀ n,N ≤ n → cd n (LPushdownPruner.mk s) q names = some p
 kind : p.kind = q.kind
 sm : Sm p (2 * (bJ q).length - 1)
 sc : ∃ w,kH s p w ∧ 0 ≤ w ∧ w ≤ v
 scan : q.kind = 1 → p = q
def ow (keep : bM) (q : LQuery) : LQuery := LQuery.mk 3 [] keep (keep.map ma) [] [] 0 0 [q]
structure Be (s : LSchema) (q : LQuery) (v : Int) (names : bM) (p : LQuery) : Prop where
 run : ∃ N,∀ n,N ≤ n → ck n (LPushdownPruner.mk s) q names = some p
 sm : Sm p (2 * (bJ q).length)
 sc : ∃ w,kH s p w ∧ 0 ≤ w ∧ w ≤ v
 kind : p.kind = 1 → q.kind = 1
 scan : q.kind = 1 → p = q ∨ ∃ keep : bM,keep.length ≤ 20 ∧ (∀ x ∈ keep,x ∈ names) ∧ p = ow keep q
theorem kl {s : LSchema} {q : LQuery} {v : Int} {names : bM} {p0 : LQuery} (hcq : CQ s q) (hsc : kH s q v) (hv : v ≤ 1000000000) (h : Pr s q v names p0) :
  ∃ p,ej (LPushdownPruner.mk s) p0 names = some p ∧ Be s q v names p := by
 have hn := hcq.size.1
 have hpos := kw q
 obtain ⟨p,cs,hc,hl,ho,hp⟩ := only_ok (LPushdownPruner.mk s) (h.sm.small (by omega)) names
 refine ⟨p,ho,?_⟩
 have hrun : ∃ N,∀ n,N ≤ n → ck n (LPushdownPruner.mk s) q names = some p := by
  obtain ⟨N,hN⟩ := h.run
  refine ⟨N + 1,fun n hn=>?_⟩
  obtain ⟨n,rfl⟩ : ∃ k,n = k + 1 := ⟨n - 1,by omega⟩
  rw [ck]
  unfold gK
  simp only [hN n (by omega),bPs,ho]
 obtain ⟨w,hw,hw0,hwv⟩ := h.sc
 rcases hp with hp | ⟨keep,hsub,hlt,hmem,hp⟩
 ·subst hp
  exact ⟨hrun,h.sm.mono (by omega),⟨w,hw,hw0,hwv⟩,fun e=>by rw [← h.kind]; exact e,fun e=>.inl (h.scan e)⟩
 ·subst hp
  refine ⟨hrun,(Sm.one (p := ow keep p0) rfl (by show (keep.map ma).length ≤ _; rw [zl]; omega) (by show ([] : List LAggregateCall).length ≤ _; simp) h.sm).mono (by omega),?_,fun e=>absurd (show (3 : Int) = 1 from e) (by decide),fun e=>.inr ⟨keep,by omega,hmem,by rw [h.scan e]; rfl⟩⟩
  by_cases k1 : q.kind = 1
  ·have e := h.scan k1
   subst e
   obtain ⟨r,hr,hnd,hmemr⟩ := ref_cols (keep := keep) (by omega)
   refine ⟨(r.length : Int),qZ (q := ow keep p0) rfl rfl k1 hr,by omega,?_⟩
   have := sc_uniq hsc (sc_scan k1 hc)
   have := nodup_le hnd hmemr
   omega
  ·refine ⟨w,pg (q := ow keep p0) ⟨by show (3 : Int) ≠ 1; decide,fun ⟨_,x,hx,hx1⟩=>k1 ?_⟩ rfl hw hw0 (by omega),hw0,hwv⟩
   have e : p0 = x := by
    have hx2 : [p0] = [x] := hx
    simpa using hx2
   rw [← h.kind,e,hx1]
theorem pr_run {s : LSchema} {q : LQuery} {names : bM} {p : LQuery} (h : ∃ N,∀ n,N ≤ n → bl (fun b0 b1 b2=>cd n b0 b1 b2) (fun b0 b1 b2=>ck n b0 b1 b2) (LPushdownPruner.mk s) q names = some p) :
  ∃ N,∀ n,N ≤ n → cd n (LPushdownPruner.mk s) q names = some p := by
 obtain ⟨N,hN⟩ := h
 refine ⟨N + 1,fun n hn=>?_⟩
 obtain ⟨n,rfl⟩ : ∃ k,n = k + 1 := ⟨n - 1,by omega⟩
 rw [cd]
 exact hN n (by omega)
abbrev RecP := LPushdownPruner → LQuery → bM → Option LQuery
def iv (q : LQuery) (l : List LQuery) : LQuery := LQuery.mk q.kind q.table q.names q.exprs q.aggregates q.descending q.count q.offset l
theorem g10 {α : Type} (x : α) : aC [x] 0 = some x := rfl
theorem g20 {α : Type} (x y : α) : aC [x,y] 0 = some x := rfl
theorem g21 {α : Type} (x y : α) : aC [x,y] 1 = some y := rfl
theorem prune_scan (P B : RecP) {m : LPushdownPruner} {q : LQuery} {names : bM} (hk : q.kind = 1) : bl P B m q names = some q := by
 unfold bl
 simp only [hk,cj,Int.reduceBEq,zd]
theorem prune_one {P B : RecP} {m : LPushdownPruner} {q x b : LQuery} {names r : bM} (hk : q.kind = 2 ∨ q.kind = 9) (hi : q.inputs = [x]) (hr : bG names q.exprs = some r) (hb : B m x r = some b) :
  bl P B m q names = some (iv q [b]) := by
 unfold bl iv
 rcases hk with hk | hk
 all_goals
  simp only [hk,hi,cj,Int.reduceBEq,zc,zd,g10,hr,hb,bPs]
  rfl
theorem prune_limit {P B : RecP} {m : LPushdownPruner} {q x b : LQuery} {names : bM} (hk : q.kind = 10) (hi : q.inputs = [x]) (hb : B m x names = some b) :
  bl P B m q names = some (iv q [b]) := by
 unfold bl iv
 simp only [hk,hi,cj,Int.reduceBEq,zc,zd,g10,hb,bPs]
 rfl
theorem prune_join {P B : RecP} {m : LPushdownPruner} {q x y b c : LQuery} {names r : bM} (hk : q.kind = 4 ∨ q.kind = 5) (hi : q.inputs = [x,y]) (hr : bG names q.exprs = some r) (hb : B m x r = some b) (hc : B m y r = some c) :
  bl P B m q names = some (iv q [b,c]) := by
 unfold bl iv
 rcases hk with hk | hk
 all_goals
  simp only [hk,hi,cj,Int.reduceBEq,zc,zd,g20,g21,hr,hb,hc,bPs]
  rfl
theorem prune_proj {P B : RecP} {m : LPushdownPruner} {q q' x b : LQuery} {names r : bM} (hk : q.kind = 3) (hi : q.inputs = [x]) (hq : gV q names = some q') (hr : bG [] q'.exprs = some r) (hb : B m x r = some b) :
  bl P B m q names = some (iv q' [b]) := by
 unfold bl iv
 simp only [hk,hi,cj,Int.reduceBEq,zc,zd,g10,hq,hr,hb,bPs]
 rfl
theorem prune_agg {P B : RecP} {m : LPushdownPruner} {q q' x b : LQuery} {names r : bM} (hk : q.kind = 8) (hi : q.inputs = [x]) (hq : ig q names = some q') (hl : (q'.exprs ++ (q'.aggregates.map LAggregateCall.args).flatten).length ≤ 10000000)
  (hr : bG [] (q'.exprs ++ (q'.aggregates.map LAggregateCall.args).flatten) = some r) (hb : B m x r = some b) :
  bl P B m q names = some (iv q' [b]) := by
 unfold bl iv
 have hloop := rMa (step := fun (_ : Nat) (x13 : LAggregateCall) (s13 : List LExpr)=>ae (dF 88 s13 x13.args) fun (x105 : List LExpr)=>some (Flow.next (ρ := Empty) x105)) (xs := q'.aggregates) (s := q'.exprs)
  (fun k=>q'.exprs ++ ((q'.aggregates.take k).map LAggregateCall.args).flatten) (by simp) (fun k a hk=>by
   have e : q'.exprs ++ ((q'.aggregates.take (k + 1)).map LAggregateCall.args).flatten = q'.exprs ++ ((q'.aggregates.take k).map LAggregateCall.args).flatten ++ a.args := by
    rw [List.take_add_one,hk]
    simp
   rw [e,cU (by decide),bPs]
   have h1 : (((q'.aggregates.take (k + 1)).map LAggregateCall.args).flatten).length ≤ ((q'.aggregates.map LAggregateCall.args).flatten).length := take_flat
   have e2 := congrArg List.length e
   simp only [List.length_append] at e2 hl ⊢
   omega)
 rw [List.take_length] at hloop
 simp only [hk,hi,cj,Int.reduceBEq,zc,zd,g10,hq,hloop,bI,hr,hb,bPs]
 rfl
def lU (P : RecP) (m : LPushdownPruner) : Nat → Nat → List LQuery → Option (Flow (List LQuery) Empty) := fun j17 _ s17 =>
 ae (aC s17 (j17 : Int)) fun (x127 : LQuery) =>
 ae (cn m x127) fun x136 =>
 ae (P m x127 x136) fun x137 =>
 ae (aC s17 (j17 : Int)) fun (_ : LQuery) =>
 some (.next (s17.set ((j17 : Int).toNat) x137))
theorem set_loop {P : RecP} {m : LPushdownPruner} {x y b c : LQuery} {cx cy : bM} (hcx : cn m x = some cx) (hcy : cn m y = some cy) (hb : P m x cx = some b) (hc : P m y cy = some c) :
  aM (lU P m) 0 (List.range 2) [x,y] = some (.next [b,c]) := by
 have s0 : ∀ i,lU P m 0 i [x,y] = some (.next [b,y]) := fun i=>by
  unfold lU
  rw [show aC ([x,y] : List LQuery) ((0 : Nat) : Int) = some x from rfl,bPs,hcx,bPs,hb,bPs,bPs]
  rfl
 have s1 : ∀ i,lU P m (0 + 1) i [b,y] = some (.next [b,c]) := fun i=>by
  unfold lU
  rw [show aC ([b,y] : List LQuery) ((0 + 1 : Nat) : Int) = some y from rfl,bPs,hcy,bPs,hc,bPs,bPs]
  rfl
 rw [show List.range 2 = [0,1] from rfl,aM,s0]
 show aM (lU P m) (0 + 1) [1] [b,y] = _
 rw [aM,s1]
 rfl
theorem prune_set {P B : RecP} {m : LPushdownPruner} {q x y b c : LQuery} {names cx cy : bM} (hk : q.kind = 6 ∨ q.kind = 7) (hi : q.inputs = [x,y]) (hcx : cn m x = some cx) (hcy : cn m y = some cy) (hb : P m x cx = some b) (hc : P m y cy = some c) :
  bl P B m q names = some (iv q [b,c]) := by
 have hloop := set_loop hcx hcy hb hc
 unfold lU at hloop
 unfold bl iv
 have hs : mF (([x,y] : List LQuery).length : Int) = some 2 := by
  rw [qr (by simp)]
  rfl
 rcases hk with hk | hk
 all_goals
  simp only [hk,hi,cj,Int.reduceBEq,zc,zd,hs,bPs]
  rw [hloop,bPs,bI]
theorem pV {q x : LQuery} (h : x ∈ q.inputs) : (q.exprs.map bE).sum + (q.aggregates.map bA).sum + aO (aA x) ≤ aO (aA q) := by
 have h2 := gf (List.mem_map_of_mem (f := aZ) h)
 rw [bH] at h2
 have e1 : dc (q.exprs.map aF) = (q.exprs.map bE).sum := rows_sum aF q.exprs
 have e2 : dc (q.aggregates.map bV) = (q.aggregates.map bA).sum := rows_sum bV q.aggregates
 rw [← e1,← e2]
 cases q
 simp only [aA,aO,PV.bulk,LQuery.inputs,LQuery.exprs,LQuery.aggregates] at h2 ⊢
 omega
theorem args_sum (a : LAggregateCall) : (a.args.map bE).sum ≤ bA a := by
 have e1 : dc (a.args.map aF) = (a.args.map bE).sum := rows_sum aF a.args
 rw [← e1]
 unfold bA
 simp only [bV,aO,PV.bulk]
 omega
theorem flat_sum (as' : List LAggregateCall) : (((as'.map LAggregateCall.args).flatten).map bE).sum ≤ (as'.map bA).sum := by
 induction as' with
 | nil=>simp
 | cons a l ih =>
  have := args_sum a
  simp only [List.map_cons,List.flatten_cons,List.map_append,List.sum_append,List.sum_cons]
  omega
theorem len_sum (l : List LExpr) : 2 * l.length ≤ (l.map bE).sum := by
 induction l with
 | nil=>simp
 | cons e l ih =>
  have : 2 ≤ bE e := pW e
  simp only [List.map_cons,List.sum_cons,List.length_cons]
  omega
theorem shape_some {q : LQuery} (h : jA q = true) (hk : q.kind = 3 ∨ q.kind = 8) : 1 ≤ q.aggregates.length + q.exprs.length := by
 unfold jA at h
 simp only [Bool.and_eq_true] at h
 have h9 := h.2
 rw [zy (by omega),zp hk] at h9
 simp only [Bool.and_eq_true,decide_eq_true_eq] at h9
 omega
theorem two_len {α : Type} {l : List α} (h : l.length = 2) : ∃ x y,l = [x,y] := by
 match l,h with
 | [x,y],_=>exact ⟨x,y,rfl⟩
def pickQ (q : LQuery) (ns : bM) (es : List LExpr) : LQuery := LQuery.mk q.kind q.table ns es q.aggregates q.descending q.count q.offset q.inputs
theorem prune_all (s : LSchema) : ∀ q : LQuery,CQ s q → ∃ v,kH s q v ∧ 0 ≤ v ∧ v ≤ 1000000 * ((bJ q).length : Int) ∧ ∀ names : bM,2 * names.length + aO (aA q) ≤ 1050000 → ∃ p,Pr s q v names p := by
 refine LQuery.ind fun q ih hcq=>?_
 have hshp := (cols_inv hcq.cols).1
 have hok := shape_ok hshp
 have hsm := hcq.small
 obtain ⟨hE,hA⟩ := hsm.self
 have hn := hcq.size.1
 have hbq := hcq.bulk
 have hkr := hok.kind
 have har := hok.arity
 have hpos := kw q
 have hbe : ∀ e ∈ q.exprs,bE e ≤ 1048576 := fun e he=>Nat.le_trans (bulk_exprs he) hbq
 by_cases k1 : q.kind = 1
 ·obtain ⟨cs,hc,_,hl⟩ := ny (LPushdownPruner.mk s) hsm
  have hv := sc_scan k1 hc
  exact ⟨_,hv,by omega,by omega,fun names _=>⟨q,pr_run ⟨0,fun n _=>prune_scan _ _ k1⟩,rfl,⟨by omega,hsm.here⟩,⟨_,hv,by omega,Int.le_refl _⟩,fun _=>rfl⟩⟩
 by_cases ktwo : q.kind = 4 ∨ q.kind = 5 ∨ q.kind = 6 ∨ q.kind = 7
 ·have hl2 : q.inputs.length = 2 := by
   rw [har]
   unfold nP
   rw [zy k1,zp ktwo]
  obtain ⟨x,y,hi⟩ := two_len hl2
  have hx : x ∈ q.inputs := by rw [hi]; simp
  have hy : y ∈ q.inputs := by rw [hi]; simp
  obtain ⟨vx,sx,x0,x1,px⟩ := ih x hx (hcq.sub hx)
  obtain ⟨vy,sy,y0,y1,py⟩ := ih y hy (hcq.sub hy)
  have hnn : (bJ q).length = (bJ x).length + (bJ y).length + 1 := by rw [eT q,hi]; simp
  have k3 : q.kind ≠ 3 := by omega
  refine ⟨vx + vy,sc_two ⟨k1,fun h=>k3 h.1⟩ hi sx sy x0 (by omega) y0 (by omega),by omega,by omega,fun names hnm=>?_⟩
  have hbx := pV hx
  have hby := pV hy
  have hxp := kw x
  have hyp := kw y
  have key : ∀ b c : LQuery,Sm b (2 * (bJ x).length) → Sm c (2 * (bJ y).length) → (∃ w,kH s b w ∧ 0 ≤ w ∧ w ≤ vx) → (∃ w,kH s c w ∧ 0 ≤ w ∧ w ≤ vy) →
    (∃ N,∀ n,N ≤ n → bl (fun b0 b1 b2=>cd n b0 b1 b2) (fun b0 b1 b2=>ck n b0 b1 b2) (LPushdownPruner.mk s) q names = some (iv q [b,c])) → ∃ p,Pr s q (vx + vy) names p := by
   intro b c sb sc ⟨w,w1,w2,w3⟩ ⟨z,z1,z2,z3⟩ hrun
   exact ⟨iv q [b,c],pr_run hrun,rfl,(Sm.two (p := iv q [b,c]) rfl hE hA sb sc).mono (by omega),⟨w + z,sc_two (q := iv q [b,c]) ⟨k1,fun h=>k3 h.1⟩ rfl w1 z1 w2 (by omega) z2 (by omega),by omega,by omega⟩,fun e=>absurd e k1⟩
  by_cases kj : q.kind = 4 ∨ q.kind = 5
  ·obtain ⟨r,hr,_,hrl,_⟩ := lh (names := names) hbe (by omega)
   obtain ⟨p0,hp0⟩ := px r (by omega)
   obtain ⟨q0,hq0⟩ := py r (by omega)
   obtain ⟨b,_,hb⟩ := kl (hcq.sub hx) sx (by omega) hp0
   obtain ⟨c,_,hc⟩ := kl (hcq.sub hy) sy (by omega) hq0
   obtain ⟨N,hN⟩ := hb.run
   obtain ⟨M,hM⟩ := hc.run
   exact key b c hb.sm hc.sm hb.sc hc.sc ⟨N + M,fun n hn=>prune_join kj hi hr (hN n (by omega)) (hM n (by omega))⟩
  ·obtain ⟨cx,_,hcx,hlx⟩ := ny (LPushdownPruner.mk s) (hsm.sub hx)
   obtain ⟨cy,_,hcy,hly⟩ := ny (LPushdownPruner.mk s) (hsm.sub hy)
   obtain ⟨p0,hp0⟩ := px cx (by omega)
   obtain ⟨q0,hq0⟩ := py cy (by omega)
   obtain ⟨N,hN⟩ := hp0.run
   obtain ⟨M,hM⟩ := hq0.run
   exact key p0 q0 (hp0.sm.mono (by omega)) (hq0.sm.mono (by omega)) hp0.sc hq0.sc ⟨N + M,fun n hn=>prune_set (by omega) hi hcx hcy (hN n (by omega)) (hM n (by omega))⟩
 have hl1 : q.inputs.length = 1 := by
  rw [har]
  unfold nP
  rw [zy k1,zy ktwo]
 obtain ⟨x,hi⟩ := List.length_eq_one_iff.1 hl1
 have hx : x ∈ q.inputs := by rw [hi]; simp
 obtain ⟨vx,sx,x0,x1,px⟩ := ih x hx (hcq.sub hx)
 have hnn : (bJ q).length = (bJ x).length + 1 := by rw [eT q,hi]; simp
 have hbx := pV hx
 have hxp := kw x
 by_cases k3 : q.kind = 3
 ·have hag : q.aggregates = [] := hok.aggs (by omega)
  have hnl : q.exprs.length = q.names.length := hok.named (.inl k3)
  have hsome := shape_some hshp (.inl k3)
  rw [hag] at hsome
  simp only [List.length_nil,Nat.zero_add] at hsome
  by_cases kx : x.kind = 1
  ·obtain ⟨r0,hr0,hnd0,hl0,hm0⟩ := lh (names := []) hbe (by simp only [List.length_nil]; omega)
   simp only [List.length_nil] at hl0
   refine ⟨_,qZ k3 hi kx hr0,by omega,by omega,fun names hnm=>?_⟩
   obtain ⟨ns,es,hp,hsub⟩ := picks_ok (q := q) names hnl (by omega) (by omega)
   have hss := sum_sub bE hsub
   obtain ⟨r,hr,hnd,hl,hm⟩ := lh (names := []) (l := es) (fun e he=>hbe e (hsub.subset he)) (by simp only [List.length_nil]; omega)
   simp only [List.length_nil] at hl
   have hrr : r.length ≤ r0.length := nodup_le hnd fun y hy=>(hm0 y).2 (((hm y).1 hy).imp id fun ⟨e,he,c,hc,hyc⟩=>⟨e,hsub.subset he,c,hc,hyc⟩)
   obtain ⟨p0,hp0⟩ := px r (by omega)
   obtain ⟨b,_,hb⟩ := kl (hcq.sub hx) sx (by omega) hp0
   obtain ⟨N,hN⟩ := hb.run
   refine ⟨iv (pickQ q ns es) [b],pr_run ⟨N,fun n hn=>prune_proj k3 hi hp hr (hN n hn)⟩,rfl,(Sm.one rfl (by show es.length ≤ 1000000; have := hsub.length_le; omega) (by show q.aggregates.length ≤ 1000000; omega) hb.sm).mono (by omega),?_,fun e=>absurd e k1⟩
   rcases hb.scan kx with he | ⟨keep,hkl,hkm,he⟩
   ·rw [he]
    exact ⟨_,qZ (q := iv (pickQ q ns es) [x]) (show q.kind = 3 from k3) rfl kx hr,by omega,by omega⟩
   ·rw [he]
    obtain ⟨rk,hrk,hndk,hmk⟩ := ref_cols (keep := keep) (by omega)
    have h5 := nodup_le hndk (fun y hy=>hkm y (hmk y hy))
    exact ⟨_,pg (q := iv (pickQ q ns es) [ow keep x]) ⟨show q.kind ≠ 1 from k1,fun ⟨_,z,hz,hz1⟩=>by
     have hz2 : [ow keep x] = [z] := hz
     have e : ow keep x = z := by simpa using hz2
     rw [← e] at hz1
     exact absurd (show (3 : Int) = 1 from hz1) (by decide)⟩ rfl (qZ (q := ow keep x) rfl rfl kx hrk) (by omega) (by omega),by omega,by omega⟩
  ·refine ⟨vx,pg ⟨k1,fun ⟨_,z,hz,hz1⟩=>kx (by
    have e : x = z := by rw [hi] at hz; simpa using hz
    rw [e,hz1])⟩ hi sx x0 (by omega),x0,by omega,fun names hnm=>?_⟩
   obtain ⟨ns,es,hp,hsub⟩ := picks_ok (q := q) names hnl (by omega) (by omega)
   have hss := sum_sub bE hsub
   obtain ⟨r,hr,hnd,hl,hm⟩ := lh (names := []) (l := es) (fun e he=>hbe e (hsub.subset he)) (by simp only [List.length_nil]; omega)
   simp only [List.length_nil] at hl
   obtain ⟨p0,hp0⟩ := px r (by omega)
   obtain ⟨b,_,hb⟩ := kl (hcq.sub hx) sx (by omega) hp0
   obtain ⟨N,hN⟩ := hb.run
   obtain ⟨w,w1,w2,w3⟩ := hb.sc
   refine ⟨iv (pickQ q ns es) [b],pr_run ⟨N,fun n hn=>prune_proj k3 hi hp hr (hN n hn)⟩,rfl,(Sm.one rfl (by show es.length ≤ 1000000; have := hsub.length_le; omega) (by show q.aggregates.length ≤ 1000000; omega) hb.sm).mono (by omega),?_,fun e=>absurd e k1⟩
   exact ⟨w,pg (q := iv (pickQ q ns es) [b]) ⟨show q.kind ≠ 1 from k1,fun ⟨_,z,hz,hz1⟩=>kx (hb.kind (by
    have hz2 : [b] = [z] := hz
    have e : b = z := by simpa using hz2
    rw [e,hz1]))⟩ rfl w1 w2 (by omega),w2,w3⟩
 refine ⟨vx,pg ⟨k1,fun h=>k3 h.1⟩ hi sx x0 (by omega),x0,by omega,fun names hnm=>?_⟩
 have key : ∀ (names' : bM) (p b : LQuery),Be s x vx names' b → p.kind = q.kind → p.inputs = [b] → p.exprs.length ≤ 1000000 → p.aggregates.length ≤ 1000000 →
   (∃ N,∀ n,N ≤ n → bl (fun b0 b1 b2=>cd n b0 b1 b2) (fun b0 b1 b2=>ck n b0 b1 b2) (LPushdownPruner.mk s) q names = some p) → ∃ p,Pr s q vx names p := by
  intro names' p b hb hpk hpi hpe hpa hrun
  obtain ⟨w,w1,w2,w3⟩ := hb.sc
  exact ⟨p,pr_run hrun,hpk,(Sm.one hpi hpe hpa hb.sm).mono (by omega),⟨w,pg ⟨by rw [hpk]; exact k1,fun h=>k3 (by rw [← hpk]; exact h.1)⟩ hpi w1 w2 (by omega),w2,w3⟩,fun e=>absurd e k1⟩
 by_cases k8 : q.kind = 8
 ·obtain ⟨as',hp,hsub⟩ := aggs_ok (q := q) names (shape_some hshp (.inr k8)) (by omega) (by omega)
  have hss := sum_sub bA hsub
  have hfl := flat_sum as'
  have hsum : ((q.exprs ++ (as'.map LAggregateCall.args).flatten).map bE).sum ≤ (q.exprs.map bE).sum + (q.aggregates.map bA).sum := by
   rw [List.map_append,List.sum_append]
   omega
  have hlen := len_sum (q.exprs ++ (as'.map LAggregateCall.args).flatten)
  obtain ⟨r,hr,_,hl,_⟩ := lh (names := []) (l := q.exprs ++ (as'.map LAggregateCall.args).flatten) (fun e he=>by
   rcases List.mem_append.1 he with h | h
   ·exact hbe e h
   ·obtain ⟨l,hl1,hl2⟩ := List.mem_flatten.1 h
    obtain ⟨a,ha,rfl⟩ := List.mem_map.1 hl1
    exact Nat.le_trans (bulk_args hl2) (Nat.le_trans (bulk_agg (hsub.subset ha)) hbq)) (by simp only [List.length_nil]; omega)
  simp only [List.length_nil] at hl
  obtain ⟨p0,hp0⟩ := px r (by omega)
  obtain ⟨b,_,hb⟩ := kl (hcq.sub hx) sx (by omega) hp0
  obtain ⟨N,hN⟩ := hb.run
  exact key r (iv (LQuery.mk q.kind q.table q.names q.exprs as' q.descending q.count q.offset q.inputs) [b]) b hb rfl rfl hE (by show as'.length ≤ 1000000; have := hsub.length_le; omega) ⟨N,fun n hn=>prune_agg k8 hi hp (by show (q.exprs ++ (as'.map LAggregateCall.args).flatten).length ≤ 10000000; omega) hr (hN n hn)⟩
 by_cases k10 : q.kind = 10
 ·obtain ⟨p0,hp0⟩ := px names (by omega)
  obtain ⟨b,_,hb⟩ := kl (hcq.sub hx) sx (by omega) hp0
  obtain ⟨N,hN⟩ := hb.run
  exact key names (iv q [b]) b hb rfl rfl hE hA ⟨N,fun n hn=>prune_limit k10 hi (hN n hn)⟩
 ·obtain ⟨r,hr,_,hrl,_⟩ := lh (names := names) hbe (by omega)
  obtain ⟨p0,hp0⟩ := px r (by omega)
  obtain ⟨b,_,hb⟩ := kl (hcq.sub hx) sx (by omega) hp0
  obtain ⟨N,hN⟩ := hb.run
  exact key r (iv q [b]) b hb rfl rfl hE hA ⟨N,fun n hn=>prune_one (by omega) hi hr (hN n hn)⟩
theorem rJ {s : LSchema} (hs : pr s) {q : LQuery} (hq : aO (aA q) ≤ 1048576) (names : bM) : dY s q names = some true := by
 unfold dY
 rw [cj,show (!sampleV) = false from rfl,zd]
 obtain ⟨b,hb,hcq⟩ := valid_tot hs hq
 rw [hb,bPs]
 cases b with
 | false=>rfl
 | true =>
  have hcq := hcq rfl
  have hn := hcq.size.1
  rw [Bool.not_true,zd,bPs]
  by_cases hl : (names.length : Int) > 30
  ·rw [zt hl]; rfl
  ·rw [zf hl,zd]
   obtain ⟨v,hv,hv0,hvb,hall⟩ := prune_all s q hcq
   obtain ⟨all,hc,_,hcl⟩ := ny (LPushdownPruner.mk s) hcq.small
   have hcont : db all (fun a0=>el a0 names) = some (decide (cu (fun x=>decide (x ∈ names)) all ≥ 0)) := by
    unfold db eC
    rw [idxF (p := fun x=>decide (x ∈ names)) fun x _=>by
     unfold el
     rw [mC,bPs],bPs]
   generalize hns : (cond (!(decide (cu (fun x=>decide (x ∈ names)) all ≥ 0))) all names) = ns
   have hnl : ns.length ≤ 30 := by
    rw [← hns]
    cases decide (cu (fun x=>decide (x ∈ names)) all ≥ 0) with
    | true=>show names.length ≤ 30; omega
    | false=>show all.length ≤ 30; omega
   obtain ⟨p0,hp0⟩ := hall ns (by omega)
   obtain ⟨p,ho,hbe⟩ := kl hcq hv (by omega) hp0
   obtain ⟨N,hN⟩ := hp0.run
   have hpr : iJ (LPushdownPruner.mk s) q ns = some p0 := lf N hN
   have hpc : fy s q names = some p := by
    unfold fy
    rw [hc,bPs,hcont,bPs,cj,cloneT_eq hq,bPs,hns,hpr,bPs,ho,bPs]
   obtain ⟨b2,hb2⟩ := valid_small hs (hbe.sm.small (by omega))
   rw [hpc,bPs,hb2,bPs]
   cases b2 with
   | false=>rfl
   | true =>
    obtain ⟨w,w1,w2,w3⟩ := hbe.sc
    rw [Bool.not_true,zd,w1.lim,bPs,hv.lim,bPs,zt w3]
end
end Go.Proofs.YtppmcepdcpmpcaaGreatDoor
