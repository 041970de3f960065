/- queryReadsOnlyItsTablesUpto_holds, part 7: the layer, the plain functions and what they compute; conditions as in the statement. -/
import Derived.Test.YtgaggbdcedpapaaGreatRsf
set_option maxHeartbeats 4000000
namespace Go.Proofs.YtgaggbdcedpapaaGreat
noncomputable section
open Go Go.Ab
open Go.Sort (swp insInner insOuter insertionSort siftDown heapBuild heapPop heapSort scanUp scanDown partLoop partition partEqLoop partitionEqual scanSorted shiftDown shiftUp partialIns partialInsertionSort reverseLoop reverseRange size_swp SWO PermIn SortedIn Below permIn_refl permIn_trans swp_permIn)
abbrev eL := List (List UInt8)
theorem ma {β : Type} {x y : List UInt8} (k : Bool → β) : bf (bB x y) k = k (Op.bytesLess x y) := by
 have h : bB x y = Op.bytesLess x y := by
  unfold bB gL
  simp [bV]
 rw [bV,h]
section
variable {α : Type} [Inhabited α] {v : α → List UInt8} {lt : α → α → Bool}
def rpZ (v : α → List UInt8) (A : Array α) : eL := A.toList.map v
structure CmpIsZ (v : α → List UInt8) (lt : α → α → Bool) : Prop where
 is : ∀ x y,Op.bytesLess (v x) (v y) = lt x y
omit [Inhabited α] in
theorem eE (A : Array α) : (rpZ v A).length = A.size := by simp [rpZ]
theorem dO {A : Array α} {n : Nat} (h : n < A.size) : aG (rpZ v A) (n : Int) = some (v A[n]!) := by
 rw [fo (by rw [eE]; exact h)]
 simp [rpZ,getElem!_pos A n h]
omit [Inhabited α] in
theorem rp_setZ (A : Array α) (n : Nat) (x : α) : (rpZ v A).set n (v x) = rpZ v (A.setIfInBounds n x) := by simp [rpZ]
theorem gH {β : Type} {A : Array α} {i j : Nat} (hi : i < A.size) (hj : j < A.size) (k : eL → Option β) :
  (ai (aG (rpZ v A) (j : Int)) fun (x : List UInt8)=>ai (aG (rpZ v A) (i : Int)) fun (y : List UInt8)=>ai (aG (rpZ v A) (i : Int)) fun (_ : List UInt8)=>bf ((rpZ v A).set ((i : Int)).toNat x) fun (z : eL)=>ai (aG z (j : Int)) fun (_ : List UInt8)=>bf (z.set ((j : Int)).toNat y) fun (w : eL)=>k w) = k (rpZ v (swp A i j)) := by
 rw [dO hj,dO hi]
 simp only [bPs,bV,Int.toNat_natCast]
 rw [rp_setZ,dO (A := A.setIfInBounds i A[j]!) (by simpa using hj),bPs,rp_setZ]
 rfl
theorem ins_simZ (hC : CmpIsZ v lt) {A : Array α} {a b : Nat} (hs : A.size ≤ 1000000) (ha : a ≤ A.size) (hb : b ≤ A.size) : dI (rpZ v A) (a : Int) (b : Int) = some (rpZ v (insertionSort lt A a b)) := by
 unfold dI
 rw [ce (z := (a : Int) + 1) (n := a + 1)]
 refine pe (dt (fun s=>∃ (D : Array α) (i : Nat),s = (rpZ v D,(i : Int)) ∧ D.size = A.size ∧ a < i ∧ insOuter lt a b i D = insertionSort lt A a b) (fun s=>((b : Int) - s.2).toNat) (fun s=>s.1 = rpZ v (insertionSort lt A a b)) ⟨A,a + 1,rfl,rfl,by omega,rfl⟩ (fun s hI=>?_) (fun s hq=>⟨_,rfl,hq⟩))
 obtain ⟨D,i,rfl,hD,hai,hO⟩ := hI
 dsimp only
 rw [insOuter] at hO
 by_cases hlt : i < b
 ·rw [zt (show (i : Int) < (b : Int) from by omega),zc]
  rw [zp hlt] at hO
  refine dt (fun t=>∃ (E : Array α) (j : Nat),t = (rpZ v E,(j : Int)) ∧ E.size = A.size ∧ j < b ∧ a ≤ j ∧ insInner lt a j E = insInner lt a i D) (fun t=>t.2.toNat) (fun t=>t.1 = rpZ v (insInner lt a i D)) ⟨D,i,rfl,hD,hlt,by omega,rfl⟩ (fun t hI=>?_) (fun t hq=>⟨_,rfl,?_⟩)
  ·obtain ⟨E,j,rfl,hE,hjb,haj,hO2⟩ := hI
   dsimp only
   by_cases hgt : a < j
   ·obtain ⟨k,rfl⟩ : ∃ k,j = k + 1 := ⟨j - 1,by omega⟩
    rw [zt (show ((k + 1 : Nat) : Int) > (a : Int) from by omega),zc,ce (z := ((k + 1 : Nat) : Int) - 1) (n := k)]
    have hl := hC.is E[k + 1]! E[k]!
    rw [insInner] at hO2
    have hsw := gH (v := v) (A := E) (i := k + 1) (j := k) (β := Flow (eL × Int) Empty) (by omega) (by omega) (fun y=>some (.next (y,(k : Int))))
    rw [dO (by omega),bPs,dO (by omega),bPs,ma,bPs,hl]
    cases hx : lt E[k + 1]! E[k]! with
    | true =>
     rw [hx] at hO2
     dsimp only
     rw [zc]
     refine ⟨_,hsw,⟨swp E (k + 1) k,k,rfl,by rw [size_swp]; exact hE,by omega,by omega,?_⟩,by show ((k : Int)).toNat < (((k + 1 : Nat) : Int)).toNat; omega⟩
     rw [← hO2,zp (by simp; omega)]
    | false =>
     rw [hx] at hO2
     refine ⟨_,rfl,?_⟩
     show rpZ v E = rpZ v _
     rw [← hO2,zy (by simp)]
   ·rw [zf (show ¬ (j : Int) > (a : Int) from by omega),zd]
    refine ⟨_,rfl,?_⟩
    show rpZ v E = rpZ v _
    rw [← hO2]
    cases j with
    | zero=>rfl
    | succ k=>rw [insInner,zy (by simp; omega)]
  ·have e := ce (z := (i : Int) + 1) (n := i + 1)
   show (∃ (D : Array α) (j : Nat),(t.1,IntKind.i64.wrap ((i : Int) + 1)) = (rpZ v D,(j : Int)) ∧ _) ∧ ((b : Int) - IntKind.i64.wrap ((i : Int) + 1)).toNat < ((b : Int) - (i : Int)).toNat
   rw [e]
   exact ⟨⟨insInner lt a i D,i + 1,by rw [hq],by rw [qy]; exact hD,by omega,hO⟩,by omega⟩
 ·rw [zf (show ¬ (i : Int) < (b : Int) from by omega),zd]
  rw [zy hlt] at hO
  exact ⟨_,rfl,by show rpZ v D = _; rw [hO]⟩
theorem sift_simZ (hC : CmpIsZ v lt) {A : Array α} {lo hi first : Nat} (hs : A.size ≤ 1000000) (hh : first + hi ≤ A.size) (hl : lo ≤ A.size) : dD (rpZ v A) (lo : Int) (hi : Int) (first : Int) = some (rpZ v (siftDown lt hi first lo A)) := by
 unfold dD
 refine pe (mm (fun s=>∃ (D : Array α) (r : Nat),s = (rpZ v D,(r : Int)) ∧ D.size = A.size ∧ r ≤ 1000000 ∧ siftDown lt hi first r D = siftDown lt hi first lo A) (fun s=>((hi : Int) - s.2).toNat) (fun s=>s.1 = rpZ v (siftDown lt hi first lo A)) ⟨A,lo,rfl,rfl,by omega,rfl⟩ (fun s hI=>?_) (fun s hq=>⟨_,rfl,hq⟩))
 obtain ⟨D,r,rfl,hD,hr,hO⟩ := hI
 dsimp only
 rw [ce (z := 2 * (r : Int)) (n := 2 * r),ce (z := ((2 * r : Nat) : Int) + 1) (n := 2 * r + 1),ce (z := ((2 * r + 1 : Nat) : Int) + 1) (n := 2 * r + 2)]
 rw [siftDown] at hO
 by_cases hge : 2 * r + 1 ≥ hi
 ·rw [zt (show ((2 * r + 1 : Nat) : Int) ≥ (hi : Int) from by omega),zc]
  rw [dif_pos hge] at hO
  exact ⟨_,rfl,by show rpZ v D = _; rw [hO]⟩
 ·rw [zf (show ¬ ((2 * r + 1 : Nat) : Int) ≥ (hi : Int) from by omega),zd,ce (z := (first : Int) + ((2 * r + 1 : Nat) : Int)) (n := first + (2 * r + 1)),ce (z := ((first + (2 * r + 1) : Nat) : Int) + 1) (n := first + (2 * r + 1) + 1) (by omega) (by omega),ce (z := (first : Int) + (r : Int)) (n := first + r)]
  rw [dif_neg hge] at hO
  -- which child
  obtain ⟨ch,h1,h2,h3⟩ : ∃ ch : Nat,ch < hi ∧ r < ch ∧ (ai (cond (decide (((2 * r + 2 : Nat) : Int) < (hi : Int)))
     (ai (aG (rpZ v D) ((first + (2 * r + 1) : Nat) : Int)) fun (x29 : List UInt8)=>ai (aG (rpZ v D) ((first + (2 * r + 1) + 1 : Nat) : Int)) fun (x36 : List UInt8)=>bf (bB x29 x36) fun x38=>some (rpZ v D,x38))
     (some (rpZ v D,false))) fun (t10 : eL × Bool)=>some (cond t10.2 ((t10.1,((2 * r + 2 : Nat) : Int))) ((t10.1,((2 * r + 1 : Nat) : Int))))) = some (rpZ v D,(ch : Int)) ∧
    (if !lt D[first + r]! D[first + ch]! then D else siftDown lt hi first ch (swp D (first + r) (first + ch))) = siftDown lt hi first lo A := by
   by_cases hc1 : 2 * r + 2 < hi
   ·have hl := hC.is D[first + (2 * r + 1)]! D[first + (2 * r + 1) + 1]!
    rw [zt (show ((2 * r + 2 : Nat) : Int) < (hi : Int) from by omega),zc,dO (by omega),bPs,dO (by omega),bPs,ma,bPs,hl]
    cases hx : lt D[first + (2 * r + 1)]! D[first + (2 * r + 1) + 1]! with
    | true =>
     refine ⟨2 * r + 2,hc1,by omega,rfl,?_⟩
     rw [zp (by rw [hx]; simp; omega)] at hO
     rw [← hO]
     split <;> rfl
    | false =>
     refine ⟨2 * r + 1,by omega,by omega,rfl,?_⟩
     rw [zy (by rw [hx]; simp)] at hO
     exact hO
   ·rw [zf (show ¬ ((2 * r + 2 : Nat) : Int) < (hi : Int) from by omega),zd,bPs]
    refine ⟨2 * r + 1,by omega,by omega,rfl,?_⟩
    rw [zy (by simp; omega)] at hO
    exact hO
  generalize hq : (cond (decide (((2 * r + 2 : Nat) : Int) < (hi : Int))) _ _ : Option (eL × Bool)) = o at h3 ⊢
  cases o with
  | none=>exact absurd h3.1 (by simp [ai])
  | some t10 =>
   obtain ⟨h3,h4⟩ := h3
   rw [bPs,zo] at h3
   rw [bPs,bV,h3]
   dsimp only
   rw [ce (z := (first : Int) + (ch : Int)) (n := first + ch)]
   have hl := hC.is D[first + r]! D[first + ch]!
   have hsw := gH (v := v) (A := D) (i := first + r) (j := first + ch) (β := Flow (eL × Int) eL) (by omega) (by omega) (fun y=>some (.next (y,(ch : Int))))
   rw [hsw,dO (by omega),bPs,dO (by omega),bPs,ma,hl]
   cases hx : lt D[first + r]! D[first + ch]! with
   | true =>
    rw [hx] at h4
    exact ⟨_,rfl,⟨swp D (first + r) (first + ch),ch,rfl,by rw [size_swp]; exact hD,by omega,h4⟩,by show ((hi : Int) - (ch : Int)).toNat < ((hi : Int) - (r : Int)).toNat; omega⟩
   | false =>
    rw [hx] at h4
    exact ⟨_,rfl,by show rpZ v D = _; rw [← h4]; rfl⟩
theorem heap_simZ (hC : CmpIsZ v lt) {A : Array α} {a b : Nat} (hs : A.size ≤ 1000000) (hab : a ≤ b) (hb : b ≤ A.size) : eA (rpZ v A) (a : Int) (b : Int) = some (rpZ v (heapSort lt A a b)) := by
 unfold eA
 have e0 : IntKind.i64.wrap (Int.tdiv (IntKind.i64.wrap (((b - a : Nat) : Int) - 1)) 2) = (((b - a - 1) / 2 + 1 : Nat) : Int) - 1 := by
  rw [bD (n := ((b - a : Nat) : Int) - 1) (by omega) (by omega)]
  by_cases h : b - a = 0
  ·rw [h]; rfl
  ·rw [Int.tdiv_eq_ediv_of_nonneg (by omega),bD (by omega) (by omega)]
   omega
 rw [ce (z := (b : Int) - (a : Int)) (n := b - a),e0,bD (n := ((b - a : Nat) : Int) - 1) (by omega) (by omega)]
 unfold heapSort
 refine pe (dt (fun s=>∃ (D : Array α) (k : Nat),s = (rpZ v D,(k : Int) - 1) ∧ D.size = A.size ∧ k ≤ b - a + 1 ∧ heapBuild lt (b - a) a k D = heapBuild lt (b - a) a ((b - a - 1) / 2 + 1) A) (fun s=>(s.2 + 1).toNat) (fun s=>∃ D : Array α,D.size = A.size ∧ s.1 = rpZ v D ∧ D = heapBuild lt (b - a) a ((b - a - 1) / 2 + 1) A) ⟨A,(b - a - 1) / 2 + 1,rfl,rfl,by omega,rfl⟩ (fun s hI=>?_) (fun s hq=>?_))
 ·obtain ⟨D,k,rfl,hD,hk,hO⟩ := hI
  dsimp only
  cases k with
  | zero =>
   rw [zf (by omega),zd]
   exact ⟨_,rfl,D,hD,rfl,hO⟩
  | succ k =>
   rw [zt (by omega),zc,show ((k + 1 : Nat) : Int) - 1 = (k : Int) from by omega,sift_simZ hC (by omega) (by omega) (by omega),bPs,bT (by rw [eE,eE,jz _ _ _ _ _ (Nat.le_refl _)]),bPs,bD (by omega) (by omega)]
   exact ⟨_,rfl,⟨_,k,rfl,by rw [jz _ _ _ _ _ (Nat.le_refl _)]; exact hD,by omega,hO⟩,by show ((k : Int) - 1 + 1).toNat < ((k : Int) + 1).toNat; omega⟩
 ·obtain ⟨D,hD,h1,h2⟩ := hq
  rw [h1,← h2]
  clear h1 h2 e0
  refine dt (fun s=>∃ (E : Array α) (k : Nat),s = (rpZ v E,(k : Int) - 1) ∧ E.size = A.size ∧ k ≤ b - a ∧ heapPop lt a k E = heapPop lt a (b - a) D) (fun s=>(s.2 + 1).toNat) (fun s=>s.1 = rpZ v (heapPop lt a (b - a) D)) ⟨D,b - a,rfl,hD,Nat.le_refl _,rfl⟩ (fun s hI=>?_) (fun s hq=>⟨_,rfl,hq⟩)
  obtain ⟨E,k,rfl,hE,hk,hO⟩ := hI
  dsimp only
  cases k with
  | zero =>
   rw [zf (by omega),zd]
   exact ⟨_,rfl,by show rpZ v E = _; rw [← hO]; rfl⟩
  | succ k =>
   rw [zt (by omega),zc,show ((k + 1 : Nat) : Int) - 1 = (k : Int) from by omega,ce (z := (a : Int) + (k : Int)) (n := a + k)]
   rw [gH (by omega) (by omega)]
   have hz : (swp E a (a + k)).size = A.size := by rw [size_swp]; exact hE
   have hsf := sift_simZ (lo := 0) (hi := k) (first := a) hC (A := swp E a (a + k)) (by omega) (by omega) (by omega)
   rw [show ((0 : Nat) : Int) = 0 from rfl] at hsf
   rw [hsf,bPs,bT (by rw [eE,eE,jz _ _ _ _ _ (Nat.le_refl _)]),bPs,bD (by omega) (by omega)]
   exact ⟨_,rfl,⟨_,k,rfl,by rw [jz _ _ _ _ _ (Nat.le_refl _)]; exact hz,by omega,hO⟩,by show ((k : Int) - 1 + 1).toNat < ((k : Int) + 1).toNat; omega⟩
theorem reverse_simZ {A : Array α} {a b : Nat} (hs : A.size ≤ 1000000) (hab : a < b) (hb : b ≤ A.size) : dL (rpZ v A) (a : Int) (b : Int) = some (rpZ v (reverseRange A a b)) := by
 unfold dL
 rw [ce (z := (b : Int) - 1) (n := b - 1)]
 refine pe (dt (fun s=>∃ (D : Array α) (i j : Nat),s = (rpZ v D,(i : Int),(j : Int)) ∧ D.size = A.size ∧ i ≤ j + 1 ∧ j < b ∧ reverseLoop i j D = reverseRange A a b) (fun s=>(s.2.2 - s.2.1).toNat) (fun s=>s.1 = rpZ v (reverseRange A a b)) ⟨A,a,b - 1,rfl,rfl,by omega,by omega,rfl⟩ (fun s hI=>?_) (fun s hq=>⟨_,rfl,hq⟩))
 obtain ⟨D,i,j,rfl,hD,hij,hjb,hO⟩ := hI
 dsimp only
 rw [reverseLoop] at hO
 by_cases hlt : i < j
 ·rw [zt (by omega),zc,ce (z := (i : Int) + 1) (n := i + 1),ce (z := (j : Int) - 1) (n := j - 1),gH (by omega) (by omega)]
  rw [zp hlt] at hO
  exact ⟨_,rfl,⟨swp D i j,i + 1,j - 1,rfl,by rw [size_swp]; exact hD,by omega,by omega,hO⟩,by show (((j - 1 : Nat) : Int) - ((i + 1 : Nat) : Int)).toNat < ((j : Int) - (i : Int)).toNat; omega⟩
 ·rw [zf (by omega),zd]
  rw [zy hlt] at hO
  exact ⟨_,rfl,by show rpZ v D = _; rw [hO]⟩
theorem up_runZ {step : eL × Int → Option (Flow (eL × Int) Empty)} {p : α → Bool} {D : Array α} {j : Nat}
  (hst : ∀ i : Nat,step (rpZ v D,(i : Int)) = if i ≤ j && p D[i]! then some (.next (rpZ v D,((i + 1 : Nat) : Int))) else some (.brk (rpZ v D,(i : Int)))) (i : Nat) : whileM step (rpZ v D,(i : Int)) = some (.next (rpZ v D,((scanUp p D j i : Nat) : Int))) := by
 generalize hn : j + 1 - i = n
 induction n generalizing i with
 | zero =>
  rw [scanUp,zy (by simp; omega)]
  exact eQ (by rw [hst,zy (by simp; omega)]) rfl
 | succ n ih =>
  rw [scanUp]
  by_cases h : (decide (i ≤ j) && p D[i]!) = true
  ·rw [zp h]
   exact eQ (by rw [hst,zp h]) (ih (i + 1) (by omega))
  ·rw [zy h]
   exact eQ (by rw [hst,zy h]) rfl
theorem oQ {step : eL × Int → Option (Flow (eL × Int) Empty)} {p : α → Bool} {D : Array α} {i : Nat} (hi : 0 < i)
  (hst : ∀ j : Nat,j < D.size → step (rpZ v D,(j : Int)) = if i ≤ j && p D[j]! then some (.next (rpZ v D,(j : Int) - 1)) else some (.brk (rpZ v D,(j : Int)))) : ∀ j : Nat,j < D.size → whileM step (rpZ v D,(j : Int)) = some (.next (rpZ v D,((scanDown p D i j : Nat) : Int)))
 | 0,hj=>by
  rw [scanDown]
  exact eQ (by rw [hst 0 hj,zy (by simp; omega)]) rfl
 | j + 1,hj=>by
  have ih := oQ hi hst j (by omega)
  rw [scanDown]
  by_cases h : (decide (i ≤ j + 1) && p D[j + 1]!) = true
  ·rw [zp h]
   exact eQ (fl := .next (rpZ v D,(j : Int))) (by rw [hst _ hj,zp h,show ((j + 1 : Nat) : Int) - 1 = (j : Int) from by omega]) ih
  ·rw [zy h]
   exact eQ (by rw [hst _ hj,zy h]) rfl
theorem upStepZ (hC : CmpIsZ v lt) {D : Array α} {a j i : Nat} (hs : D.size ≤ 1000000) (ha : a < D.size) (hj : j < D.size) :
  (cond (decide ((i : Int) ≤ (j : Int))) (ai (aG (rpZ v D) (i : Int)) fun (x39 : List UInt8)=>ai (aG (rpZ v D) (a : Int)) fun (x43 : List UInt8)=>bf (bB x39 x43) fun x45=>cond x45 (some (.next (rpZ v D,(IntKind.i64.wrap ((i : Int) + (1 : Int)))))) (some (.brk (rpZ v D,(i : Int))))) (some (.brk (rpZ v D,(i : Int)))) : Option (Flow (eL × Int) Empty)) = if (decide (i ≤ j) && (fun x=>lt x D[a]!) D[i]!) = true then some (.next (rpZ v D,((i + 1 : Nat) : Int))) else some (.brk (rpZ v D,(i : Int))) := by
 by_cases h : i ≤ j
 ·rw [zt (show (i : Int) ≤ (j : Int) from by omega),zc,dO (by omega),bPs,dO ha,bPs]
  have hl := hC.is D[i]! D[a]!
  rw [ma,hl,ce (z := (i : Int) + 1) (n := i + 1)]
  cases hx : lt D[i]! D[a]! <;> simp [hx,h]
 ·rw [zf (show ¬ (i : Int) ≤ (j : Int) from by omega),zd,zy (by simp [h])]
theorem downStepZ (hC : CmpIsZ v lt) {D : Array α} {a j i : Nat} (hs : D.size ≤ 1000000) (ha : a < D.size) (hj : j < D.size) :
  (cond (decide ((i : Int) ≤ (j : Int))) (ai (aG (rpZ v D) (j : Int)) fun (x39 : List UInt8)=>ai (aG (rpZ v D) (a : Int)) fun (x43 : List UInt8)=>bf (bB x39 x43) fun x45=>cond (!x45) (some (.next (rpZ v D,(IntKind.i64.wrap ((j : Int) - (1 : Int)))))) (some (.brk (rpZ v D,(j : Int))))) (some (.brk (rpZ v D,(j : Int)))) : Option (Flow (eL × Int) Empty)) = if (decide (i ≤ j) && (fun x=>!lt x D[a]!) D[j]!) = true then some (.next (rpZ v D,(j : Int) - 1)) else some (.brk (rpZ v D,(j : Int))) := by
 by_cases h : i ≤ j
 ·rw [zt (show (i : Int) ≤ (j : Int) from by omega),zc,dO (by omega),bPs,dO ha,bPs]
  have hl := hC.is D[j]! D[a]!
  rw [ma,hl,bD (n := (j : Int) - 1) (by omega) (by omega)]
  cases hx : lt D[j]! D[a]! <;> simp [hx,h]
 ·rw [zf (show ¬ (i : Int) ≤ (j : Int) from by omega),zd,zy (by simp [h])]
theorem upStepEZ (hC : CmpIsZ v lt) {D : Array α} {a j i : Nat} (hs : D.size ≤ 1000000) (ha : a < D.size) (hj : j < D.size) :
  (cond (decide ((i : Int) ≤ (j : Int))) (ai (aG (rpZ v D) (a : Int)) fun (x39 : List UInt8)=>ai (aG (rpZ v D) (i : Int)) fun (x43 : List UInt8)=>bf (bB x39 x43) fun x45=>cond (!x45) (some (.next (rpZ v D,(IntKind.i64.wrap ((i : Int) + (1 : Int)))))) (some (.brk (rpZ v D,(i : Int))))) (some (.brk (rpZ v D,(i : Int)))) : Option (Flow (eL × Int) Empty)) = if (decide (i ≤ j) && (fun x=>!lt D[a]! x) D[i]!) = true then some (.next (rpZ v D,((i + 1 : Nat) : Int))) else some (.brk (rpZ v D,(i : Int))) := by
 by_cases h : i ≤ j
 ·rw [zt (show (i : Int) ≤ (j : Int) from by omega),zc,dO ha,bPs,dO (by omega),bPs]
  have hl := hC.is D[a]! D[i]!
  rw [ma,hl,ce (z := (i : Int) + 1) (n := i + 1)]
  cases hx : lt D[a]! D[i]! <;> simp [hx,h]
 ·rw [zf (show ¬ (i : Int) ≤ (j : Int) from by omega),zd,zy (by simp [h])]
theorem downStepEZ (hC : CmpIsZ v lt) {D : Array α} {a j i : Nat} (hs : D.size ≤ 1000000) (ha : a < D.size) (hj : j < D.size) :
  (cond (decide ((i : Int) ≤ (j : Int))) (ai (aG (rpZ v D) (a : Int)) fun (x39 : List UInt8)=>ai (aG (rpZ v D) (j : Int)) fun (x43 : List UInt8)=>bf (bB x39 x43) fun x45=>cond x45 (some (.next (rpZ v D,(IntKind.i64.wrap ((j : Int) - (1 : Int)))))) (some (.brk (rpZ v D,(j : Int))))) (some (.brk (rpZ v D,(j : Int)))) : Option (Flow (eL × Int) Empty)) = if (decide (i ≤ j) && (fun x=>lt D[a]! x) D[j]!) = true then some (.next (rpZ v D,(j : Int) - 1)) else some (.brk (rpZ v D,(j : Int))) := by
 by_cases h : i ≤ j
 ·rw [zt (show (i : Int) ≤ (j : Int) from by omega),zc,dO ha,bPs,dO (by omega),bPs]
  have hl := hC.is D[a]! D[j]!
  rw [ma,hl,bD (n := (j : Int) - 1) (by omega) (by omega)]
  cases hx : lt D[a]! D[j]! <;> simp [hx,h]
 ·rw [zf (show ¬ (i : Int) ≤ (j : Int) from by omega),zd,zy (by simp [h])]
theorem part_simZ (hC : CmpIsZ v lt) {A : Array α} {a b p : Nat} (hs : A.size ≤ 1000000) (hap : a ≤ p) (hpb : p < b) (hb : b ≤ A.size) : eg (rpZ v A) (a : Int) (b : Int) (p : Int) = some (((partition lt A a b p).1 : Int),(partition lt A a b p).2.1,rpZ v (partition lt A a b p).2.2) := by
 unfold eg partition
 rw [gH (by omega) (by omega)]
 have hB : (swp A a p).size = A.size := size_swp _ _ _
 generalize swp A a p = B at hB ⊢
 dsimp only
 rw [ce (z := (b : Int) - 1) (n := b - 1),ce (z := (a : Int) + 1) (n := a + 1)]
 rw [up_runZ (v := v) (p := fun x=>lt x B[a]!) (D := B) (j := b - 1) (fun i=>upStepZ hC (by omega) (by omega) (by omega)) (a + 1),bPs,bW]
 obtain ⟨f1,f2,f3,f4,f5⟩ := qh (fun x=>lt x B[a]!) (fun x=>!lt x B[a]!) (fun _=>rfl) B (i := a + 1) (j := b - 1) (by omega) (by omega)
 generalize scanUp (fun x=>lt x B[a]!) B (b - 1) (a + 1) = i3 at f1 f2 f3 f4 f5 ⊢
 dsimp only
 rw [oQ (v := v) (p := fun x=>!lt x B[a]!) (D := B) (i := i3) (by omega) (fun j hj=>downStepZ hC (by omega) (by omega) hj) (b - 1) (by omega),bPs,bW]
 generalize scanDown (fun x=>!lt x B[a]!) B i3 (b - 1) = j4 at f3 f4 f5 ⊢
 dsimp only
 by_cases hgt : i3 > j4
 ·rw [zt (show (i3 : Int) > (j4 : Int) from by omega),zc,zp hgt,gH (by omega) (by omega)]
 ·rw [zf (show ¬ (i3 : Int) > (j4 : Int) from by omega),zd,zy hgt,gH (by omega) (by omega)]
  have hlt := f5 hgt
  have hCs : (swp B i3 j4).size = A.size := by rw [size_swp]; exact hB
  generalize swp B i3 j4 = C at hCs ⊢
  rw [ce (z := (i3 : Int) + 1) (n := i3 + 1),ce (z := (j4 : Int) - 1) (n := j4 - 1)]
  refine pe (dt (fun s=>∃ (D : Array α) (i j : Nat),s = (rpZ v D,(i : Int),(j : Int)) ∧ D.size = A.size ∧ a < i ∧ i ≤ j + 1 ∧ j < b ∧ partLoop lt a i j D = partLoop lt a (i3 + 1) (j4 - 1) C) (fun s=>(s.2.2 + 1 - s.2.1).toNat) (fun s=>∃ (D : Array α) (j : Nat),s.1 = rpZ v D ∧ s.2.2 = (j : Int) ∧ D.size = A.size ∧ j < b ∧ (j,D) = partLoop lt a (i3 + 1) (j4 - 1) C) ⟨C,i3 + 1,j4 - 1,rfl,hCs,by omega,by omega,by omega,rfl⟩ (fun s hI=>?_) (fun s hq=>?_))
  ·obtain ⟨D,i,j,rfl,hD,hai,hij,hjb,hO⟩ := hI
   dsimp only
   rw [up_runZ (v := v) (p := fun x=>lt x D[a]!) (D := D) (j := j) (fun i=>upStepZ hC (by omega) (by omega) (by omega)) i,bPs,bW]
   rw [Go.Sort.partLoop_eq] at hO
   obtain ⟨g1,g2,g3,g4,g5⟩ := qh (fun x=>lt x D[a]!) (fun x=>!lt x D[a]!) (fun _=>rfl) D (i := i) (j := j) (by omega) (by omega)
   generalize scanUp (fun x=>lt x D[a]!) D j i = i5 at g1 g2 g3 g4 g5 hO ⊢
   dsimp only
   rw [oQ (v := v) (p := fun x=>!lt x D[a]!) (D := D) (i := i5) (by omega) (fun j hj=>downStepZ hC (by omega) (by omega) hj) j (by omega),bPs,bW]
   generalize scanDown (fun x=>!lt x D[a]!) D i5 j = j5 at g3 g4 g5 hO ⊢
   dsimp only
   by_cases hgt : i5 > j5
   ·rw [zt (show (i5 : Int) > (j5 : Int) from by omega),zc]
    rw [zp hgt] at hO
    exact ⟨_,rfl,D,j5,rfl,rfl,hD,by omega,hO⟩
   ·have hl5 := g5 hgt
    rw [zf (show ¬ (i5 : Int) > (j5 : Int) from by omega),zd,gH (by omega) (by omega),ce (z := (i5 : Int) + 1) (n := i5 + 1),ce (z := (j5 : Int) - 1) (n := j5 - 1)]
    rw [zy hgt] at hO
    exact ⟨_,rfl,⟨swp D i5 j5,i5 + 1,j5 - 1,rfl,by rw [size_swp]; exact hD,by omega,by omega,by omega,hO⟩,by show (((j5 - 1 : Nat) : Int) + 1 - ((i5 + 1 : Nat) : Int)).toNat < ((j : Int) + 1 - (i : Int)).toNat; omega⟩
  ·obtain ⟨D,j,h1,h2,hD,hjb,h3⟩ := hq
   rw [h1,h2,← h3,gH (by omega) (by omega)]
   exact ⟨_,rfl,rfl⟩
theorem partEq_simZ (hC : CmpIsZ v lt) {A : Array α} {a b p : Nat} (hs : A.size ≤ 1000000) (hap : a ≤ p) (hpb : p < b) (hb : b ≤ A.size) : dz (rpZ v A) (a : Int) (b : Int) (p : Int) = some (((partitionEqual lt A a b p).1 : Int),rpZ v (partitionEqual lt A a b p).2) := by
 unfold dz partitionEqual
 rw [gH (by omega) (by omega)]
 have hB : (swp A a p).size = A.size := size_swp _ _ _
 generalize swp A a p = B at hB ⊢
 rw [ce (z := (b : Int) - 1) (n := b - 1),ce (z := (a : Int) + 1) (n := a + 1)]
 refine pe (dt (fun s=>∃ (D : Array α) (i j : Nat),s = (rpZ v D,(i : Int),(j : Int)) ∧ D.size = A.size ∧ a < i ∧ i ≤ j + 1 ∧ j < b ∧ partEqLoop lt a i j D = partEqLoop lt a (a + 1) (b - 1) B) (fun s=>(s.2.2 + 1 - s.2.1).toNat) (fun s=>∃ (D : Array α) (i : Nat),s.1 = rpZ v D ∧ s.2.1 = (i : Int) ∧ (i,D) = partEqLoop lt a (a + 1) (b - 1) B) ⟨B,a + 1,b - 1,rfl,hB,by omega,by omega,by omega,rfl⟩ (fun s hI=>?_) (fun s hq=>?_))
 ·obtain ⟨D,i,j,rfl,hD,hai,hij,hjb,hO⟩ := hI
  dsimp only
  rw [up_runZ (v := v) (p := fun x=>!lt D[a]! x) (D := D) (j := j) (fun i=>upStepEZ hC (by omega) (by omega) (by omega)) i,bPs,bW]
  rw [Go.Sort.partEqLoop_eq] at hO
  obtain ⟨g1,g2,g3,g4,g5⟩ := qh (fun x=>!lt D[a]! x) (fun x=>lt D[a]! x) (fun _=>by simp) D (i := i) (j := j) (by omega) (by omega)
  generalize scanUp (fun x=>!lt D[a]! x) D j i = i5 at g1 g2 g3 g4 g5 hO ⊢
  dsimp only
  rw [oQ (v := v) (p := fun x=>lt D[a]! x) (D := D) (i := i5) (by omega) (fun j hj=>downStepEZ hC (by omega) (by omega) hj) j (by omega),bPs,bW]
  generalize scanDown (fun x=>lt D[a]! x) D i5 j = j5 at g3 g4 g5 hO ⊢
  dsimp only
  by_cases hgt : i5 > j5
  ·rw [zt (show (i5 : Int) > (j5 : Int) from by omega),zc]
   rw [zp hgt] at hO
   exact ⟨_,rfl,D,i5,rfl,rfl,hO⟩
  ·have hl5 := g5 hgt
   rw [zf (show ¬ (i5 : Int) > (j5 : Int) from by omega),zd,gH (by omega) (by omega),ce (z := (i5 : Int) + 1) (n := i5 + 1),ce (z := (j5 : Int) - 1) (n := j5 - 1)]
   rw [zy hgt] at hO
   exact ⟨_,rfl,⟨swp D i5 j5,i5 + 1,j5 - 1,rfl,by rw [size_swp]; exact hD,by omega,by omega,by omega,hO⟩,by show (((j5 - 1 : Nat) : Int) + 1 - ((i5 + 1 : Nat) : Int)).toNat < ((j : Int) + 1 - (i : Int)).toNat; omega⟩
 ·obtain ⟨D,i,h1,h2,h3⟩ := hq
  rw [h1,h2,← h3]
  exact ⟨_,rfl,rfl⟩
theorem sorted_runZ (hC : CmpIsZ v lt) {D : Array α} {b : Nat} (hs : D.size ≤ 1000000) (hb : b ≤ D.size) : ∀ (n i : Nat),b - i ≤ n → 0 < i → i ≤ b → whileM (σ := eL × Int) (ρ := Empty) (fun (s52 : eL × Int)=>cond (decide (s52.2 < (b : Int)))
     (ai (aG s52.1 s52.2) fun (x26 : List UInt8) =>
     ai (aG s52.1 (IntKind.i64.wrap (s52.2 - (1 : Int)))) fun (x31 : List UInt8) =>
     bf (bB x26 x31) fun x33 =>
     cond (!x33)
      (some (.next (s52.1,(IntKind.i64.wrap (s52.2 + (1 : Int))))))
      (some (.brk (s52.1,s52.2))))
     (some (.brk (s52.1,s52.2)))) (rpZ v D,(i : Int)) = some (.next (rpZ v D,((scanSorted lt D b i : Nat) : Int))) ∧ i ≤ scanSorted lt D b i ∧ scanSorted lt D b i ≤ b := by
 intro n
 induction n with
 | zero =>
  intro i hn h0 hi
  rw [scanSorted,zy (by simp; omega)]
  refine ⟨eQ (fl := .brk (rpZ v D,(i : Int))) ?_ rfl,Nat.le_refl _,hi⟩
  dsimp only
  rw [zf (by omega),zd]
 | succ n ih =>
  intro i hn h0 hi
  rw [scanSorted]
  by_cases hlt : i < b
  ·have hl := hC.is D[i]! D[i - 1]!
   cases hx : lt D[i]! D[i - 1]! with
   | true =>
    rw [zy (by simp)]
    refine ⟨eQ (fl := .brk (rpZ v D,(i : Int))) ?_ rfl,Nat.le_refl _,hi⟩
    dsimp only
    rw [zt (by omega),zc,ce (z := (i : Int) - 1) (n := i - 1),dO (by omega),bPs,dO (by omega),bPs,ma,hl,hx]
    rfl
   | false =>
    rw [zp (by simp [hlt])]
    obtain ⟨e1,e2,e3⟩ := ih (i + 1) (by omega) (by omega) (by omega)
    refine ⟨eQ (fl := .next (rpZ v D,((i + 1 : Nat) : Int))) ?_ e1,by omega,e3⟩
    dsimp only
    rw [zt (by omega),zc,ce (z := (i : Int) - 1) (n := i - 1),ce (z := (i : Int) + 1) (n := i + 1),dO (by omega),bPs,dO (by omega),bPs,ma,hl,hx]
    rfl
  ·rw [zy (by simp [hlt])]
   refine ⟨eQ (fl := .brk (rpZ v D,(i : Int))) ?_ rfl,Nat.le_refl _,hi⟩
   dsimp only
   rw [zf (by omega),zd]
theorem sd_runZ {β : Type} {Q : β → Prop} (hC : CmpIsZ v lt) {A : Array α} {j : Nat} (hs : A.size ≤ 1000000) (hj : j < A.size) {k : eL × Int → Option β} (hk : ∀ z,∃ r,k (rpZ v (shiftDown lt j A),z) = some r ∧ Q r) :
  ∃ r,ai (whileM (σ := eL × Int) (ρ := Empty) (fun (s63 : eL × Int) =>
              cond (decide (s63.2 ≥ (1 : Int)))
                (ai (aG s63.1 s63.2) fun (x75 : List UInt8) =>
                ai (aG s63.1 (IntKind.i64.wrap (s63.2 - (1 : Int)))) fun (x80 : List UInt8) =>
                bf (bB x75 x80) fun x82 =>
                cond (!x82)
                  (some (.brk (s63.1,s63.2)))
                  (ai (aG s63.1 (IntKind.i64.wrap (s63.2 - (1 : Int)))) fun (x93 : List UInt8) =>
                  ai (aG s63.1 s63.2) fun (x97 : List UInt8) =>
                  ai (aG s63.1 s63.2) fun (_ : List UInt8) =>
                  bf (s63.1.set s63.2.toNat x93) fun (y68 : eL) =>
                  ai (aG y68 (IntKind.i64.wrap (s63.2 - (1 : Int)))) fun (_ : List UInt8) =>
                  bf (y68.set ((IntKind.i64.wrap (s63.2 - (1 : Int))).toNat) x97) fun (y69 : eL) =>
                  some (.next (y69,(IntKind.i64.wrap (s63.2 - (1 : Int)))))))
                (some (.brk (s63.1,s63.2)))) (rpZ v A,(j : Int))) (fun fl63=>fl63.thenP k) = some r ∧ Q r := by
 refine dt (fun s=>∃ (D : Array α) (i : Nat),s = (rpZ v D,(i : Int)) ∧ D.size = A.size ∧ i < A.size ∧ shiftDown lt i D = shiftDown lt j A) (fun s=>s.2.toNat) (fun s=>s.1 = rpZ v (shiftDown lt j A)) ⟨A,j,rfl,rfl,hj,rfl⟩ (fun s hI=>?_) (fun s hq=>?_)
 ·obtain ⟨D,i,rfl,hD,hi,hO⟩ := hI
  dsimp only
  cases i with
  | zero =>
   rw [zf (by omega),zd]
   exact ⟨_,rfl,by show rpZ v D = _; rw [← hO]; rfl⟩
  | succ i =>
   have hl := hC.is D[i + 1]! D[i]!
   rw [zt (by omega),zc,ce (z := ((i + 1 : Nat) : Int) - 1) (n := i),gH (by omega) (by omega),dO (by omega),bPs,dO (by omega),bPs,ma,hl]
   rw [shiftDown] at hO
   cases hx : lt D[i + 1]! D[i]! with
   | true =>
    rw [hx,zy (by simp)] at hO
    exact ⟨_,rfl,⟨swp D (i + 1) i,i,rfl,by rw [size_swp]; exact hD,by omega,hO⟩,by show ((i : Int)).toNat < (((i + 1 : Nat) : Int)).toNat; omega⟩
   | false =>
    rw [hx,zp (by simp)] at hO
    exact ⟨_,rfl,by show rpZ v D = _; rw [hO]⟩
 ·obtain ⟨s1,s2⟩ := s
  dsimp only at hq
  rw [hq]
  exact hk s2
theorem su_runZ {β : Type} {Q : β → Prop} (hC : CmpIsZ v lt) {A : Array α} {b j : Nat} (hs : A.size ≤ 1000000) (hb : b ≤ A.size) (hj : 0 < j) (hjb : j ≤ b) {k : eL × Int → Option β} (hk : ∀ z,∃ r,k (rpZ v (shiftUp lt b j A),z) = some r ∧ Q r) :
  ∃ r,ai (whileM (σ := eL × Int) (ρ := Empty) (fun (s70 : eL × Int) =>
       cond (decide (s70.2 < (b : Int)))
        (ai (aG s70.1 s70.2) fun (x115 : List UInt8) =>
        ai (aG s70.1 (IntKind.i64.wrap (s70.2 - (1 : Int)))) fun (x120 : List UInt8) =>
        bf (bB x115 x120) fun x122 =>
        cond (!x122)
         (some (.brk (s70.1,s70.2)))
         (ai (aG s70.1 (IntKind.i64.wrap (s70.2 - (1 : Int)))) fun (x133 : List UInt8) =>
         ai (aG s70.1 s70.2) fun (x137 : List UInt8) =>
         ai (aG s70.1 s70.2) fun (_ : List UInt8) =>
         bf (s70.1.set s70.2.toNat x133) fun (y75 : eL) =>
         ai (aG y75 (IntKind.i64.wrap (s70.2 - (1 : Int)))) fun (_ : List UInt8) =>
         bf (y75.set ((IntKind.i64.wrap (s70.2 - (1 : Int))).toNat) x137) fun (y76 : eL) =>
         some (.next (y76,(IntKind.i64.wrap (s70.2 + (1 : Int)))))))
        (some (.brk (s70.1,s70.2)))) (rpZ v A,(j : Int))) (fun fl70=>fl70.thenP k) = some r ∧ Q r := by
 refine dt (fun s=>∃ (D : Array α) (i : Nat),s = (rpZ v D,(i : Int)) ∧ D.size = A.size ∧ 0 < i ∧ i ≤ b ∧ shiftUp lt b i D = shiftUp lt b j A) (fun s=>((b : Int) - s.2).toNat) (fun s=>s.1 = rpZ v (shiftUp lt b j A)) ⟨A,j,rfl,rfl,hj,hjb,rfl⟩ (fun s hI=>?_) (fun s hq=>?_)
 ·obtain ⟨D,i,rfl,hD,h0,hi,hO⟩ := hI
  dsimp only
  rw [shiftUp] at hO
  by_cases hlt : i < b
  ·have hl := hC.is D[i]! D[i - 1]!
   rw [zt (by omega),zc,ce (z := (i : Int) - 1) (n := i - 1),ce (z := (i : Int) + 1) (n := i + 1),gH (by omega) (by omega),dO (by omega),bPs,dO (by omega),bPs,ma,hl]
   rw [zp hlt] at hO
   cases hx : lt D[i]! D[i - 1]! with
   | true =>
    rw [hx,zy (by simp)] at hO
    exact ⟨_,rfl,⟨swp D i (i - 1),i + 1,rfl,by rw [size_swp]; exact hD,by omega,by omega,hO⟩,by show ((b : Int) - ((i + 1 : Nat) : Int)).toNat < ((b : Int) - (i : Int)).toNat; omega⟩
   | false =>
    rw [hx,zp (by simp)] at hO
    exact ⟨_,rfl,by show rpZ v D = _; rw [hO]⟩
  ·rw [zf (by omega),zd]
   rw [zy hlt] at hO
   exact ⟨_,rfl,by show rpZ v D = _; rw [hO]⟩
 ·obtain ⟨s1,s2⟩ := s
  dsimp only at hq
  rw [hq]
  exact hk s2
theorem pis_simZ (hC : CmpIsZ v lt) {A : Array α} {a b : Nat} (hs : A.size ≤ 1000000) (hab : a < b) (hb : b ≤ A.size) : cV (rpZ v A) (a : Int) (b : Int) = some ((partialInsertionSort lt A a b).2,rpZ v (partialInsertionSort lt A a b).1) := by
 unfold cV
 rw [ce (z := (a : Int) + 1) (n := a + 1),ce (z := (b : Int) - (a : Int)) (n := b - a)]
 refine pe (mm (fun s=>∃ (D : Array α) (i m : Nat),s = (rpZ v D,(i : Int),(5 : Int) - (m : Int)) ∧ D.size = A.size ∧ m ≤ 5 ∧ a < i ∧ i ≤ b ∧ partialIns lt a b m i D = partialInsertionSort lt A a b) (fun s=>(5 - s.2.2).toNat) (fun s=>s.1 = rpZ v (partialInsertionSort lt A a b).1 ∧ (partialInsertionSort lt A a b).2 = false) ⟨A,a + 1,5,rfl,rfl,by omega,by omega,by omega,rfl⟩ (fun s hI=>?_) (fun s hq=>⟨_,rfl,by rw [hq.1,hq.2]⟩))
 obtain ⟨D,i,m,rfl,hD,hm,hai,hib,hO⟩ := hI
 dsimp only
 cases m with
 | zero =>
  rw [zf (by omega),zd]
  rw [partialIns] at hO
  exact ⟨_,rfl,by show rpZ v D = _; rw [← hO],by rw [← hO]⟩
 | succ m =>
  rw [zt (by omega),zc]
  obtain ⟨e1,e2,e3⟩ := sorted_runZ hC (D := D) (b := b) (by omega) (by omega) _ i (Nat.le_refl _) (by omega) hib
  rw [e1,bPs,bW]
  clear e1
  rw [Go.Sort.partialIns_succ] at hO
  unfold Go.Sort.fixDown Go.Sort.fixUp at hO
  generalize scanSorted lt D b i = i2 at e2 e3 hO ⊢
  dsimp only
  by_cases h1 : i2 = b
  ·rw [kD (show (i2 : Int) = (b : Int) from by omega),zc]
   rw [zp h1] at hO
   exact ⟨_,rfl,by rw [← hO]⟩
  ·rw [dw (show ¬ (i2 : Int) = (b : Int) from by omega),zd]
   rw [zy h1] at hO
   by_cases h2 : b - a < 50
   ·rw [zt (by omega),zc]
    rw [zp h2] at hO
    exact ⟨_,rfl,by rw [← hO]⟩
   ·rw [zf (by omega),zd]
    rw [zy h2] at hO
    rw [ce (z := (i2 : Int) - 1) (n := i2 - 1),ce (z := (i2 : Int) - (a : Int)) (n := i2 - a),ce (z := (b : Int) - (i2 : Int)) (n := b - i2),ce (z := (i2 : Int) + 1) (n := i2 + 1),gH (by omega) (by omega)]
    have hE : (swp D i2 (i2 - 1)).size = A.size := by rw [size_swp]; exact hD
    generalize swp D i2 (i2 - 1) = E at hE hO ⊢
    refine nV (P := fun t=>t = rpZ v (if i2 - a ≥ 2 then shiftDown lt (i2 - 1) E else E)) ?_ (fun t ht=>?_)
    ·by_cases h3 : i2 - a ≥ 2
     ·rw [zt (by omega),zc,zp h3]
      exact sd_runZ hC (by omega) (by omega) (fun z=>⟨_,rfl,rfl⟩)
     ·rw [zf (by omega),zd,zy h3]
      exact ⟨_,rfl,rfl⟩
    ·subst ht
     have hG : (if i2 - a ≥ 2 then shiftDown lt (i2 - 1) E else E).size = A.size := by
      split
      ·rw [pQ]; exact hE
      ·exact hE
     generalize (if i2 - a ≥ 2 then shiftDown lt (i2 - 1) E else E) = G at hG hO ⊢
     rw [bD (n := (5 : Int) - ((m + 1 : Nat) : Int) + 1) (by omega) (by omega),show (5 : Int) - ((m + 1 : Nat) : Int) + 1 = 5 - (m : Int) from by omega]
     by_cases h4 : b - i2 ≥ 2
     ·rw [zt (by omega),zc]
      rw [zp h4] at hO
      exact su_runZ hC (by omega) (by omega) (by omega) (by omega) (fun z=>⟨_,rfl,⟨_,i2,m,rfl,by rw [rd b _ _ _ (Nat.le_refl _)]; exact hG,by omega,by omega,e3,hO⟩,by show (5 - ((5 : Int) - (m : Int))).toNat < (5 - ((5 : Int) - ((m + 1 : Nat) : Int))).toNat; omega⟩)
     ·rw [zf (by omega),zd]
      rw [zy h4] at hO
      exact ⟨_,rfl,⟨G,i2,m,rfl,hG,by omega,by omega,e3,hO⟩,by show (5 - ((5 : Int) - (m : Int))).toNat < (5 - ((5 : Int) - ((m + 1 : Nat) : Int))).toNat; omega⟩
theorem qg (hC : CmpIsZ v lt) {A : Array α} {a b : Nat} (ha : a < A.size) (hb : b < A.size) (sw : Int) : ∃ (x y : Nat) (sw' : Int),dl (rpZ v A) (a : Int) (b : Int) sw = some ((x : Int),(y : Int),rpZ v A,sw') ∧ ((x = a ∧ y = b) ∨ (x = b ∧ y = a)) := by
 unfold dl
 rw [dO hb,bPs,dO ha,bPs,ma,hC.is]
 cases lt A[b]! A[a]!
 ·exact ⟨a,b,_,rfl,.inl ⟨rfl,rfl⟩⟩
 ·exact ⟨b,a,_,rfl,.inr ⟨rfl,rfl⟩⟩
theorem qn (hC : CmpIsZ v lt) {A : Array α} {a b c : Nat} (ha : a < A.size) (hb : b < A.size) (hc : c < A.size) (sw : Int) : ∃ (m : Nat) (sw' : Int),dm (rpZ v A) (a : Int) (b : Int) (c : Int) sw = some ((m : Int),rpZ v A,sw') ∧ (m = a ∨ m = b ∨ m = c) := by
 unfold dm
 obtain ⟨x1,y1,w1,e1,h1⟩ := qg hC ha hb sw
 rw [e1,bPs,bT rfl,bPs]
 obtain ⟨x2,y2,w2,e2,h2⟩ := qg hC (a := y1) (b := c) (by omega) hc w1
 dsimp only
 rw [e2,bPs,bT rfl,bPs]
 obtain ⟨x3,y3,w3,e3,h3⟩ := qg hC (A := A) (a := x1) (b := x2) (by omega) (by omega) w2
 dsimp only
 rw [e3,bPs,bT rfl,bPs]
 exact ⟨y3,w3,rfl,by omega⟩
theorem oD (hC : CmpIsZ v lt) {A : Array α} {a : Nat} (hs : A.size ≤ 1000000) (h0 : 0 < a) (ha : a + 1 < A.size) (sw : Int) : ∃ (m : Nat) (sw' : Int),cD (rpZ v A) (a : Int) sw = some ((m : Int),rpZ v A,sw') ∧ a ≤ m + 1 ∧ m ≤ a + 1 := by
 unfold cD
 rw [ce (z := (a : Int) - 1) (n := a - 1),ce (z := (a : Int) + 1) (n := a + 1)]
 obtain ⟨m,w,e,h⟩ := qn hC (A := A) (a := a - 1) (b := a) (c := a + 1) (by omega) (by omega) ha sw
 rw [e,bPs,bT rfl,bPs]
 exact ⟨m,w,rfl,by omega,by omega⟩
theorem pivot_okZ (hC : CmpIsZ v lt) {A : Array α} {a b : Nat} (hs : A.size ≤ 1000000) (hab : a + 12 < b) (hb : b ≤ A.size) : ∃ r,dS (rpZ v A) (a : Int) (b : Int) = some r ∧ ∃ (p : Nat) (h : Int),r = ((p : Int),h,rpZ v A) ∧ a ≤ p ∧ p < b := by
 unfold dS
 rw [ce (z := (b : Int) - (a : Int)) (n := b - a),zt (show ((b - a : Nat) : Int) ≥ 8 from by omega),zc,Int.tdiv_eq_ediv_of_nonneg (by omega)]
 rw [ce (z := ((b - a : Nat) : Int) / 4) (n := (b - a) / 4)]
 generalize hq : (b - a) / 4 = q
 have hq1 : 4 * q ≤ b - a ∧ b - a < 4 * q + 4 := by omega
 clear hq
 rw [ce (z := (q : Int) * 1) (n := q),ce (z := (q : Int) * 2) (n := 2 * q),ce (z := (q : Int) * 3) (n := 3 * q),ce (z := (a : Int) + (q : Int)) (n := a + q),ce (z := (a : Int) + ((2 * q : Nat) : Int)) (n := a + 2 * q),ce (z := (a : Int) + ((3 * q : Nat) : Int)) (n := a + 3 * q)]
 refine nV (P := fun t=>∃ (p : Nat) (w : Int),t = (rpZ v A,(p : Int),w) ∧ a ≤ p ∧ p < b) ?_ (fun t ht=>?_)
 ·by_cases h : b - a ≥ 50
  ·rw [zt (by omega),zc]
   obtain ⟨m1,w1,e1,h1⟩ := oD hC (A := A) (a := a + q) hs (by omega) (by omega) 0
   rw [e1,bPs,bT rfl,bPs]
   dsimp only
   obtain ⟨m2,w2,e2,h2⟩ := oD hC (A := A) (a := a + 2 * q) hs (by omega) (by omega) w1
   rw [e2,bPs,bT rfl,bPs]
   dsimp only
   obtain ⟨m3,w3,e3,h3⟩ := oD hC (A := A) (a := a + 3 * q) hs (by omega) (by omega) w2
   rw [e3,bPs,bT rfl,bPs]
   dsimp only
   obtain ⟨m,w',e,h⟩ := qn hC (A := A) (a := m1) (b := m2) (c := m3) (by omega) (by omega) (by omega) w3
   rw [e,bPs,bT rfl,bPs]
   exact ⟨_,rfl,m,w',rfl,by omega,by omega⟩
  ·rw [zf (by omega),zd]
   obtain ⟨m,w',e,h⟩ := qn hC (A := A) (a := a + q) (b := a + 2 * q) (c := a + 3 * q) (by omega) (by omega) (by omega) 0
   rw [e,bPs,bT rfl,bPs]
   exact ⟨_,rfl,m,w',rfl,by omega,by omega⟩
 ·obtain ⟨p,w,rfl,h1,h2⟩ := ht
  dsimp only
  cases w == 0 with
  | true=>exact ⟨_,rfl,p,_,rfl,h1,h2⟩
  | false =>
   cases w == 12 with
   | true=>exact ⟨_,rfl,p,_,rfl,h1,h2⟩
   | false=>exact ⟨_,rfl,p,_,rfl,h1,h2⟩
theorem break_okZ {A : Array α} {a b : Nat} (hs : A.size ≤ 1000000) (hab : a + 12 < b) (hb : b ≤ A.size) : ∃ r,dF (rpZ v A) (a : Int) (b : Int) = some r ∧ ∃ A',r = rpZ v A' ∧ PermIn a b A A' := by
 unfold dF
 rw [ce (z := (b : Int) - (a : Int)) (n := b - a),zt (show ((b - a : Nat) : Int) ≥ 8 from by omega),zc,Int.tdiv_eq_ediv_of_nonneg (by omega)]
 rw [ce (z := ((b - a : Nat) : Int) / 4) (n := (b - a) / 4)]
 obtain ⟨M,eM,hM0,hM⟩ := pow_ok (x := b - a) (by omega) (by omega)
 rw [eM,bPs]
 generalize hq : (b - a) / 4 = q
 have hq1 : 4 * q ≤ b - a ∧ b - a < 4 * q + 4 := by omega
 clear hq
 rw [ce (z := (q : Int) * 2) (n := 2 * q),ce (z := (a : Int) + ((2 * q : Nat) : Int)) (n := a + 2 * q),ce (z := ((a + 2 * q : Nat) : Int) - 1) (n := a + 2 * q - 1),ce (z := ((a + 2 * q : Nat) : Int) + 1) (n := a + 2 * q + 1),show (M : Int) - 1 = ((M - 1 : Nat) : Int) from by omega,u64_id (n := M - 1) (by omega)]
 refine dt (fun s=>∃ (D : Array α) (i : Nat) (r : Int),s = (rpZ v D,(i : Int),r) ∧ a ≤ i ∧ i ≤ a + 2 * q + 2 ∧ PermIn a b A D) (fun s=>(((a + 2 * q + 2 : Nat) : Int) - s.2.1).toNat) (fun s=>∃ D : Array α,s.1 = rpZ v D ∧ PermIn a b A D) ⟨A,a + 2 * q - 1,_,rfl,by omega,by omega,permIn_refl _ _ _⟩ (fun s hI=>?_) (fun s hq=>?_)
 ·obtain ⟨D,i,r,rfl,hai,hi,hP⟩ := hI
  have hD := hP.1
  dsimp only
  by_cases hle : i ≤ a + 2 * q + 1
  ·rw [zt (by omega),zc]
   obtain ⟨x,r',e⟩ := next_ok r
   rw [e,bPs]
   dsimp only
   obtain ⟨o,eo,ho⟩ := and_small (m := M - 1) x
   rw [eo,ce (z := (o : Int)) (n := o) rfl (by omega),bV]
   obtain ⟨t,ht,hlt⟩ : ∃ t : Nat,(cond (decide ((o : Int) ≥ ((b - a : Nat) : Int))) ((rpZ v D,(IntKind.i64.wrap ((o : Int) - ((b - a : Nat) : Int))))) ((rpZ v D,(o : Int))) : eL × Int) = (rpZ v D,(t : Int)) ∧ t < b - a := by
    by_cases h : o ≥ b - a
    ·rw [zt (by omega),zc,ce (z := (o : Int) - ((b - a : Nat) : Int)) (n := o - (b - a))]
     exact ⟨_,rfl,by omega⟩
    ·rw [zf (by omega),zd]
     exact ⟨_,rfl,by omega⟩
   rw [ht]
   dsimp only
   rw [ce (z := (a : Int) + (t : Int)) (n := a + t),gH (by omega) (by omega),ce (z := (i : Int) + 1) (n := i + 1)]
   exact ⟨_,rfl,⟨swp D i (a + t),i + 1,r',rfl,by omega,by omega,permIn_trans _ _ _ _ _ hP (swp_permIn D a b i (a + t) hai (by omega) (by omega) (by omega) (by omega))⟩,by show (((a + 2 * q + 2 : Nat) : Int) - ((i + 1 : Nat) : Int)).toNat < (((a + 2 * q + 2 : Nat) : Int) - (i : Int)).toNat; omega⟩
  ·rw [zf (by omega),zd]
   exact ⟨_,rfl,D,rfl,hP⟩
 ·obtain ⟨D,h1,h2⟩ := hq
  exact ⟨_,rfl,D,h1,h2⟩
theorem pdq_monoZ {r r' : eL → Int → Int → Int → Option eL} (h : ∀ d a b l,LeO (r d a b l) (r' d a b l)) (d : eL) (a b l : Int) : LeO (dg r d a b l) (dg r' d a b l) := by
 unfold dg
 simp only [bV]
 refine LeO.bind (LeO.whileM (fun s=>LeO.cond (LeO.refl _) (LeO.cond (LeO.refl _) (LeO.bind (LeO.refl _) fun t=>LeO.bind (LeO.refl _) fun u=>LeO.bind (LeO.refl _) fun _=>LeO.bind (LeO.refl _) fun w=>LeO.bind (LeO.refl _) fun fl=>LeO.thenF fun x=>LeO.bind (LeO.refl _) fun y=>LeO.cond (LeO.refl _) (LeO.bind (LeO.refl _) fun z=>LeO.bind (LeO.refl _) fun _=>LeO.cond (LeO.bind (h _ _ _ _) fun _=>LeO.refl _) (LeO.bind (h _ _ _ _) fun _=>LeO.refl _))))) _) fun fl=>LeO.refl _
theorem pdq_stepZ : ∀ (n : Nat) (d : eL) (a b l : Int),LeO (bX n d a b l) (bX (n + 1) d a b l)
 | 0,d,a,b,l=>fun r h=>by simp [bX] at h
 | n + 1,d,a,b,l=>by
  rw [bX,bX]
  exact pdq_monoZ (fun d a b l=>pdq_stepZ n d a b l) d a b l
theorem pdq_limZ {n : Nat} {d : eL} {a b l : Int} {r : eL} (h : bX n d a b l = some r) : gR d a b l = some r := by
 refine nY n fun k hk=>?_
 obtain ⟨j,rfl⟩ : ∃ j,k = n + j := ⟨k - n,by omega⟩
 clear hk
 induction j with
 | zero=>exact h
 | succ j ih=>exact pdq_stepZ (n + j) d a b l r ih
theorem pdq_okZ (hC : CmpIsZ v lt) (hS : SWO lt) : ∀ (n : Nat) {A : Array α} {a b lim : Nat},A.size ≤ 1000000 → a ≤ b → b ≤ A.size → lim ≤ 1000000 → Below lt a b A → b - a < n →
  ∃ r,bX n (rpZ v A) (a : Int) (b : Int) (lim : Int) = some r ∧ ∃ A',r = rpZ v A' ∧ PermIn a b A A' ∧ SortedIn lt a b A'
 | 0,_,_,_,_,_,_,_,_,_,hn=>by omega
 | n + 1,A,a,b,lim,hs,hab,hb,hlim,hB,hn=>by
  rw [bX]
  unfold dg
  refine mm (fun s=>∃ (D : Array α) (x y l : Nat) (wb wp : Bool),s = (rpZ v D,(x : Int),(y : Int),(l : Int),wb,wp) ∧ D.size = A.size ∧ x ≤ y ∧ y ≤ A.size ∧ l ≤ 1000000 ∧ Below lt x y D ∧ y - x ≤ b - a ∧ ∀ R,PermIn x y D R → SortedIn lt x y R → PermIn a b A R ∧ SortedIn lt a b R) (fun s=>(s.2.2.1 - s.2.1).toNat) (fun _=>False) ⟨A,a,b,lim,true,true,rfl,rfl,hab,hb,hlim,hB,Nat.le_refl _,fun R h1 h2=>⟨h1,h2⟩⟩ (fun s hI=>?_) (fun s hq=>hq.elim)
  obtain ⟨D,x,y,l,wb,wp,rfl,hD,hxy,hy,hl,hBD,hle,hfin⟩ := hI
  dsimp only
  rw [ce (z := (y : Int) - (x : Int)) (n := y - x)]
  by_cases h12 : y - x ≤ 12
  ·rw [zt (by omega),zc,ins_simZ hC (by omega) (by omega) (by omega),bPs]
   have hi := Go.Sort.insertionSort_holds (lt := lt) hS D x y hxy (by omega)
   rw [bT (by rw [eE,eE,hi.1.1]),bPs]
   exact ⟨_,rfl,_,rfl,hfin _ hi.1 hi.2⟩
  rw [zf (by omega),zd]
  by_cases h0 : l = 0
  ·rw [kD (show (l : Int) = 0 from by omega),zc,heap_simZ hC (by omega) hxy (by omega),bPs]
   have hi := Go.Sort.heapSort_holds (lt := lt) hS D x y hxy (by omega)
   rw [bT (by rw [eE,eE,hi.1.1]),bPs]
   exact ⟨_,rfl,_,rfl,hfin _ hi.1 hi.2⟩
  rw [dw (show ¬ (l : Int) = 0 from by omega),zd]
  -- broken patterns
  refine nV (P := fun t=>∃ (D1 : Array α) (l1 : Nat),t = (rpZ v D1,(l1 : Int)) ∧ l1 ≤ 1000000 ∧ PermIn x y D D1) ?_ (fun t ht=>?_)
  ·cases wb with
   | true=>exact ⟨_,rfl,D,l,rfl,hl,permIn_refl _ _ _⟩
   | false =>
    rw [Bool.not_false,zc]
    obtain ⟨r,e,D1,rfl,hP⟩ := break_okZ (v := v) (A := D) (a := x) (b := y) (by omega) (by omega) (by omega)
    rw [e,bPs,bT (by rw [eE,eE,hP.1]),bPs,ce (z := (l : Int) - 1) (n := l - 1)]
    exact ⟨_,rfl,D1,l - 1,rfl,by omega,hP⟩
  obtain ⟨D1,l1,rfl,hl1,hP1⟩ := ht
  have hD1 := hP1.1
  have hB1 : Below lt x y D1 := hBD.perm (by omega) hP1
  dsimp only
  obtain ⟨r,e,p,h,rfl,hp1,hp2⟩ := pivot_okZ hC (A := D1) (a := x) (b := y) (by omega) (by omega) (by omega)
  rw [e,bPs,bT rfl,bPs]
  dsimp only
  -- turned round
  refine nV (P := fun t=>∃ (D2 : Array α) (p2 : Nat) (h2 : Int),t = (rpZ v D2,(p2 : Int),h2) ∧ x ≤ p2 ∧ p2 < y ∧ PermIn x y D1 D2) ?_ (fun t ht=>?_)
  ·cases h == 2 with
   | true =>
    have hr := Go.Sort.reverseRange_holds D1 x y hxy (by omega)
    rw [zc,reverse_simZ (by omega) (by omega) (by omega),bPs,bT (by rw [eE,eE,hr.1]),bPs,ce (z := (y : Int) - 1) (n := y - 1),ce (z := (p : Int) - (x : Int)) (n := p - x),ce (z := ((y - 1 : Nat) : Int) - ((p - x : Nat) : Int)) (n := y - 1 - (p - x))]
    exact ⟨_,rfl,_,_,_,rfl,by omega,by omega,hr⟩
   | false=>exact ⟨_,rfl,D1,p,h,rfl,hp1,hp2,permIn_refl _ _ _⟩
  obtain ⟨D2,p2,h2,rfl,hq1,hq2,hP2⟩ := ht
  have hD2 := hP2.1
  have hB2 : Below lt x y D2 := hB1.perm (by omega) hP2
  rw [bV]
  obtain ⟨bb,hbb⟩ : ∃ bb : Bool,(cond wb (cond wp ((rpZ v D2,(h2 == (1 : Int)))) ((rpZ v D2,false))) ((rpZ v D2,false)) : eL × Bool) = (rpZ v D2,bb) := by
   cases wb
   ·exact ⟨_,rfl⟩
   ·cases wp
    ·exact ⟨_,rfl⟩
    ·exact ⟨_,rfl⟩
  dsimp only
  rw [hbb]
  -- insertion in part
  refine nV (P := fun fl=>(∃ D3,fl = .next (rpZ v D3) ∧ PermIn x y D2 D3) ∨ ∃ D3,fl = .ret (rpZ v D3) ∧ PermIn x y D2 D3 ∧ SortedIn lt x y D3) ?_ (fun fl hfl=>?_)
  ·cases bb with
   | false=>exact ⟨_,rfl,.inl ⟨D2,rfl,permIn_refl _ _ _⟩⟩
   | true =>
    have hi := Go.Sort.partialInsertionSort_holds (lt := lt) hS D2 x y (by omega) (by omega) hB2
    dsimp only
    rw [zc,pis_simZ hC (by omega) (by omega) (by omega),bPs]
    dsimp only
    rw [bT (by rw [eE,eE,hi.1.1]),bPs]
    cases hx : (partialInsertionSort lt D2 x y).2 with
    | true=>exact ⟨_,rfl,.inr ⟨_,rfl,hi.1,hi.2 hx⟩⟩
    | false=>exact ⟨_,rfl,.inl ⟨_,rfl,hi.1⟩⟩
  rcases hfl with ⟨D3,rfl,hP3⟩ | ⟨D3,rfl,hP3,hS3⟩
  rotate_left
  ·exact ⟨_,rfl,D3,rfl,hfin _ (permIn_trans _ _ _ _ _ (permIn_trans _ _ _ _ _ hP1 hP2) hP3) hS3⟩
  rw [thenF_nextS]
  have hD3 := hP3.1
  have hB3 : Below lt x y D3 := hB2.perm (by omega) hP3
  have hP : PermIn x y D D3 := permIn_trans _ _ _ _ _ (permIn_trans _ _ _ _ _ hP1 hP2) hP3
  have hfin3 : ∀ R,PermIn x y D3 R → SortedIn lt x y R → PermIn a b A R ∧ SortedIn lt a b R := fun R h1 h2=>hfin R (permIn_trans _ _ _ _ _ hP h1) h2
  -- many that are equal?
  refine nV (P := fun t=>∃ bb : Bool,t = (rpZ v D3,bb) ∧ (bb = true → 0 < x ∧ lt D3[x - 1]! D3[p2]! = false)) ?_ (fun t ht=>?_)
  ·by_cases hx : 0 < x
   ·have hlc := hC.is D3[x - 1]! D3[p2]!
    rw [zt (by omega),zc,ce (z := (x : Int) - 1) (n := x - 1),dO (by omega),bPs,dO (by omega),bPs,ma,hlc]
    exact ⟨_,rfl,_,rfl,fun h=>⟨hx,by simpa using h⟩⟩
   ·rw [zf (by omega),zd]
    exact ⟨_,rfl,false,rfl,fun h=>by cases h⟩
  obtain ⟨bb,rfl,hbb⟩ := ht
  dsimp only
  cases bb with
  | true =>
   rw [zc,partEq_simZ hC (by omega) hq1 hq2 (by omega),bPs]
   obtain ⟨hx0,hnl⟩ := hbb rfl
   obtain ⟨k1,k2,k3,k4,k5⟩ := Go.Sort.round_eq hS (Go.Sort.partitionEqual_holds lt) hx0 hq1 hq2 (by omega) hB3 hnl (mid := (partitionEqual lt D3 x y p2).1) (d4 := (partitionEqual lt D3 x y p2).2) rfl
   dsimp only
   rw [bT (by rw [eE,eE,k3]),bPs]
   exact ⟨_,rfl,⟨_,_,y,l1,wb,wp,rfl,by omega,k2,hy,hl1,k4,by omega,fun R h1 h2=>hfin3 R (k5 R h1 h2).1 (k5 R h1 h2).2⟩,by show ((y : Int) - ((partitionEqual lt D3 x y p2).1 : Int)).toNat < ((y : Int) - (x : Int)).toNat; omega⟩
  | false =>
   rw [zd,part_simZ hC (by omega) hq1 hq2 (by omega),bPs]
   obtain ⟨k1,k2,k3,k4,k5,k6,k7⟩ := Go.Sort.round_part hS (Go.Sort.partition_holds lt) hq1 hq2 (by omega) hB3 (mid := (partition lt D3 x y p2).1) (ap := (partition lt D3 x y p2).2.1) (d4 := (partition lt D3 x y p2).2.2) rfl
   dsimp only
   rw [bT (by rw [eE,eE,k3]),bPs]
   generalize (partition lt D3 x y p2).1 = mid at k1 k2 k4 k5 k6 k7 ⊢
   generalize (partition lt D3 x y p2).2.1 = ap at ⊢
   generalize (partition lt D3 x y p2).2.2 = D4 at k3 k4 k5 k6 k7 ⊢
   rw [ce (z := (mid : Int) - (x : Int)) (n := mid - x),ce (z := (y : Int) - (mid : Int)) (n := y - mid),ce (z := (mid : Int) + 1) (n := mid + 1)]
   by_cases hlt : mid - x < y - mid
   ·rw [zt (by omega),zc]
    obtain ⟨r,e,L,rfl,hL1,hL2⟩ := pdq_okZ hC hS n (A := D4) (a := x) (b := mid) (lim := l1) (by omega) k1 (by omega) hl1 k4 (by omega)
    rw [e,bPs,bT (by rw [eE,eE,hL1.1]),bPs]
    obtain ⟨m1,m2⟩ := k6 L hL1 hL2
    have hLs := hL1.1
    exact ⟨_,rfl,⟨L,mid + 1,y,l1,_,_,rfl,by omega,by omega,hy,hl1,m1,by omega,fun R h1 h2=>hfin3 R (m2 R h1 h2).1 (m2 R h1 h2).2⟩,by show ((y : Int) - ((mid + 1 : Nat) : Int)).toNat < ((y : Int) - (x : Int)).toNat; omega⟩
   ·rw [zf (by omega),zd]
    obtain ⟨r,e,L,rfl,hL1,hL2⟩ := pdq_okZ hC hS n (A := D4) (a := mid + 1) (b := y) (lim := l1) (by omega) (by omega) (by omega) hl1 k5 (by omega)
    rw [e,bPs,bT (by rw [eE,eE,hL1.1]),bPs]
    obtain ⟨m1,m2⟩ := k7 L hL1 hL2
    have hLs := hL1.1
    exact ⟨_,rfl,⟨L,x,mid,l1,_,_,rfl,by omega,k1,by omega,hl1,m1,by omega,fun R h1 h2=>hfin3 R (m2 R h1 h2).1 (m2 R h1 h2).2⟩,by show ((mid : Int) - (x : Int)).toNat < ((y : Int) - (x : Int)).toNat; omega⟩
theorem sortFunc_okZ (hC : CmpIsZ v lt) (hS : SWO lt) {A : Array α} (hs : A.size ≤ 1000000) : ∃ A',eV (rpZ v A) = some (rpZ v A') ∧ PermIn 0 A.size A A' ∧ SortedIn lt 0 A.size A' := by
 unfold eV
 rw [eE]
 obtain ⟨n,e,_,hn,_⟩ := len_ok (x := A.size) hs
 rw [u64_id (by omega),e,bPs]
 obtain ⟨r,e2,A',rfl,h1,h2⟩ := pdq_okZ hC hS (A.size + 1) (A := A) (a := 0) (b := A.size) (lim := n) hs (Nat.zero_le _) (Nat.le_refl _) (by omega) (.inl rfl) (by omega)
 have e3 := pdq_limZ e2
 rw [show ((0 : Nat) : Int) = 0 from rfl] at e3
 rw [e3,bPs,bT (by rw [eE,h1.1]),bPs]
 exact ⟨A',rfl,h1,h2⟩
end
end
end Go.Proofs.YtgaggbdcedpapaaGreat

namespace Go.Proofs.YtgaggbdcedpapaaGreat
noncomputable section
open Go Go.Ab
open Go.Sort (SWO PermIn SortedIn)
theorem beqTL {x y : List UInt8} (h : x = y) : (x == y) = true := by simp [h]
theorem beqFL {x y : List UInt8} (h : ¬ x = y) : (x == y) = false := by simpa using h
theorem getS_ok {α : Type} {xs : List α} {l h : Nat} {j : Int} {n : Nat} {x : α} (h0 : 0 ≤ j) (hn : l + j.toNat = n) (h1 : n < h) (hx : xs[n]? = some x) : getS xs l h j = some x := by
 unfold getS
 rw [zp ⟨h0,by omega⟩,hn,hx]
theorem cut_ok {α : Type} {xs : List α} {k : Nat} (h : k ≤ xs.length) : nw xs (k : Int) = some (xs.take k) := by
 unfold nw
 rw [zp ⟨by omega,by simpa using h⟩,Int.toNat_natCast]
theorem compact_ok (A : eL) (hs : A.length ≤ 1000000) : ∃ r,eB A = some r ∧ r.Sublist A ∧ ∀ x ∈ A,x ∈ r := by
 unfold eB
 by_cases h2 : A.length < 2
 ·rw [zt (by omega),zc]
  exact ⟨_,rfl,List.Sublist.refl _,fun x h=>h⟩
 ·rw [zf (by omega),zd]
  refine mm (fun s=>∃ i : Nat,s = (A,(i : Int)) ∧ 1 ≤ i) (fun s=>((A.length : Int) - s.2).toNat) (fun s=>s.1 = A) ⟨1,rfl,Nat.le_refl _⟩ (fun s hI=>?_) (fun s hq=>⟨_,rfl,by rw [hq]; exact ⟨List.Sublist.refl _,fun x h=>h⟩⟩)
  obtain ⟨k0,rfl,hk0⟩ := hI
  dsimp only
  by_cases hlt : k0 < A.length
  ·rw [zt (by omega),zc,ce (z := (k0 : Int) - 1) (n := k0 - 1),ce (z := (k0 : Int) + 1) (n := k0 + 1),fo hlt,bPs,fo (show k0 - 1 < A.length by omega),bPs]
   by_cases he : A[k0] = A[k0 - 1]
   ·rw [beqTL he,zc,cut_ok (by omega),bPs]
    refine dt (fun s=>∃ (D : eL) (k j : Nat),s = (D,(k : Int),(j : Int)) ∧ D.length = A.length ∧ k0 ≤ k ∧ 1 ≤ j ∧ k + 1 ≤ k0 + j ∧ k0 + j ≤ A.length ∧ (∀ p,k ≤ p → D[p]? = A[p]?) ∧ (D.take k).Sublist (A.take (k0 + j)) ∧ ∀ x ∈ A.take (k0 + j),x ∈ D.take k) (fun s=>((A.length : Int) - s.2.2).toNat) (fun s=>∃ (D : eL) (k : Nat),s.1 = D ∧ s.2.1 = (k : Int) ∧ k ≤ D.length ∧ (D.take k).Sublist A ∧ ∀ x ∈ A,x ∈ D.take k) ⟨A,k0,1,rfl,rfl,Nat.le_refl _,Nat.le_refl _,by omega,by omega,fun _ _=>rfl,?_,fun x hx=>?_⟩ (fun s hI=>?_) (fun s hq=>?_)
    ·rw [List.take_add_one]
     exact List.sublist_append_left _ _
    ·rw [List.take_add_one,ze hlt,he] at hx
     rcases List.mem_append.1 hx with hx | hx
     ·exact hx
     ·simp at hx
      rw [hx]
      exact List.mem_take_iff_getElem.2 ⟨k0 - 1,by omega,rfl⟩
    ·obtain ⟨D,k,j,rfl,hD,hk,hj,hkj,hjl,hsame,hsub,hmem⟩ := hI
     dsimp only
     rw [zl,Int.toNat_natCast]
     by_cases hl2 : k0 + j < A.length
     ·have e1 : D[k0 + j]? = some A[k0 + j] := by rw [hsame _ (by omega),ze hl2]
      have e2 : D[k0 + j - 1]? = some A[k0 + j - 1] := by rw [hsame _ (by omega),ze (by omega)]
      rw [zt (by omega),zc,ce (z := (j : Int) - 1) (n := j - 1),ce (z := (j : Int) + 1) (n := j + 1),ce (z := (k : Int) + 1) (n := k + 1),getS_ok (n := k0 + j) (by omega) (by omega) hl2 e1,bPs,getS_ok (n := k0 + j - 1) (by omega) (by omega) (by omega) e2,bPs]
      have htake : A.take (k0 + (j + 1)) = A.take (k0 + j) ++ [A[k0 + j]] := by
       rw [show k0 + (j + 1) = k0 + j + 1 from rfl,List.take_add_one,ze hl2]
       rfl
      by_cases heq : A[k0 + j] = A[k0 + j - 1]
      ·rw [beqTL heq,Bool.not_true,zd]
       refine ⟨_,rfl,⟨D,k,j + 1,rfl,hD,hk,by omega,by omega,by omega,hsame,?_,fun x hx=>?_⟩,by show ((A.length : Int) - ((j + 1 : Nat) : Int)).toNat < ((A.length : Int) - (j : Int)).toNat; omega⟩
       ·rw [htake]
        exact hsub.trans (List.sublist_append_left _ _)
       ·rw [htake] at hx
        rcases List.mem_append.1 hx with hx | hx
        ·exact hmem x hx
        ·simp at hx
         rw [hx,heq]
         exact hmem _ (List.mem_take_iff_getElem.2 ⟨k0 + j - 1,by omega,rfl⟩)
      ·rw [beqFL heq,Bool.not_false,zc,bPs,fo (show k < D.length by omega),bPs,bV,Int.toNat_natCast]
       have ht2 : (D.set k A[k0 + j]).take (k + 1) = D.take k ++ [A[k0 + j]] := by
        rw [List.take_add_one,List.getElem?_set_self (by omega),List.take_set_of_le (Nat.le_refl _)]
        rfl
       refine ⟨_,rfl,⟨D.set k A[k0 + j],k + 1,j + 1,rfl,by simpa using hD,by omega,by omega,by omega,by omega,fun p hp=>?_,?_,fun x hx=>?_⟩,by show ((A.length : Int) - ((j + 1 : Nat) : Int)).toNat < ((A.length : Int) - (j : Int)).toNat; omega⟩
       ·rw [List.getElem?_set_ne (by omega)]
        exact hsame p (by omega)
       ·rw [ht2,htake]
        exact List.Sublist.append hsub (List.Sublist.refl _)
       ·rw [htake] at hx
        rw [ht2]
        rcases List.mem_append.1 hx with hx | hx
        ·exact List.mem_append_left _ (hmem x hx)
        ·exact List.mem_append_right _ hx
     ·rw [zf (by omega),zd]
      have hz : k0 + j = A.length := by omega
      rw [hz,List.take_length] at hsub hmem
      exact ⟨_,rfl,D,k,rfl,rfl,by omega,hsub,hmem⟩
    ·obtain ⟨D,k,q1,q2,hkl,hsub,hmem⟩ := hq
     rw [q1,q2,cut_ok hkl,bPs,cut_ok (by simp; omega),bPs,List.take_take,Nat.min_self]
     exact ⟨_,rfl,hsub,hmem⟩
   ·rw [beqFL he,zd]
    exact ⟨_,rfl,⟨k0 + 1,rfl,by omega⟩,by show ((A.length : Int) - ((k0 + 1 : Nat) : Int)).toNat < ((A.length : Int) - (k0 : Int)).toNat; omega⟩
  ·rw [zf (by omega),zd]
   exact ⟨_,rfl,rfl⟩
theorem isSorted_ok (l : eL) (hs : l.length ≤ 1000000) (h : l.Pairwise fun x y=>Op.bytesLess y x = false) : ef l = some true := by
 unfold ef
 rw [bD (n := (l.length : Int) - 1) (by omega) (by omega)]
 refine pe (mm (fun t=>∃ i : Nat,t = (i : Int) - 1 ∧ i ≤ l.length) (fun t=>(t + 1).toNat) (fun _=>True) ⟨l.length,rfl,Nat.le_refl _⟩ (fun t hI=>?_) (fun t _=>⟨_,rfl,rfl⟩))
 obtain ⟨i,rfl,hi⟩ := hI
 by_cases hgt : 2 ≤ i
 ·obtain ⟨k,rfl⟩ : ∃ k,i = k + 2 := ⟨i - 2,by omega⟩
  rw [zt (by omega),zc,show ((k + 2 : Nat) : Int) - 1 = ((k + 1 : Nat) : Int) from by omega,ce (z := ((k + 1 : Nat) : Int) - 1) (n := k),fo (show k + 1 < l.length by omega),bPs,fo (show k < l.length by omega),bPs,ma]
  have := List.pairwise_iff_getElem.1 h k (k + 1) (by omega) (by omega) (by omega)
  rw [this,zd]
  exact ⟨_,rfl,⟨k + 1,by omega,by omega⟩,by show ((k : Int) + 1).toNat < (((k + 1 : Nat) : Int) + 1).toNat; omega⟩
 ·rw [zf (by omega),zd]
  exact ⟨_,rfl,trivial⟩
theorem tables_ok {q : LQuery} (hq : (cF q).length ≤ 1000000) : ∃ l,iz q = some l ∧ l.length ≤ 1000000 ∧ (l.Pairwise fun x y=>Op.bytesLess y x = false) ∧ ∀ y ∈ cF q,y.kind = 1 → y.table ∈ l := by
 unfold iz
 rw [nodes_ok q (by omega),bPs]
 rw [rMa (xs := cF q) (s := ([] : eL)) (fun k=>(((cF q).take k).filter fun y=>y.kind == 1).map LQuery.table) rfl (fun k x hk=>by
  have hkl := (zg.1 hk).1
  rw [List.take_add_one,hk,List.filter_append,List.map_append]
  have hb : ((((cF q).take k).filter fun y=>y.kind == 1).map LQuery.table).length ≤ k := by
   rw [zl]
   exact Nat.le_trans (List.length_filter_le _ _) (by simp; omega)
  cases hx : x.kind == 1 with
  | true =>
   rw [zc,cB (by decide) (by simp at hb ⊢; omega),bPs]
   simp [hx]
  | false=>simp [hx]),bPs,bW,List.take_length]
 generalize hT : (((cF q).filter fun y=>y.kind == 1).map LQuery.table) = T
 have hTl : T.length ≤ 1000000 := by
  rw [← hT,zl]
  exact Nat.le_trans (List.length_filter_le _ _) hq
 have mk : rpZ (fun x : List UInt8=>x) T.toArray = T := by unfold rpZ; simp
 obtain ⟨A',e,hP,hS⟩ := sortFunc_okZ (v := fun x : List UInt8=>x) (lt := Op.bytesLess) ⟨fun _ _=>rfl⟩ bytes_sto.swo (A := T.toArray) (by simpa using hTl)
 rw [mk] at e
 have mk2 : rpZ (fun x : List UInt8=>x) A' = A'.toList := by unfold rpZ; simp
 rw [mk2] at e
 have hz : A'.toList.length = T.length := by have := hP.1; simpa using this
 rw [e,bPs,bT hz,bPs]
 obtain ⟨r,er,hsub,hmem⟩ := compact_ok A'.toList (by omega)
 have hperm : A'.toList.Perm T := by
  have h3 := hP.2.2
  have z1 : T.toArray.extract 0 T.toArray.size = T.toArray := by simp
  have z2 : A'.extract 0 T.toArray.size = A' := by rw [← hP.1]; simp
  rw [z1,z2] at h3
  exact h3
 have hsrt : A'.toList.Pairwise fun x y=>Op.bytesLess y x = false := by
  rw [List.pairwise_iff_getElem]
  intro i j hi hj hij
  have hj2 : j < A'.size := by simpa using hj
  have := hS i j (Nat.zero_le _) hij (by rw [← hP.1]; exact hj2)
  rw [getElem!_pos A' j hj2,getElem!_pos A' i (by omega)] at this
  simpa using this
 rw [er,bPs]
 refine ⟨r,rfl,Nat.le_trans hsub.length_le (by omega),hsrt.sublist hsub,fun y hy hk=>hmem _ (hperm.mem_iff.2 ?_)⟩
 rw [← hT]
 exact List.mem_map.2 ⟨y,List.mem_filter.2 ⟨hy,by simp [hk]⟩,rfl⟩
theorem rows_same {s : LSchema} {st st' : List LRelation} {args : Rq} : ∀ q : LQuery,(∀ y ∈ cF q,y.kind = 1 → ((st.find? fun x=>x.table == y.table).map LRelation.rows) = ((st'.find? fun x=>x.table == y.table).map LRelation.rows)) → bA (jQ s st args) q = bA (jQ s st' args) q := by
 refine LQuery.ind fun q ih h=>?_
 have hc : q.inputs.map (bA (jQ s st args)) = q.inputs.map (bA (jQ s st' args)) := List.map_congr_left fun x hx=>ih x hx fun y hy hk=>h y (rf hx hy) hk
 have hcols : q.inputs.map (bH (jQ s st args)) = q.inputs.map (bH (jQ s st' args)) := rfl
 rw [dZ,dZ,hc,hcols]
 unfold ed
 by_cases k1 : q.kind = 1
 ·rw [zp k1,zp k1]
  have h0 := h q (nK q) k1
  have e1 : (jQ s st args).st = st := rfl
  have e2 : (jQ s st' args).st = st' := rfl
  rw [e1,e2]
  cases ha : st.find? (fun x=>x.table == q.table) with
  | none =>
   rw [ha] at h0
   cases hb : st'.find? (fun x=>x.table == q.table) with
   | none=>rfl
   | some y=>rw [hb] at h0; cases h0
  | some x =>
   rw [ha] at h0
   cases hb : st'.find? (fun x=>x.table == q.table) with
   | none=>rw [hb] at h0; cases h0
   | some y=>rw [hb] at h0; exact Option.some.inj h0
 ·rw [zy k1,zy k1]
  rfl
theorem rk {α σ ρ : Type} {step : Nat → α → σ → Option (Flow σ ρ)} {r : ρ} : ∀ (xs : List α) (j : Nat) (s : σ),aW step j xs s = some (.ret r) → ∃ k x s',step k x s' = some (.ret r)
 | [],_,_,h=>by simp [aW] at h
 | x :: xs,j,s,h=>by
  rw [aW] at h
  cases hs : step j x s with
  | none=>rw [hs] at h; cases h
  | some fl =>
   rw [hs] at h
   cases fl with
   | next s'=>exact rk xs (j + 1) s' h
   | brk s'=>cases h
   | ret r'=>exact ⟨j,x,s,by rw [hs]; exact congrArg (fun z=>some z) (Option.some.inj h)⟩
theorem range_next {α ρ : Type} {step : Nat → α → Unit → Option (Flow Unit ρ)} (hb : ∀ k x,step k x () ≠ some (.brk ())) : ∀ (xs : List α) (j : Nat),aW step j xs () = some (.next ()) → ∀ k x,xs[k]? = some x → step (j + k) x () = some (.next ())
 | [],_,_,k,x,hx=>by simp at hx
 | y :: xs,j,h,k,x,hx=>by
  rw [aW] at h
  cases hs : step j y () with
  | none=>rw [hs] at h; cases h
  | some fl =>
   rw [hs] at h
   cases fl with
   | next s' =>
    cases k with
    | zero =>
     simp at hx
     subst hx
     exact hs
    | succ k =>
     have := range_next hb xs (j + 1) h k x (by simpa using hx)
     rw [show j + (k + 1) = j + 1 + k from by omega]
     exact this
   | brk s'=>exact absurd hs (hb j y)
   | ret r'=>cases h
def lr (s : LSchema) (j1 : Nat) (x1 : LRelation) (_ : Unit) : Option (Flow Unit Int) :=
 ai (aG s.tables (j1 : Int)) fun (x28 : LTable) =>
 cond (!(x1.table == x28.name)) (some (Flow.ret (σ := Unit) (3 : Int))) (cond (decide ((x1.rows.length : Int) > (24 : Int))) (some (.ret 2))
  (ai (aW (σ := Unit) (ρ := (Int)) (fun (j3 : Nat) (x3 : Rq) (_ : Unit) =>
   ai (dY x28 x3) fun x49=>cond (x49 != (0 : Int)) (some (.ret x49)) (cond ((j3 : Int) == (0 : Int)) (some (.next ()))
     (ai (aG x1.rows (IntKind.i64.wrap ((j3 : Int) - (1 : Int)))) fun (x60 : Rq)=>ai (eC x28 x60) fun x62=>ai (eC x28 x3) fun x65=>ai (eS x62 x65) fun x66 =>
     cond (x66 == (0 : Int)) (some (.ret 9)) (cond (decide (x66 > (0 : Int))) (some (.ret 6)) (some (.next ())))))) 0 x1.rows ()) fun fl3=>fl3.thenF fun (_ : Unit)=>some (.next ())))
theorem cf_is (s : LSchema) (st : List LRelation) : dr s st = cond ((st.length : Int) != (s.tables.length : Int)) (some 3) (ai (aW (lr s) 0 st ()) fun fl=>fl.thenR fun (_ : Unit)=>some 0) := rfl
theorem cf_brk (s : LSchema) (k : Nat) (x : LRelation) : lr s k x () ≠ some (.brk ()) := by
 intro h
 unfold lr at h
 obtain ⟨t,_,h⟩ := ax h
 cases hc : !(x.table == t.name) with
 | true=>rw [hc] at h; cases h
 | false =>
  rw [hc,zd] at h
  cases hd : decide ((x.rows.length : Int) > 24) with
  | true=>rw [hd] at h; cases h
  | false =>
   rw [hd,zd] at h
   obtain ⟨fl,_,h⟩ := ax h
   cases fl <;> cases h
theorem cf_ret {s : LSchema} {k : Nat} {x : LRelation} {r : Int} (h : lr s k x () = some (.ret r)) : r ≠ 0 := by
 unfold lr at h
 obtain ⟨t,_,h⟩ := ax h
 cases hc : !(x.table == t.name) with
 | true=>rw [hc] at h; cases h; decide
 | false =>
  rw [hc,zd] at h
  cases hd : decide ((x.rows.length : Int) > 24) with
  | true=>rw [hd] at h; cases h; decide
  | false =>
   rw [hd,zd] at h
   obtain ⟨fl,hfl,h⟩ := ax h
   cases fl with
   | next _=>cases h
   | brk _=>cases h
   | ret r' =>
    have e : r' = r := by
     have := Option.some.inj h
     exact Flow.ret.inj this
    subst e
    obtain ⟨j,y,_,hj⟩ := rk _ _ _ hfl
    obtain ⟨e,_,hj⟩ := ax hj
    cases h0 : e != (0 : Int) with
    | true =>
     rw [h0] at hj
     cases hj
     simpa using h0
    | false =>
     rw [h0,zd] at hj
     cases h1 : (j : Int) == 0 with
     | true=>rw [h1] at hj; cases hj
     | false =>
      rw [h1,zd] at hj
      obtain ⟨_,_,hj⟩ := ax hj
      obtain ⟨_,_,hj⟩ := ax hj
      obtain ⟨_,_,hj⟩ := ax hj
      obtain ⟨c,_,hj⟩ := ax hj
      cases h2 : c == 0 with
      | true=>rw [h2] at hj; cases hj; decide
      | false =>
       rw [h2,zd] at hj
       cases h3 : decide (c > 0) with
       | true=>rw [h3] at hj; cases hj; decide
       | false=>rw [h3] at hj; cases hj
theorem cf_empty {s : LSchema} {k : Nat} {x : LRelation} (h : lr s k x () = some (.next ())) : lr s k (LRelation.mk x.table []) () = some (.next ()) := by
 unfold lr at h ⊢
 obtain ⟨t,ht,h⟩ := ax h
 rw [ht,bPs]
 cases hc : !(x.table == t.name) with
 | true=>rw [hc] at h; cases h
 | false =>
  rfl
theorem conforms_clear {s : LSchema} {st st' : List LRelation} (h : dr s st = some 0) (hl : st'.length = st.length) (he : ∀ (k : Nat) (r r' : LRelation),st[k]? = some r → st'[k]? = some r' → r' = r ∨ r' = LRelation.mk r.table []) : dr s st' = some 0 := by
 rw [cf_is] at h ⊢
 rw [hl]
 cases hc : (st.length : Int) != (s.tables.length : Int) with
 | true=>rw [hc] at h; cases h
 | false =>
  rw [hc,zd] at h
  rw [zd]
  obtain ⟨fl,hfl,h⟩ := ax h
  cases fl with
  | ret r =>
   have e : r = 0 := by simpa using h
   subst e
   obtain ⟨j,y,_,hj⟩ := rk _ _ _ hfl
   exact absurd rfl (cf_ret hj)
  | brk u =>
   exfalso
   have : ∀ (xs : List LRelation) (j : Nat),aW (lr s) j xs () ≠ some (.brk ()) := fun xs=>by
    induction xs with
    | nil=>intro j h; simp [aW] at h
    | cons y ys ih =>
     intro j h
     rw [aW] at h
     cases hs : lr s j y () with
     | none=>rw [hs] at h; cases h
     | some fl =>
      rw [hs] at h
      cases fl with
      | next _=>exact ih _ h
      | brk _=>exact absurd hs (cf_brk s j y)
      | ret _=>cases h
   exact this _ _ hfl
  | next u =>
   have hall := range_next (cf_brk s) st 0 hfl
   rw [rMa (xs := st') (s := ()) (fun _=>()) rfl (fun k x hk=>by
    have hkl := (zg.1 hk).1
    have hk2 : st[k]? = some st[k] := ze (by omega)
    have h0 := hall k st[k] hk2
    rw [Nat.zero_add] at h0
    rcases he k _ _ hk2 hk with e | e
    ·rw [e]; exact h0
    ·rw [e]; exact cf_empty h0),bPs,iu]
def clr (l : eL) (x : LRelation) : LRelation := if (l.any fun y=>x.table == y) = true then x else LRelation.mk x.table []
theorem clr_table (l : eL) (x : LRelation) : (clr l x).table = x.table := by
 unfold clr
 split <;> rfl
theorem clone_inst {st : List LRelation} (hl : st.length ≤ 1000000 + 1000000) (hr : ∀ x ∈ st,x.rows.length ≤ 24) : ji st = some st := by
 unfold ji
 rw [rMa (xs := st) (s := []) (fun k=>st.take k) rfl (fun k x hk=>by
  have hkl := (zg.1 hk).1
  have hx := hr x (gp hk)
  have e : jg x.rows = some x.rows := by
   unfold jg
   rw [rMa (xs := x.rows) (s := []) (fun k=>x.rows.take k) rfl (fun i y hi=>by
    have := (zg.1 hi).1
    rw [cB (by decide) (by simp; omega),bPs,List.take_add_one,hi]
    rfl),bPs,bW,List.take_length]
  rw [e,bPs,cB (by decide) (by simp; omega),bPs,List.take_add_one,hk]
  rfl),bPs,bW,List.take_length]
theorem reads_law {s : LSchema} (hs : ms s) {st : List LRelation} (hst : st.length ≤ 1048576) {q : LQuery} (hq : TinyQ q) (args : Rq) : eR s st q args = some true := by
 unfold eR
 rw [scans_ok,bPs]
 simp only [Bool.not_true,zd]
 obtain ⟨b,hb,hr⟩ := runs_tot hs st hq.small args
 rw [hb,bPs]
 cases b with
 | false=>rfl
 | true =>
  have hrn := hr rfl
  simp only [Bool.not_true,zd]
  have hin := hrn.instOk hs
  have hrows : ∀ x ∈ st,x.rows.length ≤ 24 := fun x hx=>by
   obtain ⟨i,hi,rfl⟩ := List.mem_iff_getElem.1 hx
   have hl := hin.1
   exact (hin.2 i _ s.tables[i] (ze hi) (ze (by omega))).2.1
  obtain ⟨l,el,hll,hsort,hmem⟩ := tables_ok (q := q) (by have := hrn.size.1; omega)
  rw [clone_inst (by omega) hrows,bPs,el,bPs,oV (by omega),bPs,Int.toNat_natCast]
  rw [rMa (xs := List.range st.length) (s := st) (fun k=>(st.take k).map (clr l) ++ st.drop k) (by simp) (fun k i hk=>by
   obtain ⟨hkl,hki⟩ := zg.1 hk
   simp at hkl
   have hlen : ((st.take k).map (clr l)).length = k := by simp; omega
   have hg : ((st.take k).map (clr l) ++ st.drop k)[k]? = some st[k] := by
    rw [List.getElem?_append_right (by omega),hlen,Nat.sub_self,List.getElem?_drop,Nat.add_zero,ze hkl]
   have hnx : (st.take (k + 1)).map (clr l) ++ st.drop (k + 1) = ((st.take k).map (clr l) ++ st.drop k).set k (clr l st[k]) := by
    rw [List.set_append_right _ _ (by omega),hlen,Nat.sub_self,List.drop_eq_getElem_cons hkl,List.set_cons_zero,List.take_add_one,ze hkl,List.map_append]
    simp
   rw [kl hg,bPs,lj,bPs,hnx]
   cases hc : l.any fun y=>st[k].table == y with
   | true =>
    rw [Bool.not_true,zd,show clr l st[k] = st[k] from by unfold clr; rw [zp hc]]
    have : ((st.take k).map (clr l) ++ st.drop k).set k st[k] = (st.take k).map (clr l) ++ st.drop k := by
     apply List.ext_getElem?
     intro j
     rw [List.getElem?_set]
     by_cases hj : k = j
     ·subst hj
      rw [zp rfl,zp (zg.1 hg).1,hg]
     ·rw [zy hj]
    rw [this]
   | false =>
    rw [Bool.not_false,zc,bPs,bV,Int.toNat_natCast,show clr l st[k] = LRelation.mk st[k].table [] from by unfold clr; rw [zy (by rw [hc]; simp)]]),bPs,bW,List.length_range,List.take_length,List.drop_length,List.append_nil]
  have hconf : dr s (st.map (clr l)) = some 0 := conforms_clear hrn.inst (by simp) fun k r r' h1 h2=>by
   rw [List.getElem?_map,h1] at h2
   simp at h2
   subst h2
   unfold clr
   split
   ·exact .inl rfl
   ·exact .inr rfl
  have hrn2 : Runs s (st.map (clr l)) q args := ⟨hrn.size,hrn.kinds,hrn.cols,hconf,hrn.args⟩
  rw [pq hs hq.small hrn,pq hs hq.small hrn2]
  simp only [bPs,zc]
  rw [isSorted_ok l hll hsort,bPs,zc]
  have hsame : bA (jQ s st args) q = bA (jQ s (st.map (clr l)) args) q := rows_same q fun y hy hk=>by
   rw [List.find?_map]
   have e : ((fun x : LRelation=>x.table == y.table) ∘ clr l) = fun x=>x.table == y.table := by
    funext x
    simp [clr_table]
   rw [e]
   cases hf : st.find? (fun x=>x.table == y.table) with
   | none=>rfl
   | some x =>
    have hx : x.table = y.table := by simpa using List.find?_some hf
    have hcx : clr l x = x := by
     unfold clr
     rw [zp]
     rw [List.any_eq_true]
     exact ⟨y.table,hmem y hy hk,by simp [hx]⟩
    simp only [Option.map_some,hcx]
  rw [← hsame,sameRows_eq,bPs,zt rfl]
end
end Go.Proofs.YtgaggbdcedpapaaGreat

namespace Go.Proofs.YtgaggbdcedpapaaGreat
noncomputable section
open Go Go.Ab
theorem own_knob : ownKnob Tryz.prog.godebug = none := by kernel_rfl
theorem laid_out : laidOutB Tryz.prog = true := by kernel_rfl
def lawTypes : List TypeId := [26,22,91,9,39,50,3,4,89,23,142,24,148,53,28,87,40,51,35,29,30,56,31,66,32,33,36]
theorem lawTypes_ok : lawTypes.all (okT Tryz.prog lawTypes) = true := by kernel_rfl
theorem lawTypes_info : ∀ t ∈ lawTypes,∃ i,Tryz.prog.info? t = some i ∧ i.bytes = Tryz.prog.bytesOf t ∧ i.size = Tryz.prog.cellsOf t := infos_of (by kernel_rfl)
theorem sh9 {n : Nat} {pvs : List PV} (h : Sh Tryz.prog n 9 pvs) : ∃ v : List UInt8,pvs = [.str v] := by
 cases n with
 | zero=>simp [Sh] at h
 | succ n=>simp only [Sh,Tryz.underlying9] at h; obtain ⟨m,rfl,_⟩ := h; exact ⟨m,rfl⟩
theorem sh3 {n : Nat} {pvs : List PV} (h : Sh Tryz.prog n 3 pvs) : ∃ v : Int,pvs = [ae v] := by
 cases n with
 | zero=>simp [Sh] at h
 | succ n=>simp only [Sh,Tryz.underlying3] at h; obtain ⟨m,rfl,_⟩ := h; exact ⟨m,rfl⟩
theorem sh4 {n : Nat} {pvs : List PV} (h : Sh Tryz.prog n 4 pvs) : ∃ v : Bool,pvs = [aF v] := by
 cases n with
 | zero=>simp [Sh] at h
 | succ n=>simp only [Sh,Tryz.underlying4] at h; obtain ⟨m,rfl⟩ := h; exact ⟨m,rfl⟩
theorem sh50 {n : Nat} {pvs : List PV} (h : Sh Tryz.prog n 50 pvs) : ∃ v : LCol,pvs = aJ v := by
 cases n with
 | zero=>simp [Sh] at h
 | succ n =>
  simp only [Sh,Tryz.underlying50,List.map_cons,List.map_nil,gJ] at h
  obtain ⟨p0,r0,rfl,h0,p1,r1,rfl,h1,p2,r2,rfl,h2,rfl⟩ := h
  obtain ⟨v0,rfl⟩ := sh9 h0
  obtain ⟨v1,rfl⟩ := sh3 h1
  obtain ⟨v2,rfl⟩ := sh4 h2
  exact ⟨LCol.mk v0 v1 v2,rfl⟩
theorem sh39 {n : Nat} {pvs : List PV} (h : Sh Tryz.prog n 39 pvs) : ∃ v : List LCol,pvs = [.list 50 (v.map aJ)] := by
 cases n with
 | zero=>simp [Sh] at h
 | succ n =>
  simp only [Sh,Tryz.underlying39] at h
  obtain ⟨rows,rfl,hr⟩ := h
  obtain ⟨xs,rfl⟩ := jl (f := aJ) (fun r hq=>sh50 (hr r hq))
  exact ⟨xs,rfl⟩
theorem sh89 {n : Nat} {pvs : List PV} (h : Sh Tryz.prog n 89 pvs) : ∃ v : List Int,pvs = [.list 3 (v.map bM)] := by
 cases n with
 | zero=>simp [Sh] at h
 | succ n =>
  simp only [Sh,Tryz.underlying89] at h
  obtain ⟨rows,rfl,hr⟩ := h
  obtain ⟨xs,rfl⟩ := jl (f := bM) (fun r hq=>let ⟨v,e⟩ := sh3 (hr r hq); ⟨v,e⟩)
  exact ⟨xs,rfl⟩
theorem sh91 {n : Nat} {pvs : List PV} (h : Sh Tryz.prog n 91 pvs) : ∃ v : LTable,pvs = bv v := by
 cases n with
 | zero=>simp [Sh] at h
 | succ n =>
  simp only [Sh,Tryz.underlying91,List.map_cons,List.map_nil,gJ] at h
  obtain ⟨p0,r0,rfl,h0,p1,r1,rfl,h1,p2,r2,rfl,h2,rfl⟩ := h
  obtain ⟨v0,rfl⟩ := sh9 h0
  obtain ⟨v1,rfl⟩ := sh39 h1
  obtain ⟨v2,rfl⟩ := sh89 h2
  exact ⟨LTable.mk v0 v1 v2,rfl⟩
theorem sh22 {n : Nat} {pvs : List PV} (h : Sh Tryz.prog n 22 pvs) : ∃ v : List LTable,pvs = [.list 91 (v.map bv)] := by
 cases n with
 | zero=>simp [Sh] at h
 | succ n =>
  simp only [Sh,Tryz.underlying22] at h
  obtain ⟨rows,rfl,hr⟩ := h
  obtain ⟨xs,rfl⟩ := jl (f := bv) (fun r hq=>sh91 (hr r hq))
  exact ⟨xs,rfl⟩
theorem sh142 {n : Nat} {pvs : List PV} (h : Sh Tryz.prog n 142 pvs) : ∃ v : LForeignKey,pvs = cy v := by
 cases n with
 | zero=>simp [Sh] at h
 | succ n =>
  simp only [Sh,Tryz.underlying142,List.map_cons,List.map_nil,gJ] at h
  obtain ⟨p0,r0,rfl,h0,p1,r1,rfl,h1,p2,r2,rfl,h2,rfl⟩ := h
  obtain ⟨v0,rfl⟩ := sh9 h0
  obtain ⟨v1,rfl⟩ := sh89 h1
  obtain ⟨v2,rfl⟩ := sh9 h2
  exact ⟨LForeignKey.mk v0 v1 v2,rfl⟩
theorem sh23 {n : Nat} {pvs : List PV} (h : Sh Tryz.prog n 23 pvs) : ∃ v : List LForeignKey,pvs = [.list 142 (v.map cy)] := by
 cases n with
 | zero=>simp [Sh] at h
 | succ n =>
  simp only [Sh,Tryz.underlying23] at h
  obtain ⟨rows,rfl,hr⟩ := h
  obtain ⟨xs,rfl⟩ := jl (f := cy) (fun r hq=>sh142 (hr r hq))
  exact ⟨xs,rfl⟩
theorem sh53 {n : Nat} {pvs : List PV} (h : Sh Tryz.prog n 53 pvs) : ∃ v : LVal,pvs = ak v := by
 cases n with
 | zero=>simp [Sh] at h
 | succ n =>
  simp only [Sh,Tryz.underlying53,List.map_cons,List.map_nil,gJ] at h
  obtain ⟨p0,r0,rfl,h0,p1,r1,rfl,h1,p2,r2,rfl,h2,rfl⟩ := h
  obtain ⟨v0,rfl⟩ := sh3 h0
  obtain ⟨v1,rfl⟩ := sh3 h1
  obtain ⟨v2,rfl⟩ := sh9 h2
  exact ⟨LVal.mk v0 v1 v2,rfl⟩
theorem sh148 {n : Nat} {pvs : List PV} (h : Sh Tryz.prog n 148 pvs) : ∃ v : LConstraint,pvs = cJ v := by
 cases n with
 | zero=>simp [Sh] at h
 | succ n =>
  simp only [Sh,Tryz.underlying148,List.map_cons,List.map_nil,gJ] at h
  obtain ⟨p0,r0,rfl,h0,p1,r1,rfl,h1,p2,r2,rfl,h2,p3,r3,rfl,h3,p4,r4,rfl,h4,rfl⟩ := h
  obtain ⟨v0,rfl⟩ := sh9 h0
  obtain ⟨v1,rfl⟩ := sh3 h1
  obtain ⟨v2,rfl⟩ := sh9 h2
  obtain ⟨v3,rfl⟩ := sh3 h3
  obtain ⟨v4,rfl⟩ := sh53 h4
  exact ⟨LConstraint.mk v0 v1 v2 v3 v4,rfl⟩
theorem sh24 {n : Nat} {pvs : List PV} (h : Sh Tryz.prog n 24 pvs) : ∃ v : List LConstraint,pvs = [.list 148 (v.map cJ)] := by
 cases n with
 | zero=>simp [Sh] at h
 | succ n =>
  simp only [Sh,Tryz.underlying24] at h
  obtain ⟨rows,rfl,hr⟩ := h
  obtain ⟨xs,rfl⟩ := jl (f := cJ) (fun r hq=>sh148 (hr r hq))
  exact ⟨xs,rfl⟩
theorem sh26 {n : Nat} {pvs : List PV} (h : Sh Tryz.prog n 26 pvs) : ∃ v : LSchema,pvs = eK v := by
 cases n with
 | zero=>simp [Sh] at h
 | succ n =>
  simp only [Sh,Tryz.underlying26,List.map_cons,List.map_nil,gJ] at h
  obtain ⟨p0,r0,rfl,h0,p1,r1,rfl,h1,p2,r2,rfl,h2,rfl⟩ := h
  obtain ⟨v0,rfl⟩ := sh22 h0
  obtain ⟨v1,rfl⟩ := sh23 h1
  obtain ⟨v2,rfl⟩ := sh24 h2
  exact ⟨LSchema.mk v0 v1 v2,rfl⟩
theorem sh51 {n : Nat} {pvs : List PV} (h : Sh Tryz.prog n 51 pvs) : ∃ v : Rq,pvs = [.list 53 (v.map ak)] := by
 cases n with
 | zero=>simp [Sh] at h
 | succ n =>
  simp only [Sh,Tryz.underlying51] at h
  obtain ⟨rows,rfl,hr⟩ := h
  obtain ⟨xs,rfl⟩ := jl (f := ak) (fun r hq=>sh53 (hr r hq))
  exact ⟨xs,rfl⟩
theorem sh40 {n : Nat} {pvs : List PV} (h : Sh Tryz.prog n 40 pvs) : ∃ v : Rz,pvs = [.list 51 (v.map (au 53 ak))] := by
 cases n with
 | zero=>simp [Sh] at h
 | succ n =>
  simp only [Sh,Tryz.underlying40] at h
  obtain ⟨rows,rfl,hr⟩ := h
  obtain ⟨xs,rfl⟩ := jl (f := (au 53 ak)) (fun r hq=>let ⟨v,e⟩ := sh51 (hr r hq); ⟨v,e⟩)
  exact ⟨xs,rfl⟩
theorem sh87 {n : Nat} {pvs : List PV} (h : Sh Tryz.prog n 87 pvs) : ∃ v : LRelation,pvs = br v := by
 cases n with
 | zero=>simp [Sh] at h
 | succ n =>
  simp only [Sh,Tryz.underlying87,List.map_cons,List.map_nil,gJ] at h
  obtain ⟨p0,r0,rfl,h0,p1,r1,rfl,h1,rfl⟩ := h
  obtain ⟨v0,rfl⟩ := sh9 h0
  obtain ⟨v1,rfl⟩ := sh40 h1
  exact ⟨LRelation.mk v0 v1,rfl⟩
theorem sh28 {n : Nat} {pvs : List PV} (h : Sh Tryz.prog n 28 pvs) : ∃ v : List LRelation,pvs = [.list 87 (v.map br)] := by
 cases n with
 | zero=>simp [Sh] at h
 | succ n =>
  simp only [Sh,Tryz.underlying28] at h
  obtain ⟨rows,rfl,hr⟩ := h
  obtain ⟨xs,rfl⟩ := jl (f := br) (fun r hq=>sh87 (hr r hq))
  exact ⟨xs,rfl⟩
theorem sh29 {n : Nat} {pvs : List PV} (h : Sh Tryz.prog n 29 pvs) : ∃ v : List (List UInt8),pvs = [.list 9 (v.map aB)] := by
 cases n with
 | zero=>simp [Sh] at h
 | succ n =>
  simp only [Sh,Tryz.underlying29] at h
  obtain ⟨rows,rfl,hr⟩ := h
  obtain ⟨xs,rfl⟩ := jl (f := aB) (fun r hq=>let ⟨v,e⟩ := sh9 (hr r hq); ⟨v,e⟩)
  exact ⟨xs,rfl⟩
theorem sh56 {n : Nat} {pvs : List PV} (h : Sh Tryz.prog n 56 pvs) : ∃ v : LExpr,pvs = bg v := by
 induction n generalizing pvs with
 | zero=>simp [Sh] at h
 | succ n ih =>
  simp only [Sh,Tryz.underlying56,List.map_cons,List.map_nil,gJ] at h
  obtain ⟨p0,r0,rfl,h0,p1,r1,rfl,h1,p2,r2,rfl,h2,p3,r3,rfl,h3,p4,r4,rfl,h4,rfl⟩ := h
  obtain ⟨v0,rfl⟩ := sh3 h0
  obtain ⟨v1,rfl⟩ := sh9 h1
  obtain ⟨v2,rfl⟩ := sh3 h2
  obtain ⟨v3,rfl⟩ := sh53 h3
  cases n with
  | zero=>simp [Sh] at h4
  | succ n =>
  simp only [Sh,Tryz.underlying30] at h4
  obtain ⟨rows,rfl,hr4⟩ := h4
  obtain ⟨v4,rfl⟩ := rowsUp (f := bg) (rfl) ih hr4
  exact ⟨LExpr.mk v0 v1 v2 v3 v4,by rw [eT]; rfl⟩
theorem sh30 {n : Nat} {pvs : List PV} (h : Sh Tryz.prog n 30 pvs) : ∃ v : List LExpr,pvs = [.list 56 (v.map bg)] := by
 cases n with
 | zero=>simp [Sh] at h
 | succ n =>
  simp only [Sh,Tryz.underlying30] at h
  obtain ⟨rows,rfl,hr⟩ := h
  obtain ⟨xs,rfl⟩ := jl (f := bg) (fun r hq=>sh56 (hr r hq))
  exact ⟨xs,rfl⟩
theorem sh66 {n : Nat} {pvs : List PV} (h : Sh Tryz.prog n 66 pvs) : ∃ v : LAggregateCall,pvs = cn v := by
 cases n with
 | zero=>simp [Sh] at h
 | succ n =>
  simp only [Sh,Tryz.underlying66,List.map_cons,List.map_nil,gJ] at h
  obtain ⟨p0,r0,rfl,h0,p1,r1,rfl,h1,p2,r2,rfl,h2,rfl⟩ := h
  obtain ⟨v0,rfl⟩ := sh9 h0
  obtain ⟨v1,rfl⟩ := sh9 h1
  obtain ⟨v2,rfl⟩ := sh30 h2
  exact ⟨LAggregateCall.mk v0 v1 v2,rfl⟩
theorem sh31 {n : Nat} {pvs : List PV} (h : Sh Tryz.prog n 31 pvs) : ∃ v : List LAggregateCall,pvs = [.list 66 (v.map cn)] := by
 cases n with
 | zero=>simp [Sh] at h
 | succ n =>
  simp only [Sh,Tryz.underlying31] at h
  obtain ⟨rows,rfl,hr⟩ := h
  obtain ⟨xs,rfl⟩ := jl (f := cn) (fun r hq=>sh66 (hr r hq))
  exact ⟨xs,rfl⟩
theorem sh32 {n : Nat} {pvs : List PV} (h : Sh Tryz.prog n 32 pvs) : ∃ v : List Bool,pvs = [.list 4 (v.map cz)] := by
 cases n with
 | zero=>simp [Sh] at h
 | succ n =>
  simp only [Sh,Tryz.underlying32] at h
  obtain ⟨rows,rfl,hr⟩ := h
  obtain ⟨xs,rfl⟩ := jl (f := cz) (fun r hq=>let ⟨v,e⟩ := sh4 (hr r hq); ⟨v,e⟩)
  exact ⟨xs,rfl⟩
theorem sh35 {n : Nat} {pvs : List PV} (h : Sh Tryz.prog n 35 pvs) : ∃ v : LQuery,pvs = ba v := by
 induction n generalizing pvs with
 | zero=>simp [Sh] at h
 | succ n ih =>
  simp only [Sh,Tryz.underlying35,List.map_cons,List.map_nil,gJ] at h
  obtain ⟨p0,r0,rfl,h0,p1,r1,rfl,h1,p2,r2,rfl,h2,p3,r3,rfl,h3,p4,r4,rfl,h4,p5,r5,rfl,h5,p6,r6,rfl,h6,p7,r7,rfl,h7,p8,r8,rfl,h8,rfl⟩ := h
  obtain ⟨v0,rfl⟩ := sh3 h0
  obtain ⟨v1,rfl⟩ := sh9 h1
  obtain ⟨v2,rfl⟩ := sh29 h2
  obtain ⟨v3,rfl⟩ := sh30 h3
  obtain ⟨v4,rfl⟩ := sh31 h4
  obtain ⟨v5,rfl⟩ := sh32 h5
  obtain ⟨v6,rfl⟩ := sh3 h6
  obtain ⟨v7,rfl⟩ := sh3 h7
  cases n with
  | zero=>simp [Sh] at h8
  | succ n =>
  simp only [Sh,Tryz.underlying33] at h8
  obtain ⟨rows,rfl,hr8⟩ := h8
  obtain ⟨v8,rfl⟩ := rowsUp (f := ba) (rfl) ih hr8
  exact ⟨LQuery.mk v0 v1 v2 v3 v4 v5 v6 v7 v8,by rw [cM]; rfl⟩
theorem sh36 {n : Nat} {pvs : List PV} (h : Sh Tryz.prog n 36 pvs) : ∃ v : Rq,pvs = [.list 53 (v.map ak)] := by
 cases n with
 | zero=>simp [Sh] at h
 | succ n =>
  simp only [Sh,Tryz.underlying36] at h
  obtain ⟨rows,rfl,hr⟩ := h
  obtain ⟨xs,rfl⟩ := jl (f := ak) (fun r hq=>sh53 (hr r hq))
  exact ⟨xs,rfl⟩
theorem law_args : ∀ args,ArgsSh Tryz.prog Tryz.f14.params.toList args → ck args ≤ 1048576 → bc Tryz.prog 14 args (.val (.bool true)) := by
 intro args h hN
 rw [Tryz.params14] at h
 simp only [ArgsSh] at h
 obtain ⟨n0,p0,r0,rfl,h0,n1,p1,r1,rfl,h1,n2,p2,r2,rfl,h2,n3,p3,r3,rfl,h3,rfl⟩ := h
 obtain ⟨v0,rfl⟩ := sh26 h0
 obtain ⟨v1,rfl⟩ := sh28 h1
 obtain ⟨v2,rfl⟩ := sh35 h2
 obtain ⟨v3,rfl⟩ := sh36 h3
 have e0 : kp Tryz.prog 26 (eK v0) = .agg (eK v0) := by simp only [kp,Tryz.underlying26]
 rw [e0] at hN ⊢
 have e1 : kp Tryz.prog 28 [.list 87 (v1.map br)] = .list 87 (v1.map br) := by simp only [kp,Tryz.underlying28]; rfl
 rw [e1] at hN ⊢
 have e2 : kp Tryz.prog 35 (ba v2) = .agg (ba v2) := by simp only [kp,Tryz.underlying35]
 rw [cM] at e2
 rw [cM v2,e2] at hN ⊢
 have e3 : kp Tryz.prog 36 [.list 53 (v3.map ak)] = .list 53 (v3.map ak) := by simp only [kp,Tryz.underlying36]; rfl
 rw [e3] at hN ⊢
 simp only [ck,PV.bulk] at hN
 have hs0 : ms v0 := smallS_bulk (n := 1048576) (by omega) (by omega)
 have hr1 : v1.length ≤ 1048576 := by have := kO (f := br) (k := 1) (fun x=>by simp only [br,ck,PV.bulk]; omega) v1; omega
 have hq2 : TinyQ v2 := tiny_bulk (n := 1048576) (by omega) (by omega)
 exact lf v0 v1 v2 v3 true (reads_law hs0 hr1 hq2 v3)
set_option maxRecDepth 100000 in
theorem law_wf : (fun (P : Program) (f : FuncId) (fn : Func) (s : ChangeSpec) (c : OpenClaim)=>(P.funcs.size,f,fn.params.size,s.name,c.func,c.wf (OpenSpec.ofChange s)).2.2.2.2.2) Tryz.prog 14 Tryz.f14 (Rows.OpenSpec.upto Rows.queryReadsOnlyItsTablesSpec).bare Rows.queryReadsOnlyItsTablesUptoRow = true := by kernel_rfl
set_option maxRecDepth 100000 in
theorem law_laid : (fun (P : Program) (f : FuncId) (fn : Func) (s : ChangeSpec) (c : OpenClaim)=>(P.funcs.size,f,fn.params.size,s.name,c.func,laidOutB P).2.2.2.2.2) Tryz.prog 14 Tryz.f14 (Rows.OpenSpec.upto Rows.queryReadsOnlyItsTablesSpec).bare Rows.queryReadsOnlyItsTablesUptoRow = true := by kernel_rfl
set_option maxRecDepth 100000 in
theorem law_mapsRowed : (fun (P : Program) (f : FuncId) (fn : Func) (s : ChangeSpec) (c : OpenClaim)=>(P.funcs.size,f,fn.params.size,s.name,c.func,mapsRowed P).2.2.2.2.2) Tryz.prog 14 Tryz.f14 (Rows.OpenSpec.upto Rows.queryReadsOnlyItsTablesSpec).bare Rows.queryReadsOnlyItsTablesUptoRow = true := by kernel_rfl
set_option maxRecDepth 100000 in
theorem law_rr : (fun (P : Program) (f : FuncId) (fn : Func) (s : ChangeSpec) (c : OpenClaim)=>(P.funcs.size,f,fn.params.size,s.name,c.func,fn.params.all (P.readableRec ·)).2.2.2.2.2) Tryz.prog 14 Tryz.f14 (Rows.OpenSpec.upto Rows.queryReadsOnlyItsTablesSpec).bare Rows.queryReadsOnlyItsTablesUptoRow = true := by kernel_rfl
set_option maxRecDepth 100000 in
theorem law_nt : (fun (P : Program) (f : FuncId) (fn : Func) (s : ChangeSpec) (c : OpenClaim)=>(P.funcs.size,f,fn.params.size,s.name,c.func,namedTie P c.named s.vars).2.2.2.2.2) Tryz.prog 14 Tryz.f14 (Rows.OpenSpec.upto Rows.queryReadsOnlyItsTablesSpec).bare Rows.queryReadsOnlyItsTablesUptoRow = true := by kernel_rfl
set_option maxRecDepth 100000 in
theorem law_st : (fun (P : Program) (f : FuncId) (fn : Func) (s : ChangeSpec) (c : OpenClaim)=>(P.funcs.size,f,fn.params.size,s.name,c.func,(c.stops == []) && (P.stops == []) && (c.knobs == []) && (P.stopKnobs == [])).2.2.2.2.2) Tryz.prog 14 Tryz.f14 (Rows.OpenSpec.upto Rows.queryReadsOnlyItsTablesSpec).bare Rows.queryReadsOnlyItsTablesUptoRow = true := by kernel_rfl
set_option maxRecDepth 100000 in
theorem law_inPlace : (fun (P : Program) (f : FuncId) (fn : Func) (s : ChangeSpec) (c : OpenClaim)=>(P.funcs.size,f,fn.params.size,s.name,c.func,c.inPlace == P.inPlace f).2.2.2.2.2) Tryz.prog 14 Tryz.f14 (Rows.OpenSpec.upto Rows.queryReadsOnlyItsTablesSpec).bare Rows.queryReadsOnlyItsTablesUptoRow = true := by kernel_rfl
set_option maxRecDepth 100000 in
theorem law_unf : (fun (P : Program) (f : FuncId) (fn : Func) (s : ChangeSpec) (c : OpenClaim)=>(P.funcs.size,f,fn.params.size,s.name,c.func,c.unfollowed == P.unfollowed f).2.2.2.2.2) Tryz.prog 14 Tryz.f14 (Rows.OpenSpec.upto Rows.queryReadsOnlyItsTablesSpec).bare Rows.queryReadsOnlyItsTablesUptoRow = true := by kernel_rfl
set_option maxRecDepth 100000 in
theorem law_rec : (fun (P : Program) (f : FuncId) (fn : Func) (s : ChangeSpec) (c : OpenClaim)=>(P.funcs.size,f,fn.params.size,s.name,c.func,c.recurses == P.recurses f).2.2.2.2.2) Tryz.prog 14 Tryz.f14 (Rows.OpenSpec.upto Rows.queryReadsOnlyItsTablesSpec).bare Rows.queryReadsOnlyItsTablesUptoRow = true := by kernel_rfl
set_option maxRecDepth 100000 in
theorem law_named : (fun (P : Program) (f : FuncId) (fn : Func) (s : ChangeSpec) (c : OpenClaim)=>(P.funcs.size,f,fn.params.size,s.name,c.func,c.named == P.varsNamed f).2.2.2.2.2) Tryz.prog 14 Tryz.f14 (Rows.OpenSpec.upto Rows.queryReadsOnlyItsTablesSpec).bare Rows.queryReadsOnlyItsTablesUptoRow = true := by kernel_rfl
set_option maxRecDepth 100000 in
theorem law_maps : (fun (P : Program) (f : FuncId) (fn : Func) (s : ChangeSpec) (c : OpenClaim)=>(P.funcs.size,f,fn.params.size,s.name,c.func,(c.maps == (fn.params.toList ++ s.plain.varTypes P).any (P.mapsRec ·)) && (c.ifaces == (fn.params.toList ++ s.plain.varTypes P).any (P.ifacesRec ·)) && (c.mapsOut == P.mapsAmong fn.resultTypes.toList)).2.2.2.2.2) Tryz.prog 14 Tryz.f14 (Rows.OpenSpec.upto Rows.queryReadsOnlyItsTablesSpec).bare Rows.queryReadsOnlyItsTablesUptoRow = true := by kernel_rfl
set_option maxRecDepth 100000 in
theorem law_loops : (fun (P : Program) (f : FuncId) (fn : Func) (s : ChangeSpec) (c : OpenClaim)=>(P.funcs.size,f,fn.params.size,s.name,c.func,(c.loops == (fn.params.toList ++ s.plain.varTypes P).any (P.loopsFrom ·))).2.2.2.2.2) Tryz.prog 14 Tryz.f14 (Rows.OpenSpec.upto Rows.queryReadsOnlyItsTablesSpec).bare Rows.queryReadsOnlyItsTablesUptoRow = true := by kernel_rfl
set_option maxRecDepth 100000 in
theorem law_wide : (fun (P : Program) (f : FuncId) (fn : Func) (s : ChangeSpec) (c : OpenClaim)=>(P.funcs.size,f,fn.params.size,s.name,c.func,(c.wideKeys == (fn.params.toList ++ s.plain.varTypes P ++ fn.resultTypes.toList).any (P.wideKeysFrom ·))).2.2.2.2.2) Tryz.prog 14 Tryz.f14 (Rows.OpenSpec.upto Rows.queryReadsOnlyItsTablesSpec).bare Rows.queryReadsOnlyItsTablesUptoRow = true := by kernel_rfl
set_option maxRecDepth 100000 in
theorem law_rest1 : (fun (P : Program) (f : FuncId) (fn : Func) (s : ChangeSpec) (c : OpenClaim)=>(P.funcs.size,f,fn.params.size,s.name,c.func,s.vars.all (P.varReadable ·) && fn.resultTypes.all (fun t=>P.readableRec t && decide (t < P.types.size)) && (c.ifacesOut == fn.resultTypes.toList.any (P.ifacesRec ·)) && (c.loopsOut == fn.resultTypes.toList.any (P.loopsFrom ·))).2.2.2.2.2) Tryz.prog 14 Tryz.f14 (Rows.OpenSpec.upto Rows.queryReadsOnlyItsTablesSpec).bare Rows.queryReadsOnlyItsTablesUptoRow = true := by kernel_rfl
set_option maxRecDepth 100000 in
theorem law_plainKeys : (fun (P : Program) (f : FuncId) (fn : Func) (s : ChangeSpec) (c : OpenClaim)=>(P.funcs.size,f,fn.params.size,s.name,c.func,c.plainKeys == P.plainKeys).2.2.2.2.2) Tryz.prog 14 Tryz.f14 (Rows.OpenSpec.upto Rows.queryReadsOnlyItsTablesSpec).bare Rows.queryReadsOnlyItsTablesUptoRow = true := by kernel_rfl
set_option maxRecDepth 100000 in
theorem law_rest2 : (fun (P : Program) (f : FuncId) (fn : Func) (s : ChangeSpec) (c : OpenClaim)=>(P.funcs.size,f,fn.params.size,s.name,c.func,c.shortTexts.isNone && P.stopsHeard && P.mayEnter && (c.lifted == P.liftsFinal) && (P.make == some c.make)).2.2.2.2.2) Tryz.prog 14 Tryz.f14 (Rows.OpenSpec.upto Rows.queryReadsOnlyItsTablesSpec).bare Rows.queryReadsOnlyItsTablesUptoRow = true := by kernel_rfl
set_option maxRecDepth 100000 in
theorem law_kinds : (fun (P : Program) (f : FuncId) (fn : Func) (s : ChangeSpec) (c : OpenClaim)=>(P.funcs.size,f,fn.params.size,s.name,c.func,(c.kinds == (if c.domain.isEmpty then [] else fn.params.toList.map fun t=>match P.underlying t with | some (.int k)=>some k | _=>none)) && (c.pinned == c.pinnedBy)).2.2.2.2.2) Tryz.prog 14 Tryz.f14 (Rows.OpenSpec.upto Rows.queryReadsOnlyItsTablesSpec).bare Rows.queryReadsOnlyItsTablesUptoRow = true := by kernel_rfl
set_option maxRecDepth 100000 in
theorem law_veil : (fun (P : Program) (f : FuncId) (fn : Func) (s : ChangeSpec) (c : OpenClaim)=>(P.funcs.size,f,fn.params.size,s.name,c.func,(c.veiled == (fn.params.toList ++ s.plain.varTypes P ++ fn.resultTypes.toList).any (P.veiledRec ·)) && c.veiledFits P fn.params.toList (fn.params.toList ++ s.plain.varTypes P ++ fn.resultTypes.toList)).2.2.2.2.2) Tryz.prog 14 Tryz.f14 (Rows.OpenSpec.upto Rows.queryReadsOnlyItsTablesSpec).bare Rows.queryReadsOnlyItsTablesUptoRow = true := by kernel_rfl
set_option maxRecDepth 100000 in
theorem law_facts : joinedFacts Tryz.prog 14 Tryz.f14 (Rows.OpenSpec.upto Rows.queryReadsOnlyItsTablesSpec).bare Rows.queryReadsOnlyItsTablesUptoRow = true := joined_of law_wf law_laid law_mapsRowed law_rr law_nt law_st law_inPlace law_unf law_rec law_named law_maps law_loops law_wide law_rest1 law_plainKeys law_rest2 law_kinds law_veil
set_option maxRecDepth 100000 in
theorem law_lifted (os : Os) (started : os.Started) (H : Type) (enc : TypeId × Value → H) (F : Stop.Interp) :
  ReturnsInHanded {} Tryz.checked os 14 .any ((Rows.OpenSpec.upto Rows.queryReadsOnlyItsTablesSpec).pre6 enc Tryz.prog Tryz.f14 Rows.queryReadsOnlyItsTablesUptoRow.domain false) (((Rows.OpenSpec.upto Rows.queryReadsOnlyItsTablesSpec).at F).post enc Tryz.prog Tryz.f14 false true false false) := by
 refine returnsInHanded_of_cond_sized (C := Tryz.checked) (s := Rows.OpenSpec.upto Rows.queryReadsOnlyItsTablesSpec) (k := Rows.uptoSmall) rfl own_knob started (by kernel_rfl) Tryz.func14
  (OpenSpec.witness (enc := enc) (C := Tryz.checked) (s := Rows.OpenSpec.upto Rows.queryReadsOnlyItsTablesSpec) (k := Rows.uptoSmall) rfl false ⟨#[],#[.agg #[.slice none 0 0,.slice none 0 0,.slice none 0 0],.slice none 0 0,.agg #[.int .i64 0,.string ⟨#[]⟩,.slice none 0 0,.slice none 0 0,.slice none 0 0,.slice none 0 0,.int .i64 0,.int .i64 0,.slice none 0 0],.slice none 0 0],[]⟩ 8 (by kernel_rfl) (by kernel_rfl) (by kernel_rfl)
   (x := ([.agg [.nil,.nil,.nil],.nil,.agg [.lit (.int .i64 0),.lit (.string []),.nil,.nil,.nil,.nil,.lit (.int .i64 0),.lit (.int .i64 0),.nil],.nil],[],[])) (by kernel_rfl) rfl (by kernel_rfl)) ?_
 intro W base args ds gs before hval hW _ hk hsz _
 have hN : ((ds ++ gs).map (fun d=>Rows.uptoBulk d)).sum ≤ 1048576 := by
  rw [pg]; exact of_decide_eq_true hk
 refine law_callsB (s := Rows.queryReadsOnlyItsTablesSpec) (tb := 4) bulk_is laid_out rfl ?_ rfl Tryz.underlying4 ?_ lawTypes_ok lawTypes_info ?_ law_args hval hW hsz hN
 ·rw [Tryz.params14]
  intro t ht
  simp only [List.mem_cons,List.mem_nil_iff,or_false] at ht
  rcases ht with rfl | rfl | rfl | rfl <;> exact ⟨by kernel_rfl,of_decide_eq_true (by kernel_rfl)⟩
 ·intro ds hlen
  rw [Tryz.params14] at hlen
  match ds,hlen with
  | [d0,d1,d2,d3],_=>rfl
 ·rw [Tryz.params14]
  intro t ht
  simp only [List.mem_cons,List.mem_nil_iff,or_false] at ht
  rcases ht with rfl | rfl | rfl | rfl <;> simp [lawTypes]
theorem queryReadsOnlyItsTablesUpto_holds : Rows.QueryReadsOnlyItsTablesUptoSaid :=
 OpenClaim.holds_of_cond 14 Tryz.f14 rfl rfl rfl rfl rfl rfl rfl ⟨rfl,rfl,rfl,rfl,rfl⟩ rfl rfl rfl rfl rfl (by kernel_rfl) Tryz.func14 law_facts
  (of_decide_eq_true (by kernel_rfl)) (by unfold Func.isWrapper; rw [zy (by decide +kernel)]; exact ⟨rfl,rfl⟩)
  (fun os started H enc _ F=>law_lifted os started H enc F)
end
end Go.Proofs.YtgaggbdcedpapaaGreat
