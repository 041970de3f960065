/- querySortOrdersRowsUpto_holds, part 7: the layer, the plain functions and what they compute; conditions as in the statement. -/
import Derived.Test.YtgaggbdcedpapaaGreatSsf
set_option maxHeartbeats 4000000
namespace Go.Proofs.YtgaggbdcedpapaaGreat
open Go.IntKind (i64)
noncomputable section
open Go Go.Ab
open Go.Sort (SWO PermIn SortedIn)
structure STO {α : Type} (lt : α → α → Bool) : Prop where
 irrefl : ∀ x,lt x x = false
 trans : ∀ x y z,lt x y = true → lt y z = true → lt x z = true
 tri : ∀ x y,lt x y = false → lt y x = false → x = y
theorem STO.swo {α : Type} {lt : α → α → Bool} (h : STO lt) : SWO lt where
 irrefl := h.irrefl
 trans := h.trans
 ntrans := fun x y z h1 h2=>by
  cases hxz : lt x z with
  | false=>rfl
  | true =>
   cases hyx : lt y x with
   | true=>rw [h.trans y x z hyx hxz] at h2; cases h2
   | false =>
    have := h.tri x y h1 hyx
    subst this
    rw [hxz] at h2; cases h2
theorem bytes_sto : STO Op.bytesLess where
 irrefl := fun x=>by
  induction x with
  | nil=>rfl
  | cons a x ih=>simp [Op.bytesLess,ih]
 trans := fun x=>by
  induction x with
  | nil =>
   intro y z h1 h2
   cases y with
   | nil=>cases z with
    | nil=>exact h2
    | cons c z=>rfl
   | cons b y=>cases z with
    | nil=>simp [Op.bytesLess] at h2
    | cons c z=>rfl
  | cons a x ih =>
   intro y z h1 h2
   cases y with
   | nil=>simp [Op.bytesLess] at h1
   | cons b y=>cases z with
    | nil=>simp [Op.bytesLess] at h2
    | cons c z =>
     simp only [Op.bytesLess,Bool.or_eq_true,decide_eq_true_eq,Bool.and_eq_true,beq_iff_eq,UInt8.lt_iff_toNat_lt] at h1 h2 ⊢
     rcases h1 with h1 | ⟨e1,h1⟩
     ·rcases h2 with h2 | ⟨e2,h2⟩
      ·exact .inl (by omega)
      ·exact .inl (by rw [← e2]; exact h1)
     ·rcases h2 with h2 | ⟨e2,h2⟩
      ·exact .inl (by rw [e1]; exact h2)
      ·exact .inr ⟨e1.trans e2,ih y z h1 h2⟩
 tri := fun x=>by
  induction x with
  | nil =>
   intro y h1 h2
   cases y with
   | nil=>rfl
   | cons b y=>simp [Op.bytesLess] at h1
  | cons a x ih =>
   intro y h1 h2
   cases y with
   | nil=>simp [Op.bytesLess] at h2
   | cons b y =>
    simp only [Op.bytesLess,Bool.or_eq_false_iff,decide_eq_false_iff_not,Bool.and_eq_false_iff,UInt8.lt_iff_toNat_lt] at h1 h2
    have e : a = b := UInt8.toNat_inj.1 (by omega)
    subst e
    have h3 : Op.bytesLess x y = false := by rcases h1.2 with h | h; simp at h; exact h
    have h4 : Op.bytesLess y x = false := by rcases h2.2 with h | h; simp at h; exact h
    rw [ih y h3 h4]
theorem val_sto : STO er where
 irrefl := fun x=>by simp [er,bytes_sto.irrefl]
 trans := fun x y z h1 h2=>by
  unfold er at h1 h2 ⊢
  by_cases k1 : x.kind = y.kind
  ·rw [zy (by simpa using k1)] at h1
   by_cases k2 : y.kind = z.kind
   ·rw [zy (by simpa using k2)] at h2
    rw [zy (by simpa using k1.trans k2)]
    by_cases i1 : x.int = y.int
    ·rw [zy (by simpa using i1)] at h1
     by_cases i2 : y.int = z.int
     ·rw [zy (by simpa using i2)] at h2
      rw [zy (by simpa using i1.trans i2)]
      exact bytes_sto.trans _ _ _ h1 h2
     ·rw [zp i2] at h2
      have := of_decide_eq_true h2
      rw [zp (by omega)]
      exact zt (by omega)
    ·rw [zp i1] at h1
     have g1 := of_decide_eq_true h1
     by_cases i2 : y.int = z.int
     ·rw [zp (by omega)]
      exact zt (by omega)
     ·rw [zp i2] at h2
      have := of_decide_eq_true h2
      rw [zp (by omega)]
      exact zt (by omega)
   ·rw [zp k2] at h2
    have := of_decide_eq_true h2
    rw [zp (by omega)]
    exact zt (by omega)
  ·rw [zp k1] at h1
   have g1 := of_decide_eq_true h1
   by_cases k2 : y.kind = z.kind
   ·rw [zp (by omega)]
    exact zt (by omega)
   ·rw [zp k2] at h2
    have := of_decide_eq_true h2
    rw [zp (by omega)]
    exact zt (by omega)
 tri := fun x y h1 h2=>by
  obtain ⟨a,b,c⟩ := x
  obtain ⟨a',b',c'⟩ := y
  unfold er at h1 h2
  simp only at h1 h2
  by_cases k : a = a'
  ·subst k
   rw [zy (by simp)] at h1 h2
   by_cases i : b = b'
   ·subst i
    rw [zy (by simp)] at h1 h2
    rw [bytes_sto.tri _ _ h1 h2]
   ·rw [zp i] at h1
    rw [zp (fun e=>i e.symm)] at h2
    have := of_decide_eq_false h1
    have := of_decide_eq_false h2
    omega
  ·rw [zp k] at h1
   rw [zp (fun e=>k e.symm)] at h2
   have := of_decide_eq_false h1
   have := of_decide_eq_false h2
   omega
def cmpL : Rq → Rq → Int
 | a :: x,b :: y=>if a = b then cmpL x y else if er a b = true then -1 else 1
 | _,_=>0
def ltL (x y : Rq) : Bool := decide (cmpL x y < 0)
theorem ltL_cons (a b : LVal) (x y : Rq) : ltL (a :: x) (b :: y) = if a = b then ltL x y else er a b := by
 unfold ltL
 rw [cmpL]
 by_cases h : a = b
 ·rw [zp h,zp h]
 ·rw [zy h,zy h]
  cases er a b <;> simp
abbrev RowN (n : Nat) := { x : Rq // x.length = n }
instance (n : Nat) : Inhabited (RowN n) := ⟨⟨List.replicate n (LVal.mk 0 0 []),by simp⟩⟩
theorem row_irrefl : ∀ x : Rq,ltL x x = false
 | []=>rfl
 | a :: x=>by rw [ltL_cons,zp rfl,row_irrefl x]
theorem row_trans : ∀ (x y z : Rq),x.length = y.length → y.length = z.length → ltL x y = true → ltL y z = true → ltL x z = true
 | [],y,z,_,_,h,_=>by simp [ltL,cmpL] at h
 | a :: x,[],z,h,_,_,_=>by simp at h
 | a :: x,b :: y,[],_,h,_,_=>by simp at h
 | a :: x,b :: y,c :: z,l1,l2,h1,h2=>by
  rw [ltL_cons] at h1 h2 ⊢
  by_cases e1 : a = b
  ·rw [zp e1] at h1
   by_cases e2 : b = c
   ·rw [zp e2] at h2
    rw [zp (e1.trans e2)]
    exact row_trans x y z (by simpa using l1) (by simpa using l2) h1 h2
   ·rw [zy e2] at h2
    subst e1
    rw [zy e2]
    exact h2
  ·rw [zy e1] at h1
   by_cases e2 : b = c
   ·subst e2
    rw [zy e1]
    exact h1
   ·rw [zy e2] at h2
    have h3 := val_sto.trans _ _ _ h1 h2
    rw [zy (fun e=>by subst e; rw [val_sto.irrefl] at h3; cases h3)]
    exact h3
theorem row_tri : ∀ (x y : Rq),x.length = y.length → ltL x y = false → ltL y x = false → x = y
 | [],[],_,_,_=>rfl
 | [],b :: y,h,_,_=>by simp at h
 | a :: x,[],h,_,_=>by simp at h
 | a :: x,b :: y,l,h1,h2=>by
  rw [ltL_cons] at h1 h2
  by_cases e : a = b
  ·subst e
   rw [zp rfl] at h1 h2
   rw [row_tri x y (by simpa using l) h1 h2]
  ·rw [zy e] at h1
   rw [zy (fun h=>e h.symm)] at h2
   exact absurd (val_sto.tri _ _ h1 h2) e
theorem row_sto (n : Nat) : STO (fun x y : RowN n=>ltL x.1 y.1) where
 irrefl := fun x=>row_irrefl x.1
 trans := fun x y z h1 h2=>row_trans x.1 y.1 z.1 (x.2.trans y.2.symm) (y.2.trans z.2.symm) h1 h2
 tri := fun x y h1 h2=>Subtype.ext (row_tri x.1 y.1 (x.2.trans y.2.symm) h1 h2)
theorem compare_eq {x y : Rq} (hl : x.length = y.length) : dv x y [] = some (cmpL x y) := by
 unfold dv
 obtain ⟨fl,hfl,hr⟩ := fF (step := fun (j1 : Nat) (x1 : LVal) (_ : Unit) =>
  aj (
   cond (decide ((j1 : Int) ≥ (y.length : Int)))
    (some true)
    (aj (aF y (j1 : Int)) fun (x25 : LVal) =>
    some (x1.kind == x25.kind && (x1.int == x25.int && (x1.text == x25.text && true))))) fun (t3 : Bool) =>
  cond t3
   (some (Flow.next ()))
   (aj (aF y (j1 : Int)) fun (x35 : LVal) =>
   bo (er x1 x35) fun x37 =>
   cond (decide ((j1 : Int) < (([] : List Bool).length : Int)))
    (aj (aF ([] : List Bool) (j1 : Int)) fun (x45 : Bool) =>
    cond x45
     (cond (!x37)
      (some (.ret (-1)))
      (some (.ret 1)))
     (cond x37
      (some (.ret (-1)))
      (some (.ret 1))))
    (cond x37
     (some (.ret (-1)))
     (some (.ret 1)))))
  (fun j _=>cmpL (x.drop j) (y.drop j) = cmpL x y) (fun r=>r = cmpL x y) x 0 () rfl (fun k w s hk hI=>by
   simp only [Nat.zero_add] at hI ⊢
   have hkl := (zg.1 hk).1
   have hky : k < y.length := by omega
   have hw := (zg.1 hk).2
   rw [List.drop_eq_getElem_cons hkl,List.drop_eq_getElem_cons hky,hw,cmpL] at hI
   rw [zf (show ¬ (k : Int) ≥ (y.length : Int) from by omega),zd,fO hky,bPs,bPs,val_eq]
   by_cases e : w = y[k]
   ·rw [zt e,zc]
    rw [zp e] at hI
    exact ⟨_,rfl,hI⟩
   ·rw [zf e,zd,bPs,bN,zf (show ¬ (k : Int) < (([] : List Bool).length : Int) from by simp),zd]
    rw [zy e] at hI
    cases hx : er w y[k] with
    | true=>rw [hx,zp rfl] at hI; exact ⟨_,rfl,hI⟩
    | false=>rw [hx,zy (by simp)] at hI; exact ⟨_,rfl,hI⟩)
 rw [hfl,bPs]
 cases fl with
 | brk s=>exact absurd hr (by simp)
 | ret r=>rw [lR,hr]
 | next s =>
  simp only [Nat.zero_add,List.drop_length] at hr
  rw [ii,← hr]
  rfl
theorem rowCmp {n : Nat} : CmpIs (Subtype.val : RowN n → Rq) (fun x y=>ltL x.1 y.1) (fun a0 a1=>eX a0 a1) where
 is := fun x y=>by
  refine ⟨cmpL x.1 y.1,?_,rfl⟩
  unfold eX
  rw [compare_eq (x.2.trans y.2.symm),bPs]
theorem sorted_same {α : Type} [Inhabited α] {lt : α → α → Bool} (h : STO lt) {A B A' B' : Array α} (hp : A.toList.Perm B.toList) (a1 : PermIn 0 A.size A A') (a2 : SortedIn lt 0 A.size A') (b1 : PermIn 0 B.size B B') (b2 : SortedIn lt 0 B.size B') : A'.toList = B'.toList := by
 have hz : A.size = B.size := by simpa using hp.length_eq
 have full : ∀ {C C' : Array α},PermIn 0 C.size C C' → C'.toList.Perm C.toList := fun {C C'} hc=>by
  have h3 := hc.2.2
  have e1 : C.extract 0 C.size = C := by simp
  have e2 : C'.extract 0 C.size = C' := by rw [← hc.1]; simp
  rw [e1,e2] at h3
  exact h3
 have hB : PermIn 0 A.size A B' := by
  refine ⟨b1.1.trans hz.symm,fun i hi=>?_,?_⟩
  ·have h1 : ¬ i < A.size := by omega
   have h2 : ¬ i < B'.size := by rw [b1.1,← hz]; exact h1
   rw [getElem!_neg A i h1,getElem!_neg B' i h2]
  ·have e1 : A.extract 0 A.size = A := by simp
   have e2 : B'.extract 0 A.size = B' := by rw [hz,← b1.1]; simp
   rw [e1,e2]
   exact (full b1).trans hp.symm
 rw [Go.Sort.sorted_unique_holds h.swo h.tri A A' a1 a2,Go.Sort.sorted_unique_holds h.swo h.tri A B' hB (by rw [hz]; exact b2)]
theorem sameRows_perm {a b : LResult} {n : Nat} (hl : ∀ x ∈ a.rows,x.length = n) (hp : a.rows.Perm b.rows) (hs : a.rows.length ≤ 1000000) : je a b = some true := by
 have hlb : ∀ x ∈ b.rows,x.length = n := fun x hx=>hl x (hp.mem_iff.2 hx)
 unfold je
 rw [ml (show (a.rows.length : Int) = (b.rows.length : Int) from by rw [hp.length_eq]),zd]
 have mk : ∀ (l : Rows) (h : ∀ x ∈ l,x.length = n),rp (Subtype.val : RowN n → Rq) (l.pmap Subtype.mk h).toArray = l := fun l h=>by
  unfold rp
  rw [List.map_pmap]
  simp
 obtain ⟨A',ea,a1,a2⟩ := ru (rowCmp (n := n)) (row_sto n).swo (A := (a.rows.pmap Subtype.mk hl).toArray) (by simpa using hs)
 obtain ⟨B',eb,b1,b2⟩ := ru (rowCmp (n := n)) (row_sto n).swo (A := (b.rows.pmap Subtype.mk hlb).toArray) (by have := hp.length_eq; simp; omega)
 have hsame := sorted_same (row_sto n) (by simpa using hp.pmap (f := Subtype.mk) (H₁ := hl) (H₂ := hlb)) a1 a2 b1 b2
 rw [mk] at ea eb
 have ze : (rp (Subtype.val : RowN n → Rq) A').length = a.rows.length := by rw [cE,a1.1]; simp
 have zb : (rp (Subtype.val : RowN n → Rq) B').length = b.rows.length := by rw [cE,b1.1]; simp
 rw [ea,bPs,bu ze,bPs,eb,bPs,bu zb,bPs]
 have hr : rp (Subtype.val : RowN n → Rq) A' = rp (Subtype.val : RowN n → Rq) B' := by unfold rp; rw [hsame]
 rw [hr]
 generalize rp (Subtype.val : RowN n → Rq) B' = L
 unfold cW
 rw [oT,zt rfl,Bool.not_true,zd,eqLoop L L rfl _ (fun x _ y=>by unfold il; rw [equalRow]; rfl),bPs,zt rfl]
end
end Go.Proofs.YtgaggbdcedpapaaGreat

namespace Go.Proofs.YtgaggbdcedpapaaGreat
open Go.IntKind (i64)
noncomputable section
open Go Go.Ab
open Go.Sort (swp insertionSort size_swp SWO PermIn SortedIn permIn_refl permIn_trans permIn_mono permIn_all swp_permIn swp_get)
section
variable {α : Type} [Inhabited α] {v : α → Rq} {lt : α → α → Bool} {cmp : Cmp}
def swR (D : Array α) (a b n k : Nat) : α := if a ≤ k ∧ k < a + n then D[k - a + b]! else if b ≤ k ∧ k < b + n then D[k - b + a]! else D[k]!
def roT (D : Array α) (s m e k : Nat) : α := if s ≤ k ∧ k < s + (e - m) then D[k + (m - s)]! else if s + (e - m) ≤ k ∧ k < e then D[k - (e - m)]! else D[k]!
theorem nn {A : Array α} {lo a b n : Nat} (hs : A.size ≤ 1000000) (hl : lo ≤ a) (hab : a + n ≤ b) (hb : b + n ≤ A.size) : ∃ r,cr (rp v A) (a : Int) (b : Int) (n : Int) cmp = some r ∧ ∃ A',r = rp v A' ∧ PermIn lo (b + n) A A' ∧ ∀ k,A'[k]! = swR A a b n k := by
 unfold cr
 refine cy (fun s=>∃ (D : Array α) (i : Nat),s = (rp v D,(i : Int)) ∧ i ≤ n ∧ PermIn lo (b + n) A D ∧ ∀ k,D[k]! = swR A a b i k) (fun s=>((n : Int) - s.2).toNat) (fun s=>∃ D : Array α,s.1 = rp v D ∧ PermIn lo (b + n) A D ∧ ∀ k,D[k]! = swR A a b n k) ⟨A,0,rfl,by omega,permIn_refl _ _ _,fun k=>by unfold swR; rw [zy (by omega),zy (by omega)]⟩ (fun s hI=>?_) (fun s hq=>?_)
 ·obtain ⟨D,i,rfl,hi,hP,hk⟩ := hI
  have hD := hP.1
  dsimp only
  by_cases hlt : i < n
  ·rw [zt (by omega),zc,bB (z := (b : Int) + (i : Int)) (n := b + i),bB (z := (a : Int) + (i : Int)) (n := a + i),bB (z := (i : Int) + 1) (n := i + 1),gv (by omega) (by omega)]
   refine ⟨_,rfl,⟨swp D (a + i) (b + i),i + 1,rfl,by omega,permIn_trans _ _ _ _ _ hP (swp_permIn D lo (b + n) (a + i) (b + i) (by omega) (by omega) (by omega) (by omega) (by omega)),fun k=>?_⟩,by show ((n : Int) - ((i + 1 : Nat) : Int)).toNat < ((n : Int) - (i : Int)).toNat; omega⟩
   rw [swp_get D (by omega) (by omega),hk,hk,hk]
   unfold swR
   by_cases h1 : k = b + i
   ·subst h1
    rw [zp rfl,zy (by omega),zy (by omega),zy (by omega),zp (by omega)]
    congr 1; omega
   ·rw [zy h1]
    by_cases h2 : k = a + i
    ·subst h2
     rw [zp rfl,zy (by omega),zy (by omega),zp (by omega)]
     congr 1; omega
    ·rw [zy h2]
     by_cases h3 : a ≤ k ∧ k < a + i
     ·rw [zp h3,zp (by omega)]
     ·by_cases h4 : b ≤ k ∧ k < b + i
      ·rw [zy h3,zp h4,zy (by omega),zp (by omega)]
      ·rw [zy h3,zy h4,zy (by omega),zy (by omega)]
  ·rw [zf (by omega),zd]
   have : i = n := by omega
   subst this
   exact ⟨_,rfl,D,rfl,hP,hk⟩
 ·obtain ⟨D,h1,h2,h3⟩ := hq
  exact ⟨_,rfl,D,h1,h2,h3⟩
theorem rotate_sim {A : Array α} {s m e : Nat} (hs : A.size ≤ 1000000) (h1 : s < m) (h2 : m < e) (h3 : e ≤ A.size) : ∃ r,cS (rp v A) (s : Int) (m : Int) (e : Int) cmp = some r ∧ ∃ A',r = rp v A' ∧ PermIn s e A A' ∧ ∀ k,A'[k]! = roT A s m e k := by
 unfold cS
 rw [bB (z := (m : Int) - (s : Int)) (n := m - s),bB (z := (e : Int) - (m : Int)) (n := e - m)]
 refine cy (fun t=>∃ (D : Array α) (i j : Nat),t = (rp v D,(i : Int),(j : Int)) ∧ 0 < i ∧ 0 < j ∧ s + i ≤ m ∧ m + j ≤ e ∧ PermIn s e A D ∧ ∀ k,roT D (m - i) m (m + j) k = roT A s m e k) (fun t=>(t.2.1 + t.2.2).toNat) (fun t=>∃ (D : Array α) (i : Nat),t.1 = rp v D ∧ t.2.1 = (i : Int) ∧ 0 < i ∧ s + i ≤ m ∧ m + i ≤ e ∧ PermIn s e A D ∧ ∀ k,roT D (m - i) m (m + i) k = roT A s m e k) ⟨A,m - s,e - m,rfl,by omega,by omega,by omega,by omega,permIn_refl _ _ _,fun k=>by rw [show m - (m - s) = s from by omega,show m + (e - m) = e from by omega]⟩ (fun t hI=>?_) (fun t hq=>?_)
 ·obtain ⟨D,i,j,rfl,hi,hj,hsi,hje,hP,hk⟩ := hI
  have hD := hP.1
  dsimp only
  by_cases hne : i = j
  ·subst hne
   rw [ml rfl,zd]
   exact ⟨_,rfl,D,i,rfl,rfl,hi,hsi,hje,hP,hk⟩
  ·rw [kX (show ¬ (i : Int) = (j : Int) from by omega),zc,bB (z := (m : Int) - (i : Int)) (n := m - i)]
   by_cases hgt : i > j
   ·rw [zt (by omega),zc]
    obtain ⟨r,e1,D',rfl,hP',hk'⟩ := nn (v := v) (cmp := cmp) (A := D) (lo := m - i) (a := m - i) (b := m) (n := j) (by omega) (by omega) (by omega) (by omega)
    have hD' := hP'.1
    rw [e1,bPs,bu (by rw [cE,cE,hD']),bPs,bB (z := (i : Int) - (j : Int)) (n := i - j)]
    refine ⟨_,rfl,⟨D',i - j,j,rfl,by omega,hj,by omega,hje,permIn_trans _ _ _ _ _ hP (permIn_mono _ _ _ _ _ _ (by omega) (by omega) (by omega) hP'),fun k=>?_⟩,by show (((i - j : Nat) : Int) + (j : Int)).toNat < ((i : Int) + (j : Int)).toNat; omega⟩
    rw [← hk k]
    unfold roT
    rw [hk',hk',hk']
    unfold swR
    by_cases c1 : m - i ≤ k ∧ k < m - i + j
    ·rw [zy (by omega),zy (by omega),zp c1,zp (by omega)]
     congr 1; omega
    ·by_cases c2 : m - i + j ≤ k ∧ k < m - i + j + j
     ·rw [zp (by omega),zy (by omega),zp (by omega),zy (by omega),zp (by omega)]
      congr 1; omega
     ·by_cases c3 : m - i + j + j ≤ k ∧ k < m + j
      ·rw [zy (by omega),zp (by omega),zy (by omega),zy (by omega),zy (by omega),zp (by omega)]
      ·rw [zy (by omega),zy (by omega),zy (by omega),zy (by omega),zy (by omega),zy (by omega)]
   ·rw [zf (by omega),zd,bB (z := (m : Int) + (j : Int)) (n := m + j),bB (z := ((m + j : Nat) : Int) - (i : Int)) (n := m + j - i)]
    obtain ⟨r,e1,D',rfl,hP',hk'⟩ := nn (v := v) (cmp := cmp) (A := D) (lo := m - i) (a := m - i) (b := m + j - i) (n := i) (by omega) (by omega) (by omega) (by omega)
    have hD' := hP'.1
    rw [e1,bPs,bu (by rw [cE,cE,hD']),bPs,bB (z := (j : Int) - (i : Int)) (n := j - i)]
    refine ⟨_,rfl,⟨D',i,j - i,rfl,hi,by omega,hsi,by omega,permIn_trans _ _ _ _ _ hP (permIn_mono _ _ _ _ _ _ (by omega) (by omega) (by omega) hP'),fun k=>?_⟩,by show ((i : Int) + ((j - i : Nat) : Int)).toNat < ((i : Int) + (j : Int)).toNat; omega⟩
    rw [← hk k]
    unfold roT
    rw [hk',hk',hk']
    unfold swR
    by_cases c1 : m - i ≤ k ∧ k < m - i + (j - i)
    ·rw [zp (by omega),zy (by omega),zy (by omega),zp (by omega)]
    ·by_cases c2 : m - i + (j - i) ≤ k ∧ k < m + (j - i)
     ·rw [zy (by omega),zp (by omega),zp (by omega),zp (by omega)]
      congr 1; omega
     ·by_cases c3 : m + (j - i) ≤ k ∧ k < m + j
      ·rw [zy (by omega),zy (by omega),zy (by omega),zp (by omega),zy (by omega),zp (by omega)]
       congr 1; omega
      ·rw [zy (by omega),zy (by omega),zy (by omega),zy (by omega),zy (by omega),zy (by omega)]
 ·obtain ⟨D,i,q1,q2,hi,hsi,hie,hP,hk⟩ := hq
  have hD := hP.1
  rw [q1,q2,bB (z := (m : Int) - (i : Int)) (n := m - i)]
  obtain ⟨r,e1,D',rfl,hP',hk'⟩ := nn (v := v) (cmp := cmp) (A := D) (lo := m - i) (a := m - i) (b := m) (n := i) (by omega) (by omega) (by omega) (by omega)
  have hD' := hP'.1
  rw [e1,bPs,bu (by rw [cE,cE,hD']),bPs]
  refine ⟨_,rfl,D',rfl,permIn_trans _ _ _ _ _ hP (permIn_mono _ _ _ _ _ _ (by omega) (by omega) (by omega) hP'),fun k=>?_⟩
  rw [← hk k,hk']
  unfold roT swR
  by_cases c1 : m - i ≤ k ∧ k < m - i + i
  ·rw [zp c1,zp (by omega)]
   congr 1; omega
  ·by_cases c2 : m ≤ k ∧ k < m + i
   ·rw [zy c1,zp c2,zy (by omega),zp (by omega)]
    congr 1; omega
   ·rw [zy c1,zy c2,zy (by omega),zy (by omega)]
omit [Inhabited α] in
theorem oR (hS : SWO lt) {x y z : α} (h1 : lt y x = false) (h2 : lt z y = false) : lt z x = false := hS.ntrans z y x h2 h1
omit [Inhabited α] in
theorem lt_le (hS : SWO lt) {x y : α} (h : lt x y = true) : lt y x = false := Go.Sort.SWO.asymmA hS h
theorem SortedIn.le (hS : SWO lt) {a b : Nat} {A : Array α} (h : SortedIn lt a b A) {i j : Nat} (hi : a ≤ i) (hij : i ≤ j) (hj : j < b) : lt A[j]! A[i]! = false := by
 rcases Nat.lt_or_ge i j with h1 | h1
 ·exact h i j hi h1 hj
 ·have : i = j := by omega
  subst this
  exact hS.irrefl _
theorem SortedIn.same {a b : Nat} {A B : Array α} (h : SortedIn lt a b A) (he : ∀ k,a ≤ k → k < b → B[k]! = A[k]!) : SortedIn lt a b B := fun i j hi hij hj=>by
 rw [he i hi (by omega),he j (by omega) hj]
 exact h i j hi hij hj
theorem sorted_two {a m b : Nat} {C : Array α} (h1 : SortedIn lt a m C) (h2 : SortedIn lt m b C) (h : ∀ x y,a ≤ x → x < m → m ≤ y → y < b → lt C[y]! C[x]! = false) : SortedIn lt a b C := fun i j hi hij hj=>by
 by_cases hjm : j < m
 ·exact h1 i j hi hij hjm
 ·by_cases him : i < m
  ·exact h i j hi him (by omega) hj
  ·exact h2 i j (by omega) hij hj
theorem up_one (hS : SWO lt) {A D : Array α} {a b i : Nat} (hi : a < i) (hib : i ≤ b) (h : SortedIn lt (a + 1) b A) (h1 : ∀ k,a < k → k < i → lt A[k]! A[a]! = true) (h2 : ∀ k,i ≤ k → k < b → lt A[k]! A[a]! = false)
  (hD : ∀ k,D[k]! = if a ≤ k ∧ k < i - 1 then A[k + 1]! else if k = i - 1 then A[a]! else A[k]!) : SortedIn lt a b D := fun x y hx hxy hy=>by
 rw [hD x,hD y]
 by_cases c1 : y < i - 1
 ·rw [zp ⟨by omega,c1⟩,zp ⟨hx,by omega⟩]
  exact h (x + 1) (y + 1) (by omega) (by omega) (by omega)
 ·rw [zy (by omega : ¬ (a ≤ y ∧ y < i - 1))]
  by_cases c2 : y = i - 1
  ·rw [zp c2,zp ⟨hx,by omega⟩]
   exact lt_le hS (h1 (x + 1) (by omega) (by omega))
  ·rw [zy c2]
   by_cases c3 : x < i - 1
   ·rw [zp ⟨hx,c3⟩]
    exact h (x + 1) y (by omega) (by omega) hy
   ·rw [zy (by omega : ¬ (a ≤ x ∧ x < i - 1))]
    by_cases c4 : x = i - 1
    ·rw [zp c4]
     exact h2 y (by omega) hy
    ·rw [zy c4]
     exact h x y (by omega) hxy hy
theorem down_one (hS : SWO lt) {A D : Array α} {a m i : Nat} (hai : a ≤ i) (him : i ≤ m) (h : SortedIn lt a m A) (h1 : ∀ k,a ≤ k → k < i → lt A[m]! A[k]! = false) (h2 : ∀ k,i ≤ k → k < m → lt A[m]! A[k]! = true)
  (hD : ∀ k,D[k]! = if i < k ∧ k ≤ m then A[k - 1]! else if k = i then A[m]! else A[k]!) : SortedIn lt a (m + 1) D := fun x y hx hxy hy=>by
 rw [hD x,hD y]
 by_cases c1 : i < x
 ·rw [zp ⟨by omega,by omega⟩,zp ⟨by omega,by omega⟩]
  exact h (x - 1) (y - 1) (by omega) (by omega) (by omega)
 ·rw [zy (by omega : ¬ (i < x ∧ x ≤ m))]
  by_cases c2 : x = i
  ·rw [zp c2,zp ⟨by omega,by omega⟩]
   exact lt_le hS (h2 (y - 1) (by omega) (by omega))
  ·rw [zy c2]
   by_cases c3 : i < y
   ·rw [zp ⟨c3,by omega⟩]
    exact SortedIn.le hS h hx (by omega) (by omega)
   ·rw [zy (by omega : ¬ (i < y ∧ y ≤ m))]
    by_cases c4 : y = i
    ·rw [zp c4]
     exact h1 x hx (by omega)
    ·rw [zy c4]
     exact h x y hx hxy (by omega)
theorem turned (hS : SWO lt) {A B : Array α} {a m b mid s lo hi : Nat} (h1 : SortedIn lt a m A) (h2 : SortedIn lt m b A) (ha : a ≤ lo) (hlo : lo ≤ s) (hsh : s ≤ hi) (hhm : hi ≤ m) (hhi : hi ≤ mid) (hb : mid + m - s ≤ b) (hmb : mid ≤ b)
  (hlo' : lo = a ∨ lo + b = mid + m) (hhi' : hi = m ∨ hi = mid)
  (c1 : s = lo ∨ lt A[mid + m - s]! A[s - 1]! = false) (c2 : s = hi ∨ lt A[mid + m - s - 1]! A[s]! = true) (hB : ∀ k,B[k]! = roT A s m (mid + m - s) k) :
  SortedIn lt a s B ∧ SortedIn lt s mid B ∧ SortedIn lt mid (mid + m - s) B ∧ SortedIn lt (mid + m - s) b B ∧ ∀ x y,a ≤ x → x < mid → mid ≤ y → y < b → lt B[y]! B[x]! = false := by
 have e : mid + m - s - m = mid - s := by omega
 have b1 : ∀ k,k < s → B[k]! = A[k]! := fun k hk=>by rw [hB]; unfold roT; rw [zy (by omega),zy (by omega)]
 have b2 : ∀ k,s ≤ k → k < mid → B[k]! = A[k + (m - s)]! := fun k h1 h2=>by rw [hB]; unfold roT; rw [zp (by omega)]
 have b3 : ∀ k,mid ≤ k → k < mid + m - s → B[k]! = A[k - (mid - s)]! := fun k h1 h2=>by rw [hB]; unfold roT; rw [zy (by omega),zp (by omega),e]
 have b4 : ∀ k,mid + m - s ≤ k → B[k]! = A[k]! := fun k hk=>by rw [hB]; unfold roT; rw [zy (by omega),zy (by omega)]
 refine ⟨fun i j hi hij hj=>?_,fun i j hi hij hj=>?_,fun i j hi hij hj=>?_,fun i j hi hij hj=>?_,fun x y hx hxm hy hyb=>?_⟩
 ·rw [b1 i (by omega),b1 j hj]; exact h1 i j hi hij (by omega)
 ·rw [b2 i hi (by omega),b2 j (by omega) hj]; exact h2 _ _ (by omega) (by omega) (by omega)
 ·rw [b3 i hi (by omega),b3 j (by omega) hj]; exact h1 _ _ (by omega) (by omega) (by omega)
 ·rw [b4 i hi,b4 j (by omega)]; exact h2 _ _ (by omega) hij hj
 ·by_cases xs : x < s
  ·rw [b1 x xs]
   by_cases ye : y < mid + m - s
   ·rw [b3 y hy ye]; exact h1 _ _ hx (by omega) (by omega)
   ·rw [b4 y (by omega)]
    rcases c1 with c1 | c1
    ·omega
    ·exact oR hS (oR hS (SortedIn.le hS h1 hx (by omega : x ≤ s - 1) (by omega)) c1) (SortedIn.le hS h2 (by omega) (by omega : mid + m - s ≤ y) hyb)
  ·rw [b2 x (by omega) hxm]
   by_cases ye : y < mid + m - s
   ·rw [b3 y hy ye]
    rcases c2 with c2 | c2
    ·omega
    ·exact oR hS (oR hS (SortedIn.le hS h2 (by omega) (by omega : x + (m - s) ≤ mid + m - s - 1) (by omega)) (lt_le hS c2)) (SortedIn.le hS h1 (by omega) (by omega : s ≤ y - (mid - s)) (by omega))
   ·rw [b4 y (by omega)]
    exact SortedIn.le hS h2 (by omega) (by omega) hyb
end
section
variable {α : Type} [Inhabited α] {v : α → Rq} {lt : α → α → Bool} {cmp : Cmp}
theorem midN {i j : Nat} (h : i + j ≤ 1000000000) : i64.wrap (Int.fdiv (IntKind.u64.wrap (i64.wrap ((i : Int) + (j : Int)))) (2 ^ 1)) = (((i + j) / 2 : Nat) : Int) := by
 rw [show (i : Int) + (j : Int) = ((i + j : Nat) : Int) from by omega,mid_eq (by omega) (by omega)]
 omega
theorem sym_ok (hC : CmpIs v lt cmp) (hS : SWO lt) : ∀ (n : Nat) {A : Array α} {a m b : Nat},A.size ≤ 1000000 → a < m → m < b → b ≤ A.size → SortedIn lt a m A → SortedIn lt m b A → b - a < n →
  ∃ r,bw n (rp v A) (a : Int) (m : Int) (b : Int) cmp = some r ∧ ∃ A',r = rp v A' ∧ PermIn a b A A' ∧ SortedIn lt a b A'
 | 0,_,_,_,_,_,_,_,_,_,_,hn=>by omega
 | n + 1,A,a,m,b,hs,ham,hmb,hb,hL,hR,hn=>by
  rw [bw]
  unfold cG
  rw [bB (z := (m : Int) - (a : Int)) (n := m - a),bB (z := (b : Int) - (m : Int)) (n := b - m)]
  by_cases h1 : m - a = 1
  ·rw [jW (show ((m - a : Nat) : Int) = 1 from by omega),zc]
   have hm : m = a + 1 := by omega
   subst hm
   refine cy (fun s=>∃ i j : Nat,s = (rp v A,(i : Int),(j : Int)) ∧ a + 1 ≤ i ∧ i ≤ j ∧ j ≤ b ∧ (∀ k,a < k → k < i → lt A[k]! A[a]! = true) ∧ (∀ k,j ≤ k → k < b → lt A[k]! A[a]! = false)) (fun s=>(s.2.2 - s.2.1).toNat) (fun s=>∃ i : Nat,s.1 = rp v A ∧ s.2.1 = (i : Int) ∧ a + 1 ≤ i ∧ i ≤ b ∧ (∀ k,a < k → k < i → lt A[k]! A[a]! = true) ∧ (∀ k,i ≤ k → k < b → lt A[k]! A[a]! = false)) ⟨a + 1,b,rfl,Nat.le_refl _,by omega,Nat.le_refl _,fun k h1 h2=>by omega,fun k h1 h2=>by omega⟩ (fun s hI=>?_) (fun s hq=>?_)
   ·obtain ⟨i,j,rfl,hi,hij,hj,hlo,hhi⟩ := hI
    dsimp only
    by_cases hlt : i < j
    ·rw [zt (by omega),zc,midN (by omega)]
     generalize hh : (i + j) / 2 = h
     have hh1 : i ≤ h ∧ h < j := by omega
     clear hh
     obtain ⟨c,hc,hl⟩ := hC.is A[h]! A[a]!
     rw [dL (by omega),bPs,dL (by omega),bPs,hc,bPs,hl]
     cases hx : lt A[h]! A[a]! with
     | true =>
      rw [zc,bB (z := (h : Int) + 1) (n := h + 1)]
      refine ⟨_,rfl,⟨h + 1,j,rfl,by omega,by omega,hj,fun k h1 h2=>?_,hhi⟩,by show ((j : Int) - ((h + 1 : Nat) : Int)).toNat < ((j : Int) - (i : Int)).toNat; omega⟩
      cases hy : lt A[k]! A[a]! with
      | true=>rfl
      | false=>rw [hS.ntrans _ _ _ (SortedIn.le hS hR (by omega) (by omega : k ≤ h) (by omega)) hy] at hx; cases hx
     | false =>
      rw [zd]
      refine ⟨_,rfl,⟨i,h,rfl,hi,by omega,by omega,hlo,fun k h1 h2=>?_⟩,by show ((h : Int) - (i : Int)).toNat < ((j : Int) - (i : Int)).toNat; omega⟩
      exact hS.ntrans _ _ _ (SortedIn.le hS hR (by omega) h1 h2) hx
    ·rw [zf (by omega),zd]
     have : i = j := by omega
     subst this
     exact ⟨_,rfl,i,rfl,rfl,hi,hj,hlo,hhi⟩
   ·obtain ⟨i,q1,q2,hi,hib,hlo,hhi⟩ := hq
    rw [q1,q2,bB (z := (i : Int) - 1) (n := i - 1)]
    refine cy (fun t=>∃ (D : Array α) (k : Nat),t = (rp v D,(k : Int)) ∧ a ≤ k ∧ k ≤ i - 1 ∧ PermIn a b A D ∧ ∀ x,D[x]! = if a ≤ x ∧ x < k then A[x + 1]! else if x = k then A[a]! else A[x]!) (fun t=>(((i - 1 : Nat) : Int) - t.2).toNat) (fun t=>∃ D : Array α,t.1 = rp v D ∧ PermIn a b A D ∧ ∀ x,D[x]! = if a ≤ x ∧ x < i - 1 then A[x + 1]! else if x = i - 1 then A[a]! else A[x]!) ⟨A,a,rfl,Nat.le_refl _,by omega,permIn_refl _ _ _,fun x=>by
     rw [zy (by omega)]
     split
     ·rename_i e; rw [e]
     ·rfl⟩ (fun t hI=>?_) (fun t hq=>?_)
    ·obtain ⟨D,k,rfl,hak,hk,hP,hx⟩ := hI
     have hD := hP.1
     dsimp only
     by_cases hlt : k < i - 1
     ·rw [zt (by omega),zc,bB (z := (k : Int) + 1) (n := k + 1),gv (by omega) (by omega)]
      refine ⟨_,rfl,⟨swp D k (k + 1),k + 1,rfl,by omega,by omega,permIn_trans _ _ _ _ _ hP (swp_permIn D a b k (k + 1) (by omega) (by omega) (by omega) (by omega) (by omega)),fun x=>?_⟩,by show (((i - 1 : Nat) : Int) - ((k + 1 : Nat) : Int)).toNat < (((i - 1 : Nat) : Int) - (k : Int)).toNat; omega⟩
      rw [swp_get D (by omega) (by omega),hx,hx,hx]
      by_cases c1 : x = k + 1
      ·subst c1
       rw [zp rfl,zy (by omega),zp rfl,zy (by omega),zp rfl]
      ·rw [zy c1]
       by_cases c2 : x = k
       ·subst c2
        rw [zp rfl,zy (by omega),zy (by omega),zp (by omega)]
       ·rw [zy c2]
        by_cases c3 : a ≤ x ∧ x < k
        ·rw [zp c3,zp (by omega)]
        ·rw [zy c3,zy c2,zy (by omega),zy c1]
     ·rw [zf (by omega),zd]
      have : k = i - 1 := by omega
      subst this
      exact ⟨_,rfl,D,rfl,hP,hx⟩
    ·obtain ⟨D,q1,hP,hx⟩ := hq
     exact ⟨_,rfl,D,q1,hP,up_one hS (by omega) hib hR hlo hhi hx⟩
  ·rw [dn (show ¬ ((m - a : Nat) : Int) = 1 from by omega),zd]
   by_cases h2 : b - m = 1
   ·rw [jW (show ((b - m : Nat) : Int) = 1 from by omega),zc]
    have hbm : b = m + 1 := by omega
    subst hbm
    refine cy (fun s=>∃ i j : Nat,s = (rp v A,(i : Int),(j : Int)) ∧ a ≤ i ∧ i ≤ j ∧ j ≤ m ∧ (∀ k,a ≤ k → k < i → lt A[m]! A[k]! = false) ∧ (∀ k,j ≤ k → k < m → lt A[m]! A[k]! = true)) (fun s=>(s.2.2 - s.2.1).toNat) (fun s=>∃ i : Nat,s.1 = rp v A ∧ s.2.1 = (i : Int) ∧ a ≤ i ∧ i ≤ m ∧ (∀ k,a ≤ k → k < i → lt A[m]! A[k]! = false) ∧ (∀ k,i ≤ k → k < m → lt A[m]! A[k]! = true)) ⟨a,m,rfl,Nat.le_refl _,by omega,Nat.le_refl _,fun k h1 h2=>by omega,fun k h1 h2=>by omega⟩ (fun s hI=>?_) (fun s hq=>?_)
    ·obtain ⟨i,j,rfl,hi,hij,hj,hlo,hhi⟩ := hI
     dsimp only
     by_cases hlt : i < j
     ·rw [zt (by omega),zc,midN (by omega)]
      generalize hh : (i + j) / 2 = h
      have hh1 : i ≤ h ∧ h < j := by omega
      clear hh
      obtain ⟨c,hc,hl⟩ := hC.is A[m]! A[h]!
      rw [dL (by omega),bPs,dL (by omega),bPs,hc,bPs,hl]
      cases hx : lt A[m]! A[h]! with
      | true =>
       rw [Bool.not_true,zd]
       refine ⟨_,rfl,⟨i,h,rfl,hi,by omega,by omega,hlo,fun k h1 h2=>?_⟩,by show ((h : Int) - (i : Int)).toNat < ((j : Int) - (i : Int)).toNat; omega⟩
       cases hy : lt A[m]! A[k]! with
       | true=>rfl
       | false=>rw [hS.ntrans _ _ _ hy (SortedIn.le hS hL (by omega) h1 h2)] at hx; cases hx
      | false =>
       rw [Bool.not_false,zc,bB (z := (h : Int) + 1) (n := h + 1)]
       refine ⟨_,rfl,⟨h + 1,j,rfl,by omega,by omega,hj,fun k h1 h2=>?_,hhi⟩,by show ((j : Int) - ((h + 1 : Nat) : Int)).toNat < ((j : Int) - (i : Int)).toNat; omega⟩
       exact hS.ntrans _ _ _ hx (SortedIn.le hS hL h1 (by omega : k ≤ h) (by omega))
     ·rw [zf (by omega),zd]
      have : i = j := by omega
      subst this
      exact ⟨_,rfl,i,rfl,rfl,hi,hj,hlo,hhi⟩
    ·obtain ⟨i,q1,q2,hi,him,hlo,hhi⟩ := hq
     rw [q1,q2]
     refine cy (fun t=>∃ (D : Array α) (k : Nat),t = (rp v D,(k : Int)) ∧ i ≤ k ∧ k ≤ m ∧ PermIn a (m + 1) A D ∧ ∀ x,D[x]! = if k < x ∧ x ≤ m then A[x - 1]! else if x = k then A[m]! else A[x]!) (fun t=>(t.2 - (i : Int)).toNat) (fun t=>∃ D : Array α,t.1 = rp v D ∧ PermIn a (m + 1) A D ∧ ∀ x,D[x]! = if i < x ∧ x ≤ m then A[x - 1]! else if x = i then A[m]! else A[x]!) ⟨A,m,rfl,him,Nat.le_refl _,permIn_refl _ _ _,fun x=>by
      rw [zy (by omega)]
      split
      ·rename_i e; rw [e]
      ·rfl⟩ (fun t hI=>?_) (fun t hq=>?_)
     ·obtain ⟨D,k,rfl,hik,hk,hP,hx⟩ := hI
      have hD := hP.1
      dsimp only
      by_cases hlt : i < k
      ·rw [zt (by omega),zc,bB (z := (k : Int) - 1) (n := k - 1),gv (by omega) (by omega)]
       refine ⟨_,rfl,⟨swp D k (k - 1),k - 1,rfl,by omega,by omega,permIn_trans _ _ _ _ _ hP (swp_permIn D a (m + 1) k (k - 1) (by omega) (by omega) (by omega) (by omega) (by omega)),fun x=>?_⟩,by show (((k - 1 : Nat) : Int) - (i : Int)).toNat < ((k : Int) - (i : Int)).toNat; omega⟩
       rw [swp_get D (by omega) (by omega),hx,hx,hx]
       by_cases c1 : x = k - 1
       ·rw [zp c1,zy (by omega),zp rfl,zy (by omega),zp c1]
       ·rw [zy c1]
        by_cases c2 : x = k
        ·subst c2
         rw [zp rfl,zy (by omega),zy (by omega),zp (by omega)]
        ·rw [zy c2]
         by_cases c3 : k < x ∧ x ≤ m
         ·rw [zp c3,zp (by omega)]
         ·rw [zy c3,zy c2,zy (by omega),zy c1]
      ·rw [zf (by omega),zd]
       have : k = i := by omega
       subst this
       exact ⟨_,rfl,D,rfl,hP,hx⟩
     ·obtain ⟨D,q1,hP,hx⟩ := hq
      exact ⟨_,rfl,D,q1,hP,down_one hS hi him hL hlo hhi hx⟩
   ·rw [dn (show ¬ ((b - m : Nat) : Int) = 1 from by omega),zd]
    simp only [bN]
    rw [midN (i := a) (j := b) (by omega)]
    generalize hmid : (a + b) / 2 = mid
    have hm2 : a < mid ∧ mid < b ∧ 2 * mid ≤ a + b ∧ a + b ≤ 2 * mid + 1 := by omega
    clear hmid
    rw [bB (z := (mid : Int) + (m : Int)) (n := mid + m),bB (z := ((mid + m : Nat) : Int) - 1) (n := mid + m - 1),bC (n := ((mid + m : Nat) : Int) - (b : Int)) (by omega) (by omega)]
    obtain ⟨lo,hi,e1,l1,l2,l3,l4,l5,l6,l7⟩ : ∃ lo hi : Nat,(cond (decide ((m : Int) > (mid : Int))) ((rp v A,((mid + m : Nat) : Int) - (b : Int),(mid : Int))) ((rp v A,(a : Int),(m : Int))) : Rows × Int × Int) = (rp v A,(lo : Int),(hi : Int)) ∧ a ≤ lo ∧ lo ≤ hi ∧ hi ≤ m ∧ hi ≤ mid ∧ mid + m ≤ lo + b ∧ (lo = a ∨ lo + b = mid + m) ∧ (hi = m ∨ hi = mid) := by
     by_cases hgt : m > mid
     ·exact ⟨mid + m - b,mid,by rw [zt (by omega),zc,show ((mid + m : Nat) : Int) - (b : Int) = ((mid + m - b : Nat) : Int) from by omega],by omega,by omega,by omega,by omega,by omega,by omega,by omega⟩
     ·exact ⟨a,m,by rw [zf (by omega),zd],by omega,by omega,by omega,by omega,by omega,by omega,by omega⟩
    rw [e1]
    clear e1
    refine cy (fun s=>∃ i j : Nat,s = (rp v A,(i : Int),(j : Int)) ∧ lo ≤ i ∧ i ≤ j ∧ j ≤ hi ∧ (i = lo ∨ lt A[mid + m - i]! A[i - 1]! = false) ∧ (j = hi ∨ lt A[mid + m - j - 1]! A[j]! = true)) (fun s=>(s.2.2 - s.2.1).toNat) (fun s=>∃ i : Nat,s.1 = rp v A ∧ s.2.1 = (i : Int) ∧ lo ≤ i ∧ i ≤ hi ∧ (i = lo ∨ lt A[mid + m - i]! A[i - 1]! = false) ∧ (i = hi ∨ lt A[mid + m - i - 1]! A[i]! = true)) ⟨lo,hi,rfl,Nat.le_refl _,l2,Nat.le_refl _,.inl rfl,.inl rfl⟩ (fun s hI=>?_) (fun s hq=>?_)
    ·obtain ⟨i,j,rfl,hi1,hij,hj,hlo,hhi⟩ := hI
     dsimp only
     by_cases hlt : i < j
     ·rw [zt (by omega),zc,midN (by omega)]
      generalize hh : (i + j) / 2 = h
      have hh1 : i ≤ h ∧ h < j := by omega
      clear hh
      rw [bB (z := ((mid + m - 1 : Nat) : Int) - (h : Int)) (n := mid + m - 1 - h)]
      obtain ⟨c,hc,hl⟩ := hC.is A[mid + m - 1 - h]! A[h]!
      rw [dL (by omega),bPs,dL (by omega),bPs,hc,bPs,hl]
      cases hx : lt A[mid + m - 1 - h]! A[h]! with
      | true =>
       rw [Bool.not_true,zd]
       exact ⟨_,rfl,⟨i,h,rfl,hi1,by omega,by omega,hlo,.inr (by rw [show mid + m - h - 1 = mid + m - 1 - h from by omega]; exact hx)⟩,by show ((h : Int) - (i : Int)).toNat < ((j : Int) - (i : Int)).toNat; omega⟩
      | false =>
       rw [Bool.not_false,zc,bB (z := (h : Int) + 1) (n := h + 1)]
       exact ⟨_,rfl,⟨h + 1,j,rfl,by omega,by omega,hj,.inr (by rw [show mid + m - (h + 1) = mid + m - 1 - h from by omega]; exact hx),hhi⟩,by show ((j : Int) - ((h + 1 : Nat) : Int)).toNat < ((j : Int) - (i : Int)).toNat; omega⟩
     ·rw [zf (by omega),zd]
      have : i = j := by omega
      subst this
      exact ⟨_,rfl,i,rfl,rfl,hi1,hj,hlo,hhi⟩
    ·obtain ⟨s,q1,q2,hs1,hs2,c1,c2⟩ := hq
     rw [q1,q2]
     clear q1 q2
     rw [bB (z := ((mid + m : Nat) : Int) - (s : Int)) (n := mid + m - s)]
     -- the rotation
     refine kT (P := fun t=>∃ B,t = rp v B ∧ PermIn a b A B ∧ ∀ k,B[k]! = roT A s m (mid + m - s) k) ?_ (fun t ht=>?_)
     ·have stay : s = m ∨ m = mid + m - s → ∃ B,rp v A = rp v B ∧ PermIn a b A B ∧ ∀ k,B[k]! = roT A s m (mid + m - s) k := fun h=>⟨A,rfl,permIn_refl _ _ _,fun k=>by
       unfold roT
       by_cases d1 : s ≤ k ∧ k < s + (mid + m - s - m)
       ·rw [zp d1,show k + (m - s) = k from by omega]
       ·rw [zy d1]
        by_cases d2 : s + (mid + m - s - m) ≤ k ∧ k < mid + m - s
        ·rw [zp d2,show k - (mid + m - s - m) = k from by omega]
        ·rw [zy d2]⟩
      by_cases d1 : s < m
      ·rw [zt (show (s : Int) < (m : Int) from by omega),zc]
       dsimp only
       by_cases d2 : m < mid + m - s
       ·rw [zt (show (m : Int) < ((mid + m - s : Nat) : Int) from by omega),zc]
        obtain ⟨r,e,B,rfl,hP,hk⟩ := rotate_sim (v := v) (cmp := cmp) (A := A) (s := s) (m := m) (e := mid + m - s) hs d1 d2 (by omega)
        rw [e,bPs,bu (by rw [cE,cE,hP.1])]
        exact ⟨_,rfl,B,rfl,permIn_mono _ _ _ _ _ _ (by omega) (by omega) (by omega) hP,hk⟩
       ·rw [zf (show ¬ (m : Int) < ((mid + m - s : Nat) : Int) from by omega),zd]
        exact ⟨_,rfl,stay (by omega)⟩
      ·rw [zf (show ¬ (s : Int) < (m : Int) from by omega),zd]
       exact ⟨_,rfl,stay (by omega)⟩
     obtain ⟨B,rfl,hPB,hk⟩ := ht
     have hBs := hPB.1
     obtain ⟨t1,t2,t3,t4,t5⟩ := turned hS hL hR l1 hs1 hs2 l3 l4 (by omega) (by omega) l6 l7 c1 c2 hk
     -- the left part
     refine kT (P := fun t=>∃ C,t = rp v C ∧ PermIn a mid B C ∧ SortedIn lt a mid C) ?_ (fun t ht=>?_)
     ·by_cases d1 : a < s
      ·rw [zt (show (a : Int) < (s : Int) from by omega),zc]
       dsimp only
       by_cases d2 : s < mid
       ·rw [zt (show (s : Int) < (mid : Int) from by omega),zc]
        obtain ⟨r,e,C,rfl,hP,hC'⟩ := sym_ok hC hS n (A := B) (a := a) (m := s) (b := mid) (by omega) d1 d2 (by omega) t1 t2 (by omega)
        rw [e,bPs,bu (by rw [cE,cE,hP.1])]
        exact ⟨_,rfl,C,rfl,hP,hC'⟩
       ·rw [zf (show ¬ (s : Int) < (mid : Int) from by omega),zd]
        have : s = mid := by omega
        exact ⟨_,rfl,B,rfl,permIn_refl _ _ _,by rw [← this]; exact t1⟩
      ·rw [zf (show ¬ (a : Int) < (s : Int) from by omega),zd]
       have : s = a := by omega
       exact ⟨_,rfl,B,rfl,permIn_refl _ _ _,by rw [← this]; exact t2⟩
     obtain ⟨C,rfl,hPC,hCs⟩ := ht
     have hCz := hPC.1
     have sameC : ∀ k,mid ≤ k → C[k]! = B[k]! := fun k hk=>hPC.2.1 k (.inr hk)
     have t3' : SortedIn lt mid (mid + m - s) C := SortedIn.same t3 fun k h1 _=>sameC k h1
     have t4' : SortedIn lt (mid + m - s) b C := SortedIn.same t4 fun k h1 _=>sameC k (by omega)
     have crossC : ∀ x,a ≤ x → x < mid → ∀ y,mid ≤ y → y < b → lt C[y]! C[x]! = false := permIn_all B C a mid (fun z=>∀ y,mid ≤ y → y < b → lt C[y]! z = false) (by omega) hPC (fun x hx hxm y hy hyb=>by rw [sameC y hy]; exact t5 x y hx hxm hy hyb)
     have fin : ∀ E,PermIn mid b C E → SortedIn lt mid b E → PermIn a b A E ∧ SortedIn lt a b E := fun E hPE hEs=>by
      have sameE : ∀ k,k < mid → E[k]! = C[k]! := fun k hk=>hPE.2.1 k (.inl hk)
      refine ⟨permIn_trans _ _ _ _ _ hPB (permIn_trans _ _ _ _ _ (permIn_mono _ _ _ _ _ _ (Nat.le_refl _) (by omega) (by omega) hPC) (permIn_mono _ _ _ _ _ _ (by omega) (Nat.le_refl _) (by omega) hPE)),sorted_two (SortedIn.same hCs fun k _ h2=>sameE k h2) hEs fun x y hx hxm hy hyb=>?_⟩
      rw [sameE x hxm]
      exact permIn_all C E mid b (fun z=>lt z C[x]! = false) (by omega) hPE (fun y hy hyb=>crossC x hx hxm y hy hyb) y hy hyb
     by_cases d1 : mid < mid + m - s
     ·rw [zt (show (mid : Int) < ((mid + m - s : Nat) : Int) from by omega),zc]
      by_cases d2 : mid + m - s < b
      ·rw [zt (show ((mid + m - s : Nat) : Int) < (b : Int) from by omega),zc]
       obtain ⟨r,e,E,rfl,hP,hE⟩ := sym_ok hC hS n (A := C) (a := mid) (m := mid + m - s) (b := b) (by omega) d1 d2 (by omega) t3' t4' (by omega)
       rw [e,bPs,bu (by rw [cE,cE,hP.1])]
       exact ⟨_,rfl,E,rfl,fin E hP hE⟩
      ·rw [zf (show ¬ ((mid + m - s : Nat) : Int) < (b : Int) from by omega),zd]
       have : mid + m - s = b := by omega
       exact ⟨_,rfl,C,rfl,fin C (permIn_refl _ _ _) (by rw [← this]; exact t3')⟩
     ·rw [zf (show ¬ (mid : Int) < ((mid + m - s : Nat) : Int) from by omega),zd]
      have : mid + m - s = mid := by omega
      exact ⟨_,rfl,C,rfl,fin C (permIn_refl _ _ _) (by rw [this] at t4'; exact t4')⟩
end
theorem blk_eq {c t w x y : Nat} (h1 : c * w ≤ x) (h2 : x < t * w + w) (h3 : t * w ≤ y) (h4 : y < c * w + w) : c = t := by
 rcases Nat.lt_trichotomy c t with h | h | h
 ·have := Nat.mul_le_mul_right w (Nat.succ_le_of_lt h)
  rw [Nat.succ_mul] at this
  omega
 ·exact h
 ·have := Nat.mul_le_mul_right w (Nat.succ_le_of_lt h)
  rw [Nat.succ_mul] at this
  omega
section
variable {α : Type} [Inhabited α] {v : α → Rq} {lt : α → α → Bool} {cmp : Cmp}
def Gr (lt : α → α → Bool) (w : Nat) (D : Array α) (lo hi : Nat) : Prop := ∀ c i j,lo ≤ c * w → c * w ≤ i → i < j → j < c * w + w → j < hi → lt D[j]! D[i]! = false
theorem stable_srt (hC : CmpIs v lt cmp) (hS : SWO lt) {A : Array α} (hs : A.size ≤ 1000000) : ∃ r,dj (rp v A) (A.size : Int) cmp = some r ∧ ∃ A',r = rp v A' ∧ PermIn 0 A.size A A' ∧ SortedIn lt 0 A.size A' := by
 unfold dj
 refine cy (fun s=>∃ (D : Array α) (t : Nat),s = (rp v D,((t * 20 : Nat) : Int),((t * 20 + 20 : Nat) : Int)) ∧ t * 20 ≤ A.size ∧ PermIn 0 A.size A D ∧ Gr lt 20 D 0 (t * 20)) (fun s=>((A.size : Int) + 20 - s.2.2).toNat) (fun s=>∃ (D : Array α) (t : Nat),s.1 = rp v D ∧ s.2.1 = ((t * 20 : Nat) : Int) ∧ t * 20 ≤ A.size ∧ A.size < t * 20 + 20 ∧ PermIn 0 A.size A D ∧ Gr lt 20 D 0 (t * 20)) ⟨A,0,rfl,by omega,permIn_refl _ _ _,fun c i j h1 h2 h3 h4 h5=>by omega⟩ (fun s hI=>?_) (fun s hq=>?_)
 ·obtain ⟨D,t,rfl,ht,hP,hG⟩ := hI
  have hD := hP.1
  dsimp only
  by_cases hle : t * 20 + 20 ≤ A.size
  ·rw [zt (by omega),zc,ins_sim hC (by omega) (by omega) (by omega),bPs]
   have hi := Go.Sort.insertionSort_holds (lt := lt) hS D (t * 20) (t * 20 + 20) (by omega) (by omega)
   rw [bu (by rw [cE,cE,hi.1.1]),bPs,bB (z := ((t * 20 + 20 : Nat) : Int) + 20) (n := (t + 1) * 20 + 20),show t * 20 + 20 = (t + 1) * 20 from by omega]
   rw [show t * 20 + 20 = (t + 1) * 20 from by omega] at hi
   refine ⟨_,rfl,⟨_,t + 1,rfl,by omega,permIn_trans _ _ _ _ _ hP (permIn_mono _ _ _ _ _ _ (Nat.zero_le _) (by omega) (by omega) hi.1),fun c i j h1 h2 h3 h4 h5=>?_⟩,by show ((A.size : Int) + 20 - (((t + 1) * 20 + 20 : Nat) : Int)).toNat < ((A.size : Int) + 20 - (((t + 1) * 20 : Nat) : Int)).toNat; omega⟩
   by_cases hj : j < t * 20
   ·rw [hi.1.2.1 j (.inl hj),hi.1.2.1 i (.inl (by omega))]
    exact hG c i j h1 h2 h3 h4 hj
   ·exact hi.2 i j (by omega) h3 (by omega)
  ·rw [zf (by omega),zd]
   exact ⟨_,rfl,D,t,rfl,rfl,ht,by omega,hP,hG⟩
 ·obtain ⟨D,t,q1,q2,ht,hlt,hP,hG⟩ := hq
  have hD := hP.1
  rw [q1,q2,ins_sim hC (by omega) (by omega) (by omega),bPs]
  have hi := Go.Sort.insertionSort_holds (lt := lt) hS D (t * 20) A.size (by omega) (by omega)
  rw [bu (by rw [cE,cE,hi.1.1]),bPs]
  have hP2 : PermIn 0 A.size A (insertionSort lt D (t * 20) A.size) := permIn_trans _ _ _ _ _ hP (permIn_mono _ _ _ _ _ _ (Nat.zero_le _) (by omega) (by omega) hi.1)
  have hG2 : Gr lt 20 (insertionSort lt D (t * 20) A.size) 0 A.size := fun c i j h1 h2 h3 h4 h5=>by
   by_cases hj : j < t * 20
   ·rw [hi.1.2.1 j (.inl hj),hi.1.2.1 i (.inl (by omega))]
    exact hG c i j h1 h2 h3 h4 hj
   ·exact hi.2 i j (by omega) h3 (by omega)
  generalize insertionSort lt D (t * 20) A.size = E at hP2 hG2 ⊢
  clear q1 q2 hi hP hG hD hlt ht
  refine cy (fun s=>∃ (D : Array α) (w : Nat),s = (rp v D,(w : Int)) ∧ 20 ≤ w ∧ w ≤ 2000000 ∧ PermIn 0 A.size A D ∧ Gr lt w D 0 A.size) (fun s=>((A.size : Int) - s.2).toNat) (fun s=>∃ D : Array α,s.1 = rp v D ∧ PermIn 0 A.size A D ∧ SortedIn lt 0 A.size D) ⟨E,20,rfl,by omega,by omega,hP2,hG2⟩ (fun s hI=>?_) (fun s hq=>?_)
  ·obtain ⟨D,w,rfl,hw,hw2,hP,hG⟩ := hI
   dsimp only
   by_cases hlt : w < A.size
   ·rw [zt (by omega),zc,bB (z := 2 * (w : Int)) (n := 2 * w)]
    have e0 : ∀ t : Nat,2 * t * w = t * (2 * w) := fun t=>by rw [Nat.mul_comm 2 t,Nat.mul_assoc]
    have e1 : ∀ t : Nat,(2 * t + 1) * w = t * (2 * w) + w := fun t=>by rw [Nat.succ_mul,e0]
    have low : ∀ {F : Array α} {x y z : Nat} (_ : Gr lt w F x y) (t : Nat),x = t * (2 * w) → z ≤ x + w → z ≤ y → SortedIn lt x z F := fun hF t h1 h2 h3 i j hi hij hj=>hF (2 * t) i j (by rw [e0]; omega) (by rw [e0]; omega) hij (by rw [e0]; omega) (by omega)
    have high : ∀ {F : Array α} {x y z : Nat} (_ : Gr lt w F x y) (t : Nat),x = t * (2 * w) → z ≤ x + 2 * w → z ≤ y → SortedIn lt (x + w) z F := fun hF t h1 h2 h3 i j hi hij hj=>hF (2 * t + 1) i j (by rw [e1]; omega) (by rw [e1]; omega) hij (by rw [e1]; omega) (by omega)
    refine cy (fun s=>∃ (F : Array α) (t : Nat),s = (rp v F,((t * (2 * w) : Nat) : Int),((t * (2 * w) + 2 * w : Nat) : Int)) ∧ t * (2 * w) ≤ A.size ∧ PermIn 0 A.size A F ∧ Gr lt (2 * w) F 0 (t * (2 * w)) ∧ Gr lt w F (t * (2 * w)) A.size) (fun s=>((A.size : Int) + 2 * w - s.2.2).toNat) (fun s=>∃ (F : Array α) (t : Nat),s.1 = rp v F ∧ s.2.1 = ((t * (2 * w) : Nat) : Int) ∧ t * (2 * w) ≤ A.size ∧ A.size < t * (2 * w) + 2 * w ∧ PermIn 0 A.size A F ∧ Gr lt (2 * w) F 0 (t * (2 * w)) ∧ Gr lt w F (t * (2 * w)) A.size) ⟨D,0,by simp,by omega,hP,fun c i j h1 h2 h3 h4 h5=>by omega,fun c i j h1 h2 h3 h4 h5=>hG c i j (Nat.zero_le _) h2 h3 h4 h5⟩ (fun s hI=>?_) (fun s hq=>?_)
    ·obtain ⟨F,t,rfl,ht,hPF,hF1,hF2⟩ := hI
     have hFz := hPF.1
     dsimp only
     generalize hx : t * (2 * w) = x at ht hF1 hF2 ⊢
     by_cases hle : x + 2 * w ≤ A.size
     ·rw [zt (by omega),zc,bB (z := (x : Int) + (w : Int)) (n := x + w)]
      obtain ⟨r,e,F',rfl,hP',hS'⟩ := sym_ok hC hS (2 * w + 1) (A := F) (a := x) (m := x + w) (b := x + 2 * w) (by omega) (by omega) (by omega) (by omega) (low hF2 t hx.symm (by omega) (by omega)) (high hF2 t hx.symm (by omega) (by omega)) (by omega)
      rw [mf e,bPs,bu (by rw [cE,cE,hP'.1]),bPs,bB (z := ((x + 2 * w : Nat) : Int) + ((2 * w : Nat) : Int)) (n := x + 2 * w + 2 * w)]
      have hx1 : (t + 1) * (2 * w) = x + 2 * w := by rw [Nat.succ_mul,hx]
      refine ⟨_,rfl,⟨F',t + 1,by rw [hx1],by rw [hx1]; omega,permIn_trans _ _ _ _ _ hPF (permIn_mono _ _ _ _ _ _ (Nat.zero_le _) (by omega) (by omega) hP'),?_,?_⟩,by show ((A.size : Int) + 2 * w - ((x + 2 * w + 2 * w : Nat) : Int)).toNat < ((A.size : Int) + 2 * w - ((x + 2 * w : Nat) : Int)).toNat; omega⟩
      ·rw [hx1]
       intro c i j h1 h2 h3 h4 h5
       by_cases hj : j < x
       ·rw [hP'.2.1 j (.inl hj),hP'.2.1 i (.inl (by omega))]
        exact hF1 c i j h1 h2 h3 h4 hj
       ·have hct : c = t := blk_eq h2 (by rw [hx]; omega) (by rw [hx]; omega) h4
        subst hct
        rw [hx] at h2
        exact hS' i j h2 h3 h5
      ·rw [hx1]
       intro c i j h1 h2 h3 h4 h5
       rw [hP'.2.1 j (.inr (by omega)),hP'.2.1 i (.inr (by omega))]
       exact hF2 c i j (by omega) h2 h3 h4 h5
     ·rw [zf (by omega),zd]
      exact ⟨_,rfl,F,t,rfl,by rw [hx],by rw [hx]; exact ht,by rw [hx]; omega,hPF,by rw [hx]; exact hF1,by rw [hx]; exact hF2⟩
    ·obtain ⟨F,t,q1,q2,ht,hgt,hPF,hF1,hF2⟩ := hq
     have hFz := hPF.1
     rw [q1,q2]
     clear q1 q2
     generalize hx : t * (2 * w) = x at ht hF1 hF2 hgt ⊢
     rw [bB (z := (x : Int) + (w : Int)) (n := x + w),bB (z := (w : Int) * 2) (n := w * 2)]
     by_cases hm : x + w < A.size
     ·rw [zt (by omega),zc]
      obtain ⟨r,e,F',rfl,hP',hS'⟩ := sym_ok hC hS (A.size + 1) (A := F) (a := x) (m := x + w) (b := A.size) (by omega) (by omega) hm (by omega) (low hF2 t hx.symm (by omega) (by omega)) (high hF2 t hx.symm (by omega) (by omega)) (by omega)
      rw [mf e,bPs,bu (by rw [cE,cE,hP'.1]),bPs]
      refine ⟨_,rfl,⟨F',w * 2,rfl,by omega,by omega,permIn_trans _ _ _ _ _ hPF (permIn_mono _ _ _ _ _ _ (Nat.zero_le _) (by omega) (by omega) hP'),fun c i j h1 h2 h3 h4 h5=>?_⟩,by show ((A.size : Int) - ((w * 2 : Nat) : Int)).toNat < ((A.size : Int) - (w : Int)).toNat; omega⟩
      rw [Nat.mul_comm w 2] at h2 h4
      by_cases hj : j < x
      ·rw [hP'.2.1 j (.inl hj),hP'.2.1 i (.inl (by omega))]
       exact hF1 c i j (Nat.zero_le _) h2 h3 h4 hj
      ·have hct : c = t := blk_eq h2 (by rw [hx]; omega) (by rw [hx]; omega) h4
       subst hct
       rw [hx] at h2
       exact hS' i j h2 h3 h5
     ·rw [zf (by omega),zd]
      refine ⟨_,rfl,⟨F,w * 2,rfl,by omega,by omega,hPF,fun c i j h1 h2 h3 h4 h5=>?_⟩,by show ((A.size : Int) - ((w * 2 : Nat) : Int)).toNat < ((A.size : Int) - (w : Int)).toNat; omega⟩
      rw [Nat.mul_comm w 2] at h2 h4
      by_cases hj : j < x
      ·exact hF1 c i j (Nat.zero_le _) h2 h3 h4 hj
      ·have hct : c = t := blk_eq h2 (by rw [hx]; omega) (by rw [hx]; omega) h4
       subst hct
       rw [hx] at h2
       exact low hF2 c hx.symm (show A.size ≤ x + w by omega) (Nat.le_refl _) i j h2 h3 h5
   ·rw [zf (by omega),zd]
    exact ⟨_,rfl,D,rfl,hP,fun i j hi hij hj=>hG 0 i j (by omega) (by omega) hij (by omega) hj⟩
  ·obtain ⟨D,q1,h1,h2⟩ := hq
   exact ⟨_,rfl,D,q1,h1,h2⟩
end
end
end Go.Proofs.YtgaggbdcedpapaaGreat

namespace Go.Proofs.YtgaggbdcedpapaaGreat
open Go.IntKind (i64)
noncomputable section
open Go Go.Ab
open Go.Sort (SWO PermIn SortedIn)
def ltK (down : Bool) (a b : LVal) : Bool := cond down (er b a) (er a b)
theorem sto_flip {α : Type} {lt : α → α → Bool} (h : STO lt) : STO (fun x y=>lt y x) where
 irrefl := h.irrefl
 trans := fun x y z h1 h2=>h.trans z y x h2 h1
 tri := fun x y h1 h2=>h.tri x y h2 h1
theorem ltK_sto (down : Bool) : STO (ltK down) := by
 cases down
 ·exact val_sto
 ·exact sto_flip val_sto
theorem swo_pull {α β : Type} {lt : β → β → Bool} (h : SWO lt) (f : α → β) : SWO (fun x y=>lt (f x) (f y)) where
 irrefl := fun _=>h.irrefl _
 trans := fun _ _ _=>h.trans _ _ _
 ntrans := fun _ _ _=>h.ntrans _ _ _
theorem compare1 (a b : LVal) (d : Bool) : dv [a] [b] [d] = some (if a = b then 0 else if ltK d a b = true then -1 else 1) := by
 unfold dv
 simp only [ba]
 rw [zf (show ¬ ((0 : Nat) : Int) ≥ (([b] : Rq).length : Int) from by simp),zd,show aF [b] ((0 : Nat) : Int) = some b from rfl,bPs,bPs,val_eq]
 by_cases e : a = b
 ·rw [zt e,zc,zp e]
  rfl
 ·rw [zf e,zd,zy e,bPs,bN,zt (show ((0 : Nat) : Int) < (([d] : List Bool).length : Int) from by simp),zc,show aF [d] ((0 : Nat) : Int) = some d from rfl,bPs]
  cases d with
  | false =>
   cases h : er a b with
   | true=>rw [zp (show ltK false a b = true from h)]; rfl
   | false=>rw [zy (by show ¬ ltK false a b = true; rw [show ltK false a b = er a b from rfl,h]; simp)]; rfl
  | true =>
   cases h : er a b with
   | true =>
    have : er b a = false := by
     cases hb : er b a with
     | false=>rfl
     | true=>have := val_sto.trans _ _ _ h hb; rw [val_sto.irrefl] at this; cases this
    rw [zy (by show ¬ ltK true a b = true; rw [show ltK true a b = er b a from rfl,this]; simp)]; rfl
   | false =>
    have : er b a = true := by
     cases hb : er b a with
     | true=>rfl
     | false=>exact absurd (val_sto.tri _ _ h hb) e
    rw [zp (show ltK true a b = true from this)]; rfl
def gn (name : List UInt8) (down : Bool) (q : LQuery) : LQuery := LQuery.mk 9 [] [] [nm name] [] [down] 0 0 [q]
def jX (r : LRun) (cols : List LCol) (name : List UInt8) (x : Rq) : LVal := dg (bE r cols x) (nm name)
theorem key_cmp (r : LRun) (cols : List LCol) (name : List UInt8) (down : Bool) (q : LQuery) : CmpIs (fun x : Rq=>x) (fun x y=>ltK down (jX r cols name x) (jX r cols name y)) (fun a0 a1=>eB a0 a1 r cols (gn name down q)) where
 is := fun x y=>by
  refine ⟨if jX r cols name x = jX r cols name y then 0 else if ltK down (jX r cols name x) (jX r cols name y) = true then -1 else 1,?_,?_⟩
  ·unfold eB
   have e1 : (gn name down q).exprs = [nm name] := rfl
   have e2 : (gn name down q).descending = [down] := rfl
   rw [e1,e2,mD r cols x _ (by simp),bPs,mD r cols y _ (by simp),bPs]
   simp only [List.map_cons,List.map_nil]
   show aj (dv [jX r cols name x] [jX r cols name y] [down]) _ = _
   rw [compare1,bPs]
  ·by_cases e : jX r cols name x = jX r cols name y
   ·rw [zp e,e,(ltK_sto down).irrefl]
    rfl
   ·rw [zy e]
    cases ltK down (jX r cols name x) (jX r cols name y) <;> rfl
theorem sort_rows {r : LRun} {name : List UInt8} {down : Bool} {q : LQuery} (hl : (bi r q).length ≤ 1000000) : (bi r (gn name down q)).Perm (bi r q) ∧
  ∀ i j,i < j → j < (bi r (gn name down q)).length → ltK down (jX r (bs r q) name ((bi r (gn name down q))[j]!)) (jX r (bs r q) name ((bi r (gn name down q))[i]!)) = false := by
 have k : (gn name down q).kind = 9 := rfl
 have e : bi r (gn name down q) = (ec r (gn name down q) (bs r q) (bi r q)).getD [] := by
  rw [et]
  unfold ed
  rw [zy (by omega),zy (by omega),zy (by omega),zy (by omega),zy (by omega),zy (by omega),zy (by omega),zp k]
  rfl
 have mk : rp (fun x : Rq=>x) (bi r q).toArray = bi r q := by unfold rp; simp
 obtain ⟨r',e1,A',rfl,hP,hS⟩ := stable_srt (key_cmp r (bs r q) name down q) (swo_pull (ltK_sto down).swo _) (A := (bi r q).toArray) (by simpa using hl)
 have hz := hP.1
 rw [mk] at e1
 have hz' : (rp (fun x : Rq=>x) A').length = (bi r q).length := by rw [cE,hz]; simp
 have e2 : ec r (gn name down q) (bs r q) (bi r q) = some (rp (fun x : Rq=>x) A') := by
  unfold ec cJ
  rw [show ((bi r q).length : Int) = ((bi r q).toArray.size : Int) from by simp,e1,bPs,bu hz',bPs,bPs,bu hz',bPs]
 have e3 : bi r (gn name down q) = A'.toList := by
  rw [e,e2]
  show A'.toList.map (fun x=>x) = A'.toList
  simp
 rw [e3]
 refine ⟨?_,fun i j hij hj=>?_⟩
 ·have h3 := hP.2.2
  have z1 : (bi r q).toArray.extract 0 (bi r q).toArray.size = (bi r q).toArray := by simp
  have z2 : A'.extract 0 (bi r q).toArray.size = A' := by rw [← hz]; simp
  rw [z1,z2] at h3
  exact h3
 ·have hj2 : j < A'.size := by simpa using hj
  have := hS i j (Nat.zero_le _) hij (by rw [← hz]; exact hj2)
  rw [getElem!_pos A' j hj2,getElem!_pos A' i (by omega)] at this
  rw [getElem!_pos A'.toList j hj,getElem!_pos A'.toList i (by omega)]
  simpa using this
theorem sort_col {s : LSchema} {name : List UInt8} {down : Bool} {q : LQuery} (h : (dW ⟨s,[]⟩ (gn name down q)).2 = 0) : (dW ⟨s,[]⟩ (gn name down q)).1 = (dW ⟨s,[]⟩ q).1 ∧ 0 ≤ bp (fun c : LCol=>c.name == name) (dW ⟨s,[]⟩ q).1 := by
 have hc := ms h
 have k : (gn name down q).kind = 9 := rfl
 have hi : (gn name down q).inputs = [q] := rfl
 have hx : (gn name down q).exprs = [nm name] := rfl
 have h1 := hc.2.2.1
 have h2 := hc.2.2.2.1
 unfold iv at h1 h2
 rw [zy (by omega),zy (by omega),zy (by omega),zy (by omega),zy (by omega),zp k,hi,hx] at h1 h2
 simp only [List.map_cons,List.map_nil,List.getD_cons_zero] at h1 h2
 by_cases hs : iA [] (dW ⟨s,[]⟩ q).1 [nm name] = 0
 ·rw [zy (by simpa using hs)] at h2
  refine ⟨h2,?_⟩
  rw [iA] at hs
  by_cases ht : (dk (dW ⟨s,[]⟩ q).1 [] (nm name)).2.2 ≠ 0
  ·rw [zp ht] at hs; exact absurd hs ht
  ·have ht : (dk (dW ⟨s,[]⟩ q).1 [] (nm name)).2.2 = 0 := by simpa using ht
   unfold dk at ht
   split at ht
   ·cases ht
   ·rw [nZ] at ht
    have k2 : (nm name).kind = 2 := rfl
    have a2 : (nm name).args = [] := rfl
    have n2 : (nm name).name = name := rfl
    rw [zy (by rw [a2]; simp),k2,n2] at ht
    simp only [show ((2 : Int) == 1) = false from rfl,show ((2 : Int) == 3) = false from rfl,show ((2 : Int) == 2) = true from rfl,show ((2 : Int) == 4) = false from rfl,Bool.true_or,if_true,Bool.false_eq_true,if_false] at ht
    by_cases hf : (jM (dW ⟨s,[]⟩ q).1 name).2 = true
    ·unfold jM at hf
     by_cases hneg : bp (fun c : LCol=>c.name == name) (dW ⟨s,[]⟩ q).1 < 0
     ·simp [hneg] at hf
     ·omega
    ·rw [zy hf] at ht
     split at ht <;> cases ht
 ·rw [zp hs] at h1; exact absurd h1 hs
theorem TinyN.sort {n : Nat} {q : LQuery} (h : TinyN n q) (name : List UInt8) (down : Bool) : TinyN (n + 1) (gn name down q) := by
 have hi : (gn name down q).inputs = [q] := rfl
 refine ⟨?_,fun y hy=>?_⟩
 ·rw [io,hi]; have := h.nodes; simp; omega
 ·rw [io,hi] at hy
  rcases List.mem_cons.1 hy with rfl | hy
  ·exact ⟨show (1 : Nat) ≤ 1000000 by omega,show (0 : Nat) ≤ 1000000 by omega⟩
  ·exact h.here y (by simpa using hy)
theorem sort_law {s : LSchema} (hs : lQ s) (st : List LRelation) {q : LQuery} (hq : TinyQ q) (name : List UInt8) (down : Bool) (args : Rq) : fw s st q name down args = some true := by
 unfold fw
 rw [scans_ok,bPs]
 simp only [Bool.not_true,zd]
 rw [show (LQuery.mk 9 [] [] [(LExpr.mk 2 name 0 (LVal.mk 0 0 []) [])] [] [down] 0 0 [q]) = gn name down q from rfl]
 have t0 : TinyN 0 q := ⟨hq.nodes,hq.here⟩
 have s1 := (t0.sort name down).small (by omega)
 obtain ⟨b,hb,hr⟩ := runs_tot hs st s1 args
 rw [hb,bPs]
 cases b with
 | false=>rfl
 | true =>
  have h1 := hr rfl
  have hrq : Runs s st q args := h1.sub (by simp [gn,LQuery.inputs])
  simp only [Bool.not_true,zd]
  rw [pj hs s1 h1,pj hs hq.small hrq]
  simp only [bPs]
  have hok := rows_fit (r := eC s st args) ⟨rfl,rfl,rfl,hrq.instOk hs⟩ q (hrq.qok hq.small)
  have hlen : (bi (eC s st args) q).length ≤ 20000 := by
   have h1 := hok.len
   have h2 := hrq.size.2.2
   have h3 := (gj h2).1
   omega
  obtain ⟨hcol,hidx⟩ := sort_col h1.cols
  have hc1 : bs (eC s st args) (gn name down q) = bs (eC s st args) q := hcol
  have hc2 : 0 ≤ bp (fun c : LCol=>c.name == name) (bs (eC s st args) q) := hidx
  have hil := lP hc2
  obtain ⟨hp,hsrt⟩ := sort_rows (r := eC s st args) (name := name) (down := down) (q := q) (by omega)
  rw [hc1,show (fun a0=>some (dp a0 name)) = (fun c : LCol=>some (c.name == name)) from rfl,jL,bPs]
  have hfit : ∀ x ∈ bi (eC s st args) (gn name down q),x.length = (bs (eC s st args) q).length := fun x hx=>(hok.fits x (hp.mem_iff.1 hx)).1
  rw [zf (show ¬ bp (fun c : LCol=>c.name == name) (bs (eC s st args) q) < 0 from by omega),sameRows_perm (n := (bs (eC s st args) q).length) hfit hp (by show (bi (eC s st args) (gn name down q)).length ≤ 1000000; rw [hp.length_eq]; omega)]
  simp only [zd,bPs,Bool.not_true]
  have hl2 : (bi (eC s st args) (gn name down q)).length ≤ 20000 := by rw [hp.length_eq]; exact hlen
  have hkey : ∀ x : Rq,x.length = (bs (eC s st args) q).length → aF x (bp (fun c : LCol=>c.name == name) (bs (eC s st args) q)) = some (jX (eC s st args) (bs (eC s st args) q) name x) := fun x hx=>by
   unfold jX
   rw [nV]
   have e1 : (bE (eC s st args) (bs (eC s st args) q) x).cols = bs (eC s st args) q := rfl
   have e2 : (bE (eC s st args) (bs (eC s st args) q) x).row = x := rfl
   have e3 : (nm name).kind = 2 := rfl
   have e4 : (nm name).name = name := rfl
   rw [e1,e2,e3,e4,zy (by decide),zp (by decide),zp ⟨hc2,by omega⟩]
   have hx2 : (bp (fun c : LCol=>c.name == name) (bs (eC s st args) q)).toNat < x.length := by omega
   rw [kR hc2 (ze hx2),List.getD_eq_getElem?_getD,ze hx2]
   rfl
  generalize bp (fun c : LCol=>c.name == name) (bs (eC s st args) q) = k at hc2 hil hkey ⊢
  generalize bs (eC s st args) q = cs at hfit hsrt hkey ⊢
  generalize bi (eC s st args) (gn name down q) = A at hfit hsrt hl2 ⊢
  refine oP (nw (fun t=>∃ i : Nat,t = (i : Int) ∧ 1 ≤ i) (fun t=>((A.length : Int) - t).toNat) (fun _=>True) ⟨1,rfl,Nat.le_refl _⟩ (fun t hI=>?_) (fun t _=>⟨_,rfl,rfl⟩))
  obtain ⟨i,rfl,hi⟩ := hI
  by_cases hlt : i < A.length
  ·have h0 := hsrt (i - 1) i (by omega) hlt
   rw [getElem!_pos A i hlt,getElem!_pos A (i - 1) (by omega)] at h0
   rw [zt (by omega),zc,bB (z := (i : Int) - 1) (n := i - 1),bB (z := (i : Int) + 1) (n := i + 1),fO (show i - 1 < A.length by omega),bPs,hkey _ (hfit _ (List.getElem_mem _)),bPs,fO hlt,bPs,hkey _ (hfit _ (List.getElem_mem _)),bPs]
   have hnx : (∃ j : Nat,((i + 1 : Nat) : Int) = (j : Int) ∧ 1 ≤ j) ∧ ((A.length : Int) - ((i + 1 : Nat) : Int)).toNat < ((A.length : Int) - (i : Int)).toNat := ⟨⟨i + 1,rfl,by omega⟩,by omega⟩
   cases down with
   | true =>
    have h0 : er (jX (eC s st args) cs name A[i - 1]) (jX (eC s st args) cs name A[i]) = false := h0
    rw [zc,bN,h0]
    exact ⟨_,rfl,hnx⟩
   | false =>
    have h0 : er (jX (eC s st args) cs name A[i]) (jX (eC s st args) cs name A[i - 1]) = false := h0
    rw [zd,Bool.not_false,zc,bN,h0]
    exact ⟨_,rfl,hnx⟩
  ·rw [zf (by omega),zd]
   exact ⟨_,rfl,trivial⟩
end
end Go.Proofs.YtgaggbdcedpapaaGreat

namespace Go.Proofs.YtgaggbdcedpapaaGreat
open Go.IntKind (i64)
noncomputable section
open Go Go.Ab
theorem own_knob : ownKnob Tryz.prog.godebug = none := by kernel_rfl
theorem laid_out : laidOutB Tryz.prog = true := by kernel_rfl
def lawTypes : List TypeId := [26,22,91,9,39,50,3,4,89,23,142,24,148,53,28,87,40,51,35,29,30,56,31,66,32,33,36]
theorem lawTypes_ok : lawTypes.all (okT Tryz.prog lawTypes) = true := by kernel_rfl
theorem lawTypes_info : ∀ t ∈ lawTypes,∃ i,Tryz.prog.info? t = some i ∧ i.bytes = Tryz.prog.bytesOf t ∧ i.size = Tryz.prog.cellsOf t := infos_of (by kernel_rfl)
theorem sh9 {n : Nat} {pvs : List PV} (h : Sh Tryz.prog n 9 pvs) : ∃ v : List UInt8,pvs = [.str v] := by
 cases n with
 | zero=>simp [Sh] at h
 | succ n=>simp only [Sh,Tryz.underlying9] at h; obtain ⟨m,rfl,_⟩ := h; exact ⟨m,rfl⟩
theorem sh3 {n : Nat} {pvs : List PV} (h : Sh Tryz.prog n 3 pvs) : ∃ v : Int,pvs = [ae v] := by
 cases n with
 | zero=>simp [Sh] at h
 | succ n=>simp only [Sh,Tryz.underlying3] at h; obtain ⟨m,rfl,_⟩ := h; exact ⟨m,rfl⟩
theorem sh4 {n : Nat} {pvs : List PV} (h : Sh Tryz.prog n 4 pvs) : ∃ v : Bool,pvs = [aE v] := by
 cases n with
 | zero=>simp [Sh] at h
 | succ n=>simp only [Sh,Tryz.underlying4] at h; obtain ⟨m,rfl⟩ := h; exact ⟨m,rfl⟩
theorem sh50 {n : Nat} {pvs : List PV} (h : Sh Tryz.prog n 50 pvs) : ∃ v : LCol,pvs = aG v := by
 cases n with
 | zero=>simp [Sh] at h
 | succ n =>
  simp only [Sh,Tryz.underlying50,List.map_cons,List.map_nil,gJ] at h
  obtain ⟨p0,r0,rfl,h0,p1,r1,rfl,h1,p2,r2,rfl,h2,rfl⟩ := h
  obtain ⟨v0,rfl⟩ := sh9 h0
  obtain ⟨v1,rfl⟩ := sh3 h1
  obtain ⟨v2,rfl⟩ := sh4 h2
  exact ⟨LCol.mk v0 v1 v2,rfl⟩
theorem sh39 {n : Nat} {pvs : List PV} (h : Sh Tryz.prog n 39 pvs) : ∃ v : List LCol,pvs = [.list 50 (v.map aG)] := by
 cases n with
 | zero=>simp [Sh] at h
 | succ n =>
  simp only [Sh,Tryz.underlying39] at h
  obtain ⟨rows,rfl,hr⟩ := h
  obtain ⟨xs,rfl⟩ := iZ (f := aG) (fun r hq=>sh50 (hr r hq))
  exact ⟨xs,rfl⟩
theorem sh89 {n : Nat} {pvs : List PV} (h : Sh Tryz.prog n 89 pvs) : ∃ v : List Int,pvs = [.list 3 (v.map bJ)] := by
 cases n with
 | zero=>simp [Sh] at h
 | succ n =>
  simp only [Sh,Tryz.underlying89] at h
  obtain ⟨rows,rfl,hr⟩ := h
  obtain ⟨xs,rfl⟩ := iZ (f := bJ) (fun r hq=>let ⟨v,e⟩ := sh3 (hr r hq); ⟨v,e⟩)
  exact ⟨xs,rfl⟩
theorem sh91 {n : Nat} {pvs : List PV} (h : Sh Tryz.prog n 91 pvs) : ∃ v : LTable,pvs = bA v := by
 cases n with
 | zero=>simp [Sh] at h
 | succ n =>
  simp only [Sh,Tryz.underlying91,List.map_cons,List.map_nil,gJ] at h
  obtain ⟨p0,r0,rfl,h0,p1,r1,rfl,h1,p2,r2,rfl,h2,rfl⟩ := h
  obtain ⟨v0,rfl⟩ := sh9 h0
  obtain ⟨v1,rfl⟩ := sh39 h1
  obtain ⟨v2,rfl⟩ := sh89 h2
  exact ⟨LTable.mk v0 v1 v2,rfl⟩
theorem sh22 {n : Nat} {pvs : List PV} (h : Sh Tryz.prog n 22 pvs) : ∃ v : List LTable,pvs = [.list 91 (v.map bA)] := by
 cases n with
 | zero=>simp [Sh] at h
 | succ n =>
  simp only [Sh,Tryz.underlying22] at h
  obtain ⟨rows,rfl,hr⟩ := h
  obtain ⟨xs,rfl⟩ := iZ (f := bA) (fun r hq=>sh91 (hr r hq))
  exact ⟨xs,rfl⟩
theorem sh142 {n : Nat} {pvs : List PV} (h : Sh Tryz.prog n 142 pvs) : ∃ v : LForeignKey,pvs = cD v := by
 cases n with
 | zero=>simp [Sh] at h
 | succ n =>
  simp only [Sh,Tryz.underlying142,List.map_cons,List.map_nil,gJ] at h
  obtain ⟨p0,r0,rfl,h0,p1,r1,rfl,h1,p2,r2,rfl,h2,rfl⟩ := h
  obtain ⟨v0,rfl⟩ := sh9 h0
  obtain ⟨v1,rfl⟩ := sh89 h1
  obtain ⟨v2,rfl⟩ := sh9 h2
  exact ⟨LForeignKey.mk v0 v1 v2,rfl⟩
theorem sh23 {n : Nat} {pvs : List PV} (h : Sh Tryz.prog n 23 pvs) : ∃ v : List LForeignKey,pvs = [.list 142 (v.map cD)] := by
 cases n with
 | zero=>simp [Sh] at h
 | succ n =>
  simp only [Sh,Tryz.underlying23] at h
  obtain ⟨rows,rfl,hr⟩ := h
  obtain ⟨xs,rfl⟩ := iZ (f := cD) (fun r hq=>sh142 (hr r hq))
  exact ⟨xs,rfl⟩
theorem sh53 {n : Nat} {pvs : List PV} (h : Sh Tryz.prog n 53 pvs) : ∃ v : LVal,pvs = ab v := by
 cases n with
 | zero=>simp [Sh] at h
 | succ n =>
  simp only [Sh,Tryz.underlying53,List.map_cons,List.map_nil,gJ] at h
  obtain ⟨p0,r0,rfl,h0,p1,r1,rfl,h1,p2,r2,rfl,h2,rfl⟩ := h
  obtain ⟨v0,rfl⟩ := sh3 h0
  obtain ⟨v1,rfl⟩ := sh3 h1
  obtain ⟨v2,rfl⟩ := sh9 h2
  exact ⟨LVal.mk v0 v1 v2,rfl⟩
theorem sh148 {n : Nat} {pvs : List PV} (h : Sh Tryz.prog n 148 pvs) : ∃ v : LConstraint,pvs = cN v := by
 cases n with
 | zero=>simp [Sh] at h
 | succ n =>
  simp only [Sh,Tryz.underlying148,List.map_cons,List.map_nil,gJ] at h
  obtain ⟨p0,r0,rfl,h0,p1,r1,rfl,h1,p2,r2,rfl,h2,p3,r3,rfl,h3,p4,r4,rfl,h4,rfl⟩ := h
  obtain ⟨v0,rfl⟩ := sh9 h0
  obtain ⟨v1,rfl⟩ := sh3 h1
  obtain ⟨v2,rfl⟩ := sh9 h2
  obtain ⟨v3,rfl⟩ := sh3 h3
  obtain ⟨v4,rfl⟩ := sh53 h4
  exact ⟨LConstraint.mk v0 v1 v2 v3 v4,rfl⟩
theorem sh24 {n : Nat} {pvs : List PV} (h : Sh Tryz.prog n 24 pvs) : ∃ v : List LConstraint,pvs = [.list 148 (v.map cN)] := by
 cases n with
 | zero=>simp [Sh] at h
 | succ n =>
  simp only [Sh,Tryz.underlying24] at h
  obtain ⟨rows,rfl,hr⟩ := h
  obtain ⟨xs,rfl⟩ := iZ (f := cN) (fun r hq=>sh148 (hr r hq))
  exact ⟨xs,rfl⟩
theorem sh26 {n : Nat} {pvs : List PV} (h : Sh Tryz.prog n 26 pvs) : ∃ v : LSchema,pvs = eA v := by
 cases n with
 | zero=>simp [Sh] at h
 | succ n =>
  simp only [Sh,Tryz.underlying26,List.map_cons,List.map_nil,gJ] at h
  obtain ⟨p0,r0,rfl,h0,p1,r1,rfl,h1,p2,r2,rfl,h2,rfl⟩ := h
  obtain ⟨v0,rfl⟩ := sh22 h0
  obtain ⟨v1,rfl⟩ := sh23 h1
  obtain ⟨v2,rfl⟩ := sh24 h2
  exact ⟨LSchema.mk v0 v1 v2,rfl⟩
theorem sh51 {n : Nat} {pvs : List PV} (h : Sh Tryz.prog n 51 pvs) : ∃ v : Rq,pvs = [.list 53 (v.map ab)] := by
 cases n with
 | zero=>simp [Sh] at h
 | succ n =>
  simp only [Sh,Tryz.underlying51] at h
  obtain ⟨rows,rfl,hr⟩ := h
  obtain ⟨xs,rfl⟩ := iZ (f := ab) (fun r hq=>sh53 (hr r hq))
  exact ⟨xs,rfl⟩
theorem sh40 {n : Nat} {pvs : List PV} (h : Sh Tryz.prog n 40 pvs) : ∃ v : Rz,pvs = [.list 51 (v.map (al 53 ab))] := by
 cases n with
 | zero=>simp [Sh] at h
 | succ n =>
  simp only [Sh,Tryz.underlying40] at h
  obtain ⟨rows,rfl,hr⟩ := h
  obtain ⟨xs,rfl⟩ := iZ (f := (al 53 ab)) (fun r hq=>let ⟨v,e⟩ := sh51 (hr r hq); ⟨v,e⟩)
  exact ⟨xs,rfl⟩
theorem sh87 {n : Nat} {pvs : List PV} (h : Sh Tryz.prog n 87 pvs) : ∃ v : LRelation,pvs = bV v := by
 cases n with
 | zero=>simp [Sh] at h
 | succ n =>
  simp only [Sh,Tryz.underlying87,List.map_cons,List.map_nil,gJ] at h
  obtain ⟨p0,r0,rfl,h0,p1,r1,rfl,h1,rfl⟩ := h
  obtain ⟨v0,rfl⟩ := sh9 h0
  obtain ⟨v1,rfl⟩ := sh40 h1
  exact ⟨LRelation.mk v0 v1,rfl⟩
theorem sh28 {n : Nat} {pvs : List PV} (h : Sh Tryz.prog n 28 pvs) : ∃ v : List LRelation,pvs = [.list 87 (v.map bV)] := by
 cases n with
 | zero=>simp [Sh] at h
 | succ n =>
  simp only [Sh,Tryz.underlying28] at h
  obtain ⟨rows,rfl,hr⟩ := h
  obtain ⟨xs,rfl⟩ := iZ (f := bV) (fun r hq=>sh87 (hr r hq))
  exact ⟨xs,rfl⟩
theorem sh29 {n : Nat} {pvs : List PV} (h : Sh Tryz.prog n 29 pvs) : ∃ v : List (List UInt8),pvs = [.list 9 (v.map co)] := by
 cases n with
 | zero=>simp [Sh] at h
 | succ n =>
  simp only [Sh,Tryz.underlying29] at h
  obtain ⟨rows,rfl,hr⟩ := h
  obtain ⟨xs,rfl⟩ := iZ (f := co) (fun r hq=>let ⟨v,e⟩ := sh9 (hr r hq); ⟨v,e⟩)
  exact ⟨xs,rfl⟩
theorem sh56 {n : Nat} {pvs : List PV} (h : Sh Tryz.prog n 56 pvs) : ∃ v : LExpr,pvs = bc v := by
 induction n generalizing pvs with
 | zero=>simp [Sh] at h
 | succ n ih =>
  simp only [Sh,Tryz.underlying56,List.map_cons,List.map_nil,gJ] at h
  obtain ⟨p0,r0,rfl,h0,p1,r1,rfl,h1,p2,r2,rfl,h2,p3,r3,rfl,h3,p4,r4,rfl,h4,rfl⟩ := h
  obtain ⟨v0,rfl⟩ := sh3 h0
  obtain ⟨v1,rfl⟩ := sh9 h1
  obtain ⟨v2,rfl⟩ := sh3 h2
  obtain ⟨v3,rfl⟩ := sh53 h3
  cases n with
  | zero=>simp [Sh] at h4
  | succ n =>
  simp only [Sh,Tryz.underlying30] at h4
  obtain ⟨rows,rfl,hr4⟩ := h4
  obtain ⟨v4,rfl⟩ := rowsUp (f := bc) (rfl) ih hr4
  exact ⟨LExpr.mk v0 v1 v2 v3 v4,by rw [eF]; rfl⟩
theorem sh30 {n : Nat} {pvs : List PV} (h : Sh Tryz.prog n 30 pvs) : ∃ v : List LExpr,pvs = [.list 56 (v.map bc)] := by
 cases n with
 | zero=>simp [Sh] at h
 | succ n =>
  simp only [Sh,Tryz.underlying30] at h
  obtain ⟨rows,rfl,hr⟩ := h
  obtain ⟨xs,rfl⟩ := iZ (f := bc) (fun r hq=>sh56 (hr r hq))
  exact ⟨xs,rfl⟩
theorem sh66 {n : Nat} {pvs : List PV} (h : Sh Tryz.prog n 66 pvs) : ∃ v : LAggregateCall,pvs = cl v := by
 cases n with
 | zero=>simp [Sh] at h
 | succ n =>
  simp only [Sh,Tryz.underlying66,List.map_cons,List.map_nil,gJ] at h
  obtain ⟨p0,r0,rfl,h0,p1,r1,rfl,h1,p2,r2,rfl,h2,rfl⟩ := h
  obtain ⟨v0,rfl⟩ := sh9 h0
  obtain ⟨v1,rfl⟩ := sh9 h1
  obtain ⟨v2,rfl⟩ := sh30 h2
  exact ⟨LAggregateCall.mk v0 v1 v2,rfl⟩
theorem sh31 {n : Nat} {pvs : List PV} (h : Sh Tryz.prog n 31 pvs) : ∃ v : List LAggregateCall,pvs = [.list 66 (v.map cl)] := by
 cases n with
 | zero=>simp [Sh] at h
 | succ n =>
  simp only [Sh,Tryz.underlying31] at h
  obtain ⟨rows,rfl,hr⟩ := h
  obtain ⟨xs,rfl⟩ := iZ (f := cl) (fun r hq=>sh66 (hr r hq))
  exact ⟨xs,rfl⟩
theorem sh32 {n : Nat} {pvs : List PV} (h : Sh Tryz.prog n 32 pvs) : ∃ v : List Bool,pvs = [.list 4 (v.map cB)] := by
 cases n with
 | zero=>simp [Sh] at h
 | succ n =>
  simp only [Sh,Tryz.underlying32] at h
  obtain ⟨rows,rfl,hr⟩ := h
  obtain ⟨xs,rfl⟩ := iZ (f := cB) (fun r hq=>let ⟨v,e⟩ := sh4 (hr r hq); ⟨v,e⟩)
  exact ⟨xs,rfl⟩
theorem sh35 {n : Nat} {pvs : List PV} (h : Sh Tryz.prog n 35 pvs) : ∃ v : LQuery,pvs = aX v := by
 induction n generalizing pvs with
 | zero=>simp [Sh] at h
 | succ n ih =>
  simp only [Sh,Tryz.underlying35,List.map_cons,List.map_nil,gJ] at h
  obtain ⟨p0,r0,rfl,h0,p1,r1,rfl,h1,p2,r2,rfl,h2,p3,r3,rfl,h3,p4,r4,rfl,h4,p5,r5,rfl,h5,p6,r6,rfl,h6,p7,r7,rfl,h7,p8,r8,rfl,h8,rfl⟩ := h
  obtain ⟨v0,rfl⟩ := sh3 h0
  obtain ⟨v1,rfl⟩ := sh9 h1
  obtain ⟨v2,rfl⟩ := sh29 h2
  obtain ⟨v3,rfl⟩ := sh30 h3
  obtain ⟨v4,rfl⟩ := sh31 h4
  obtain ⟨v5,rfl⟩ := sh32 h5
  obtain ⟨v6,rfl⟩ := sh3 h6
  obtain ⟨v7,rfl⟩ := sh3 h7
  cases n with
  | zero=>simp [Sh] at h8
  | succ n =>
  simp only [Sh,Tryz.underlying33] at h8
  obtain ⟨rows,rfl,hr8⟩ := h8
  obtain ⟨v8,rfl⟩ := rowsUp (f := aX) (rfl) ih hr8
  exact ⟨LQuery.mk v0 v1 v2 v3 v4 v5 v6 v7 v8,by rw [cK]; rfl⟩
theorem sh36 {n : Nat} {pvs : List PV} (h : Sh Tryz.prog n 36 pvs) : ∃ v : Rq,pvs = [.list 53 (v.map ab)] := by
 cases n with
 | zero=>simp [Sh] at h
 | succ n =>
  simp only [Sh,Tryz.underlying36] at h
  obtain ⟨rows,rfl,hr⟩ := h
  obtain ⟨xs,rfl⟩ := iZ (f := ab) (fun r hq=>sh53 (hr r hq))
  exact ⟨xs,rfl⟩
theorem law_args : ∀ args,ArgsSh Tryz.prog Tryz.f13.params.toList args → cg args ≤ 1048576 → aV Tryz.prog 13 args (.val (.bool true)) := by
 intro args h hN
 rw [Tryz.params13] at h
 simp only [ArgsSh] at h
 obtain ⟨n0,p0,r0,rfl,h0,n1,p1,r1,rfl,h1,n2,p2,r2,rfl,h2,n3,p3,r3,rfl,h3,n4,p4,r4,rfl,h4,n5,p5,r5,rfl,h5,rfl⟩ := h
 obtain ⟨v0,rfl⟩ := sh26 h0
 obtain ⟨v1,rfl⟩ := sh28 h1
 obtain ⟨v2,rfl⟩ := sh35 h2
 obtain ⟨v3,rfl⟩ := sh9 h3
 obtain ⟨v4,rfl⟩ := sh4 h4
 obtain ⟨v5,rfl⟩ := sh36 h5
 have e0 : iN Tryz.prog 26 (eA v0) = .agg (eA v0) := by simp only [iN,Tryz.underlying26]
 rw [e0] at hN ⊢
 have e1 : iN Tryz.prog 28 [.list 87 (v1.map bV)] = .list 87 (v1.map bV) := by simp only [iN,Tryz.underlying28]; rfl
 rw [e1] at hN ⊢
 have e2 : iN Tryz.prog 35 (aX v2) = .agg (aX v2) := by simp only [iN,Tryz.underlying35]
 rw [cK] at e2
 rw [cK v2,e2] at hN ⊢
 have e3 : iN Tryz.prog 9 [.str v3] = .str v3 := by simp only [iN,Tryz.underlying9]; rfl
 rw [e3] at hN ⊢
 have e4 : iN Tryz.prog 4 [aE v4] = aE v4 := by simp only [iN,Tryz.underlying4]; rfl
 rw [e4] at hN ⊢
 have e5 : iN Tryz.prog 36 [.list 53 (v5.map ab)] = .list 53 (v5.map ab) := by simp only [iN,Tryz.underlying36]; rfl
 rw [e5] at hN ⊢
 simp only [cg,PV.bulk] at hN
 have hs0 : lQ v0 := smallS_bulk (n := 1048576) (by omega) (by omega)
 have hq2 : TinyQ v2 := tiny_bulk (n := 1048576) (by omega) (by omega)
 exact lG v0 v1 v2 v3 v4 v5 true (sort_law hs0 v1 hq2 v3 v4 v5)
set_option maxRecDepth 100000 in
theorem law_wf : (fun (P : Program) (f : FuncId) (fn : Func) (s : ChangeSpec) (c : OpenClaim)=>(P.funcs.size,f,fn.params.size,s.name,c.func,c.wf (OpenSpec.ofChange s)).2.2.2.2.2) Tryz.prog 13 Tryz.f13 (Rows.OpenSpec.upto Rows.querySortOrdersRowsSpec).bare Rows.querySortOrdersRowsUptoRow = true := by kernel_rfl
set_option maxRecDepth 100000 in
theorem law_laid : (fun (P : Program) (f : FuncId) (fn : Func) (s : ChangeSpec) (c : OpenClaim)=>(P.funcs.size,f,fn.params.size,s.name,c.func,laidOutB P).2.2.2.2.2) Tryz.prog 13 Tryz.f13 (Rows.OpenSpec.upto Rows.querySortOrdersRowsSpec).bare Rows.querySortOrdersRowsUptoRow = true := by kernel_rfl
set_option maxRecDepth 100000 in
theorem law_mapsRowed : (fun (P : Program) (f : FuncId) (fn : Func) (s : ChangeSpec) (c : OpenClaim)=>(P.funcs.size,f,fn.params.size,s.name,c.func,mapsRowed P).2.2.2.2.2) Tryz.prog 13 Tryz.f13 (Rows.OpenSpec.upto Rows.querySortOrdersRowsSpec).bare Rows.querySortOrdersRowsUptoRow = true := by kernel_rfl
set_option maxRecDepth 100000 in
theorem law_rr : (fun (P : Program) (f : FuncId) (fn : Func) (s : ChangeSpec) (c : OpenClaim)=>(P.funcs.size,f,fn.params.size,s.name,c.func,fn.params.all (P.readableRec ·)).2.2.2.2.2) Tryz.prog 13 Tryz.f13 (Rows.OpenSpec.upto Rows.querySortOrdersRowsSpec).bare Rows.querySortOrdersRowsUptoRow = true := by kernel_rfl
set_option maxRecDepth 100000 in
theorem law_nt : (fun (P : Program) (f : FuncId) (fn : Func) (s : ChangeSpec) (c : OpenClaim)=>(P.funcs.size,f,fn.params.size,s.name,c.func,namedTie P c.named s.vars).2.2.2.2.2) Tryz.prog 13 Tryz.f13 (Rows.OpenSpec.upto Rows.querySortOrdersRowsSpec).bare Rows.querySortOrdersRowsUptoRow = true := by kernel_rfl
set_option maxRecDepth 100000 in
theorem law_st : (fun (P : Program) (f : FuncId) (fn : Func) (s : ChangeSpec) (c : OpenClaim)=>(P.funcs.size,f,fn.params.size,s.name,c.func,(c.stops == []) && (P.stops == []) && (c.knobs == []) && (P.stopKnobs == [])).2.2.2.2.2) Tryz.prog 13 Tryz.f13 (Rows.OpenSpec.upto Rows.querySortOrdersRowsSpec).bare Rows.querySortOrdersRowsUptoRow = true := by kernel_rfl
set_option maxRecDepth 100000 in
theorem law_inPlace : (fun (P : Program) (f : FuncId) (fn : Func) (s : ChangeSpec) (c : OpenClaim)=>(P.funcs.size,f,fn.params.size,s.name,c.func,c.inPlace == P.inPlace f).2.2.2.2.2) Tryz.prog 13 Tryz.f13 (Rows.OpenSpec.upto Rows.querySortOrdersRowsSpec).bare Rows.querySortOrdersRowsUptoRow = true := by kernel_rfl
set_option maxRecDepth 100000 in
theorem law_unf : (fun (P : Program) (f : FuncId) (fn : Func) (s : ChangeSpec) (c : OpenClaim)=>(P.funcs.size,f,fn.params.size,s.name,c.func,c.unfollowed == P.unfollowed f).2.2.2.2.2) Tryz.prog 13 Tryz.f13 (Rows.OpenSpec.upto Rows.querySortOrdersRowsSpec).bare Rows.querySortOrdersRowsUptoRow = true := by kernel_rfl
set_option maxRecDepth 100000 in
theorem law_rec : (fun (P : Program) (f : FuncId) (fn : Func) (s : ChangeSpec) (c : OpenClaim)=>(P.funcs.size,f,fn.params.size,s.name,c.func,c.recurses == P.recurses f).2.2.2.2.2) Tryz.prog 13 Tryz.f13 (Rows.OpenSpec.upto Rows.querySortOrdersRowsSpec).bare Rows.querySortOrdersRowsUptoRow = true := by kernel_rfl
set_option maxRecDepth 100000 in
theorem law_named : (fun (P : Program) (f : FuncId) (fn : Func) (s : ChangeSpec) (c : OpenClaim)=>(P.funcs.size,f,fn.params.size,s.name,c.func,c.named == P.varsNamed f).2.2.2.2.2) Tryz.prog 13 Tryz.f13 (Rows.OpenSpec.upto Rows.querySortOrdersRowsSpec).bare Rows.querySortOrdersRowsUptoRow = true := by kernel_rfl
set_option maxRecDepth 100000 in
theorem law_maps : (fun (P : Program) (f : FuncId) (fn : Func) (s : ChangeSpec) (c : OpenClaim)=>(P.funcs.size,f,fn.params.size,s.name,c.func,(c.maps == (fn.params.toList ++ s.plain.varTypes P).any (P.mapsRec ·)) && (c.ifaces == (fn.params.toList ++ s.plain.varTypes P).any (P.ifacesRec ·)) && (c.mapsOut == P.mapsAmong fn.resultTypes.toList)).2.2.2.2.2) Tryz.prog 13 Tryz.f13 (Rows.OpenSpec.upto Rows.querySortOrdersRowsSpec).bare Rows.querySortOrdersRowsUptoRow = true := by kernel_rfl
set_option maxRecDepth 100000 in
theorem law_loops : (fun (P : Program) (f : FuncId) (fn : Func) (s : ChangeSpec) (c : OpenClaim)=>(P.funcs.size,f,fn.params.size,s.name,c.func,(c.loops == (fn.params.toList ++ s.plain.varTypes P).any (P.loopsFrom ·))).2.2.2.2.2) Tryz.prog 13 Tryz.f13 (Rows.OpenSpec.upto Rows.querySortOrdersRowsSpec).bare Rows.querySortOrdersRowsUptoRow = true := by kernel_rfl
set_option maxRecDepth 100000 in
theorem law_wide : (fun (P : Program) (f : FuncId) (fn : Func) (s : ChangeSpec) (c : OpenClaim)=>(P.funcs.size,f,fn.params.size,s.name,c.func,(c.wideKeys == (fn.params.toList ++ s.plain.varTypes P ++ fn.resultTypes.toList).any (P.wideKeysFrom ·))).2.2.2.2.2) Tryz.prog 13 Tryz.f13 (Rows.OpenSpec.upto Rows.querySortOrdersRowsSpec).bare Rows.querySortOrdersRowsUptoRow = true := by kernel_rfl
set_option maxRecDepth 100000 in
theorem law_rest1 : (fun (P : Program) (f : FuncId) (fn : Func) (s : ChangeSpec) (c : OpenClaim)=>(P.funcs.size,f,fn.params.size,s.name,c.func,s.vars.all (P.varReadable ·) && fn.resultTypes.all (fun t=>P.readableRec t && decide (t < P.types.size)) && (c.ifacesOut == fn.resultTypes.toList.any (P.ifacesRec ·)) && (c.loopsOut == fn.resultTypes.toList.any (P.loopsFrom ·))).2.2.2.2.2) Tryz.prog 13 Tryz.f13 (Rows.OpenSpec.upto Rows.querySortOrdersRowsSpec).bare Rows.querySortOrdersRowsUptoRow = true := by kernel_rfl
set_option maxRecDepth 100000 in
theorem law_plainKeys : (fun (P : Program) (f : FuncId) (fn : Func) (s : ChangeSpec) (c : OpenClaim)=>(P.funcs.size,f,fn.params.size,s.name,c.func,c.plainKeys == P.plainKeys).2.2.2.2.2) Tryz.prog 13 Tryz.f13 (Rows.OpenSpec.upto Rows.querySortOrdersRowsSpec).bare Rows.querySortOrdersRowsUptoRow = true := by kernel_rfl
set_option maxRecDepth 100000 in
theorem law_rest2 : (fun (P : Program) (f : FuncId) (fn : Func) (s : ChangeSpec) (c : OpenClaim)=>(P.funcs.size,f,fn.params.size,s.name,c.func,c.shortTexts.isNone && P.stopsHeard && P.mayEnter && (c.lifted == P.liftsFinal) && (P.make == some c.make)).2.2.2.2.2) Tryz.prog 13 Tryz.f13 (Rows.OpenSpec.upto Rows.querySortOrdersRowsSpec).bare Rows.querySortOrdersRowsUptoRow = true := by kernel_rfl
set_option maxRecDepth 100000 in
theorem law_kinds : (fun (P : Program) (f : FuncId) (fn : Func) (s : ChangeSpec) (c : OpenClaim)=>(P.funcs.size,f,fn.params.size,s.name,c.func,(c.kinds == (if c.domain.isEmpty then [] else fn.params.toList.map fun t=>match P.underlying t with | some (.int k)=>some k | _=>none)) && (c.pinned == c.pinnedBy)).2.2.2.2.2) Tryz.prog 13 Tryz.f13 (Rows.OpenSpec.upto Rows.querySortOrdersRowsSpec).bare Rows.querySortOrdersRowsUptoRow = true := by kernel_rfl
set_option maxRecDepth 100000 in
theorem law_veil : (fun (P : Program) (f : FuncId) (fn : Func) (s : ChangeSpec) (c : OpenClaim)=>(P.funcs.size,f,fn.params.size,s.name,c.func,(c.veiled == (fn.params.toList ++ s.plain.varTypes P ++ fn.resultTypes.toList).any (P.veiledRec ·)) && c.veiledFits P fn.params.toList (fn.params.toList ++ s.plain.varTypes P ++ fn.resultTypes.toList)).2.2.2.2.2) Tryz.prog 13 Tryz.f13 (Rows.OpenSpec.upto Rows.querySortOrdersRowsSpec).bare Rows.querySortOrdersRowsUptoRow = true := by kernel_rfl
set_option maxRecDepth 100000 in
theorem law_facts : joinedFacts Tryz.prog 13 Tryz.f13 (Rows.OpenSpec.upto Rows.querySortOrdersRowsSpec).bare Rows.querySortOrdersRowsUptoRow = true := joined_of law_wf law_laid law_mapsRowed law_rr law_nt law_st law_inPlace law_unf law_rec law_named law_maps law_loops law_wide law_rest1 law_plainKeys law_rest2 law_kinds law_veil
set_option maxRecDepth 100000 in
theorem law_lifted (os : Os) (started : os.Started) (H : Type) (enc : TypeId × Value → H) (F : Stop.Interp) :
  ReturnsInHanded {} Tryz.checked os 13 .any ((Rows.OpenSpec.upto Rows.querySortOrdersRowsSpec).pre6 enc Tryz.prog Tryz.f13 Rows.querySortOrdersRowsUptoRow.domain false) (((Rows.OpenSpec.upto Rows.querySortOrdersRowsSpec).at F).post enc Tryz.prog Tryz.f13 false true false false) := by
 refine returnsInHanded_of_cond_sized (C := Tryz.checked) (s := Rows.OpenSpec.upto Rows.querySortOrdersRowsSpec) (k := Rows.uptoSmall) rfl own_knob started (by kernel_rfl) Tryz.func13
  (OpenSpec.witness (enc := enc) (C := Tryz.checked) (s := Rows.OpenSpec.upto Rows.querySortOrdersRowsSpec) (k := Rows.uptoSmall) rfl false ⟨#[],#[.agg #[.slice none 0 0,.slice none 0 0,.slice none 0 0],.slice none 0 0,.agg #[.int .i64 0,.string ⟨#[]⟩,.slice none 0 0,.slice none 0 0,.slice none 0 0,.slice none 0 0,.int .i64 0,.int .i64 0,.slice none 0 0],.string ⟨#[]⟩,.bool false,.slice none 0 0],[]⟩ 8 (by kernel_rfl) (by kernel_rfl) (by kernel_rfl)
   (x := ([.agg [.nil,.nil,.nil],.nil,.agg [.lit (.int .i64 0),.lit (.string []),.nil,.nil,.nil,.nil,.lit (.int .i64 0),.lit (.int .i64 0),.nil],.lit (.string []),.lit (.bool false),.nil],[],[])) (by kernel_rfl) rfl (by kernel_rfl)) ?_
 intro W base args ds gs before hval hW _ hk hsz _
 have hN : ((ds ++ gs).map (fun d=>Rows.uptoBulk d)).sum ≤ 1048576 := by
  rw [oY]; exact of_decide_eq_true hk
 refine law_callsB (s := Rows.querySortOrdersRowsSpec) (tb := 4) bulk_is laid_out rfl ?_ rfl Tryz.underlying4 ?_ lawTypes_ok lawTypes_info ?_ law_args hval hW hsz hN
 ·rw [Tryz.params13]
  intro t ht
  simp only [List.mem_cons,List.mem_nil_iff,or_false] at ht
  rcases ht with rfl | rfl | rfl | rfl | rfl | rfl <;> exact ⟨by kernel_rfl,of_decide_eq_true (by kernel_rfl)⟩
 ·intro ds hlen
  rw [Tryz.params13] at hlen
  match ds,hlen with
  | [d0,d1,d2,d3,d4,d5],_=>rfl
 ·rw [Tryz.params13]
  intro t ht
  simp only [List.mem_cons,List.mem_nil_iff,or_false] at ht
  rcases ht with rfl | rfl | rfl | rfl | rfl | rfl <;> simp [lawTypes]
theorem querySortOrdersRowsUpto_holds : Rows.QuerySortOrdersRowsUptoSaid :=
 OpenClaim.holds_of_cond 13 Tryz.f13 rfl rfl rfl rfl rfl rfl rfl ⟨rfl,rfl,rfl,rfl,rfl⟩ rfl rfl rfl rfl rfl (by kernel_rfl) Tryz.func13 law_facts
  (of_decide_eq_true (by kernel_rfl)) (by unfold Func.isWrapper; rw [zy (by decide +kernel)]; exact ⟨rfl,rfl⟩)
  (fun os started H enc _ F=>law_lifted os started H enc F)
end
end Go.Proofs.YtgaggbdcedpapaaGreat
