/- queryCloneIsIndependentUpto_holds, part 6: the layer, the plain functions and what they compute; conditions as in the statement. -/
import Derived.Test.YtioonpnnfepffaaGreatCie
set_option maxHeartbeats 4000000
namespace Go.Proofs.YtioonpnnfepffaaGreat
noncomputable section
open Go Go.Ab
theorem val_eq (x y : LVal) : (x.kind == y.kind && (x.int == y.int && (x.text == y.text && true))) = decide (x = y) := by
 obtain ⟨a,b,c⟩ := x
 obtain ⟨a',b',c'⟩ := y
 by_cases h : (⟨a,b,c⟩ : LVal) = ⟨a',b',c'⟩
 ·rw [zt h]; cases h; simp
 ·rw [zf h]
  by_cases h1 : a = a'
  ·by_cases h2 : b = b'
   ·have h3 : c ≠ c' := fun h3=>h (by rw [h1,h2,h3])
    have : (c == c') = false := by simpa using h3
    simp [this]
   ·simp [dg h2]
  ·simp [dg h1]
theorem equalRow (x y : Rq) : cw x y = some (decide (x = y)) := by
 unfold cw
 by_cases hl : x.length = y.length
 ·rw [nH,zt hl,Bool.not_true,zd]
  obtain ⟨fl,hfl,hr⟩ := eI (step := fun (j1 : Nat) (x1 : LVal) (_ : Unit)=>ae (aK y (j1 : Int)) fun (x22 : LVal)=>cond (!(x1.kind == x22.kind && (x1.int == x22.int && (x1.text == x22.text && true)))) (some (Flow.ret false)) (some (.next ())))
   (fun j _=>x.take j = y.take j) (fun r=>r = false ∧ x ≠ y) x 0 () (by simp) (fun k v s hk hI=>by
    simp only [Nat.zero_add] at hI ⊢
    have hkl := (zg.1 hk).1
    rw [gU (by omega),bPs,val_eq]
    by_cases hv : v = y[k]
    ·rw [zt hv]
     refine ⟨_,rfl,?_⟩
     simp only
     rw [List.take_add_one,List.take_add_one,hk,ze (by omega),hI,hv]
    ·rw [zf hv]
     refine ⟨_,rfl,rfl,fun he=>hv ?_⟩
     subst he
     exact (zg.1 hk).2.symm)
  rw [hfl,bPs]
  cases fl with
  | brk s=>exact absurd hr (by simp)
  | ret r=>rw [nx,hr.1,zf hr.2]
  | next s =>
   simp only [Nat.zero_add,List.take_length] at hr
   rw [hl,List.take_length] at hr
   rw [iV,zt hr]
 ·rw [nH,zf hl,zf (fun h=>hl (by rw [h]))]
  rfl
theorem idxO (l : Rows) (p : Rq → Bool) (f : Rq → Option Bool) (hf : ∀ x ∈ l,f x = some (p x)) (hl : l.length ≤ 10000000) : bM l f = some (bf p l,l) := by
 unfold bM
 rw [jX (by omega),bPs,Int.toNat_natCast]
 obtain ⟨fl,hfl,hr⟩ := eI (step := fun (j1 : Nat) (_ : Nat) (s1 : Rows)=>ae (aK s1 (j1 : Int)) fun (x14 : Rq)=>ae (f x14) fun x16=>cond x16 (some (Flow.ret ((j1 : Int),s1))) (some (.next s1)))
  (fun j s=>s = l ∧ ∀ x ∈ l.take j,p x = false) (fun r=>r = (bf p l,l)) (List.range l.length) 0 l ⟨rfl,by simp⟩ (fun k v s hk hI=>by
   simp only [Nat.zero_add] at hI ⊢
   have hkl := (zg.1 hk).1
   simp at hkl
   obtain ⟨rfl,hI⟩ := hI
   rw [gU hkl,bPs,hf _ (List.getElem_mem hkl),bPs]
   cases hp : p s[k] with
   | true=>exact ⟨_,rfl,by simp only; rw [nW hkl hI hp]⟩
   | false =>
    refine ⟨_,rfl,rfl,fun x hx=>?_⟩
    rw [List.take_add_one,ze hkl,List.mem_append] at hx
    rcases hx with hx | hx
    ·exact hI x hx
    ·simp at hx
     rw [hx]
     exact hp)
 rw [hfl,bPs]
 cases fl with
 | brk s=>exact absurd hr (by simp)
 | ret r=>rw [nx,hr]
 | next s =>
  simp only [Nat.zero_add,List.length_range,List.take_length] at hr
  rw [iV,hr.1,kl hr.2]
theorem deleteFunc_eq (l : Rows) (p : Rq → Bool) (f : Rq → Option Bool) (hf : ∀ x ∈ l,f x = some (p x)) (hl : l.length ≤ 1000000) : dh l f = some (l.filter fun x=>!p x) := by
 unfold dh
 rw [idxO l p f hf (by omega),bPs]
 simp only
 rw [ec trivial,bPs]
 by_cases hneg : bf p l = -1
 ·rw [lc hneg,zc]
  congr 1
  symm
  rw [List.filter_eq_self]
  intro x hx
  have : decide (bf p l ≥ 0) = false := by rw [hneg]; rfl
  rw [iT] at this
  have := List.any_eq_false.1 this x hx
  simpa using this
 ·rw [dg hneg,zd]
  have h0 : 0 ≤ bf p l := by rcases idxOf_neg (p := p) (l := l) with h | h; exact absurd h hneg; exact h
  obtain ⟨i,hi⟩ : ∃ i : Nat,bf p l = i := ⟨(bf p l).toNat,by omega⟩
  have hil : i < l.length := by have := nX h0; omega
  have hpre : (l.take i).filter (fun x=>!p x) = l.take i := by
   rw [List.filter_eq_self]
   intro x hx
   have : l.findIdx? p = some i := by
    unfold bf at hi
    cases hq : l.findIdx? p with
    | none=>rw [hq] at hi; simp at hi
    | some j=>rw [hq] at hi; exact congrArg some (by have hi : (j : Int) = (i : Int) := hi; omega)
   obtain ⟨_,_,hlt⟩ := List.findIdx?_eq_some_iff_getElem.1 this
   obtain ⟨j,hj,rfl⟩ := List.mem_take_iff_getElem.1 hx
   simp [hlt j (by omega)]
  have hpi : p l[i] = true := by
   obtain ⟨x,hx,hp⟩ := ni h0
   rw [hi,Int.toNat_natCast,ze hil] at hx
   cases hx
   exact hp
  rw [hi,bD (n := (i : Int) + 1) (by omega) (by omega)]
  obtain ⟨r,hr,hq⟩ := gC (step := fun (s1 : Rows × Int × Int) =>
   cond (decide (s1.2.2 < (s1.1.length : Int)))
    (ae (aK s1.1 s1.2.2) fun (x24 : Rq)=>ae (f x24) fun x28=>cond (!x28) (ae (aK s1.1 s1.2.1) fun (_ : Rq)=>br (s1.1.set s1.2.1.toNat x24) fun (y4 : Rows)=>some (.next (y4,(IntKind.i64.wrap (s1.2.1 + (1 : Int))),(IntKind.i64.wrap (s1.2.2 + (1 : Int))))))
     (some (.next (s1.1,s1.2.1,(IntKind.i64.wrap (s1.2.2 + (1 : Int)))))))
    (some (.brk (s1.1,s1.2.1,s1.2.2)))) (s := (l,(i : Int),(i : Int) + 1)) (k := fun (s1 : Rows × Int × Int)=>ae (cutI s1.1 s1.2.1) fun (y5 : Rows)=>ae (cutI y5 s1.2.1) fun (y6 : Rows)=>some y6) (R := fun r=>r = l.filter fun x=>!p x)
   (fun s=>∃ a j : Nat,s.2.1 = a ∧ s.2.2 = j ∧ a < j ∧ j ≤ l.length ∧ s.1.length = l.length ∧ s.1.take a = (l.take j).filter (fun x=>!p x) ∧ s.1.drop j = l.drop j) (fun s=>(l.length - s.2.2).toNat)
   (fun s=>∃ a : Nat,s.2.1 = a ∧ a ≤ s.1.length ∧ s.1.take a = l.filter fun x=>!p x)
   ⟨i,i + 1,rfl,by show (i : Int) + 1 = ((i + 1 : Nat) : Int); omega,by omega,by omega,rfl,by
    show l.take i = _
    rw [List.take_add_one,ze hil,List.filter_append,hpre]
    simp [hpi],rfl⟩
   (fun s hI=>by
    obtain ⟨a,j,h1,h2,h3,h4,h5,h6,h7⟩ := hI
    obtain ⟨d,s1,s2⟩ := s
    simp only at h1 h2 h5 h6 h7 ⊢
    subst h1
    subst h2
    by_cases hlt : j < l.length
    ·rw [zt (show (j : Int) < (d.length : Int) from by omega),zc,gU (by omega),bPs]
     have hdj : d[j]? = l[j]? := by
      have := congrArg (fun q=>q[0]?) h7
      simpa using this
     have hdje : d[j] = l[j] := by
      rw [ze (by omega),ze hlt] at hdj
      exact Option.some.inj hdj
     have hdrop : ∀ e : Rows,e.drop j = l.drop j → e.drop (j + 1) = l.drop (j + 1) := fun e he=>by
      rw [← List.drop_drop,← List.drop_drop,he]
     rw [hdje,hf _ (List.getElem_mem hlt),bPs,bD (n := (j : Int) + 1) (by omega) (by omega),bD (n := (a : Int) + 1) (by omega) (by omega)]
     cases hp : p l[j] with
     | true =>
      refine ⟨_,rfl,⟨a,j + 1,rfl,by show (j : Int) + 1 = ((j + 1 : Nat) : Int); omega,by omega,by omega,h5,?_,hdrop d h7⟩,by show ((l.length : Int) - ((j : Int) + 1)).toNat < ((l.length : Int) - (j : Int)).toNat; omega⟩
      show d.take a = _
      rw [h6,List.take_add_one,ze hlt,List.filter_append]
      simp [hp]
     | false =>
      simp only [Bool.not_false,zc]
      rw [gU (by omega),bPs,bQ,Int.toNat_natCast]
      refine ⟨_,rfl,⟨a + 1,j + 1,by show (a : Int) + 1 = ((a + 1 : Nat) : Int); omega,by show (j : Int) + 1 = ((j + 1 : Nat) : Int); omega,by omega,by omega,by show (d.set a l[j]).length = l.length; simp [h5],?_,?_⟩,by show ((l.length : Int) - ((j : Int) + 1)).toNat < ((l.length : Int) - (j : Int)).toNat; omega⟩
      ·show (d.set a l[j]).take (a + 1) = _
       rw [List.take_add_one,List.getElem?_set_self (by omega),List.take_set_of_le (by omega),h6,List.take_add_one,ze hlt,List.filter_append]
       simp [hp]
      ·show (d.set a l[j]).drop (j + 1) = _
       rw [List.drop_set_of_lt (by omega)]
       exact hdrop d h7
    ·rw [zf (show ¬ (j : Int) < (d.length : Int) from by omega)]
     refine ⟨_,rfl,a,rfl,by show a ≤ d.length; omega,?_⟩
     show d.take a = _
     rw [h6,List.take_of_length_le (by omega)])
   (fun s hq=>by
    obtain ⟨a,h1,h2,h3⟩ := hq
    rw [h1]
    unfold cutI
    rw [zp ⟨by omega,by simpa using h2⟩,bPs,Int.toNat_natCast,zp ⟨by omega,by simp; omega⟩,bPs,List.take_take,Nat.min_self]
    exact ⟨_,rfl,h3⟩)
  rw [← hq]
  exact hr
def lq : Rows → Rows → Rows
 | [],_=>[]
 | x :: a,left=>if x ∈ left then lq a (left.erase x) else x :: lq a left
theorem erase_idx {α : Type} [BEq α] [LawfulBEq α] [DecidableEq α] {l : List α} {x : α} {i : Nat} (h : l.findIdx? (fun y=>decide (x = y)) = some i) : l.take i ++ l.drop (i + 1) = l.erase x := by
 induction l generalizing i with
 | nil=>simp at h
 | cons a l ih =>
  rw [List.findIdx?_cons] at h
  by_cases hx : x = a
  ·subst hx; simp at h; subst h; simp
  ·have e : decide (x = a) = false := zf hx
   rw [e] at h
   simp only [Bool.false_eq_true,if_false,Option.map_eq_some_iff] at h
   obtain ⟨j,hj,rfl⟩ := h
   have hne : (a == x) = false := by simp; exact fun h=>hx h.symm
   rw [List.erase_cons,hne]
   simp [ih hj]
theorem less_run : ∀ (a : Rows) (j : Nat) (left out : Rows),left.length ≤ 1000000 → out.length + a.length ≤ 1000000 →
  aD (σ := Rows × Rows) (ρ := Empty) (fun (_ : Nat) (x1 : Rq) (s1 : Rows × Rows) =>
  ae (bM s1.1 (fun a0=>iZ a0 x1)) fun x20 =>
  ae (fe (x20.2.length = s1.1.length) ()) fun (_ : Unit) =>
  cond (decide (x20.1 ≥ (0 : Int)))
   (ae (delI x20.2 x20.1 (IntKind.i64.wrap (x20.1 + (1 : Int)))) fun x27 =>
   some (.next (x27,s1.2)))
   (ae (cy 24 s1.2 ([x1] : Rz)) fun (x31 : Rz) =>
   some (.next (x20.2,x31)))) j a (left,out) = some (.next ((a.foldl (fun l x=>l.erase x) left),out ++ lq a left))
 | [],j,left,out,_,_=>by simp [aD,lq]
 | x :: a,j,left,out,hl,ho=>by
  rw [aD,idxO left (fun y=>decide (x = y)) _ (fun y _=>by unfold iZ; rw [equalRow]; rfl) (by omega),bPs]
  simp only
  rw [ec trivial,bPs,lq,List.foldl_cons]
  by_cases hx : x ∈ left
  ·have hany : decide (bf (fun y=>decide (x = y)) left ≥ 0) = true := by rw [iT,List.any_eq_true]; exact ⟨x,hx,by simp⟩
   rw [hany,zc,zp hx]
   have h0 := of_decide_eq_true hany
   unfold bf at h0 ⊢
   cases hq : left.findIdx? (fun y=>decide (x = y)) with
   | none=>rw [hq] at h0; simp at h0
   | some i =>
    have hil := (List.findIdx?_eq_some_iff_getElem.1 hq).1
    simp only
    rw [bD (by omega) (by omega)]
    have hd : delI left (i : Int) ((i : Int) + 1) = some (left.erase x) := by
     unfold delI
     rw [zp ⟨by omega,by omega,by omega⟩,show ((i : Int)).toNat = i from rfl,show ((i : Int) + 1).toNat = i + 1 from by omega,erase_idx hq]
    rw [hd,bPs]
    exact less_run a (j + 1) (left.erase x) out (by have := List.length_erase_le (a := x) (l := left); omega) (by simp at ho; omega)
  ·have hany : decide (bf (fun y=>decide (x = y)) left ≥ 0) = false := by
    rw [iT,List.any_eq_false]
    intro y hy he
    have : x = y := by simpa using he
    exact hx (this ▸ hy)
   rw [hany,zd,zy hx,bN (by decide) (by simp at ho ⊢; omega),bPs]
   simp only
   rw [less_run a (j + 1) left _ hl (by simp at ho ⊢; omega),List.erase_of_not_mem hx]
   simp
theorem less_eq (a b : Rows) (ha : a.length ≤ 1000000) (hb : b.length ≤ 1000000) : kG a b = some (lq a b) := by
 unfold kG
 rw [less_run a 0 b [] hb (by simpa using ha),bPs,bI]
 rfl
theorem qG : ∀ (a b : Rows),(lq a b).Sublist a
 | [],_=>by simp [lq]
 | x :: a,b=>by
  rw [lq]
  split
  ·exact (qG a _).cons x
  ·exact (qG a b).cons_cons x
theorem concat2 (x y : Rq) (hx : x.length ≤ 1000000) (hy : y.length ≤ 1000000) : bV [x,y] = some (x ++ y) := by
 unfold bV
 simp only [aD,Int.zero_add]
 rw [bD (n := (x.length : Int)) (by omega) (by omega),zf (show ¬ (x.length : Int) < 0 from by omega)]
 simp only [zd]
 rw [bD (n := (x.length : Int) + (y.length : Int)) (by omega) (by omega),zf (show ¬ (x.length : Int) + (y.length : Int) < 0 from by omega)]
 simp only [zd,bPs,bI]
 rw [growI_ok ⟨by omega,by omega,by unfold maxLen; omega⟩,bPs,bN (by decide) (by simp; omega),bPs]
 simp only [List.nil_append]
 rw [bN (by decide) (by omega)]
 rfl
def hZ (f : Rq → Bool) (x : Rq) (b : Rows) : Rows := (b.map fun y=>x ++ y).filter f
def padR (f : Rq → Bool) (left : Bool) (pad x : Rq) (b : Rows) : Rows := if left = true ∧ hZ f x b = [] then [x ++ pad] else hZ f x b
def kg (f : Rq → Bool) (left : Bool) (pad : Rq) (a b : Rows) : Rows := (a.map fun x=>padR f left pad x b).flatten
theorem match_run (f : Rq → Bool) (e : LExpr) (r : LRun) (cols : List LCol) (ex : List LExpr) (he : aK ex 0 = some e) (hf : ∀ z,kV (cM (bw r cols z) e) = f z) (x : Rq) (hx : x.length ≤ 1000)
  (b : Rows) (out : Rows) (found : Bool) (hb : ∀ y ∈ b,y.length ≤ 1000) (ho : out.length + b.length ≤ 1000000) :
  aD (σ := Rows × Bool) (ρ := Empty) (fun (_ : Nat) (x6 : Rq) (s6 : Rows × Bool) =>
   ae (bV ([x,x6] : Rows)) fun x58 =>
   ae (aK ex 0) fun (x65 : LExpr) =>
   br (bw r cols x58) fun x62 =>
   br (cM x62 x65) fun x67 =>
   br (kV x67) fun x68 =>
   cond x68
    (ae (cy 24 s6.1 ([x58] : Rows)) fun (x72 : Rows)=>some (.next (x72,true)))
    (some (.next (s6.1,s6.2)))) 0 b (out,found) = some (.next (out ++ hZ f x b,found || !(hZ f x b).isEmpty)) := by
 rw [rMa (xs := b) (s := (out,found)) (fun k=>(out ++ hZ f x (b.take k),found || !(hZ f x (b.take k)).isEmpty)) (by simp [hZ]) (fun k y hk=>by
  have hkl := (zg.1 hk).1
  have hm : (hZ f x (b.take k)).length ≤ k := by unfold hZ; exact Nat.le_trans (List.length_filter_le _ _) (by simp; omega)
  have hs : hZ f x (b.take (k + 1)) = hZ f x (b.take k) ++ if f (x ++ y) then [x ++ y] else [] := by
   unfold hZ
   rw [List.take_add_one,hk,List.map_append,List.filter_append]
   cases h : f (x ++ y) <;> simp [h]
  rw [concat2 x y (by omega) (by have := hb y (dr hk); omega),bPs,he,bPs,hs]
  simp only [bQ,hf]
  cases hz : f (x ++ y) with
  | true =>
   rw [zc,bN (by decide) (by simp; omega),bPs]
   simp
  | false=>simp),List.take_length]
theorem padR_len (f : Rq → Bool) (left : Bool) (pad x : Rq) (b : Rows) : (padR f left pad x b).length ≤ max 1 b.length := by
 unfold padR
 split
 ·simp; omega
 ·have : (hZ f x b).length ≤ b.length := by
   unfold hZ
   exact Nat.le_trans (List.length_filter_le _ _) (by simp)
  omega
theorem qI (f : Rq → Bool) (left : Bool) (pad : Rq) (a b : Rows) : (kg f left pad a b).length ≤ a.length * max 1 b.length := by
 unfold kg
 induction a with
 | nil=>simp
 | cons x a ih =>
  have := padR_len f left pad x b
  simp only [List.map_cons,List.flatten_cons,List.length_append,List.length_cons,Nat.add_mul,Nat.one_mul]
  omega
def eU (key : Rq → Rq) : Rows → Rows → Rows
 | ks,[]=>ks
 | ks,x :: l=>eU key (if key x ∈ ks then ks else ks ++ [key x]) l
theorem keysF_app (key : Rq → Rq) : ∀ (l l' ks : Rows),eU key ks (l ++ l') = eU key (eU key ks l) l'
 | [],_,_=>rfl
 | x :: l,l',ks=>by rw [List.cons_append,eU,keysF_app key l l',eU]
theorem rz (key : Rq → Rq) : ∀ (l ks : Rows),ks.Nodup → (eU key ks l).Nodup
 | [],_,h=>h
 | x :: l,ks,h=>by
  rw [eU]
  refine rz key l _ ?_
  split
  ·exact h
  ·rename_i hx
   rw [List.nodup_append]
   exact ⟨h,by simp,fun a ha b hb hab=>by simp at hb; exact hx (hb ▸ hab ▸ ha)⟩
theorem oC (key : Rq → Rq) : ∀ (l ks : Rows) (k : Rq),k ∈ eU key ks l ↔ k ∈ ks ∨ ∃ x ∈ l,key x = k
 | [],ks,k=>by simp [eU]
 | x :: l,ks,k=>by
  rw [eU,oC key l]
  split
  ·rename_i h
   constructor
   ·rintro (h1 | ⟨y,hy,e⟩)
    ·exact .inl h1
    ·exact .inr ⟨y,by simp [hy],e⟩
   ·rintro (h1 | ⟨y,hy,e⟩)
    ·exact .inl h1
    ·rcases List.mem_cons.1 hy with rfl | hy
     ·exact .inl (e ▸ h)
     ·exact .inr ⟨y,hy,e⟩
  ·constructor
   ·rintro (h1 | ⟨y,hy,e⟩)
    ·rcases List.mem_append.1 h1 with h1 | h1
     ·exact .inl h1
     ·exact .inr ⟨x,by simp,by simp at h1; exact h1.symm⟩
    ·exact .inr ⟨y,by simp [hy],e⟩
   ·rintro (h1 | ⟨y,hy,e⟩)
    ·exact .inl (by simp [h1])
    ·rcases List.mem_cons.1 hy with rfl | hy
     ·exact .inl (by simp [e])
     ·exact .inr ⟨y,hy,e⟩
theorem oI (key : Rq → Rq) : ∀ (l ks : Rows),(eU key ks l).length ≤ ks.length + l.length
 | [],_=>by simp [eU]
 | x :: l,ks=>by
  rw [eU]
  have := oI key l (if key x ∈ ks then ks else ks ++ [key x])
  split at this
  ·rename_i h; rw [zp h]; simp; omega
  ·rename_i h; rw [zy h]; simp at this ⊢; omega
def fo (key : Rq → Rq) (l : Rows) (k : Rq) : Rows := l.filter fun x=>decide (key x = k)
theorem group_run (key : Rq → Rq) (q : LQuery) (r : LRun) (cols : List LCol) (hk : ∀ x,dy r cols x q.exprs = some (key x)) (ks0 : Rows) (hn : ks0.Nodup) (l : Rows) (hl : l.length ≤ 1000000) (hks : ks0.length ≤ 1) :
  aD (σ := Rows × List Rows) (ρ := Empty) (fun (_ : Nat) (x2 : Rq) (s2 : Rows × List Rows) =>
  ae (dy r cols x2 q.exprs) fun x38 =>
  ae (bM s2.1 (fun a0=>fZ a0 x38)) fun x41 =>
  ae (fe (x41.2.length = s2.1.length) ()) fun (_ : Unit) =>
  ae (
   cond (decide (x41.1 < (0 : Int)))
    (ae (cy 24 x41.2 ([x38] : Rows)) fun (x49 : Rows) =>
    ae (cy 24 s2.2 ([[]] : List Rows)) fun (x52 : List Rows) =>
    some (x49,x52,(x41.2.length : Int)))
    (some (x41.2,s2.2,x41.1))) fun (t7 : Rows × List Rows × Int) =>
  ae (aK t7.2.1 t7.2.2) fun (x57 : Rows) =>
  ae (cy 24 x57 ([x2] : Rows)) fun (x61 : Rows) =>
  ae (aK t7.2.1 t7.2.2) fun (_ : Rows) =>
  br (t7.2.1.set t7.2.2.toNat x61) fun (y8 : List Rows) =>
  some (.next (t7.1,y8))) 0 l (ks0,ks0.map fun _=>[]) = some (.next (eU key ks0 l,(eU key ks0 l).map (fo key l))) := by
 rw [rMa (xs := l) (s := (ks0,ks0.map fun _=>[])) (fun k=>(eU key ks0 (l.take k),(eU key ks0 (l.take k)).map (fo key (l.take k)))) (by
  show (ks0,ks0.map (fo key [])) = _
  congr 1) (fun k x hkx=>by
   have hkl := (zg.1 hkx).1
   have hlen := oI key (l.take k) ks0
   have hlen2 : (eU key ks0 (l.take k)).length ≤ 1 + k := by simp at hlen; omega
   have hnd := rz key (l.take k) ks0 hn
   have hmem : ∀ y ∈ l.take k,key y ∈ eU key ks0 (l.take k) := fun y hy=>(oC key _ _ _).2 (.inr ⟨y,hy,rfl⟩)
   have hsucc : l.take (k + 1) = l.take k ++ [x] := by rw [List.take_add_one,hkx]; rfl
   rw [hsucc,keysF_app]
   generalize hK : eU key ks0 (l.take k) = K at *
   have hgl : ∀ kk,(fo key (l.take k) kk).length ≤ k := fun kk=>by
    unfold fo
    exact Nat.le_trans (List.length_filter_le _ _) (by simp; omega)
   rw [hk x,bPs,idxO K (fun y=>decide (key x = y)) _ (fun y _=>by unfold fZ; rw [equalRow]; rfl) (by omega),bPs]
   simp only
   rw [ec trivial,bPs]
   have hg : ∀ kk,fo key (l.take k ++ [x]) kk = fo key (l.take k) kk ++ if key x = kk then [x] else [] := fun kk=>by
    unfold fo
    rw [List.filter_append]
    congr 1
    by_cases h : key x = kk <;> simp [h]
   by_cases hx : key x ∈ K
   ·have hany : decide (bf (fun y=>decide (key x = y)) K < 0) = false := by
     have : decide (bf (fun y=>decide (key x = y)) K ≥ 0) = true := by rw [iT,List.any_eq_true]; exact ⟨_,hx,by simp⟩
     have := of_decide_eq_true this
     exact zf (by omega)
    have h0 : 0 ≤ bf (fun y=>decide (key x = y)) K := by have := of_decide_eq_false hany; omega
    obtain ⟨i,hi⟩ : ∃ i : Nat,bf (fun y=>decide (key x = y)) K = i := ⟨(bf (fun y=>decide (key x = y)) K).toNat,by omega⟩
    obtain ⟨z,hz,hzk⟩ := ni h0
    rw [hi,Int.toNat_natCast] at hz
    have hzk : key x = z := by simpa using hzk
    subst hzk
    have hiK := (zg.1 hz).1
    rw [hany,zd,bPs,hi]
    simp only
    have hgi : (K.map (fo key (l.take k)))[i]? = some (fo key (l.take k) (key x)) := by rw [List.getElem?_map,hz]; rfl
    rw [gL hgi,bPs,bN (by decide) (by have := hgl (key x); simp; omega),bPs,bPs,bQ,Int.toNat_natCast]
    congr 3
    ·simp [eU,hx]
    ·have hkk : eU key K [x] = K := by simp [eU,hx]
     rw [hkk]
     apply List.ext_getElem?
     intro j
     rw [List.getElem?_set,List.getElem?_map]
     by_cases hij : i = j
     ·subst hij
      rw [zp rfl,zp (by simpa using hiK),List.getElem?_map,hz,Option.map_some,hg,zp rfl]
     ·rw [zy hij,List.getElem?_map]
      cases hj : K[j]? with
      | none=>rfl
      | some w =>
       simp only [Option.map_some]
       have hne : key x ≠ w := fun he=>by
        subst he
        have hjK := (zg.1 hj).1
        rw [List.nodup_iff_pairwise_ne,List.pairwise_iff_getElem] at hnd
        have e1 := (zg.1 hz).2
        have e2 := (zg.1 hj).2
        rcases Nat.lt_or_gt_of_ne hij with h | h
        ·exact hnd i j hiK hjK h (by rw [e1,e2])
        ·exact hnd j i hjK hiK h (by rw [e1,e2])
       rw [hg,zy hne,List.append_nil]
   ·have hany : decide (bf (fun y=>decide (key x = y)) K < 0) = true := by
     have : decide (bf (fun y=>decide (key x = y)) K ≥ 0) = false := by
      rw [iT,List.any_eq_false]
      intro y hy he
      have : key x = y := by simpa using he
      exact hx (this ▸ hy)
     have := of_decide_eq_false this
     exact zt (by omega)
    rw [hany,zc,bN (by decide) (by simp; omega),bPs,bN (by decide) (by simp; omega),bPs,bPs]
    simp only
    have hgi : (K.map (fo key (l.take k)) ++ [[]])[K.length]? = some [] := by
     rw [List.getElem?_append_right (by simp),zl,Nat.sub_self]; rfl
    rw [gL hgi,bPs,bN (by decide) (by simp),bPs,bPs,bQ,Int.toNat_natCast]
    have hkk : eU key K [x] = K ++ [key x] := by simp [eU,hx]
    rw [hkk]
    congr 3
    have hold : fo key (l.take k) (key x) = [] := by
     unfold fo
     rw [List.filter_eq_nil_iff]
     intro y hy he
     have : key y = key x := by simpa using he
     exact hx (this ▸ hmem y hy)
    rw [List.map_append,List.set_append_right _ _ (by simp),zl,Nat.sub_self]
    congr 1
    ·apply List.map_congr_left
     intro w hw
     have hne : key x ≠ w := fun he=>hx (he ▸ hw)
     rw [hg,zy hne,List.append_nil]
    ·simp [hg,hold])]
 rw [List.take_length]
def kU (op : List UInt8) (s : Int × LVal) (v : LVal) : Int × LVal := (IntKind.i64.wrap (s.1 + v.int),if (op = sMin ∧ lx v s.2 = true) ∨ (op = sMax ∧ lx s.2 v = true) then v else s.2)
def pN (op : List UInt8) (l : Rq) : LVal :=
 if op = hX then fQ l.length else match l with
  | []=>.nul
  | v :: _=>if op = sSum then fQ (l.foldl (kU op) (0,v)).1 else (l.foldl (kU op) (0,v)).2
theorem compute_eq (op : List UInt8) (l : Rq) : fG op l = some (pN op l) := by
 unfold fG pN
 by_cases h1 : op = hX
 ·subst h1; rfl
 ·have e1 : (op == ([99,111,117,110,116] : List UInt8)) = false := by simpa using h1
  rw [e1,zd,zy h1]
  cases l with
  | nil=>rfl
  | cons v l =>
   have e2 : (((v :: l).length : Int) == 0) = false := dg (by simp; omega)
   rw [e2,zd]
   have e3 : aK (v :: l) 0 = some v := rfl
   rw [e3,bPs]
   rw [mP (xs := v :: l) (kU op) (fun k x _=>by
    generalize (((v :: l).take k).foldl (kU op) (0,v)) = s
    unfold kU
    by_cases m : op = sMin
    ·subst m
     simp only [bQ]
     cases lx x s.2 <;> simp
    ·have em : (op == ([109,105,110] : List UInt8)) = false := by simpa using m
     rw [em,zd]
     by_cases n : op = sMax
     ·subst n
      simp only [bQ]
      cases lx s.2 x <;> simp
     ·have en : (op == ([109,97,120] : List UInt8)) = false := by simpa using n
      rw [en,zd]
      simp [m,n]),bPs,bI]
   by_cases h2 : op = sSum
   ·subst h2; rfl
   ·have e4 : (op == ([115,117,109] : List UInt8)) = false := by simpa using h2
    rw [e4,zd]
    simp only
    rw [zy h2]
def aggR (r : LRun) (cols : List LCol) (a : LAggregateCall) (l : Rows) : LVal := match a.args with
 | []=>fQ l.length
 | e :: _=>pN a.function ((l.map fun x=>cM (bw r cols x) e).filter fun v=>v.kind != 0)
theorem aggR_eq (r : LRun) (cols : List LCol) (a : LAggregateCall) (l : Rows) (hl : l.length ≤ 1000000) : jG r a cols l = some (aggR r cols a l) := by
 unfold jG aggR
 cases ha : a.args with
 | nil=>rfl
 | cons e es =>
  have e2 : (((e :: es).length : Int) == 0) = false := dg (by simp; omega)
  rw [e2,zd]
  rw [rMa (xs := l) (s := []) (fun k=>((l.take k).map fun x=>cM (bw r cols x) e).filter fun v=>v.kind != 0) rfl (fun k x hk=>by
   have hkl := (zg.1 hk).1
   have e3 : aK (e :: es) 0 = some e := rfl
   rw [e3]
   simp only [bPs,bQ]
   have hb : (((l.take k).map fun x=>cM (bw r cols x) e).filter fun v=>v.kind != 0).length ≤ k := Nat.le_trans (List.length_filter_le _ _) (by simp; omega)
   rw [List.take_add_one,hk,List.map_append,List.filter_append]
   cases hv : (cM (bw r cols x) e).kind != 0 with
   | true =>
    rw [zc,bN (by decide) (by simp at hb ⊢; omega),bPs]
    simp [hv]
   | false=>simp [hv]),bPs,bI,List.take_length,compute_eq]
  rfl
def mZ (r : LRun) (cols : List LCol) (q : LQuery) (l : Rows) : Rows :=
 (eU (fun x=>q.exprs.map fun e=>cM (bw r cols x) e) (if q.exprs = [] then [[]] else []) l).map fun k =>
  k ++ q.aggregates.map fun a=>aggR r cols a (fo (fun x=>q.exprs.map fun e=>cM (bw r cols x) e) l k)
theorem group_eq (r : LRun) (cols : List LCol) (q : LQuery) (l : Rows) (hl : l.length ≤ 999999) (he : q.exprs.length ≤ 1000000) (ha : q.aggregates.length ≤ 1000000) : iN r q cols l = some (mZ r cols q l) := by
 unfold iN mZ
 generalize hkey : (fun x=>q.exprs.map fun e=>cM (bw r cols x) e) = key
 have hk : ∀ x,dy r cols x q.exprs = some (key x) := fun x=>by rw [pA r cols x q.exprs (by omega),← hkey]
 have hinit : (cond ((q.exprs.length : Int) == (0 : Int)) (([[]],[[]])) (([],[])) : Rows × List Rows) = ((if q.exprs = [] then [[]] else []),((if q.exprs = [] then [[]] else []) : Rows).map fun _=>[]) := by
  cases q.exprs with
  | nil=>rfl
  | cons e es=>rw [show (((e :: es).length : Int) == 0) = false from dg (by simp; omega)]; rfl
 rw [bQ,hinit]
 generalize hks : (if q.exprs = [] then [[]] else [] : Rows) = ks0
 have hks1 : ks0.length ≤ 1 := by rw [← hks]; split <;> simp
 have hks2 : ks0.Nodup := by rw [← hks]; split <;> simp
 rw [group_run key q r cols hk ks0 hks2 l (by omega) hks1,bPs,bI]
 generalize hK : eU key ks0 l = K
 have hKl : K.length ≤ 1000000 := by rw [← hK]; have := oI key l ks0; omega
 simp only
 rw [ec (by rw [zl]; omega),bPs,jX (by omega),bPs,Int.toNat_natCast]
 have hgl : ∀ kk,(fo key l kk).length ≤ 1000000 := fun kk=>by
  unfold fo
  exact Nat.le_trans (List.length_filter_le _ _) (by omega)
 have hkl : ∀ k ∈ K,k.length ≤ 1000000 := fun k hkm=>by
  rw [← hK] at hkm
  rcases (oC key l ks0 k).1 hkm with h | ⟨x,_,rfl⟩
  ·rw [← hks] at h
   split at h
   ·simp at h; subst h; simp
   ·simp at h
  ·rw [← hkey]; simpa using he
 rw [rMa (xs := List.range K.length) (s := []) (fun j=>(K.take j).map fun k=>k ++ q.aggregates.map fun a=>aggR r cols a (fo key l k)) rfl (fun j n hj=>by
  obtain ⟨hjl,hjn⟩ := zg.1 hj
  simp at hjl
  rw [gU hjl,bPs]
  have hg : (K.map (fo key l))[j]? = some (fo key l K[j]) := by rw [List.getElem?_map,ze hjl]; rfl
  rw [rMa (xs := q.aggregates) (s := K[j]) (fun i=>K[j] ++ (q.aggregates.take i).map fun a=>aggR r cols a (fo key l K[j])) (by simp) (fun i a hi=>by
   have hil := (zg.1 hi).1
   have hkj := hkl K[j] (List.getElem_mem hjl)
   rw [gL hg,bPs,aggR_eq r cols a _ (hgl _),bPs,bN (by decide) (by simp; omega),bPs,List.take_add_one,hi]
   simp),bPs,bI,bN (by decide) (by simp; omega),bPs,List.take_length]
  congr 2
  rw [List.take_add_one,ze hjl,List.map_append]
  rfl),bPs,bI]
 simp
def kF (x : LVal) : LVal := if eO x = true then x else .nul
theorem typed_args {cols vars : List LCol} {e : LExpr} (h : (dl cols vars e).2.2 = 0) : e.kind = 5 ∧ (∀ a ∈ e.args,(dl cols vars a).2.2 = 0) ∨ e.kind ≠ 5 ∧ e.args = [] := by
 rw [pF] at h
 by_cases c0 : e.kind ≠ 5 ∧ 0 < e.args.length
 ·rw [zp c0] at h; simp [gk] at h
 rw [zy c0] at h
 by_cases c5 : e.kind = 5
 ·refine .inl ⟨c5,fun a ha=>?_⟩
  simp only [c5] at h
  have h' : (jt e.name e.index e.value (e.args.map (dl cols vars))).2.2 = 0 := by simpa using h
  unfold jt at h'
  split at h'
  ·simp [gk] at h'
  ·split at h'
   ·rename_i r hf
    have := List.find?_some hf
    simp [gk] at h'
    simp [h'] at this
   ·rename_i hf
    have := List.find?_eq_none.1 hf (dl cols vars a) (List.mem_map.2 ⟨a,ha,rfl⟩)
    simpa using this
 ·refine .inr ⟨c5,?_⟩
  rw [← List.length_eq_zero_iff]
  omega
theorem eval_clean {cols vars : List LCol} {v : LEnv} : ∀ e : LExpr,(dl cols vars e).2.2 = 0 → (∀ i k,(i,k) ∈ cJ e → ∀ x,v.params[i]? = some x → eO x = true) → cM v e = cM { v with params := v.params.map kF } e := by
 refine LExpr.ind fun e ih h hp=>?_
 have hsub : ∀ a ∈ e.args,∀ i k,(i,k) ∈ cJ a → (i,k) ∈ cJ e := fun a ha i k hm=>by
  rw [mg]
  exact List.mem_append_right _ (List.mem_flatten.2 ⟨_,List.mem_map.2 ⟨a,ha,rfl⟩,hm⟩)
 rw [pZ,pZ { v with params := v.params.map kF }]
 by_cases k1 : (e.kind == 1) = true
 ·simp [k1]
 by_cases k2 : (e.kind == 2) = true
 ·simp [k1,k2]
 by_cases k3 : (e.kind == 3) = true
 ·rw [zy k1,zy k2,zp k3,zy k1,zy k2,zp k3]
  have hk3 : e.kind = 3 := by simpa using k3
  have hta := typed_args h
  have hr : ¬ (e.index < 0 ∨ e.index ≥ 8) := by
   intro hbad
   rw [pF,zy (by intro hc; rcases hta with ⟨a,_⟩ | ⟨_,b⟩; exact hc.1 a; rw [b] at hc; simp at hc),zy k1,zp k3,zp (by rcases hbad with hb | hb; exact .inl hb; exact .inr (.inl hb))] at h
   simp [gk] at h
  have hm : (e.index.toNat,e.value.kind) ∈ cJ e := by
   rw [mg]
   refine List.mem_append_left _ ?_
   unfold iU
   rw [zp ⟨hk3,by omega,by omega⟩]
   simp
  have hget : ∀ i : Nat,i < v.params.length → i = e.index.toNat → (v.params.map kF).getD i .nul = v.params.getD i .nul := fun i hi he=>by
   rw [List.getD_eq_getElem?_getD,List.getD_eq_getElem?_getD,List.getElem?_map,ze hi]
   simp only [Option.map_some,Option.getD_some]
   unfold kF
   rw [zp (hp _ _ hm v.params[i] (by rw [← he]; exact ze hi))]
  by_cases hlt : e.index.toNat < v.params.length
  ·show _ = if 0 ≤ e.index ∧ e.index < ((v.params.map kF).length : Nat) ∧ ((v.params.map kF).getD e.index.toNat .nul).kind = e.value.kind then (v.params.map kF).getD e.index.toNat .nul else .nul
   rw [hget _ hlt rfl,zl]
  ·have : ¬ (0 ≤ e.index ∧ e.index < (v.params.length : Int)) := by omega
   show _ = if 0 ≤ e.index ∧ e.index < ((v.params.map kF).length : Nat) ∧ ((v.params.map kF).getD e.index.toNat .nul).kind = e.value.kind then (v.params.map kF).getD e.index.toNat .nul else .nul
   rw [zl,zy (fun hc=>this ⟨hc.1,hc.2.1⟩),zy (fun hc=>this ⟨hc.1,hc.2.1⟩)]
 by_cases k4 : (e.kind == 4) = true
 ·simp [k1,k2,k3,k4]
 by_cases k5 : (e.kind == 5) = true
 ·rw [zy k1,zy k2,zy k3,zy k4,zp k5,zy k1,zy k2,zy k3,zy k4,zp k5]
  rcases typed_args h with ⟨_,ha⟩ | ⟨hn,_⟩
  ·congr 1
   apply List.map_congr_left
   intro a hm
   exact ih a hm (ha a hm) fun i k hik=>hp i k (hsub a hm i k hik)
  ·exact absurd (by simpa using k5) hn
 ·simp [k1,k2,k3,k4,k5]
structure RunOk (r : LRun) : Prop where
 vars : r.vars = []
 names : r.names = []
 vals : r.vals = []
 inst : InstOk r.s r.st
def mC (r : LRun) (l : List (Nat × Int)) : Prop := ∀ i k,(i,k) ∈ l → ∀ x,r.args[i]? = some x → eO x = true
theorem qQ {r : LRun} (hr : RunOk r) {cols : List LCol} {row : Rq} (hrow : eR cols row) {e : LExpr} (ht : (cW cols r.vars e).2.2 = 0) (hp : mC r (cJ e)) :
  fB (cM (bw r cols row) e) (cW cols r.vars e).1 (cW cols r.vars e).2.1 := by
 have hk : (dl cols r.vars e).2.2 = 0 := by
  unfold cW at ht
  split at ht
  ·simp [gk] at ht
  ·exact ht
 rw [eval_clean (cols := cols) (vars := r.vars) e hk (fun i k hm x hx=>hp i k hm x hx)]
 refine type_sound (cols := cols) (vars := r.vars) ⟨rfl,hrow.1,hrow.2,?_,?_,?_,?_⟩ e ht
 ·intro x hx
  obtain ⟨y,_,rfl⟩ := List.mem_map.1 hx
  unfold kF
  split
  ·assumption
  ·rfl
 ·show r.names = _; rw [hr.names,hr.vars]; rfl
 ·show r.vals.length = _; rw [hr.vals,hr.vars]; rfl
 ·intro i c x hc; rw [hr.vars] at hc; simp at hc
theorem pL {c : LChecker} {q : LQuery} (h : (ff c q).2 = 0) : lh q = true ∧ (∀ x ∈ q.inputs,(ff c x).2 = 0) ∧ (iI c q (q.inputs.map fun x=>(ff c x).1)).2 = 0 ∧ (ff c q).1 = (iI c q (q.inputs.map fun x=>(ff c x).1)).1 ∧ ((ff c q).1.map LCol.name).Nodup := by
 rw [pD] at h ⊢
 unfold nY at h ⊢
 by_cases h1 : lh q = false
 ·simp [h1] at h
 rw [zy h1] at h ⊢
 by_cases h2 : (dK (q.inputs.map (ff c))).2 = 0
 ·obtain ⟨a,b⟩ := pY h2
  have e : (q.inputs.map (ff c)).map (·.1) = q.inputs.map fun x=>(ff c x).1 := by rw [List.map_map]; rfl
  rw [e] at b
  rw [b] at h ⊢
  rw [zy (by simpa using h2)] at h ⊢
  by_cases h3 : (iI c q (q.inputs.map fun x=>(ff c x).1)).2 = 0
  ·rw [zy (by simpa using h3)] at h ⊢
   by_cases h4 : 20 < (iI c q (q.inputs.map fun x=>(ff c x).1)).1.length
   ·rw [zp h4] at h; simp at h
   ·rw [zy h4] at h ⊢
    by_cases h5 : ((iI c q (q.inputs.map fun x=>(ff c x).1)).1.map LCol.name).Nodup
    ·rw [zp h5] at h ⊢
     exact ⟨by simpa using h1,fun x hx=>a _ (List.mem_map.2 ⟨x,hx,rfl⟩),h3,rfl,h5⟩
    ·rw [zy h5] at h; simp at h
  ·rw [zp h3] at h; exact absurd h h3
 ·rw [zp h2] at h; exact absurd h h2
theorem mB (vars cols : List LCol) : ∀ (es : List LExpr) (ns : List (List UInt8)),es.length = ns.length → (ct vars cols es ns).2 = 0 →
  (ct vars cols es ns).1.length = es.length ∧ ∀ (i : Nat) (e : LExpr),es[i]? = some e → (cW cols vars e).2.2 = 0 ∧ ∃ c,(ct vars cols es ns).1[i]? = some c ∧ c.kind = (cW cols vars e).1 ∧ c.nullable = (cW cols vars e).2.1
 | [],ns,_,_=>by simp [ct]
 | e :: es,[],h,_=>by simp at h
 | e :: es,n :: ns,hl,h=>by
  simp only [ct] at h ⊢
  by_cases h1 : dp n = false
  ·simp [h1] at h
  rw [zy h1] at h ⊢
  by_cases h2 : (cW cols vars e).2.2 = 0
  ·rw [zy (by simpa using h2)] at h ⊢
   by_cases h3 : (cW cols vars e).1 = 0
   ·rw [zp h3] at h; simp at h
   ·rw [zy h3] at h ⊢
    by_cases h4 : (ct vars cols es ns).2 = 0
    ·rw [zy (by simpa using h4)]
     obtain ⟨a,b⟩ := mB vars cols es ns (by simpa using hl) h4
     refine ⟨by simp [a],fun i e' hi=>?_⟩
     cases i with
     | zero=>simp at hi; subst hi; exact ⟨h2,_,rfl,rfl,rfl⟩
     | succ i=>simpa using b i e' (by simpa using hi)
    ·rw [zp h4] at h; exact absurd h h4
  ·rw [zp h2] at h; exact absurd h h2
theorem qf (vars cols : List LCol) : ∀ l : List LAggregateCall,(dS vars cols l).2 = 0 →
  (dS vars cols l).1.length = l.length ∧ ∀ (i : Nat) (a : LAggregateCall),l[i]? = some a → (np vars cols a).2 = 0 ∧ ∃ c,(dS vars cols l).1[i]? = some c ∧ c.kind = (np vars cols a).1 ∧ c.nullable = !(a.function == hX)
 | [],_=>by simp [dS]
 | a :: l,h=>by
  simp only [dS] at h ⊢
  by_cases h1 : (np vars cols a).2 = 0
  ·rw [zy (by simpa using h1)] at h ⊢
   by_cases h2 : (dS vars cols l).2 = 0
   ·rw [zy (by simpa using h2)]
    obtain ⟨x,y⟩ := qf vars cols l h2
    refine ⟨by simp [x],fun i b hi=>?_⟩
    cases i with
    | zero=>simp at hi; subst hi; exact ⟨h1,_,rfl,rfl,rfl⟩
    | succ i=>simpa using y i b (by simpa using hi)
   ·rw [zp h2] at h; exact absurd h h2
  ·rw [zp h1] at h; exact absurd h h1
theorem eR.append {a b : List LCol} {x y : Rq} (h : eR a x) (h' : eR b y) : eR (a ++ b) (x ++ y) := by
 refine ⟨by simp [h.1,h'.1],fun i c v hc hv=>?_⟩
 by_cases hi : i < a.length
 ·rw [List.getElem?_append_left hi] at hc
  rw [List.getElem?_append_left (by rw [h.1]; exact hi)] at hv
  exact h.2 i c v hc hv
 ·rw [List.getElem?_append_right (by omega)] at hc
  rw [List.getElem?_append_right (by rw [h.1]; omega),h.1] at hv
  exact h'.2 _ c v hc hv
theorem eR.map {cols : List LCol} {es : List LExpr} {f : LExpr → LVal} (hl : cols.length = es.length) (h : ∀ (i : Nat) (e : LExpr) (c : LCol),es[i]? = some e → cols[i]? = some c → fB (f e) c.kind c.nullable) : eR cols (es.map f) := by
 refine ⟨by simp [hl],fun i c x hc hx=>?_⟩
 rw [List.getElem?_map,Option.map_eq_some_iff] at hx
 obtain ⟨e,he,rfl⟩ := hx
 exact h i e c he hc
theorem fB.weak {x : LVal} {k : Int} {nl nl' : Bool} (h : fB x k nl) (hn : nl = true → nl' = true) : fB x k nl' := ⟨h.1,h.2.1,fun h0=>hn (h.2.2 h0)⟩
theorem int_fits (n : Int) : fB (fQ n) 1 true := by
 unfold fQ
 by_cases h1 : n < -1000000000000
 ·rw [zt h1]; exact il rfl
 ·rw [zf h1]
  by_cases h2 : n > 1000000000000
  ·rw [zt h2]; exact il rfl
  ·rw [zf h2]
   refine ⟨?_,.inl rfl,fun h=>by simp at h⟩
   unfold eO
   simp
   omega
theorem int_small {n : Int} (h0 : 0 ≤ n) (h1 : n ≤ 1000000000000) (nl : Bool) : fB (fQ n) 1 nl := by
 have h := int_fits n
 refine ⟨h.1,h.2.1,fun hk=>?_⟩
 unfold fQ at hk
 rw [zf (show ¬ n < -1000000000000 from by omega),zf (show ¬ n > 1000000000000 from by omega)] at hk
 simp at hk
theorem ry (op : List UInt8) : ∀ (l : Rq) (s : Int × LVal),(l.foldl (kU op) s).2 = s.2 ∨ (l.foldl (kU op) s).2 ∈ l
 | [],s=>.inl rfl
 | v :: l,s=>by
  rw [List.foldl_cons]
  rcases ry op l (kU op s v) with h | h
  ·rw [h]
   unfold kU
   simp only
   split
   ·exact .inr (by simp)
   ·exact .inl rfl
  ·exact .inr (by simp [h])
theorem agg_fits {r : LRun} (hr : RunOk r) {cols : List LCol} {a : LAggregateCall} {l : Rows} (ha : (np r.vars cols a).2 = 0) (hl : ∀ row ∈ l,eR cols row) (hb : l.length ≤ 1000000) (hp : mC r ((a.args.map cJ).flatten)) :
  fB (aggR r cols a l) (np r.vars cols a).1 (!(a.function == hX)) := by
 unfold np at ha ⊢
 unfold aggR
 by_cases h1 : dp a.name = false ∨ ¬ a.function ∈ [hX,sSum,sMin,sMax] ∨ 1 < a.args.length ∨ (a.args.length < 1 ∧ a.function ≠ hX)
 ·rw [zp h1] at ha; simp at ha
 rw [zy h1] at ha ⊢
 have hfn : a.function ∈ [hX,sSum,sMin,sMax] := Decidable.byContradiction fun h=>h1 (.inr (.inl h))
 cases hargs : a.args with
 | nil=>exact int_small (by omega) (by omega) _
 | cons e es =>
  rw [hargs] at ha hp
  simp only at ha ⊢
  have hpe : mC r (cJ e) := fun i k hm=>hp i k (by simp [hm])
  by_cases h2 : (cW cols r.vars e).2.2 = 0
  ·rw [zy (by simpa using h2)] at ha ⊢
   by_cases h3 : (cW cols r.vars e).1 = 0 ∨ (a.function = sSum ∧ (cW cols r.vars e).1 ≠ 1)
   ·rw [zp h3] at ha; simp at ha
   rw [zy h3]
   generalize hv : ((l.map fun x=>cM (bw r cols x) e).filter fun v=>v.kind != 0) = vals
   have hvl : vals.length ≤ 1000000 := by rw [← hv]; exact Nat.le_trans (List.length_filter_le _ _) (by simpa using hb)
   have hvf : ∀ v ∈ vals,fB v (cW cols r.vars e).1 true := fun v hm=>by
    rw [← hv] at hm
    have := (List.mem_filter.1 hm).1
    obtain ⟨x,hx,rfl⟩ := List.mem_map.1 this
    exact (qQ hr (hl x hx) h2 hpe).weak fun _=>rfl
   unfold pN
   by_cases h4 : a.function = hX
   ·rw [zp h4,zp h4]
    exact int_small (by omega) (by omega) _
   ·rw [zy h4,zy h4]
    have hc : (a.function == hX) = false := by simpa using h4
    rw [hc]
    cases vals with
    | nil=>exact il rfl
    | cons v vs =>
     simp only
     by_cases h5 : a.function = sSum
     ·rw [zp h5]
      have : (cW cols r.vars e).1 = 1 := Decidable.byContradiction fun h=>h3 (.inr ⟨h5,h⟩)
      rw [this]
      exact int_fits _
     ·rw [zy h5]
      rcases ry a.function (v :: vs) (0,v) with h | h
      ·rw [h]; exact hvf v (by simp)
      ·exact hvf _ h
  ·rw [zp h2] at ha; exact absurd ha h2
theorem capI_eq {n : Int} (h : mu n ≤ 20000) : mu n = n := by
 unfold mu at h ⊢
 by_cases hc : 20001 < n
 ·rw [zp hc] at h; omega
 ·rw [zy hc]
theorem gO {q : LQuery} (h : (bH q).2 ≤ 20000) : (bH q).1 ≤ (bH q).2 ∧ ∀ x ∈ q.inputs,(bH x).2 ≤ 20000 := by
 have key : ∀ (l : List (Int × Int)) (j : Nat) (s : Int × Int),s.2 ≤ (ef q.kind j l s).2 ∧ ∀ x ∈ l,x.2 ≤ (ef q.kind j l s).2 := by
  intro l
  induction l with
  | nil=>intro j s; exact ⟨Int.le_refl _,by simp⟩
  | cons y l ih =>
   intro j s
   obtain ⟨h1,h2⟩ := ih (j + 1) (iE q.kind s j y)
   rw [ef]
   have h3 : s.2 ≤ (iE q.kind s j y).2 := jk _ _
   have h4 : y.2 ≤ (iE q.kind s j y).2 := nc _ _
   refine ⟨by omega,fun x hx=>?_⟩
   rcases List.mem_cons.1 hx with rfl | hx
   ·omega
   ·exact h2 x hx
 have hk := key (q.inputs.map bH) 0 (0,0)
 rw [lL] at h ⊢
 by_cases h1 : q.kind = 1
 ·rw [zp h1] at h ⊢
  refine ⟨nc _ _,fun x hx=>?_⟩
  have := hk.2 (bH x) (List.mem_map.2 ⟨x,hx,rfl⟩)
  have := jk (ef q.kind 0 (q.inputs.map bH) (0,0)).2 24
  simp only at h
  omega
 ·rw [zy h1] at h ⊢
  refine ⟨nc _ _,fun x hx=>?_⟩
  have := hk.2 (bH x) (List.mem_map.2 ⟨x,hx,rfl⟩)
  have := jk (ef q.kind 0 (q.inputs.map bH) (0,0)).2 (ef q.kind 0 (q.inputs.map bH) (0,0)).1
  simp only at h
  omega
theorem most_scan {q : LQuery} (h : q.kind = 1) : (bH q).1 = 24 := by rw [lL,zp h]
theorem ol {q x : LQuery} (h : (bH q).2 ≤ 20000) (hk : q.kind ≠ 1) (hi : q.inputs = [x]) : (bH q).1 = (bH x).1 := by
 have hm := gO h
 have hx := hm.2 x (by rw [hi]; simp)
 have hx1 := (gO hx).1
 rw [lL,zy hk,hi]
 show mu (bH x).1 = _
 unfold mu
 rw [zy (by omega)]
theorem mK {q x y : LQuery} (h : (bH q).2 ≤ 20000) (hk : q.kind ≠ 1) (hi : q.inputs = [x,y]) : (bH q).1 = (if q.kind = 6 then (bH x).1 + (bH y).1 else if q.kind = 4 ∨ q.kind = 5 then (bH x).1 * du 1 (bH y).1 else (bH x).1) := by
 have hm := gO h
 have hx := hm.2 x (by rw [hi]; simp)
 have hx1 := (gO hx).1
 have h1 := hm.1
 have hc : mu (bH x).1 = (bH x).1 := by unfold mu; rw [zy (by omega)]
 have e : (bH q).1 = mu (if q.kind = 6 then (bH x).1 + (bH y).1 else if q.kind = 4 ∨ q.kind = 5 then (bH x).1 * du 1 (bH y).1 else (bH x).1) := by
  rw [lL,zy hk,hi]
  show (iE q.kind (iE q.kind (0,0) 0 (bH x)) 1 (bH y)).1 = _
  unfold iE
  simp [hc]
 rw [e]
 exact capI_eq (by rw [← e]; omega)
def bv (r : LRun) (q : LQuery) : List LCol := (ff ⟨r.s,r.vars⟩ q).1
theorem kW {r : LRun} {q : LQuery} (h : SmallQ q) : gv r q = some (bv r q) := by
 unfold gv
 rw [cols_ok _ q h]
 rfl
def hM (r : LRun) (cols : List LCol) (q : LQuery) (x : Rq) : Bool := kV (cM (bw r cols x) (e0Q q))
def pz (q : LQuery) (l : Rows) : Rows := (l.take (q.offset.toNat + q.count.toNat)).drop q.offset.toNat
def dT (r : LRun) (q : LQuery) (cs : List (List LCol)) (ins : List Rows) : Rows :=
 if q.kind = 1 then (match r.st.find? fun x=>x.table == q.table with | some x=>x.rows | none=>[])
 else if q.kind = 4 ∨ q.kind = 5 then kg (hM r (cs.getD 0 [] ++ cs.getD 1 []) q) (q.kind == 5) (List.replicate (cs.getD 1 []).length .nul) (ins.getD 0 []) (ins.getD 1 [])
 else if q.kind = 6 then ins.getD 0 [] ++ ins.getD 1 []
 else if q.kind = 7 then lq (ins.getD 0 []) (ins.getD 1 [])
 else if q.kind = 2 then (ins.getD 0 []).filter (hM r (cs.getD 0 []) q)
 else if q.kind = 3 then (ins.getD 0 []).map fun x=>q.exprs.map fun e=>cM (bw r (cs.getD 0 []) x) e
 else if q.kind = 8 then mZ r (cs.getD 0 []) q (ins.getD 0 [])
 else if q.kind = 9 then (fE r q (cs.getD 0 []) (ins.getD 0 [])).getD []
 else pz q (ins.getD 0 [])
def bp (r : LRun) (q : LQuery) : Rows := dT r q (q.inputs.map (bv r)) (q.inputs.attach.map fun x=>bp r x.1)
termination_by SizeOf.sizeOf q
decreasing_by exact LQuery.inputs_lt x.2
theorem ee (r : LRun) (q : LQuery) : bp r q = dT r q (q.inputs.map (bv r)) (q.inputs.map (bp r)) := by
 rw [bp,List.attach_map_val (f := bp r)]
theorem find_st {s : LSchema} {st : List LRelation} (h : InstOk s st) (name : List UInt8) : ∀ t,s.tables.find? (fun t=>t.name == name) = some t → ∃ x,st.find? (fun x=>x.table == name) = some x ∧ x.rows.length ≤ 24 ∧ ∀ row ∈ x.rows,eR t.columns row := by
 obtain ⟨hl,ho,ht⟩ := h
 intro t hf
 generalize s.tables = ts at *
 induction ts generalizing st with
 | nil=>simp at hf
 | cons a ts ih =>
  cases st with
  | nil=>simp at hl
  | cons r st =>
   obtain ⟨h1,h2,h3⟩ := ht 0 r a rfl rfl
   rw [List.find?_cons] at hf ⊢
   rw [h1]
   cases hn : a.name == name with
   | true =>
    rw [hn] at hf
    simp at hf
    subst hf
    exact ⟨r,rfl,h2,h3⟩
   | false =>
    rw [hn] at hf
    simp only at hf ⊢
    exact ih (by simpa using hl) (fun i r' t' a b=>ho (i + 1) r' t' (by simpa using a) (by simpa using b)) (fun i r' t' a b=>ht (i + 1) r' t' (by simpa using a) (by simpa using b)) hf
structure RowsOk (r : LRun) (q : LQuery) : Prop where
 pos : 1 ≤ (bH q).1
 len : ((bp r q).length : Int) ≤ (bH q).1
 fits : ∀ row ∈ bp r q,eR (bv r q) row
structure QOk (r : LRun) (q : LQuery) : Prop where
 small : SmallQ q
 cols : (ff ⟨r.s,r.vars⟩ q).2 = 0
 most : (bH q).2 ≤ 20000
 params : mC r (gV q)
theorem params_sub {q x : LQuery} (h : x ∈ q.inputs) : ∀ p ∈ gV x,p ∈ gV q := by
 intro p hp
 obtain ⟨l,hl,hp⟩ := List.mem_flatten.1 hp
 obtain ⟨y,hy,rfl⟩ := List.mem_map.1 hl
 exact List.mem_flatten.2 ⟨_,List.mem_map.2 ⟨y,mem_nodes h hy,rfl⟩,hp⟩
theorem QOk.sub {r : LRun} {q x : LQuery} (h : QOk r q) (hx : x ∈ q.inputs) : QOk r x :=
 ⟨h.small.sub hx,(pL h.cols).2.1 x hx,(gO h.most).2 x hx,fun i k hm=>h.params i k (params_sub hx _ hm)⟩
theorem QOk.expr {r : LRun} {q : LQuery} (h : QOk r q) {e : LExpr} (he : e ∈ q.exprs) : mC r (cJ e) := fun i k hm=>h.params i k (List.mem_flatten.2 ⟨iY q,List.mem_map.2 ⟨q,pP q,rfl⟩,List.mem_append_left _ (List.mem_flatten.2 ⟨_,List.mem_map.2 ⟨e,he,rfl⟩,hm⟩)⟩)
theorem QOk.agg {r : LRun} {q : LQuery} (h : QOk r q) {a : LAggregateCall} (ha : a ∈ q.aggregates) : mC r ((a.args.map cJ).flatten) := fun i k hm=>h.params i k (List.mem_flatten.2 ⟨iY q,List.mem_map.2 ⟨q,pP q,rfl⟩,List.mem_append_right _ (List.mem_flatten.2 ⟨_,List.mem_map.2 ⟨a,ha,rfl⟩,hm⟩)⟩)
theorem joinR_mem {f : Rq → Bool} {left : Bool} {pad row : Rq} {a b : Rows} (h : row ∈ kg f left pad a b) : ∃ x ∈ a,(∃ y ∈ b,row = x ++ y) ∨ (left = true ∧ row = x ++ pad) := by
 unfold kg at h
 obtain ⟨l,hl,hr⟩ := List.mem_flatten.1 h
 obtain ⟨x,hx,rfl⟩ := List.mem_map.1 hl
 refine ⟨x,hx,?_⟩
 unfold padR at hr
 split at hr
 ·rename_i hc; simp at hr; exact .inr ⟨hc.1,hr⟩
 ·unfold hZ at hr
  obtain ⟨y,hy,rfl⟩ := List.mem_map.1 (List.mem_filter.1 hr).1
  exact .inl ⟨y,hy,rfl⟩
theorem two {q : LQuery} (h : q.inputs.length = 2) : ∃ x y,q.inputs = [x,y] := by
 match hq : q.inputs,h with
 | [x,y],_=>exact ⟨x,y,rfl⟩
theorem one {q : LQuery} (h : q.inputs.length = 1) : ∃ x,q.inputs = [x] := by
 match hq : q.inputs,h with
 | [x],_=>exact ⟨x,rfl⟩
theorem colsR_out {r : LRun} {q : LQuery} (h : QOk r q) : (iI ⟨r.s,r.vars⟩ q (q.inputs.map (bv r))).2 = 0 ∧ bv r q = (iI ⟨r.s,r.vars⟩ q (q.inputs.map (bv r))).1 := by
 obtain ⟨_,_,h3,h4,_⟩ := pL h.cols
 exact ⟨h3,h4⟩
theorem set_fits {kind : Int} {a b : List LCol} {row : Rq} (h : (ku kind a b).2 = 0) (hr : eR a row ∨ (kind = 6 ∧ eR b row)) : eR (ku kind a b).1 row := by
 unfold ku at h ⊢
 by_cases hc : a.length = b.length ∧ a.map LCol.kind = b.map LCol.kind
 ·rw [zp hc]
  refine ⟨?_,fun i c x hci hx=>?_⟩
  ·rcases hr with hr | ⟨_,hr⟩
   ·simp [hr.1,hc.1]
   ·simp [hr.1,hc.1]
  ·rw [List.getElem?_zipWith] at hci
   cases ha : a[i]? with
   | none=>rw [ha] at hci; simp at hci
   | some u =>
    cases hb : b[i]? with
    | none=>rw [ha,hb] at hci; simp at hci
    | some v =>
     rw [ha,hb] at hci
     simp only [zo] at hci
     subst hci
     have hk : u.kind = v.kind := by
      have := congrArg (fun l=>l[i]?) hc.2
      simpa [ha,hb] using this
     rcases hr with hr | ⟨h6,hr⟩
     ·exact (hr.2 i u x ha hx).weak fun hn=>by simp [hn]
     ·have := hr.2 i v x hb hx
      rw [← hk] at this
      exact this.weak fun hn=>by simp [hn,h6]
 ·rw [zy hc] at h; simp at h
theorem join_fits {a b : List LCol} {left : Bool} {x y : Rq} (hx : eR a x) (hy : eR b y) : eR (jf a b left) (x ++ y) := by
 unfold jf
 refine hx.append ⟨by simp [hy.1],fun i c v hc hv=>?_⟩
 rw [List.getElem?_map,Option.map_eq_some_iff] at hc
 obtain ⟨d,hd,rfl⟩ := hc
 exact (hy.2 i d v hd hv).weak fun hn=>by simp [hn]
theorem pad_fits {a b : List LCol} {x : Rq} (hx : eR a x) : eR (jf a b true) (x ++ List.replicate b.length .nul) := by
 unfold jf
 refine hx.append ⟨by simp,fun i c v hc hv=>?_⟩
 rw [List.getElem?_map,Option.map_eq_some_iff] at hc
 obtain ⟨d,hd,rfl⟩ := hc
 rw [List.getElem?_replicate] at hv
 split at hv
 ·cases hv; exact il (by simp)
 ·cases hv
theorem rows_fit {r : LRun} (hr : RunOk r) : ∀ q : LQuery,QOk r q → RowsOk r q := by
 refine LQuery.ind fun q ih h=>?_
 have hs := shape_ok (pL h.cols).1
 obtain ⟨ho,hcol⟩ := colsR_out h
 have hself := h.small.self
 have hm := (gO h.most).1
 have kk : q.kind = 1 ∨ q.kind = 2 ∨ q.kind = 3 ∨ q.kind = 4 ∨ q.kind = 5 ∨ q.kind = 6 ∨ q.kind = 7 ∨ q.kind = 8 ∨ q.kind = 9 ∨ q.kind = 10 := by have := hs.kind; omega
 have hall : ∀ x ∈ q.inputs,RowsOk r x := fun x hx=>ih x hx (h.sub hx)
 rcases kk with k | k | k | k | k | k | k | k | k | k
 ·-- scan
  have hmq := most_scan k
  unfold iI at ho hcol
  rw [zp k] at ho hcol
  cases hf : r.s.tables.find? (fun t=>t.name == q.table) with
  | none=>rw [hf] at ho; simp at ho
  | some t =>
   rw [hf] at hcol
   obtain ⟨x,hx,hl,hfit⟩ := find_st hr.inst q.table t hf
   have e : bp r q = x.rows := by rw [ee]; unfold dT; rw [zp k,hx]
   exact ⟨by omega,by rw [e]; omega,by rw [e,hcol]; exact hfit⟩
 all_goals have har := hs.arity
 all_goals rw [k] at har
 all_goals simp only [oq] at har
 ·-- filter
  obtain ⟨x,hi⟩ := one (q := q) (by simpa using har)
  have hx := hall x (by rw [hi]; simp)
  have hmq := ol h.most (by omega) hi
  rw [hi] at hcol ho
  unfold iI at ho hcol
  rw [zy (by omega),zp k] at ho hcol
  have e : bp r q = (bp r x).filter (hM r (bv r x) q) := by rw [ee,hi]; unfold dT; rw [zy (by omega),zy (by omega),zy (by omega),zy (by omega),zp k]; rfl
  have hcx : bv r q = bv r x := hcol
  have := List.length_filter_le (hM r (bv r x) q) (bp r x)
  refine ⟨by rw [hmq]; exact hx.pos,by rw [hmq,e]; have := hx.len; omega,fun row hrow=>?_⟩
  rw [e] at hrow
  rw [hcx]
  exact hx.fits row (List.mem_filter.1 hrow).1
 ·-- project
  obtain ⟨x,hi⟩ := one (q := q) (by simpa using har)
  have hx := hall x (by rw [hi]; simp)
  have hmq := ol h.most (by omega) hi
  rw [hi] at hcol ho
  unfold iI at ho hcol
  rw [zy (by omega),zy (by omega),zy (by omega),zy (by omega),zp (.inl k)] at ho hcol
  have e : bp r q = (bp r x).map fun y=>q.exprs.map fun e=>cM (bw r (bv r x) y) e := by rw [ee,hi]; unfold dT; rw [zy (by omega),zy (by omega),zy (by omega),zy (by omega),zy (by omega),zp k]; rfl
  have hag : q.aggregates = [] := hs.aggs (by omega)
  change (ml r.vars (bv r x) q).2 = 0 at ho
  change bv r q = (ml r.vars (bv r x) q).1 at hcol
  unfold ml at ho hcol
  by_cases hn : (ct r.vars (bv r x) q.exprs q.names).2 = 0
  ·rw [zy (by simpa using hn),hag] at hcol
   simp only [dS,ne_eq,not_true_eq_false,if_false,List.append_nil] at hcol
   obtain ⟨hl,hinv⟩ := mB r.vars (bv r x) q.exprs q.names (hs.named (.inl k)) hn
   refine ⟨by rw [hmq]; exact hx.pos,by rw [hmq,e]; simpa using hx.len,fun row hrow=>?_⟩
   rw [e] at hrow
   obtain ⟨y,hy,rfl⟩ := List.mem_map.1 hrow
   rw [hcol]
   refine eR.map hl fun i e' c he hc=>?_
   obtain ⟨ht,d,hd,hk,hnl⟩ := hinv i e' he
   rw [hc] at hd
   cases hd
   rw [hk,hnl]
   exact qQ hr (hx.fits y hy) ht (h.expr (dr he))
  ·rw [zp hn] at ho; exact absurd ho hn
 ·-- inner join
  obtain ⟨x,y,hi⟩ := two (q := q) (by simpa using har)
  have hx := hall x (by rw [hi]; simp)
  have hy := hall y (by rw [hi]; simp)
  have hmq := mK h.most (by omega) hi
  rw [zy (by omega),zp (.inl k)] at hmq
  rw [hi] at hcol ho
  unfold iI at ho hcol
  rw [zy (by omega),zy (by omega),zp (.inl k)] at ho hcol
  have e : bp r q = kg (hM r (bv r x ++ bv r y) q) (q.kind == 5) (List.replicate (bv r y).length .nul) (bp r x) (bp r y) := by rw [ee,hi]; unfold dT; rw [zy (by omega),zp (.inl k)]; rfl
  have hcx : bv r q = jf (bv r x) (bv r y) (q.kind == 5) := hcol
  have hb := qI (hM r (bv r x ++ bv r y) q) (q.kind == 5) (List.replicate (bv r y).length .nul) (bp r x) (bp r y)
  have hxl := hx.len
  have hyl := hy.len
  have hpos := hx.pos
  have h1m : 1 ≤ du 1 (bH y).1 ∧ ((max 1 (bp r y).length : Nat) : Int) ≤ du 1 (bH y).1 := ⟨jk _ _,by have := jk 1 (bH y).1; have := nc 1 (bH y).1; omega⟩
  refine ⟨?_,?_,fun row hrow=>?_⟩
  ·rw [hmq]
   exact Int.le_trans hpos (by have := Int.mul_le_mul_of_nonneg_left h1m.1 (show 0 ≤ (bH x).1 by omega); omega)
  ·rw [e,hmq]
   have h2 : (((bp r x).length * max 1 (bp r y).length : Nat) : Int) ≤ (bH x).1 * du 1 (bH y).1 := by
    rw [Int.natCast_mul]
    exact Int.mul_le_mul hxl h1m.2 (by omega) (by omega)
   omega
  ·rw [e] at hrow
   rw [hcx]
   obtain ⟨u,hu,⟨v,hv,rfl⟩ | ⟨hl,rfl⟩⟩ := joinR_mem hrow
   ·exact join_fits (hx.fits u hu) (hy.fits v hv)
   ·rw [hl]; exact pad_fits (hx.fits u hu)
 ·-- left join
  obtain ⟨x,y,hi⟩ := two (q := q) (by simpa using har)
  have hx := hall x (by rw [hi]; simp)
  have hy := hall y (by rw [hi]; simp)
  have hmq := mK h.most (by omega) hi
  rw [zy (by omega),zp (.inr k)] at hmq
  rw [hi] at hcol ho
  unfold iI at ho hcol
  rw [zy (by omega),zy (by omega),zp (.inr k)] at ho hcol
  have e : bp r q = kg (hM r (bv r x ++ bv r y) q) (q.kind == 5) (List.replicate (bv r y).length .nul) (bp r x) (bp r y) := by rw [ee,hi]; unfold dT; rw [zy (by omega),zp (.inr k)]; rfl
  have hcx : bv r q = jf (bv r x) (bv r y) (q.kind == 5) := hcol
  have hb := qI (hM r (bv r x ++ bv r y) q) (q.kind == 5) (List.replicate (bv r y).length .nul) (bp r x) (bp r y)
  have hxl := hx.len
  have hyl := hy.len
  have hpos := hx.pos
  have h1m : 1 ≤ du 1 (bH y).1 ∧ ((max 1 (bp r y).length : Nat) : Int) ≤ du 1 (bH y).1 := ⟨jk _ _,by have := jk 1 (bH y).1; have := nc 1 (bH y).1; omega⟩
  refine ⟨?_,?_,fun row hrow=>?_⟩
  ·rw [hmq]
   exact Int.le_trans hpos (by have := Int.mul_le_mul_of_nonneg_left h1m.1 (show 0 ≤ (bH x).1 by omega); omega)
  ·rw [e,hmq]
   have h2 : (((bp r x).length * max 1 (bp r y).length : Nat) : Int) ≤ (bH x).1 * du 1 (bH y).1 := by
    rw [Int.natCast_mul]
    exact Int.mul_le_mul hxl h1m.2 (by omega) (by omega)
   omega
  ·rw [e] at hrow
   rw [hcx]
   obtain ⟨u,hu,⟨v,hv,rfl⟩ | ⟨hl,rfl⟩⟩ := joinR_mem hrow
   ·exact join_fits (hx.fits u hu) (hy.fits v hv)
   ·rw [hl]; exact pad_fits (hx.fits u hu)
 ·-- union
  obtain ⟨x,y,hi⟩ := two (q := q) (by simpa using har)
  have hx := hall x (by rw [hi]; simp)
  have hy := hall y (by rw [hi]; simp)
  have hmq := mK h.most (by omega) hi
  rw [zp k] at hmq
  rw [hi] at hcol ho
  unfold iI at ho hcol
  rw [zy (by omega),zy (by omega),zy (by omega),zp (.inl k)] at ho hcol
  have e : bp r q = bp r x ++ bp r y := by rw [ee,hi]; unfold dT; rw [zy (by omega),zy (by omega),zp k]; rfl
  change (ku q.kind (bv r x) (bv r y)).2 = 0 at ho
  change bv r q = (ku q.kind (bv r x) (bv r y)).1 at hcol
  have := hx.len
  have := hy.len
  have := hx.pos
  have := hy.pos
  refine ⟨by omega,by rw [e,hmq]; simp; omega,fun row hrow=>?_⟩
  rw [e] at hrow
  rw [hcol]
  rcases List.mem_append.1 hrow with hrow | hrow
  ·exact set_fits ho (.inl (hx.fits row hrow))
  ·exact set_fits ho (.inr ⟨k,hy.fits row hrow⟩)
 ·-- difference
  obtain ⟨x,y,hi⟩ := two (q := q) (by simpa using har)
  have hx := hall x (by rw [hi]; simp)
  have hmq := mK h.most (by omega) hi
  rw [zy (by omega),zy (by omega)] at hmq
  rw [hi] at hcol ho
  unfold iI at ho hcol
  rw [zy (by omega),zy (by omega),zy (by omega),zp (.inr k)] at ho hcol
  have e : bp r q = lq (bp r x) (bp r y) := by rw [ee,hi]; unfold dT; rw [zy (by omega),zy (by omega),zy (by omega),zp k]; rfl
  change (ku q.kind (bv r x) (bv r y)).2 = 0 at ho
  change bv r q = (ku q.kind (bv r x) (bv r y)).1 at hcol
  have hsub := qG (bp r x) (bp r y)
  have := hsub.length_le
  have := hx.len
  have := hx.pos
  refine ⟨by omega,by rw [e,hmq]; omega,fun row hrow=>?_⟩
  rw [e] at hrow
  rw [hcol]
  exact set_fits ho (.inl (hx.fits row (hsub.subset hrow)))
 ·-- aggregation
  obtain ⟨x,hi⟩ := one (q := q) (by simpa using har)
  have hx := hall x (by rw [hi]; simp)
  have hmq := ol h.most (by omega) hi
  rw [hi] at hcol ho
  unfold iI at ho hcol
  rw [zy (by omega),zy (by omega),zy (by omega),zy (by omega),zp (.inr k)] at ho hcol
  have e : bp r q = mZ r (bv r x) q (bp r x) := by rw [ee,hi]; unfold dT; rw [zy (by omega),zy (by omega),zy (by omega),zy (by omega),zy (by omega),zy (by omega),zp k]; rfl
  change (ml r.vars (bv r x) q).2 = 0 at ho
  change bv r q = (ml r.vars (bv r x) q).1 at hcol
  have hxl := hx.len
  have hxp := hx.pos
  have hxm := (gO h.most).2 x (by rw [hi]; simp)
  have hxm1 := (gO hxm).1
  unfold ml at ho hcol
  by_cases hn : (ct r.vars (bv r x) q.exprs q.names).2 = 0
  ·rw [zy (by simpa using hn)] at hcol ho
   by_cases hg : (dS r.vars (bv r x) q.aggregates).2 = 0
   ·rw [zy (by simpa using hg)] at hcol
    obtain ⟨hl,hinv⟩ := mB r.vars (bv r x) q.exprs q.names (hs.named (.inr k)) hn
    obtain ⟨hl2,hinv2⟩ := qf r.vars (bv r x) q.aggregates hg
    have hkeys := oI (fun x_1=>q.exprs.map fun e=>cM (bw r (bv r x) x_1) e) (bp r x) (if q.exprs = [] then [[]] else [])
    have hlen : ((mZ r (bv r x) q (bp r x)).length : Int) ≤ (bH x).1 := by
     unfold mZ
     rw [zl]
     by_cases hee : q.exprs = []
     ·-- without keys there is one group
      have : ∀ (l ks : Rows),ks = [[]] → eU (fun x_1=>q.exprs.map fun e=>cM (bw r (bv r x) x_1) e) ks l = [[]] := by
       intro l
       induction l with
       | nil=>intro ks hk; simpa [eU] using hk
       | cons z l ih2 =>
        intro ks hk
        rw [eU]
        refine ih2 _ ?_
        rw [zp (by rw [hk,hee]; simp),hk]
      rw [this _ _ (by rw [zp hee])]
      simp
      omega
     ·rw [zy hee] at hkeys ⊢
      simp at hkeys
      omega
    refine ⟨by rw [hmq]; exact hxp,by rw [hmq,e]; exact hlen,fun row hrow=>?_⟩
    rw [e] at hrow
    rw [hcol]
    unfold mZ at hrow
    obtain ⟨kk,hkk,rfl⟩ := List.mem_map.1 hrow
    refine eR.append ?_ ?_
    ·rcases (oC _ _ _ _).1 hkk with hk0 | ⟨y,hy,rfl⟩
     ·split at hk0
      ·rename_i hee
       simp at hk0
       subst hk0
       rw [hee] at hl ⊢
       exact ⟨by simpa using hl.symm,fun i c v hc hv=>by simp at hv⟩
      ·simp at hk0
     ·refine eR.map hl fun i e' c he hc=>?_
      obtain ⟨ht,d,hd,hk,hnl⟩ := hinv i e' he
      rw [hc] at hd
      cases hd
      rw [hk,hnl]
      exact qQ hr (hx.fits y hy) ht (h.expr (dr he))
    ·refine ⟨by simp [hl2],fun i c v hc hv=>?_⟩
     rw [List.getElem?_map,Option.map_eq_some_iff] at hv
     obtain ⟨a,ha,rfl⟩ := hv
     obtain ⟨hq,d,hd,hk,hnl⟩ := hinv2 i a ha
     rw [hc] at hd
     cases hd
     rw [hk,hnl]
     refine agg_fits hr hq (fun row hrow=>hx.fits row (List.mem_filter.1 hrow).1) ?_ (h.agg (dr ha))
     unfold fo
     exact Nat.le_trans (List.length_filter_le _ _) (by omega)
   ·rw [zp hg] at ho; exact absurd ho hg
  ·rw [zp hn] at ho; exact absurd ho hn
 ·-- sort
  obtain ⟨x,hi⟩ := one (q := q) (by simpa using har)
  have hx := hall x (by rw [hi]; simp)
  have hmq := ol h.most (by omega) hi
  rw [hi] at hcol ho
  unfold iI at ho hcol
  rw [zy (by omega),zy (by omega),zy (by omega),zy (by omega),zy (by omega),zp k] at ho hcol
  have hxm := (gO h.most).2 x (by rw [hi]; simp)
  have hxm1 := (gO hxm).1
  have hxl := hx.len
  obtain ⟨l',hsort,hperm⟩ := sort_ok r q (bv r x) (bp r x) (by omega) hself.1
  have e : bp r q = l' := by rw [ee,hi]; unfold dT; rw [zy (by omega),zy (by omega),zy (by omega),zy (by omega),zy (by omega),zy (by omega),zy (by omega),zp k]; show (fE r q (bv r x) (bp r x)).getD [] = l'; rw [hsort]; rfl
  have hcx : bv r q = bv r x := by
   by_cases hse : jq r.vars (bv r x) q.exprs = 0
   ·exact hcol.trans (by show (if jq r.vars (bv r x) q.exprs ≠ 0 then _ else _ : List LCol × Int).1 = _; rw [zy (by simpa using hse)]; rfl)
   ·exact absurd (by
     have : (if jq r.vars (bv r x) q.exprs ≠ 0 then (([],jq r.vars (bv r x) q.exprs) : List LCol × Int) else (bv r x,0)).2 = 0 := ho
     rw [zp hse] at this
     exact this) hse
  refine ⟨by rw [hmq]; exact hx.pos,by rw [hmq,e,hperm.length_eq]; exact hxl,fun row hrow=>?_⟩
  rw [e] at hrow
  rw [hcx]
  exact hx.fits row (hperm.mem_iff.1 hrow)
 ·-- limit
  obtain ⟨x,hi⟩ := one (q := q) (by simpa using har)
  have hx := hall x (by rw [hi]; simp)
  have hmq := ol h.most (by omega) hi
  rw [hi] at hcol ho
  unfold iI at ho hcol
  rw [zy (by omega),zy (by omega),zy (by omega),zy (by omega),zy (by omega),zy (by omega)] at ho hcol
  have hcx : bv r q = bv r x := hcol
  have e : bp r q = pz q (bp r x) := by rw [ee,hi]; unfold dT; rw [zy (by omega),zy (by omega),zy (by omega),zy (by omega),zy (by omega),zy (by omega),zy (by omega),zy (by omega)]; rfl
  have hsub : (pz q (bp r x)).Sublist (bp r x) := (List.drop_sublist _ _).trans (List.take_sublist _ _)
  have := hsub.length_le
  have := hx.len
  refine ⟨by rw [hmq]; exact hx.pos,by rw [hmq,e]; omega,fun row hrow=>?_⟩
  rw [e] at hrow
  rw [hcx]
  exact hx.fits row (hsub.subset hrow)
def SizeOk (q : LQuery) : Prop := (cg q).length ≤ 24 ∧ jh q ≤ 12 ∧ (bH q).2 ≤ 20000
instance (q : LQuery) : Decidable (SizeOk q) := by unfold SizeOk; infer_instance
theorem check_eq {s : LSchema} {vars : List LCol} {q : LQuery} (h : SmallQ q) : ∃ cs e,gg s vars q = some (cs,e) ∧ (e = 0 ↔ SizeOk q ∧ nQ (gV q) ∧ (ff ⟨s,vars⟩ q).2 = 0) ∧ (e = 0 → cs = (ff ⟨s,vars⟩ q).1) := by
 unfold gg
 rw [nodes_ok q h.nodes,bPs]
 by_cases h1 : (cg q).length ≤ 24
 ·rw [zf (show ¬ ((cg q).length : Int) > 24 from by omega),zd,depth_ok q h.nodes,bPs]
  by_cases h2 : jh q ≤ 12
  ·rw [zf (show ¬ jh q > 12 from by omega),zd]
   unfold fX
   rw [most_ok,bPs,bPs]
   by_cases h3 : (bH q).2 ≤ 20000
   ·rw [zf (show ¬ (bH q).2 > 20000 from by omega),bPs,zd,kinds_ok h.nodes,bPs]
    cases hb : (dR q).2.1 with
    | true =>
     refine ⟨[],13,rfl,⟨fun h=>by omega,fun hh=>?_⟩,fun h=>by omega⟩
     rw [kinds_bad.2 hh.2.1] at hb
     cases hb
    | false =>
     have hk := kinds_bad.1 hb
     simp only [zd]
     rw [cols_ok _ q h]
     refine ⟨(ff ⟨s,vars⟩ q).1,(ff ⟨s,vars⟩ q).2,rfl,⟨fun h0=>⟨⟨h1,h2,h3⟩,hk,h0⟩,fun hh=>hh.2.2⟩,fun _=>rfl⟩
   ·rw [zt (show (bH q).2 > 20000 from by omega)]
    exact ⟨[],2,rfl,⟨fun h=>by omega,fun hh=>absurd hh.1.2.2 h3⟩,fun h=>by omega⟩
  ·rw [zt (show jh q > 12 from by omega)]
   exact ⟨[],2,rfl,⟨fun h=>by omega,fun hh=>absurd hh.1.2.1 h2⟩,fun h=>by omega⟩
 ·rw [zt (show ((cg q).length : Int) > 24 from by omega)]
  exact ⟨[],2,rfl,⟨fun h=>by omega,fun hh=>absurd hh.1.1 h1⟩,fun h=>by omega⟩
structure TinyQ (q : LQuery) : Prop where
 nodes : (cg q).length ≤ 2000000
 here : ∀ x ∈ cg q,x.exprs.length ≤ 1000000 ∧ x.aggregates.length ≤ 1000000
theorem TinyQ.small {q : LQuery} (h : TinyQ q) : SmallQ q := ⟨by have := h.nodes; omega,h.here⟩
theorem oJ {H : Type} : ∀ ds : List (DataW H),(ds.map (fun d=>Rows.uptoBulk d)).sum = Rows.uptoBulkAll ds
 | []=>by simp [Rows.uptoBulkAll]
 | d :: ds=>by simp only [List.map_cons,List.sum_cons,Rows.uptoBulkAll,oJ ds]
theorem bulk_is : IsBulk (fun _ d=>Rows.uptoBulk d) where
 one := by
  intro H d
  cases d with
  | lit l=>cases l <;> simp [Rows.uptoBulk]
  | nil=>simp [Rows.uptoBulk]
  | ptr d=>simp [Rows.uptoBulk]
  | slice elems spare=>simp [Rows.uptoBulk]
  | agg parts=>simp [Rows.uptoBulk]
  | iface t d=>simp [Rows.uptoBulk]
  | map entries=>simp [Rows.uptoBulk]
  | held h=>simp [Rows.uptoBulk]
 str := by intro H l; simp [Rows.uptoBulk]
 slice := by intro H a b; rw [oJ]; simp only [Rows.uptoBulk]; omega
 agg := by intro H a; rw [oJ]; simp only [Rows.uptoBulk]; omega
theorem ir {r : List PV} : ∀ {rs : List (List PV)},r ∈ rs → bd r ≤ fU rs
 | x :: rs,h=>by
  simp only [fU]
  rcases List.mem_cons.1 h with rfl | h
  ·omega
  ·have := ir h; omega
theorem jR {α : Type} {f : α → List PV} {k : Nat} (hf : ∀ x,k ≤ bd (f x)) : ∀ l : List α,k * l.length ≤ fU (l.map f)
 | []=>by simp
 | x :: l=>by
  have := jR hf l
  have := hf x
  simp only [List.map_cons,fU,List.length_cons,Nat.mul_add]
  omega
theorem expr_pos (e : LExpr) : 2 ≤ bd (aC e) := by
 cases e; simp only [aC,bd,PV.bulk]; omega
theorem call_pos (c : LAggregateCall) : 2 ≤ bd (bT c) := by
 simp only [bT,bd,PV.bulk]; omega
theorem smallS_bulk {s : LSchema} {n : Nat} (hn : n ≤ 10000000) (h : bd (bG s) ≤ n) : lS s := by
 intro t ht
 have h1 : fU (s.tables.map cP) ≤ bd (bG s) := by
  simp only [bG,bd,PV.bulk]; omega
 have h2 := ir (List.mem_map_of_mem (f := cP) ht)
 have h3 : fU (t.primaryKey.map bS) ≤ bd (cP t) := by
  simp only [cP,bd,PV.bulk]; omega
 have h4 := jR (f := bS) (k := 1) (fun x=>by simp [bd,PV.bulk]) t.primaryKey
 omega
theorem nodes_bulk : ∀ q : LQuery,(cg q).length + 1 ≤ bd (aE q) ∧ ∀ x ∈ cg q,2 * x.exprs.length ≤ bd (aE q) ∧ 2 * x.aggregates.length ≤ bd (aE q) := by
 apply LQuery.ind
 intro q ih
 have e : bd (aE q) = bd (aw q) := by rw [bA]
 have hr : fU (q.inputs.map aE) + 8 ≤ bd (aw q) := by
  simp only [aw,bd,PV.bulk]; omega
 have hsum : ∀ l : List LQuery,(∀ x ∈ l,x ∈ q.inputs) → ((l.map cg).flatten).length + l.length ≤ fU (l.map aE) := by
  intro l
  induction l with
  | nil=>intro _; simp
  | cons x l ihl =>
   intro hm
   have h1 := (ih x (hm x (by simp))).1
   have h2 := ihl (fun y hy=>hm y (by simp [hy]))
   simp only [List.map_cons,List.flatten_cons,List.length_append,List.length_cons,fU]
   omega
 have h0 := hsum q.inputs (fun _ h=>h)
 rw [e]
 refine ⟨?_,fun x hx=>?_⟩
 ·rw [gY]; simp only [List.length_cons]; omega
 ·rw [gY] at hx
  rcases List.mem_cons.1 hx with rfl | hx
  ·have h1 := jR expr_pos x.exprs
   have h2 := jR call_pos x.aggregates
   constructor
   ·simp only [aw,bd,PV.bulk]; omega
   ·simp only [aw,bd,PV.bulk]; omega
  ·simp only [List.mem_flatten,List.mem_map] at hx
   obtain ⟨l,⟨y,hy,rfl⟩,hx⟩ := hx
   have h1 := (ih y hy).2 x hx
   have h2 := ir (List.mem_map_of_mem (f := aE) hy)
   omega
theorem qK {q : LQuery} {n : Nat} (hn : n ≤ 1048576) (h : bd (aw q) ≤ n) : TinyQ q := by
 rw [← bA] at h
 have := nodes_bulk q
 exact ⟨by omega,fun x hx=>by have := this.2 x hx; omega⟩
theorem args_lt {e a : LExpr} (h : a ∈ e.args) : SizeOf.sizeOf a < SizeOf.sizeOf e := by
 cases e
 have := List.sizeOf_lt_of_mem (show a ∈ _ from h)
 simp only [LExpr.mk.sizeOf_spec,LExpr.args] at *
 omega
theorem bulk_arg {e a : LExpr} (h : a ∈ e.args) : bd (aC a) ≤ bd (aC e) := by
 have h1 := ir (List.mem_map_of_mem (f := aC) h)
 rw [bP e]
 simp only [cz,bd,PV.bulk]
 omega
theorem args_bulk (e : LExpr) : e.args.length ≤ bd (aC e) := by
 have h1 := jR expr_pos e.args
 rw [bP e]
 simp only [cz,bd,PV.bulk]
 omega
theorem subst_id : ∀ (n : Nat) (e : LExpr),SizeOf.sizeOf e ≤ n → bd (aC e) ≤ 1048576 → eA (n + 1) e [] [] = some e
 | 0,e,h,_=>by cases e; simp at h
 | n + 1,e,h,hb=>by
  have ih := fun a (ha : a ∈ e.args)=>subst_id n a (by have := args_lt ha; omega) (by have := bulk_arg ha; omega)
  have hl := args_bulk e
  rw [eA]
  unfold jO
  have hi : dA [] e.name = some (-1) := rfl
  rw [hi]
  have hr := rMa (step := fun (_ : Nat) (x2 : LExpr) (s2 : List LExpr)=>ae (eA (n + 1) x2 [] []) fun x45=>ae (cy 88 s2 ([x45] : List LExpr)) fun (x47 : List LExpr)=>some (Flow.next (ρ := Empty) x47)) (xs := e.args) (s := [])
   (fun k=>e.args.take k) (by simp) (fun k x hk=>by
    have hkl := (zg.1 hk).1
    rw [ih x (dr hk),bPs,bN (by decide) (by simp; omega),bPs,List.take_add_one,hk]
    rfl)
  rw [hr]
  cases e.kind == 2 <;> cases e <;> simp [bPs,Flow.thenR,Flow.thenP,LExpr.kind,LExpr.name,LExpr.index,LExpr.value,LExpr.args]
theorem pO {e : LExpr} (hb : bd (aC e) ≤ 1048576) : iw e = some e := by
 unfold iw
 refine kR (SizeOf.sizeOf e + 2) fun m hm=>?_
 obtain ⟨m,rfl⟩ : ∃ k,m = k + 2 := ⟨m - 2,by omega⟩
 rw [jl]
 unfold lX
 show (ae (eA (m + 1) e [] []) fun x4=>some x4) = some e
 rw [subst_id m e (by omega) hb]
 rfl
theorem rowLen {cols : List LCol} {row : Rq} (h : eR cols row) (hc : cols.length ≤ 20) : row.length ≤ 20 := by rw [h.1]; exact hc
theorem scan_run (st : List LRelation) (name : List UInt8) : ae (aD (σ := Unit) (ρ := (Rows)) (fun (_ : Nat) (x1 : LRelation) (_ : Unit)=>cond (x1.table == name) (some (.ret x1.rows)) (some (.next ()))) 0 st ()) (fun fl1=>fl1.thenR fun (_ : Unit)=>some []) =
  some (match st.find? fun x=>x.table == name with | some x=>x.rows | none=>[]) := by
 rw [oX (fun x : LRelation=>x.table == name) (fun _ x=>x.rows) st 0 (fun k x _=>by cases x.table == name <;> rfl)]
 rcases find_idx (fun x : LRelation=>x.table == name) st with ⟨h1,h2⟩ | ⟨x,h1,h2,h3⟩
 ·rw [h1]
  unfold bf at h2
  cases hf : st.findIdx? (fun x=>x.table == name) with
  | none=>rfl
  | some i=>rw [hf] at h2; simp only at h2; omega
 ·rw [h1]
  unfold bf at h2 h3
  cases hf : st.findIdx? (fun x=>x.table == name) with
  | none=>rw [hf] at h2; simp at h2
  | some i =>
   rw [hf] at h3
   simp only [Int.toNat_natCast] at h3
   simp only [h3]
   rfl
theorem limit_run (l : Rows) (q : LQuery) (hl : l.length ≤ 1000000) (hc : 0 ≤ q.count) (ho : 0 ≤ q.offset) :
  nn l (if (l.length : Int) < q.offset then (l.length : Int) else q.offset) (IntKind.i64.wrap ((if (l.length : Int) < q.offset then (l.length : Int) else q.offset) + (if (IntKind.i64.wrap ((l.length : Int) - (if (l.length : Int) < q.offset then (l.length : Int) else q.offset))) < q.count then (IntKind.i64.wrap ((l.length : Int) - (if (l.length : Int) < q.offset then (l.length : Int) else q.offset))) else q.count))) = some (pz q l) := by
 obtain ⟨o,ho'⟩ : ∃ o : Nat,q.offset = o := ⟨q.offset.toNat,by omega⟩
 obtain ⟨c,hc'⟩ : ∃ c : Nat,q.count = c := ⟨q.count.toNat,by omega⟩
 unfold pz
 rw [ho',hc',Int.toNat_natCast,Int.toNat_natCast]
 by_cases h1 : (l.length : Int) < (o : Int)
 ·rw [zp h1,bD (n := (l.length : Int) - (l.length : Int)) (by omega) (by omega)]
  have e : (if (l.length : Int) - (l.length : Int) < (c : Int) then (l.length : Int) - (l.length : Int) else (c : Int)) = 0 := by split <;> omega
  rw [e,bD (by omega) (by omega),oZ ⟨by omega,by omega,by omega⟩]
  congr 1
  rw [List.drop_of_length_le (by simp only [List.length_take]; omega)]
  symm
  exact List.drop_of_length_le (by simp only [List.length_take]; omega)
 ·rw [zy h1,bD (n := (l.length : Int) - (o : Int)) (by omega) (by omega)]
  by_cases h2 : (l.length : Int) - (o : Int) < (c : Int)
  ·rw [zp h2,bD (by omega) (by omega),oZ ⟨by omega,by omega,by omega⟩]
   rw [Int.toNat_natCast,List.take_of_length_le (i := ((o : Int) + ((l.length : Int) - (o : Int))).toNat) (by omega),List.take_of_length_le (i := o + c) (by omega)]
  ·rw [zy h2,bD (by omega) (by omega),oZ ⟨by omega,by omega,by omega⟩]
   rw [Int.toNat_natCast,show ((o : Int) + (c : Int)).toNat = o + c from by omega]
theorem join_run2 (r : LRun) (q : LQuery) (ca cb : List LCol) (e : LExpr) (he : aK q.exprs 0 = some e) (hee : e = e0Q q) (a b : Rows) (ha : ∀ x ∈ a,x.length ≤ 20) (hb : ∀ x ∈ b,x.length ≤ 20) (hcb : cb.length ≤ 20) (hsz : a.length * max 1 b.length ≤ 30000) (_hk : q.kind = 4 ∨ q.kind = 5) :
  ae (aD (σ := List LCol × Rows) (ρ := Empty) (fun (_ : Nat) (x1 : Rq) (s1 : List LCol × Rows) =>
  ae (aD (σ := Rows × Bool) (ρ := Empty) (fun (_ : Nat) (x6 : Rq) (s6 : Rows × Bool) =>
   ae (bV ([x1,x6] : Rows)) fun x58 =>
   ae (aK q.exprs 0) fun (x65 : LExpr) =>
   br (bw r s1.1 x58) fun x62 =>
   br (cM x62 x65) fun x67 =>
   br (kV x67) fun x68 =>
   cond x68
    (ae (cy 24 s6.1 ([x58] : Rows)) fun (x72 : Rows) =>
    some (.next (x72,true)))
    (some (.next (s6.1,s6.2)))) 0 b (s1.2,false)) fun fl6=>fl6.thenP fun (s6 : Rows × Bool) =>
  br (
   cond (!s6.2)
    ((q.kind == (5 : Int)))
    (false)) fun (t7 : Bool) =>
  cond t7
   (ae (oO 32 (cb.length : Int)) fun (_ : Unit) =>
   ae (bV ([x1,(List.replicate (cb.length : Int).toNat (LVal.mk 0 0 []))] : Rows)) fun x87 =>
   ae (cy 24 s6.1 ([x87] : Rows)) fun (x89 : Rows) =>
   some (.next (s1.1,x89)))
   (some (.next (s1.1,s6.1)))) 0 a (ca ++ cb,[])) (fun fl1=>fl1.thenP fun (s1 : List LCol × Rows)=>some s1.2) = some (kg (hM r (ca ++ cb) q) (q.kind == 5) (List.replicate cb.length .nul) a b) := by
 have hpl : ∀ k,k ≤ a.length → (kg (hM r (ca ++ cb) q) (q.kind == 5) (List.replicate cb.length .nul) (a.take k) b).length ≤ 30000 := fun k hk=>by
  have h1 := qI (hM r (ca ++ cb) q) (q.kind == 5) (List.replicate cb.length .nul) (a.take k) b
  rw [List.length_take,Nat.min_eq_left hk] at h1
  exact Nat.le_trans h1 (Nat.le_trans (Nat.mul_le_mul_right _ hk) hsz)
 rw [rMa (xs := a) (s := (ca ++ cb,[])) (fun k=>(ca ++ cb,kg (hM r (ca ++ cb) q) (q.kind == 5) (List.replicate cb.length .nul) (a.take k) b)) rfl (fun k x hkx=>by
  have hkl := (zg.1 hkx).1
  have hxm := dr hkx
  have hbl : b.length ≤ 30000 := by
   have h1 : 1 * max 1 b.length ≤ a.length * max 1 b.length := Nat.mul_le_mul_right _ (by omega)
   omega
  have h2 := hpl k (by omega)
  simp only
  rw [match_run (hM r (ca ++ cb) q) e r (ca ++ cb) q.exprs he (fun z=>by rw [hee]; rfl) x (by have := ha x hxm; omega) b _ false (fun y hy=>by have := hb y hy; omega) (by omega),bPs,bI]
  have hs : kg (hM r (ca ++ cb) q) (q.kind == 5) (List.replicate cb.length .nul) (a.take (k + 1)) b = kg (hM r (ca ++ cb) q) (q.kind == 5) (List.replicate cb.length .nul) (a.take k) b ++ padR (hM r (ca ++ cb) q) (q.kind == 5) (List.replicate cb.length .nul) x b := by
   unfold kg
   rw [List.take_add_one,hkx,List.map_append,List.flatten_append]
   simp
  rw [hs]
  simp only [bQ,Bool.false_or]
  have hml : (hZ (hM r (ca ++ cb) q) x b).length ≤ 30000 := by unfold hZ; exact Nat.le_trans (List.length_filter_le _ _) (by simpa using hbl)
  cases hm : hZ (hM r (ca ++ cb) q) x b with
  | nil =>
   by_cases h5 : q.kind = 5
   ·have e5 : (q.kind == 5) = true := lc h5
    simp only [e5,List.isEmpty_nil,Bool.not_true,Bool.not_false,zc]
    rw [growI_ok ⟨by omega,by omega,by unfold maxLen; omega⟩,bPs,concat2 x _ (by have := ha x hxm; omega) (by simp; omega),bPs]
    rw [e5] at h2
    rw [bN (by decide) (by simp at h2 ⊢; omega),bPs]
    unfold padR
    rw [zp ⟨rfl,hm⟩]
    simp [LVal.nul]
   ·have e5 : (q.kind == 5) = false := dg h5
    simp only [e5,List.isEmpty_nil,Bool.not_true,Bool.not_false,zc,zd]
    unfold padR
    rw [zy (by simp),hm]
  | cons z zs =>
   simp only [List.isEmpty_cons,Bool.not_false,Bool.not_true,zd]
   unfold padR
   rw [zy (by rw [hm]; simp),hm])]
 rw [bPs,bI,List.take_length]
theorem rows_ev {r : LRun} (hr : RunOk r) : ∀ q : LQuery,QOk r q → ∃ N,∀ n,N ≤ n → eW n r q = some (bp r q) := by
 refine LQuery.ind fun q ih h=>?_
 have hs := shape_ok (pL h.cols).1
 obtain ⟨ho,hcol⟩ := colsR_out h
 have hself := h.small.self
 have hm := (gO h.most).1
 obtain ⟨N,hN⟩ := nd (p := fun x n=>eW n r x = some (bp r x)) q.inputs (fun x hx=>ih x hx (h.sub hx))
 have hall : ∀ x ∈ q.inputs,RowsOk r x := fun x hx=>rows_fit hr x (h.sub hx)
 have hsz : ∀ x ∈ q.inputs,(bp r x).length ≤ 20000 := fun x hx=>by
  have h1 := (hall x hx).len
  have h2 := (gO h.most).2 x hx
  have h3 := (gO h2).1
  omega
 have hrow : ∀ x ∈ q.inputs,∀ row ∈ bp r x,row.length ≤ 20 := fun x hx row hrow=>rowLen ((hall x hx).fits row hrow) (jY _ x)
 refine ⟨N + 2,fun n hn=>?_⟩
 obtain ⟨n,rfl⟩ : ∃ k,n = k + 2 := ⟨n - 2,by omega⟩
 rw [eW]
 simp only [kd]
 have kk : q.kind = 1 ∨ q.kind = 2 ∨ q.kind = 3 ∨ q.kind = 4 ∨ q.kind = 5 ∨ q.kind = 6 ∨ q.kind = 7 ∨ q.kind = 8 ∨ q.kind = 9 ∨ q.kind = 10 := by have := hs.kind; omega
 rcases kk with k | k | k | k | k | k | k | k | k | k
 ·rw [lc k,zc,scan_run,ee]
  unfold dT
  rw [zp k] <;>
   rfl
 all_goals have har := hs.arity
 all_goals rw [k] at har
 all_goals simp only [oq] at har
 ·-- filter
  obtain ⟨x,hi⟩ := one (q := q) (by simpa using har)
  have hxm : x ∈ q.inputs := by rw [hi]; simp
  have e : bp r q = (bp r x).filter (hM r (bv r x) q) := by rw [ee,hi]; unfold dT; rw [zy (by omega),zy (by omega),zy (by omega),zy (by omega),zp k]; rfl
  have hx := hN (n + 1) (by omega) x hxm
  rw [k,hi,e]
  simp only [aK,bQ]
  simp only [show ((2 : Int) == 1) = false from rfl,show ((2 : Int) == 4) = false from rfl,show ((2 : Int) == 5) = false from rfl,show ((2 : Int) == 6) = false from rfl,show ((2 : Int) == 7) = false from rfl,show ((2 : Int) == 2) = true from rfl,zd,zc,Int.le_refl,if_true,Int.toNat_zero,List.getElem?_cons_zero,bPs]
  rw [hx,bPs,kW (h.small.sub hxm),bPs]
  rw [deleteFunc_eq (bp r x) (fun a=>!hM r (bv r x) q a) _ (fun a _=>by
   unfold iy
   rw [e0_get (by rw [hs.one (.inl k)]; omega)]
   rfl) (by have := hsz x hxm; omega),bPs]
  simp
 ·-- project
  obtain ⟨x,hi⟩ := one (q := q) (by simpa using har)
  have hxm : x ∈ q.inputs := by rw [hi]; simp
  have e : bp r q = (bp r x).map fun y=>q.exprs.map fun e=>cM (bw r (bv r x) y) e := by rw [ee,hi]; unfold dT; rw [zy (by omega),zy (by omega),zy (by omega),zy (by omega),zy (by omega),zp k]; rfl
  have hx := hN (n + 1) (by omega) x hxm
  rw [k,hi,e]
  simp only [aK,bQ]
  simp only [show ((3 : Int) == 1) = false from rfl,show ((3 : Int) == 4) = false from rfl,show ((3 : Int) == 5) = false from rfl,show ((3 : Int) == 6) = false from rfl,show ((3 : Int) == 7) = false from rfl,show ((3 : Int) == 2) = false from rfl,show ((3 : Int) == 3) = true from rfl,zd,zc,Int.le_refl,if_true,Int.toNat_zero,List.getElem?_cons_zero,bPs]
  rw [hx,bPs,kW (h.small.sub hxm),bPs]
  rw [io (xs := bp r x) (fun y=>q.exprs.map fun e=>cM (bw r (bv r x) y) e) (fun i y hy=>by
   have hil := (zg.1 hy).1
   have := hsz x hxm
   rw [pA r _ _ _ (by omega),bPs,bN (by decide) (by simp; omega),bPs]),bPs,bI]
 ·-- inner join
  obtain ⟨x,y,hi⟩ := two (q := q) (by simpa using har)
  have hxm : x ∈ q.inputs := by rw [hi]; simp
  have hym : y ∈ q.inputs := by rw [hi]; simp
  have hmq := mK h.most (by omega) hi
  rw [zy (by omega),zp (.inl k)] at hmq
  have e : bp r q = kg (hM r (bv r x ++ bv r y) q) (q.kind == 5) (List.replicate (bv r y).length .nul) (bp r x) (bp r y) := by rw [ee,hi]; unfold dT; rw [zy (by omega),zp (.inl k)]; rfl
  have hx := hN n (by omega) x hxm
  have hy := hN n (by omega) y hym
  have hprod : (bp r x).length * max 1 (bp r y).length ≤ 30000 := by
   have h1m : ((max 1 (bp r y).length : Nat) : Int) ≤ du 1 (bH y).1 := by have := jk 1 (bH y).1; have := nc 1 (bH y).1; have := (hall y hym).len; omega
   have h2 : (((bp r x).length * max 1 (bp r y).length : Nat) : Int) ≤ (bH x).1 * du 1 (bH y).1 := by
    rw [Int.natCast_mul]
    exact Int.mul_le_mul (hall x hxm).len h1m (by omega) (by have := (hall x hxm).pos; omega)
   have := h.most
   omega
  rw [dg (show q.kind ≠ 1 by omega),lc k]
  simp only [zd,zc,bQ]
  rw [gu]
  simp only [jm]
  rw [hi]
  have g0 : aK [x,y] 0 = some x := rfl
  have g1 : aK [x,y] 1 = some y := rfl
  simp only [g0,g1,bPs]
  rw [hx,hy]
  simp only [bPs]
  rw [kW (h.small.sub hxm),kW (h.small.sub hym)]
  simp only [bPs]
  rw [bN (by decide) (by have := jY ⟨r.s,r.vars⟩ x; have := jY ⟨r.s,r.vars⟩ y; unfold bv; omega),bPs]
  have he1 : q.exprs.length = 1 := hs.one (.inr (.inl k))
  rw [join_run2 r q (bv r x) (bv r y) (e0Q q) (e0_get (by omega)) rfl (bp r x) (bp r y) (hrow x hxm) (hrow y hym) (jY _ y) hprod (.inl k),bPs,e]
 ·-- left join
  obtain ⟨x,y,hi⟩ := two (q := q) (by simpa using har)
  have hxm : x ∈ q.inputs := by rw [hi]; simp
  have hym : y ∈ q.inputs := by rw [hi]; simp
  have hmq := mK h.most (by omega) hi
  rw [zy (by omega),zp (.inr k)] at hmq
  have e : bp r q = kg (hM r (bv r x ++ bv r y) q) (q.kind == 5) (List.replicate (bv r y).length .nul) (bp r x) (bp r y) := by rw [ee,hi]; unfold dT; rw [zy (by omega),zp (.inr k)]; rfl
  have hx := hN n (by omega) x hxm
  have hy := hN n (by omega) y hym
  have hprod : (bp r x).length * max 1 (bp r y).length ≤ 30000 := by
   have h1m : ((max 1 (bp r y).length : Nat) : Int) ≤ du 1 (bH y).1 := by have := jk 1 (bH y).1; have := nc 1 (bH y).1; have := (hall y hym).len; omega
   have h2 : (((bp r x).length * max 1 (bp r y).length : Nat) : Int) ≤ (bH x).1 * du 1 (bH y).1 := by
    rw [Int.natCast_mul]
    exact Int.mul_le_mul (hall x hxm).len h1m (by omega) (by have := (hall x hxm).pos; omega)
   have := h.most
   omega
  rw [dg (show q.kind ≠ 1 by omega),dg (show q.kind ≠ 4 by omega),lc k]
  simp only [zd,zc,bQ]
  rw [gu]
  simp only [jm]
  rw [hi]
  have g0 : aK [x,y] 0 = some x := rfl
  have g1 : aK [x,y] 1 = some y := rfl
  simp only [g0,g1,bPs]
  rw [hx,hy]
  simp only [bPs]
  rw [kW (h.small.sub hxm),kW (h.small.sub hym)]
  simp only [bPs]
  rw [bN (by decide) (by have := jY ⟨r.s,r.vars⟩ x; have := jY ⟨r.s,r.vars⟩ y; unfold bv; omega),bPs]
  have he1 : q.exprs.length = 1 := hs.one (.inr (.inr k))
  rw [join_run2 r q (bv r x) (bv r y) (e0Q q) (e0_get (by omega)) rfl (bp r x) (bp r y) (hrow x hxm) (hrow y hym) (jY _ y) hprod (.inr k),bPs,e]
 ·-- union
  obtain ⟨x,y,hi⟩ := two (q := q) (by simpa using har)
  have hxm : x ∈ q.inputs := by rw [hi]; simp
  have hym : y ∈ q.inputs := by rw [hi]; simp
  have e : bp r q = bp r x ++ bp r y := by rw [ee,hi]; unfold dT; rw [zy (by omega),zy (by omega),zp k]; rfl
  have hx := hN (n + 1) (by omega) x hxm
  have hy := hN (n + 1) (by omega) y hym
  rw [dg (show q.kind ≠ 1 by omega),dg (show q.kind ≠ 4 by omega),dg (show q.kind ≠ 5 by omega),lc k,hi]
  have g0 : aK [x,y] 0 = some x := rfl
  have g1 : aK [x,y] 1 = some y := rfl
  simp only [zd,zc,bQ,g0,g1,bPs]
  have := hsz x hxm
  have := hsz y hym
  rw [hx,hy]
  simp only [bPs]
  rw [bN (by decide) (by omega),bPs,e]
 ·-- difference
  obtain ⟨x,y,hi⟩ := two (q := q) (by simpa using har)
  have hxm : x ∈ q.inputs := by rw [hi]; simp
  have hym : y ∈ q.inputs := by rw [hi]; simp
  have e : bp r q = lq (bp r x) (bp r y) := by rw [ee,hi]; unfold dT; rw [zy (by omega),zy (by omega),zy (by omega),zp k]; rfl
  have hx := hN (n + 1) (by omega) x hxm
  have hy := hN (n + 1) (by omega) y hym
  rw [dg (show q.kind ≠ 1 by omega),dg (show q.kind ≠ 4 by omega),dg (show q.kind ≠ 5 by omega),dg (show q.kind ≠ 6 by omega),lc k,hi]
  have g0 : aK [x,y] 0 = some x := rfl
  have g1 : aK [x,y] 1 = some y := rfl
  simp only [zd,zc,bQ,g0,g1,bPs]
  have := hsz x hxm
  have := hsz y hym
  rw [hx,hy]
  simp only [bPs]
  rw [less_eq _ _ (by omega) (by omega),bPs,e]
 ·-- aggregation
  obtain ⟨x,hi⟩ := one (q := q) (by simpa using har)
  have hxm : x ∈ q.inputs := by rw [hi]; simp
  have e : bp r q = mZ r (bv r x) q (bp r x) := by rw [ee,hi]; unfold dT; rw [zy (by omega),zy (by omega),zy (by omega),zy (by omega),zy (by omega),zy (by omega),zp k]; rfl
  have hx := hN (n + 1) (by omega) x hxm
  rw [dg (show q.kind ≠ 1 by omega),dg (show q.kind ≠ 4 by omega),dg (show q.kind ≠ 5 by omega),dg (show q.kind ≠ 6 by omega),dg (show q.kind ≠ 7 by omega),dg (show q.kind ≠ 2 by omega),dg (show q.kind ≠ 3 by omega),lc k,hi]
  have g0 : aK [x] 0 = some x := rfl
  simp only [zd,zc,bQ,g0,bPs]
  rw [hx,bPs,kW (h.small.sub hxm),bPs]
  have := hsz x hxm
  rw [group_eq r _ q _ (by omega) hself.1 hself.2,bPs,e]
 ·-- sort
  obtain ⟨x,hi⟩ := one (q := q) (by simpa using har)
  have hxm : x ∈ q.inputs := by rw [hi]; simp
  have := hsz x hxm
  obtain ⟨l',hsort,_⟩ := sort_ok r q (bv r x) (bp r x) (by omega) hself.1
  have e : bp r q = l' := by rw [ee,hi]; unfold dT; rw [zy (by omega),zy (by omega),zy (by omega),zy (by omega),zy (by omega),zy (by omega),zy (by omega),zp k]; show (fE r q (bv r x) (bp r x)).getD [] = l'; rw [hsort]; rfl
  have hx := hN (n + 1) (by omega) x hxm
  rw [dg (show q.kind ≠ 1 by omega),dg (show q.kind ≠ 4 by omega),dg (show q.kind ≠ 5 by omega),dg (show q.kind ≠ 6 by omega),dg (show q.kind ≠ 7 by omega),dg (show q.kind ≠ 2 by omega),dg (show q.kind ≠ 3 by omega),dg (show q.kind ≠ 8 by omega),lc k,hi]
  have g0 : aK [x] 0 = some x := rfl
  simp only [zd,zc,bQ,g0,bPs]
  rw [hx,bPs,kW (h.small.sub hxm),bPs,hsort,bPs,e]
 ·-- limit
  obtain ⟨x,hi⟩ := one (q := q) (by simpa using har)
  have hxm : x ∈ q.inputs := by rw [hi]; simp
  have e : bp r q = pz q (bp r x) := by rw [ee,hi]; unfold dT; rw [zy (by omega),zy (by omega),zy (by omega),zy (by omega),zy (by omega),zy (by omega),zy (by omega),zy (by omega)]; rfl
  have hx := hN (n + 1) (by omega) x hxm
  rw [dg (show q.kind ≠ 1 by omega),dg (show q.kind ≠ 4 by omega),dg (show q.kind ≠ 5 by omega),dg (show q.kind ≠ 6 by omega),dg (show q.kind ≠ 7 by omega),dg (show q.kind ≠ 2 by omega),dg (show q.kind ≠ 3 by omega),dg (show q.kind ≠ 8 by omega),dg (show q.kind ≠ 9 by omega),hi]
  have g0 : aK [x] 0 = some x := rfl
  simp only [zd,bQ,g0,bPs]
  rw [hx,bPs,kW (h.small.sub hxm),bPs]
  have := hsz x hxm
  rw [limit_run _ q (by omega) (hs.limit k).1 (hs.limit k).2,bPs,e]
theorem rows_eq {r : LRun} (hr : RunOk r) {q : LQuery} (h : QOk r q) : lI r q = some (bp r q) := by
 obtain ⟨N,hN⟩ := rows_ev hr q h
 exact kR N hN
abbrev runOf (s : LSchema) (st : List LRelation) (args : Rq) : LRun := LRun.mk s st args [] [] []
structure Runs (s : LSchema) (st : List LRelation) (q : LQuery) (args : Rq) : Prop where
 size : SizeOk q
 kinds : nQ (gV q)
 cols : (ff ⟨s,[]⟩ q).2 = 0
 inst : fu s st = some 0
 args : ArgsOk (gV q) args
theorem Runs.instOk {s : LSchema} {st : List LRelation} {q : LQuery} {args : Rq} (h : Runs s st q args) (hs : lS s) : InstOk s st := by
 obtain ⟨e,he,hok⟩ := conforms hs st
 rw [h.inst] at he
 cases he
 exact hok rfl
theorem Runs.qok {s : LSchema} {st : List LRelation} {q : LQuery} {args : Rq} (h : Runs s st q args) (hq : SmallQ q) : QOk (runOf s st args) q :=
 ⟨hq,h.cols,h.size.2.2,fun i k hm x hx=>(h.args.args i k hm).2.1 i x (Nat.le_refl _) hx⟩
theorem runs_tot {s : LSchema} (hs : lS s) (st : List LRelation) {q : LQuery} (hq : SmallQ q) (args : Rq) : ∃ b,jj s st q args = some b ∧ (b = true → Runs s st q args) := by
 unfold jj jQ
 rw [size_ok,bPs]
 obtain ⟨v,hv⟩ := validate_tot hs
 obtain ⟨cs,e,hc,he,_⟩ := check_eq (s := s) (vars := []) hq
 obtain ⟨f,hf,_⟩ := conforms hs st
 obtain ⟨g,hg,hga⟩ := args_ok hq.nodes args
 unfold lw
 rw [hv,hc,hf,hg]
 simp only [bPs]
 by_cases c1 : mn q 400 < 0
 ·rw [zt c1]; exact ⟨false,rfl,fun h=>by cases h⟩
 rw [zf c1,zd,bPs]
 by_cases c2 : v = 0
 ·rw [lY c2,zd,bPs]
  by_cases c3 : e = 0
  ·rw [lc c3,zc]
   by_cases c4 : (args.length : Int) ≤ 20
   ·rw [zt c4,zc]
    by_cases c5 : f = 0
    ·rw [lc c5,zc]
     refine ⟨g == 0,rfl,fun hg0=>?_⟩
     have hg0 : g = 0 := by simpa using hg0
     obtain ⟨a,b,c⟩ := he.1 c3
     exact ⟨a,b,c,by rw [hf,c5],hga.1 hg0⟩
    ·rw [dg c5]; exact ⟨false,rfl,fun h=>by cases h⟩
   ·rw [zf c4]; exact ⟨false,rfl,fun h=>by cases h⟩
  ·rw [dg c3]; exact ⟨false,rfl,fun h=>by cases h⟩
 ·rw [lJ c2]; exact ⟨false,rfl,fun h=>by cases h⟩
theorem rD {s : LSchema} (hs : lS s) {st : List LRelation} {q : LQuery} (hq : SmallQ q) {args : Rq} (h : Runs s st q args) :
  cR s st q args = some (LResult.mk (bv (runOf s st args) q) (bp (runOf s st args) q),true) := by
 unfold cR ij ip
 obtain ⟨cs,e,hc,he,hcs⟩ := check_eq (s := s) (vars := []) hq
 obtain ⟨g,hg,hga⟩ := args_ok hq.nodes args
 have e0 := he.2 ⟨h.size,h.kinds,h.cols⟩
 have g0 := hga.2 h.args
 have hr : RunOk (runOf s st args) := ⟨rfl,rfl,rfl,h.instOk hs⟩
 have hok := rows_fit hr q (h.qok hq)
 have hlen : (bp (runOf s st args) q).length ≤ 20000 := by
  have h1 := hok.len
  have h2 := h.size.2.2
  have h3 := (gO h2).1
  omega
 rw [hc,hg,h.inst]
 simp only [bPs]
 rw [lY e0,lY g0,zd,zd]
 simp only [aD,bPs,bI,bne_self_eq_false,zd]
 rw [rows_eq hr (h.qok hq),bPs]
 rw [io (xs := bp (runOf s st args) q) id (fun k x hk=>by
  have := (zg.1 hk).1
  rw [bN (by decide) (by simp; omega),bPs]
  rfl),bPs,bI,bPs,bPs,hcs e0]
 simp [bv]
theorem eqLoop {α : Type} [DecidableEq α] (x y : List α) (hl : x.length = y.length) (g : α → α → Option Bool) (hg : ∀ a ∈ x,∀ b,g a b = some (decide (a = b))) :
  ae (aD (σ := Unit) (ρ := (Bool)) (fun (j1 : Nat) (x1 : α) (_ : Unit)=>ae (aK y (j1 : Int)) fun (x24 : α)=>ae (g x1 x24) fun x29=>cond (!x29) (some (.ret false)) (some (.next ()))) 0 x ()) (fun fl1=>fl1.thenR fun (_ : Unit)=>some true) = some (decide (x = y)) := by
 obtain ⟨fl,hfl,hr⟩ := eI (step := fun (j1 : Nat) (x1 : α) (_ : Unit)=>ae (aK y (j1 : Int)) fun (x24 : α)=>ae (g x1 x24) fun x29=>cond (!x29) (some (Flow.ret false)) (some (.next ())))
   (fun j _=>x.take j = y.take j) (fun r=>r = false ∧ x ≠ y) x 0 () (by simp) (fun k v s hk hI=>by
    simp only [Nat.zero_add] at hI ⊢
    have hkl := (zg.1 hk).1
    rw [gU (by omega),bPs,hg v (dr hk),bPs]
    by_cases hv : v = y[k]
    ·rw [zt hv]
     refine ⟨_,rfl,?_⟩
     simp only
     rw [List.take_add_one,List.take_add_one,hk,ze (by omega),hI,hv]
    ·rw [zf hv]
     refine ⟨_,rfl,rfl,fun he=>hv ?_⟩
     subst he
     exact (zg.1 hk).2.symm)
 rw [hfl,bPs]
 cases fl with
 | brk s=>exact absurd hr (by simp)
 | ret r=>rw [nx,hr.1,zf hr.2]
 | next s =>
  simp only [Nat.zero_add,List.take_length] at hr
  rw [hl,List.take_length] at hr
  rw [iV,zt hr]
theorem sameRows_eq (a b : Rows) : dG a b = some (decide (a = b)) := by
 unfold dG cq
 by_cases hl : a.length = b.length
 ·rw [nH,zt hl,Bool.not_true,zd,eqLoop a b hl _ (fun x _ y=>by unfold go; rw [equalRow]; rfl),bPs]
 ·rw [nH,zf hl,zf (fun h=>hl (by rw [h]))]
  rfl
theorem scans_ok : iL = some true := by
 unfold iL
 have hin : ((LQuery.mk 1 [116] [] [] [] [] 0 0 []) : LQuery).inputs = [] := rfl
 have hnodes : cg (LQuery.mk 1 [116] [] [] [] [] 0 0 []) = [LQuery.mk 1 [116] [] [] [] [] 0 0 []] := by rw [gY,hin]; rfl
 have hparams : gV (LQuery.mk 1 [116] [] [] [] [] 0 0 []) = [] := by unfold gV; rw [hnodes]; rfl
 have hq : SmallQ (LQuery.mk 1 [116] [] [] [] [] 0 0 []) := ⟨by rw [hnodes]; decide,fun x hx=>by rw [hnodes] at hx; simp at hx; subst hx; exact ⟨by decide,by decide⟩⟩
 have hs : lS (LSchema.mk [(LTable.mk [116] [(LCol.mk [97] 1 false)] [0])] [] []) := fun t ht=>by simp at ht; subst ht; decide
 have hcols : ff ⟨LSchema.mk [(LTable.mk [116] [(LCol.mk [97] 1 false)] [0])] [] [],[]⟩ (LQuery.mk 1 [116] [] [] [] [] 0 0 []) = ([LCol.mk [97] 1 false],0) := by
  rw [pD,hin]
  rfl
 have hruns : Runs (LSchema.mk [(LTable.mk [116] [(LCol.mk [97] 1 false)] [0])] [] []) [(LRelation.mk [116] [[(LVal.mk 1 1 [])],[(LVal.mk 1 2 [])]])] (LQuery.mk 1 [116] [] [] [] [] 0 0 []) [] := by
  refine ⟨⟨by rw [hnodes]; decide,by rw [oK,hin]; decide,by rw [lL,hin]; decide⟩,by rw [hparams]; intro i k k' a; simp at a,by rw [hcols],?_,⟨by rw [hparams]; intro i k k' a; simp at a,by rw [hparams]; intro i k a; simp at a⟩⟩
  rfl
 have he := rD hs hq hruns
 unfold cR at he
 cases ho : ij (LSchema.mk [(LTable.mk [116] [(LCol.mk [97] 1 false)] [0])] [] []) [(LRelation.mk [116] [[(LVal.mk 1 1 [])],[(LVal.mk 1 2 [])]])] (LQuery.mk 1 [116] [] [] [] [] 0 0 []) [] with
 | none=>rw [ho] at he; cases he
 | some o =>
  rw [ho,bPs] at he
  simp only [zo,Prod.mk.injEq] at he
  rw [bPs]
  rw [he.2,he.1,zc,ee,hin]
  rfl
theorem eqSelf {α : Type} {xs : List α} {f : α → α → Option Bool} (h : ∀ x ∈ xs,f x x = some true) :
  (cond ((xs.length : Int) != (xs.length : Int)) (some false) (ae (aD (σ := Unit) (ρ := Bool) (fun (j1 : Nat) (x1 : α) (_ : Unit) =>
   ae (aK xs (j1 : Int)) fun (x24 : α) =>
   ae (f x1 x24) fun x29 =>
   cond (!x29)
    (some (.ret false))
    (some (.next ()))) 0 xs ()) fun fl1=>fl1.thenR fun (_ : Unit)=>some true)) = some true := by
 rw [lY rfl,zd,rMa (xs := xs) (fun _=>()) rfl (fun k x hk=>by rw [gL hk,bPs,h x (dr hk),bPs]; rfl)]
 rfl
theorem qV {α : Type} [BEq α] [ReflBEq α] (xs : List α) :
  (cond ((xs.length : Int) != (xs.length : Int)) (some false) (ae (aD (σ := Unit) (ρ := Bool) (fun (j1 : Nat) (x1 : α) (_ : Unit) =>
   ae (aK xs (j1 : Int)) fun (x24 : α) =>
   cond (!(x1 == x24))
    (some (.ret false))
    (some (.next ()))) 0 xs ()) fun fl1=>fl1.thenR fun (_ : Unit)=>some true)) = some true := by
 rw [lY rfl,zd,rMa (xs := xs) (fun _=>()) rfl (fun k x hk=>by rw [gL hk,bPs,BEq.rfl]; rfl)]
 rfl
theorem exprEq_ev (e : LExpr) : ∃ N,∀ n,N ≤ n → iv n e e = some true := by
 induction e using LExpr.ind with
 | _ e ih =>
  obtain ⟨N,hN⟩ := nd (p := fun x n=>iv n x x = some true) e.args ih
  refine ⟨N + 1,fun n hn=>?_⟩
  obtain ⟨n,rfl⟩ : ∃ k,n = k + 1 := ⟨n - 1,by omega⟩
  rw [iv]
  unfold lW
  have hl : ba e.args e.args (fun a0 a1=>iv n a0 a1) = some true := by
   unfold ba
   exact eqSelf fun x hx=>hN n (by omega) x hx
  dsimp only
  rw [hl]
  simp only [BEq.rfl,Bool.and_true,zc,bPs]
theorem exprEq (e : LExpr) : gm e e = some true := by
 obtain ⟨N,hN⟩ := exprEq_ev e
 exact kR N hN
theorem exprsEq (l : List LExpr) : ba l l (fun a0 a1=>gm a0 a1) = some true := by
 unfold ba
 exact eqSelf fun x _=>exprEq x
theorem callEq (x : LAggregateCall) : eG x x = some true := by
 unfold eG
 rw [exprsEq]
 simp only [BEq.rfl,zc,bPs]
theorem queryEq_ev : ∀ q : LQuery,∃ N,∀ n,N ≤ n → gW n q q = some true := by
 refine LQuery.ind fun q ih=>?_
 obtain ⟨N,hN⟩ := nd (p := fun x n=>gW n x x = some true) q.inputs ih
 refine ⟨N + 1,fun n hn=>?_⟩
 obtain ⟨n,rfl⟩ : ∃ k,n = k + 1 := ⟨n - 1,by omega⟩
 rw [gW]
 unfold ly
 have h1 : cp q.names q.names = some true := by
  unfold cp
  exact qV q.names
 have h2 : cV q.descending q.descending = some true := by
  unfold cV
  exact qV q.descending
 have h3 : aF q.aggregates q.aggregates (fun a0 a1=>eG a0 a1) = some true := by
  unfold aF
  exact eqSelf fun x _=>callEq x
 have h4 : bE q.inputs q.inputs (fun a0 a1=>gW n a0 a1) = some true := by
  unfold bE
  exact eqSelf fun x hx=>hN n (by omega) x hx
 dsimp only
 rw [h1,h2,exprsEq,h3,h4]
 simp only [BEq.rfl,zc,bPs]
theorem bulk_sub {q x : LQuery} (h : x ∈ q.inputs) : bd (aw x) ≤ bd (aw q) := by
 have h2 := ir (List.mem_map_of_mem (f := aE) h)
 rw [bA] at h2
 cases q
 simp only [aw,bd,PV.bulk,LQuery.inputs] at h2 ⊢
 omega
theorem exprs_eq {l : List LExpr} (hl : l.length ≤ 1000000) (hb : ∀ e ∈ l,bd (aC e) ≤ 1048576) : hC l = some l := by
 unfold hC
 rw [io (xs := l) id (fun k x hk=>by
  have hlt := (zg.1 hk).1
  rw [pO (hb x (dr hk)),bPs,bN (by decide) (by simp; omega),bPs]
  rfl),bPs,bI,List.map_id]
theorem pU {q : LQuery} {e : LExpr} (h : e ∈ q.exprs) : bd (aC e) ≤ bd (aw q) := by
 have h2 := ir (List.mem_map_of_mem (f := aC) h)
 simp only [aw,bd,PV.bulk]
 omega
theorem bulk_agg {q : LQuery} {a : LAggregateCall} (h : a ∈ q.aggregates) : bd (bT a) ≤ bd (aw q) := by
 have h2 := ir (List.mem_map_of_mem (f := bT) h)
 simp only [aw,bd,PV.bulk] at h2 ⊢
 omega
theorem bulk_args {a : LAggregateCall} {e : LExpr} (h : e ∈ a.args) : bd (aC e) ≤ bd (bT a) := by
 have h2 := ir (List.mem_map_of_mem (f := aC) h)
 simp only [bT,bd,PV.bulk]
 omega
theorem args_len (a : LAggregateCall) : 2 * a.args.length ≤ bd (bT a) := by
 have := jR (f := aC) (k := 2) expr_pos a.args
 simp only [bT,bd,PV.bulk]
 omega
theorem clone_ev : ∀ q : LQuery,bd (aw q) ≤ 1048576 → ∃ N,∀ n,N ≤ n → iD n q = some q := by
 refine LQuery.ind fun q ih hb=>?_
 have hsm : SmallQ q := (qK (Nat.le_refl _) hb).small
 obtain ⟨hE,hA⟩ := hsm.self
 have hi : q.inputs.length ≤ 10000000 := by
  have := hsm.nodes
  rw [gY] at this
  have h2 : q.inputs.length ≤ ((q.inputs.map cg).flatten).length := by
   have : ∀ l : List LQuery,l.length ≤ ((l.map cg).flatten).length := by
    intro l
    induction l with
    | nil=>simp
    | cons x l ih=>have := nodesQ_pos x; simp only [List.map_cons,List.flatten_cons,List.length_append,List.length_cons]; omega
   exact this _
  simp only [List.length_cons] at this
  omega
 obtain ⟨N,hN⟩ := nd (p := fun x n=>iD n x = some x) q.inputs fun x hx=>ih x hx (Nat.le_trans (bulk_sub hx) hb)
 refine ⟨N + 1,fun n hn=>?_⟩
 obtain ⟨n,rfl⟩ : ∃ k,n = k + 1 := ⟨n - 1,by omega⟩
 rw [iD]
 unfold lr
 rw [io (xs := q.exprs) id (fun k x hk=>by
  have hlt := (zg.1 hk).1
  rw [pO (Nat.le_trans (pU (dr hk)) hb),bPs,bN (by decide) (by simp; omega),bPs]
  rfl),bPs,bI,List.map_id]
 rw [io (xs := q.aggregates) id (fun k x hk=>by
  have hlt := (zg.1 hk).1
  have hbx := Nat.le_trans (bulk_agg (dr hk)) hb
  have hlx := args_len x
  rw [exprs_eq (l := x.args) (by omega) (fun e he=>Nat.le_trans (bulk_args he) hbx),bPs,bN (by decide) (by simp; omega),bPs]
  rfl),bPs,bI,List.map_id]
 rw [io (xs := q.inputs) id (fun k x hk=>by
  have hlt := (zg.1 hk).1
  dsimp only
  rw [hN n (by omega) x (dr hk),bPs,bN (by decide) (by simp; omega),bPs]
  rfl),bPs,bI,List.map_id]
 cases q
 rfl
theorem cloneQ_eq {q : LQuery} (hb : bd (aw q) ≤ 1048576) : kr q = some q := by
 obtain ⟨N,h⟩ := clone_ev q hb
 exact kR N h
theorem kZ {q : LQuery} (hb : bd (aw q) ≤ 1048576) : q.inputs.length ≤ 10000000 ∧ q.exprs.length ≤ 1000000 ∧ q.aggregates.length ≤ 1000000 := by
 have hsm : SmallQ q := (qK (Nat.le_refl _) hb).small
 obtain ⟨hE,hA⟩ := hsm.self
 refine ⟨?_,by omega,by omega⟩
 have := hsm.nodes
 rw [gY] at this
 have h2 : q.inputs.length ≤ ((q.inputs.map cg).flatten).length := by
  have : ∀ l : List LQuery,l.length ≤ ((l.map cg).flatten).length := by
   intro l
   induction l with
   | nil=>simp
   | cons x l ih=>have := nodesQ_pos x; simp only [List.map_cons,List.flatten_cons,List.length_append,List.length_cons]; omega
  exact this _
 simp only [List.length_cons] at this
 omega
theorem kLoopE {q : LQuery} (hb : bd (aw q) ≤ 1048576) : aD (σ := List LExpr) (ρ := Empty) (fun (_ : Nat) (x1 : LExpr) (s1 : List LExpr) =>
  ae (iw x1) fun x32 =>
  ae (cy 88 s1 ([x32] : List LExpr)) fun (x34 : List LExpr) =>
  some (.next x34)) 0 q.exprs [] = some (.next q.exprs) := by
 have hl := kZ hb
 rw [io (xs := q.exprs) id (fun k x hk=>by
  have hlt := (zg.1 hk).1
  rw [pO (Nat.le_trans (pU (dr hk)) hb),bPs,bN (by decide) (by simp; omega),bPs]
  rfl),List.map_id]
theorem kLoopA {q : LQuery} (hb : bd (aw q) ≤ 1048576) : aD (σ := List LAggregateCall) (ρ := Empty) (fun (_ : Nat) (x2 : LAggregateCall) (s2 : List LAggregateCall) =>
  ae (hC x2.args) fun x52 =>
  ae (cy 56 s2 ([(LAggregateCall.mk x2.name x2.function x52)] : List LAggregateCall)) fun (x55 : List LAggregateCall) =>
  some (.next x55)) 0 q.aggregates [] = some (.next q.aggregates) := by
 have hl := kZ hb
 rw [io (xs := q.aggregates) id (fun k x hk=>by
  have hlt := (zg.1 hk).1
  have hbx := Nat.le_trans (bulk_agg (dr hk)) hb
  have hlx := args_len x
  rw [exprs_eq (l := x.args) (by omega) (fun e he=>Nat.le_trans (bulk_args he) hbx),bPs,bN (by decide) (by simp; omega),bPs]
  rfl),List.map_id]
theorem kLoopI {q : LQuery} (hb : bd (aw q) ≤ 1048576) : aD (σ := List LQuery) (ρ := Empty) (fun (_ : Nat) (x3 : LQuery) (s3 : List LQuery) =>
  ae (kr x3) fun x68 =>
  ae (cy 160 s3 ([x68] : List LQuery)) fun (x70 : List LQuery) =>
  some (.next x70)) 0 q.inputs [] = some (.next q.inputs) := by
 have hl := kZ hb
 rw [io (xs := q.inputs) id (fun k x hk=>by
  have hlt := (zg.1 hk).1
  rw [cloneQ_eq (Nat.le_trans (bulk_sub (dr hk)) hb),bPs,bN (by decide) (by simp; omega),bPs]
  rfl),List.map_id]
theorem cloneO {q : LQuery} (hb : bd (aw q) ≤ 1048576) : jy q = some q := by
 unfold jy
 rw [kLoopE hb,bPs,bI,kLoopA hb,bPs,bI,kLoopI hb,bPs,bI]
 cases q
 rfl
theorem qS {α : Type} {xs : List α} {k i : Nat} (h : (List.range xs.length)[k]? = some i) : ∃ hk : k < xs.length,xs[k]? = some xs[k] := by
 have hk : k < xs.length := by simpa using (zg.1 h).1
 exact ⟨hk,ze hk⟩
theorem cloneK {q : LQuery} (hb : bd (aw q) ≤ 1048576) : jF q = some q := by
 have hl := kZ hb
 unfold jF
 rw [jX (by omega),bPs,Int.toNat_natCast]
 rw [rMa (xs := List.range q.exprs.length) (s := []) (fun k=>q.exprs.take k) (by simp) (fun k i hi=>by
  obtain ⟨hk,hx⟩ := qS hi
  rw [gL hx,bPs,pO (Nat.le_trans (pU (dr hx)) hb),bPs,bN (by decide) (by simp; omega),bPs,List.take_add_one,hx]
  rfl),bPs,bI,kLoopA hb,bPs,bI,jX (by omega),bPs,Int.toNat_natCast]
 rw [rMa (xs := List.range q.inputs.length) (s := []) (fun k=>q.inputs.take k) (by simp) (fun k i hi=>by
  obtain ⟨hk,hx⟩ := qS hi
  rw [gL hx,bPs,cloneQ_eq (Nat.le_trans (bulk_sub (dr hx)) hb),bPs,bN (by decide) (by simp; omega),bPs,List.take_add_one,hx]
  rfl),bPs,bI,List.length_range,List.length_range,List.take_length,List.take_length]
 cases q
 rfl
theorem kEq {α : Type} {xs : List α} {f : α → α → Option Bool} (hl : xs.length ≤ 10000000) (h : ∀ x ∈ xs,f x x = some true) :
  (cond ((xs.length : Int) != (xs.length : Int)) (some false) (ae (gj (xs.length : Int)) fun (n1 : Nat) =>
  ae (aD (σ := Unit) (ρ := Bool) (fun (j1 : Nat) (_ : Nat) (_ : Unit) =>
   ae (aK xs (j1 : Int)) fun (x20 : α) =>
   ae (aK xs (j1 : Int)) fun (x24 : α) =>
   ae (f x20 x24) fun x29 =>
   cond (!x29)
    (some (.ret false))
    (some (.next ()))) 0 (List.range n1) ()) fun fl1=>fl1.thenR fun (_ : Unit)=>some true)) = some true := by
 rw [lY rfl,zd,jX (by omega),bPs,Int.toNat_natCast,rMa (xs := List.range xs.length) (s := ()) (fun _=>()) rfl (fun k i hi=>by
  obtain ⟨hk,hx⟩ := qS hi
  rw [gL hx,bPs,bPs,h _ (dr hx),bPs]
  rfl)]
 rfl
theorem queryEq (q : LQuery) : fN q q = some true := by
 obtain ⟨N,hN⟩ := queryEq_ev q
 exact kR N hN
theorem equalK {q : LQuery} (hb : bd (aw q) ≤ 1048576) : jE q q = some true := by
 have hl := kZ hb
 unfold jE
 have h1 : cp q.names q.names = some true := by
  unfold cp
  exact qV q.names
 have h2 : cV q.descending q.descending = some true := by
  unfold cV
  exact qV q.descending
 have h3 : aF q.aggregates q.aggregates (fun a0 a1=>eG a0 a1) = some true := by
  unfold aF
  exact eqSelf fun x _=>callEq x
 have h4 : bL q.exprs q.exprs (fun a0 a1=>gm a0 a1) = some true := by
  unfold bL
  exact kEq (by omega) fun x _=>exprEq x
 have h5 : bC q.inputs q.inputs (fun a0 a1=>fN a0 a1) = some true := by
  unfold bC
  exact kEq (by omega) fun x _=>queryEq x
 rw [h1,h2,h3,h4,h5]
 simp only [BEq.rfl,zc,bPs]
theorem wipeFl {α : Type} {xs : List α} {z : α} : ∃ fl,aD (σ := List α) (ρ := Empty) (fun (j1 : Nat) (_ : Nat) (s1 : List α) =>
    ae (aK s1 (j1 : Int)) fun (_ : α) =>
    br (s1.set ((j1 : Int).toNat) z) fun (y4 : List α) =>
    some (.next y4)) 0 (List.range xs.length) xs = some fl ∧ (match fl with | .next _=>True | .brk _=>False | .ret _=>True) := by
 obtain ⟨fl,h1,h2⟩ := eI (step := fun (j1 : Nat) (_ : Nat) (s1 : List α) =>
    ae (aK s1 (j1 : Int)) fun (_ : α) =>
    br (s1.set ((j1 : Int).toNat) z) fun (y4 : List α) =>
    some (Flow.next (ρ := Empty) y4)) (fun _ s=>s.length = xs.length) (fun _=>False) (List.range xs.length) 0 xs rfl (fun j i s hi hI=>by
  have hj : j < xs.length := by simpa using (zg.1 hi).1
  refine ⟨.next (s.set j z),?_,by simp only [List.length_set]; exact hI⟩
  rw [Nat.zero_add,gL (ze (show j < s.length by omega)),bPs,bQ,Int.toNat_natCast])
 refine ⟨fl,h1,?_⟩
 cases fl with
 | next s=>trivial
 | brk s=>exact absurd h2 (by simp)
 | ret r=>trivial
theorem wipe {α β : Type} {xs : List α} {z : α} {k : List α → Option β} {r : β} (hl : xs.length ≤ 10000000) (hk : ∀ ys,k ys = some r) :
  (ae (gj (xs.length : Int)) fun (n1 : Nat) =>
   ae (aD (σ := List α) (ρ := Empty) (fun (j1 : Nat) (_ : Nat) (s1 : List α) =>
    ae (aK s1 (j1 : Int)) fun (_ : α) =>
    br (s1.set ((j1 : Int).toNat) z) fun (y4 : List α) =>
    some (.next y4)) 0 (List.range n1) xs) fun fl1=>fl1.thenP k) = some r := by
 rw [jX (by omega),bPs,Int.toNat_natCast]
 obtain ⟨fl,h1,h2⟩ := eI (step := fun (j1 : Nat) (_ : Nat) (s1 : List α) =>
    ae (aK s1 (j1 : Int)) fun (_ : α) =>
    br (s1.set ((j1 : Int).toNat) z) fun (y4 : List α) =>
    some (Flow.next (ρ := Empty) y4)) (fun _ s=>s.length = xs.length) (fun _=>False) (List.range xs.length) 0 xs rfl (fun j i s hi hI=>by
  have hj : j < xs.length := by simpa using (zg.1 hi).1
  refine ⟨.next (s.set j z),?_,by simp only [List.length_set]; exact hI⟩
  rw [Nat.zero_add,gL (ze (show j < s.length by omega)),bPs,bQ,Int.toNat_natCast])
 rw [h1,bPs]
 cases fl with
 | next s=>exact hk s
 | brk s=>exact absurd h2 (by simp)
 | ret r=>exact r.elim
theorem wipe2 {α β : Type} {z : α} {xs : List α} (hl : xs.length ≤ 10000000) {f : List α → β} {K : β → Option Bool} (hk : ∀ s,K s = some true) :
  ae (cond ((xs.length : Int) != (0 : Int)) (ae (gj (xs.length : Int)) fun (n1 : Nat) =>
   ae (aD (σ := List α) (ρ := Empty) (fun (j1 : Nat) (_ : Nat) (s1 : List α) =>
    ae (aK s1 (j1 : Int)) fun (_ : α) =>
    br (s1.set ((j1 : Int).toNat) z) fun (y4 : List α) =>
    some (.next y4)) 0 (List.range n1) xs) fun fl1=>fl1.thenP fun (s1 : List α)=>some (f s1)) (some (f xs))) K = some true := by
 cases ((xs.length : Int) != (0 : Int))
 ·rw [zd,bPs]; exact hk _
 ·rw [zc]
  have h : ∃ b,(ae (gj (xs.length : Int)) fun (n1 : Nat) =>
   ae (aD (σ := List α) (ρ := Empty) (fun (j1 : Nat) (_ : Nat) (s1 : List α) =>
    ae (aK s1 (j1 : Int)) fun (_ : α) =>
    br (s1.set ((j1 : Int).toNat) z) fun (y4 : List α) =>
    some (.next y4)) 0 (List.range n1) xs) fun fl1=>fl1.thenP fun (s1 : List α)=>some (f s1)) = some b := by
   rw [jX (by omega),bPs,Int.toNat_natCast]
   obtain ⟨fl,h1,h2⟩ := wipeFl (z := z) (xs := xs)
   rw [h1,bPs]
   cases fl with
   | next s=>exact ⟨_,rfl⟩
   | brk s=>exact absurd h2 (by simp)
   | ret r=>exact r.elim
  obtain ⟨b,h⟩ := h
  rw [h,bPs]
  exact hk b
theorem pX {s : LSchema} (hs : lS s) (st : List LRelation) {q : LQuery} (hb : bd (aw q) ≤ 1048576) (args : Rq) : ep s st q args = some true := by
 have hq : SmallQ q := (qK (Nat.le_refl _) hb).small
 have hl := kZ hb
 unfold ep
 rw [scans_ok,bPs,Bool.not_true,zd]
 obtain ⟨b,hr,hruns⟩ := runs_tot hs st hq args
 rw [hr,bPs]
 cases b with
 | false=>rfl
 | true =>
  have h := hruns rfl
  have he := rD hs hq h
  rw [Bool.not_true,zd,he,bPs,cloneO hb,bPs,equalK hb,bPs,cloneK hb,bPs]
  have hend : (ae (cR s st q args) fun x92=>cond true (cond x92.2 (cond true (ae (fN q q) fun x105=>cond x105 (ae (dG (bp (runOf s st args) q) x92.1.rows) fun x112=>some x112) (some false)) (some false)) (some false)) (some false)) = some true := by
   rw [he,bPs]
   simp only
   rw [zc,zc,zc,queryEq,bPs,zc,sameRows_eq,bPs,zt rfl]
  exact qA (wipe2 (by omega) fun _=>qA (wipe2 (by omega) fun _=>hend) (wipe (by omega) fun _=>hend)) (wipe (by omega) fun _=>qA (wipe2 (by omega) fun _=>hend) (wipe (by omega) fun _=>hend))
theorem own_knob : ownKnob Tryz.prog.godebug = none := by kernel_rfl
theorem laid_out : laidOutB Tryz.prog = true := by kernel_rfl
def lawTypes : List TypeId := [26,22,56,9,39,53,3,4,54,23,101,24,107,48,28,59,40,57,35,29,30,50,31,70,32,33,36]
theorem lawTypes_ok : lawTypes.all (okT Tryz.prog lawTypes) = true := by kernel_rfl
theorem lawTypes_info : ∀ t ∈ lawTypes,∃ i,Tryz.prog.info? t = some i ∧ i.bytes = Tryz.prog.bytesOf t ∧ i.size = Tryz.prog.cellsOf t := infos_of (by kernel_rfl)
theorem sh9 {n : Nat} {pvs : List PV} (h : Sh Tryz.prog n 9 pvs) : ∃ v : List UInt8,pvs = [.str v] := by
 cases n with
 | zero=>simp [Sh] at h
 | succ n=>simp only [Sh,Tryz.underlying9] at h; obtain ⟨m,rfl,_⟩ := h; exact ⟨m,rfl⟩
theorem sh3 {n : Nat} {pvs : List PV} (h : Sh Tryz.prog n 3 pvs) : ∃ v : Int,pvs = [ai v] := by
 cases n with
 | zero=>simp [Sh] at h
 | succ n=>simp only [Sh,Tryz.underlying3] at h; obtain ⟨m,rfl,_⟩ := h; exact ⟨m,rfl⟩
theorem sh4 {n : Nat} {pvs : List PV} (h : Sh Tryz.prog n 4 pvs) : ∃ v : Bool,pvs = [ay v] := by
 cases n with
 | zero=>simp [Sh] at h
 | succ n=>simp only [Sh,Tryz.underlying4] at h; obtain ⟨m,rfl⟩ := h; exact ⟨m,rfl⟩
theorem sh53 {n : Nat} {pvs : List PV} (h : Sh Tryz.prog n 53 pvs) : ∃ v : LCol,pvs = aR v := by
 cases n with
 | zero=>simp [Sh] at h
 | succ n =>
  simp only [Sh,Tryz.underlying53,List.map_cons,List.map_nil,gz] at h
  obtain ⟨p0,r0,rfl,h0,p1,r1,rfl,h1,p2,r2,rfl,h2,rfl⟩ := h
  obtain ⟨v0,rfl⟩ := sh9 h0
  obtain ⟨v1,rfl⟩ := sh3 h1
  obtain ⟨v2,rfl⟩ := sh4 h2
  exact ⟨LCol.mk v0 v1 v2,rfl⟩
theorem sh39 {n : Nat} {pvs : List PV} (h : Sh Tryz.prog n 39 pvs) : ∃ v : List LCol,pvs = [.list 53 (v.map aR)] := by
 cases n with
 | zero=>simp [Sh] at h
 | succ n =>
  simp only [Sh,Tryz.underlying39] at h
  obtain ⟨rows,rfl,hr⟩ := h
  obtain ⟨xs,rfl⟩ := jd (f := aR) (fun r hq=>sh53 (hr r hq))
  exact ⟨xs,rfl⟩
theorem sh54 {n : Nat} {pvs : List PV} (h : Sh Tryz.prog n 54 pvs) : ∃ v : List Int,pvs = [.list 3 (v.map bS)] := by
 cases n with
 | zero=>simp [Sh] at h
 | succ n =>
  simp only [Sh,Tryz.underlying54] at h
  obtain ⟨rows,rfl,hr⟩ := h
  obtain ⟨xs,rfl⟩ := jd (f := bS) (fun r hq=>let ⟨v,e⟩ := sh3 (hr r hq); ⟨v,e⟩)
  exact ⟨xs,rfl⟩
theorem sh56 {n : Nat} {pvs : List PV} (h : Sh Tryz.prog n 56 pvs) : ∃ v : LTable,pvs = cP v := by
 cases n with
 | zero=>simp [Sh] at h
 | succ n =>
  simp only [Sh,Tryz.underlying56,List.map_cons,List.map_nil,gz] at h
  obtain ⟨p0,r0,rfl,h0,p1,r1,rfl,h1,p2,r2,rfl,h2,rfl⟩ := h
  obtain ⟨v0,rfl⟩ := sh9 h0
  obtain ⟨v1,rfl⟩ := sh39 h1
  obtain ⟨v2,rfl⟩ := sh54 h2
  exact ⟨LTable.mk v0 v1 v2,rfl⟩
theorem sh22 {n : Nat} {pvs : List PV} (h : Sh Tryz.prog n 22 pvs) : ∃ v : List LTable,pvs = [.list 56 (v.map cP)] := by
 cases n with
 | zero=>simp [Sh] at h
 | succ n =>
  simp only [Sh,Tryz.underlying22] at h
  obtain ⟨rows,rfl,hr⟩ := h
  obtain ⟨xs,rfl⟩ := jd (f := cP) (fun r hq=>sh56 (hr r hq))
  exact ⟨xs,rfl⟩
theorem sh101 {n : Nat} {pvs : List PV} (h : Sh Tryz.prog n 101 pvs) : ∃ v : LForeignKey,pvs = jz v := by
 cases n with
 | zero=>simp [Sh] at h
 | succ n =>
  simp only [Sh,Tryz.underlying101,List.map_cons,List.map_nil,gz] at h
  obtain ⟨p0,r0,rfl,h0,p1,r1,rfl,h1,p2,r2,rfl,h2,rfl⟩ := h
  obtain ⟨v0,rfl⟩ := sh9 h0
  obtain ⟨v1,rfl⟩ := sh54 h1
  obtain ⟨v2,rfl⟩ := sh9 h2
  exact ⟨LForeignKey.mk v0 v1 v2,rfl⟩
theorem sh23 {n : Nat} {pvs : List PV} (h : Sh Tryz.prog n 23 pvs) : ∃ v : List LForeignKey,pvs = [.list 101 (v.map jz)] := by
 cases n with
 | zero=>simp [Sh] at h
 | succ n =>
  simp only [Sh,Tryz.underlying23] at h
  obtain ⟨rows,rfl,hr⟩ := h
  obtain ⟨xs,rfl⟩ := jd (f := jz) (fun r hq=>sh101 (hr r hq))
  exact ⟨xs,rfl⟩
theorem sh48 {n : Nat} {pvs : List PV} (h : Sh Tryz.prog n 48 pvs) : ∃ v : LVal,pvs = af v := by
 cases n with
 | zero=>simp [Sh] at h
 | succ n =>
  simp only [Sh,Tryz.underlying48,List.map_cons,List.map_nil,gz] at h
  obtain ⟨p0,r0,rfl,h0,p1,r1,rfl,h1,p2,r2,rfl,h2,rfl⟩ := h
  obtain ⟨v0,rfl⟩ := sh3 h0
  obtain ⟨v1,rfl⟩ := sh3 h1
  obtain ⟨v2,rfl⟩ := sh9 h2
  exact ⟨LVal.mk v0 v1 v2,rfl⟩
theorem sh107 {n : Nat} {pvs : List PV} (h : Sh Tryz.prog n 107 pvs) : ∃ v : LConstraint,pvs = kB v := by
 cases n with
 | zero=>simp [Sh] at h
 | succ n =>
  simp only [Sh,Tryz.underlying107,List.map_cons,List.map_nil,gz] at h
  obtain ⟨p0,r0,rfl,h0,p1,r1,rfl,h1,p2,r2,rfl,h2,p3,r3,rfl,h3,p4,r4,rfl,h4,rfl⟩ := h
  obtain ⟨v0,rfl⟩ := sh9 h0
  obtain ⟨v1,rfl⟩ := sh3 h1
  obtain ⟨v2,rfl⟩ := sh9 h2
  obtain ⟨v3,rfl⟩ := sh3 h3
  obtain ⟨v4,rfl⟩ := sh48 h4
  exact ⟨LConstraint.mk v0 v1 v2 v3 v4,rfl⟩
theorem sh24 {n : Nat} {pvs : List PV} (h : Sh Tryz.prog n 24 pvs) : ∃ v : List LConstraint,pvs = [.list 107 (v.map kB)] := by
 cases n with
 | zero=>simp [Sh] at h
 | succ n =>
  simp only [Sh,Tryz.underlying24] at h
  obtain ⟨rows,rfl,hr⟩ := h
  obtain ⟨xs,rfl⟩ := jd (f := kB) (fun r hq=>sh107 (hr r hq))
  exact ⟨xs,rfl⟩
theorem sh26 {n : Nat} {pvs : List PV} (h : Sh Tryz.prog n 26 pvs) : ∃ v : LSchema,pvs = bG v := by
 cases n with
 | zero=>simp [Sh] at h
 | succ n =>
  simp only [Sh,Tryz.underlying26,List.map_cons,List.map_nil,gz] at h
  obtain ⟨p0,r0,rfl,h0,p1,r1,rfl,h1,p2,r2,rfl,h2,rfl⟩ := h
  obtain ⟨v0,rfl⟩ := sh22 h0
  obtain ⟨v1,rfl⟩ := sh23 h1
  obtain ⟨v2,rfl⟩ := sh24 h2
  exact ⟨LSchema.mk v0 v1 v2,rfl⟩
theorem sh57 {n : Nat} {pvs : List PV} (h : Sh Tryz.prog n 57 pvs) : ∃ v : Rq,pvs = [.list 48 (v.map af)] := by
 cases n with
 | zero=>simp [Sh] at h
 | succ n =>
  simp only [Sh,Tryz.underlying57] at h
  obtain ⟨rows,rfl,hr⟩ := h
  obtain ⟨xs,rfl⟩ := jd (f := af) (fun r hq=>sh48 (hr r hq))
  exact ⟨xs,rfl⟩
theorem sh40 {n : Nat} {pvs : List PV} (h : Sh Tryz.prog n 40 pvs) : ∃ v : Rz,pvs = [.list 57 (v.map (al 48 af))] := by
 cases n with
 | zero=>simp [Sh] at h
 | succ n =>
  simp only [Sh,Tryz.underlying40] at h
  obtain ⟨rows,rfl,hr⟩ := h
  obtain ⟨xs,rfl⟩ := jd (f := (al 48 af)) (fun r hq=>let ⟨v,e⟩ := sh57 (hr r hq); ⟨v,e⟩)
  exact ⟨xs,rfl⟩
theorem sh59 {n : Nat} {pvs : List PV} (h : Sh Tryz.prog n 59 pvs) : ∃ v : LRelation,pvs = bO v := by
 cases n with
 | zero=>simp [Sh] at h
 | succ n =>
  simp only [Sh,Tryz.underlying59,List.map_cons,List.map_nil,gz] at h
  obtain ⟨p0,r0,rfl,h0,p1,r1,rfl,h1,rfl⟩ := h
  obtain ⟨v0,rfl⟩ := sh9 h0
  obtain ⟨v1,rfl⟩ := sh40 h1
  exact ⟨LRelation.mk v0 v1,rfl⟩
theorem sh28 {n : Nat} {pvs : List PV} (h : Sh Tryz.prog n 28 pvs) : ∃ v : List LRelation,pvs = [.list 59 (v.map bO)] := by
 cases n with
 | zero=>simp [Sh] at h
 | succ n =>
  simp only [Sh,Tryz.underlying28] at h
  obtain ⟨rows,rfl,hr⟩ := h
  obtain ⟨xs,rfl⟩ := jd (f := bO) (fun r hq=>sh59 (hr r hq))
  exact ⟨xs,rfl⟩
theorem sh29 {n : Nat} {pvs : List PV} (h : Sh Tryz.prog n 29 pvs) : ∃ v : List (List UInt8),pvs = [.list 9 (v.map cj)] := by
 cases n with
 | zero=>simp [Sh] at h
 | succ n =>
  simp only [Sh,Tryz.underlying29] at h
  obtain ⟨rows,rfl,hr⟩ := h
  obtain ⟨xs,rfl⟩ := jd (f := cj) (fun r hq=>let ⟨v,e⟩ := sh9 (hr r hq); ⟨v,e⟩)
  exact ⟨xs,rfl⟩
theorem sh50 {n : Nat} {pvs : List PV} (h : Sh Tryz.prog n 50 pvs) : ∃ v : LExpr,pvs = aC v := by
 induction n generalizing pvs with
 | zero=>simp [Sh] at h
 | succ n ih =>
  simp only [Sh,Tryz.underlying50,List.map_cons,List.map_nil,gz] at h
  obtain ⟨p0,r0,rfl,h0,p1,r1,rfl,h1,p2,r2,rfl,h2,p3,r3,rfl,h3,p4,r4,rfl,h4,rfl⟩ := h
  obtain ⟨v0,rfl⟩ := sh3 h0
  obtain ⟨v1,rfl⟩ := sh9 h1
  obtain ⟨v2,rfl⟩ := sh3 h2
  obtain ⟨v3,rfl⟩ := sh48 h3
  cases n with
  | zero=>simp [Sh] at h4
  | succ n =>
  simp only [Sh,Tryz.underlying30] at h4
  obtain ⟨rows,rfl,hr4⟩ := h4
  obtain ⟨v4,rfl⟩ := rowsUp (f := aC) (rfl) ih hr4
  exact ⟨LExpr.mk v0 v1 v2 v3 v4,by rw [bP]; rfl⟩
theorem sh30 {n : Nat} {pvs : List PV} (h : Sh Tryz.prog n 30 pvs) : ∃ v : List LExpr,pvs = [.list 50 (v.map aC)] := by
 cases n with
 | zero=>simp [Sh] at h
 | succ n =>
  simp only [Sh,Tryz.underlying30] at h
  obtain ⟨rows,rfl,hr⟩ := h
  obtain ⟨xs,rfl⟩ := jd (f := aC) (fun r hq=>sh50 (hr r hq))
  exact ⟨xs,rfl⟩
theorem sh70 {n : Nat} {pvs : List PV} (h : Sh Tryz.prog n 70 pvs) : ∃ v : LAggregateCall,pvs = bT v := by
 cases n with
 | zero=>simp [Sh] at h
 | succ n =>
  simp only [Sh,Tryz.underlying70,List.map_cons,List.map_nil,gz] at h
  obtain ⟨p0,r0,rfl,h0,p1,r1,rfl,h1,p2,r2,rfl,h2,rfl⟩ := h
  obtain ⟨v0,rfl⟩ := sh9 h0
  obtain ⟨v1,rfl⟩ := sh9 h1
  obtain ⟨v2,rfl⟩ := sh30 h2
  exact ⟨LAggregateCall.mk v0 v1 v2,rfl⟩
theorem sh31 {n : Nat} {pvs : List PV} (h : Sh Tryz.prog n 31 pvs) : ∃ v : List LAggregateCall,pvs = [.list 70 (v.map bT)] := by
 cases n with
 | zero=>simp [Sh] at h
 | succ n =>
  simp only [Sh,Tryz.underlying31] at h
  obtain ⟨rows,rfl,hr⟩ := h
  obtain ⟨xs,rfl⟩ := jd (f := bT) (fun r hq=>sh70 (hr r hq))
  exact ⟨xs,rfl⟩
theorem sh32 {n : Nat} {pvs : List PV} (h : Sh Tryz.prog n 32 pvs) : ∃ v : List Bool,pvs = [.list 4 (v.map cf)] := by
 cases n with
 | zero=>simp [Sh] at h
 | succ n =>
  simp only [Sh,Tryz.underlying32] at h
  obtain ⟨rows,rfl,hr⟩ := h
  obtain ⟨xs,rfl⟩ := jd (f := cf) (fun r hq=>let ⟨v,e⟩ := sh4 (hr r hq); ⟨v,e⟩)
  exact ⟨xs,rfl⟩
theorem sh35 {n : Nat} {pvs : List PV} (h : Sh Tryz.prog n 35 pvs) : ∃ v : LQuery,pvs = aE v := by
 induction n generalizing pvs with
 | zero=>simp [Sh] at h
 | succ n ih =>
  simp only [Sh,Tryz.underlying35,List.map_cons,List.map_nil,gz] at h
  obtain ⟨p0,r0,rfl,h0,p1,r1,rfl,h1,p2,r2,rfl,h2,p3,r3,rfl,h3,p4,r4,rfl,h4,p5,r5,rfl,h5,p6,r6,rfl,h6,p7,r7,rfl,h7,p8,r8,rfl,h8,rfl⟩ := h
  obtain ⟨v0,rfl⟩ := sh3 h0
  obtain ⟨v1,rfl⟩ := sh9 h1
  obtain ⟨v2,rfl⟩ := sh29 h2
  obtain ⟨v3,rfl⟩ := sh30 h3
  obtain ⟨v4,rfl⟩ := sh31 h4
  obtain ⟨v5,rfl⟩ := sh32 h5
  obtain ⟨v6,rfl⟩ := sh3 h6
  obtain ⟨v7,rfl⟩ := sh3 h7
  cases n with
  | zero=>simp [Sh] at h8
  | succ n =>
  simp only [Sh,Tryz.underlying33] at h8
  obtain ⟨rows,rfl,hr8⟩ := h8
  obtain ⟨v8,rfl⟩ := rowsUp (f := aE) (rfl) ih hr8
  exact ⟨LQuery.mk v0 v1 v2 v3 v4 v5 v6 v7 v8,by rw [bA]; rfl⟩
theorem sh36 {n : Nat} {pvs : List PV} (h : Sh Tryz.prog n 36 pvs) : ∃ v : Rq,pvs = [.list 48 (v.map af)] := by
 cases n with
 | zero=>simp [Sh] at h
 | succ n =>
  simp only [Sh,Tryz.underlying36] at h
  obtain ⟨rows,rfl,hr⟩ := h
  obtain ⟨xs,rfl⟩ := jd (f := af) (fun r hq=>sh48 (hr r hq))
  exact ⟨xs,rfl⟩
theorem law_args : ∀ args,ArgsSh Tryz.prog Tryz.f3.params.toList args → bd args ≤ 1048576 → aL Tryz.prog 3 args (.val (.bool true)) := by
 intro args h hN
 rw [Tryz.params3] at h
 simp only [ArgsSh] at h
 obtain ⟨n0,p0,r0,rfl,h0,n1,p1,r1,rfl,h1,n2,p2,r2,rfl,h2,n3,p3,r3,rfl,h3,rfl⟩ := h
 obtain ⟨v0,rfl⟩ := sh26 h0
 obtain ⟨v1,rfl⟩ := sh28 h1
 obtain ⟨v2,rfl⟩ := sh35 h2
 obtain ⟨v3,rfl⟩ := sh36 h3
 have e0 : ki Tryz.prog 26 (bG v0) = .agg (bG v0) := by simp only [ki,Tryz.underlying26]
 rw [e0] at hN ⊢
 have e1 : ki Tryz.prog 28 [.list 59 (v1.map bO)] = .list 59 (v1.map bO) := by simp only [ki,Tryz.underlying28]; rfl
 rw [e1] at hN ⊢
 have e2 : ki Tryz.prog 35 (aE v2) = .agg (aE v2) := by simp only [ki,Tryz.underlying35]
 rw [bA] at e2
 rw [bA v2,e2] at hN ⊢
 have e3 : ki Tryz.prog 36 [.list 48 (v3.map af)] = .list 48 (v3.map af) := by simp only [ki,Tryz.underlying36]; rfl
 rw [e3] at hN ⊢
 simp only [bd,PV.bulk] at hN
 have hs0 : lS v0 := smallS_bulk (n := 1048576) (by omega) (by omega)
 have hbq : bd (aw v2) ≤ 1048576 := by omega
 exact kS v0 v1 v2 v3 true (pX hs0 v1 hbq v3)
set_option maxRecDepth 100000 in
theorem law_wf : (fun (P : Program) (f : FuncId) (fn : Func) (s : ChangeSpec) (c : OpenClaim)=>(P.funcs.size,f,fn.params.size,s.name,c.func,c.wf (OpenSpec.ofChange s)).2.2.2.2.2) Tryz.prog 3 Tryz.f3 (Rows.OpenSpec.upto Rows.queryCloneIsIndependentSpec).bare Rows.queryCloneIsIndependentUptoRow = true := by kernel_rfl
set_option maxRecDepth 100000 in
theorem law_laid : (fun (P : Program) (f : FuncId) (fn : Func) (s : ChangeSpec) (c : OpenClaim)=>(P.funcs.size,f,fn.params.size,s.name,c.func,laidOutB P).2.2.2.2.2) Tryz.prog 3 Tryz.f3 (Rows.OpenSpec.upto Rows.queryCloneIsIndependentSpec).bare Rows.queryCloneIsIndependentUptoRow = true := by kernel_rfl
set_option maxRecDepth 100000 in
theorem law_mapsRowed : (fun (P : Program) (f : FuncId) (fn : Func) (s : ChangeSpec) (c : OpenClaim)=>(P.funcs.size,f,fn.params.size,s.name,c.func,mapsRowed P).2.2.2.2.2) Tryz.prog 3 Tryz.f3 (Rows.OpenSpec.upto Rows.queryCloneIsIndependentSpec).bare Rows.queryCloneIsIndependentUptoRow = true := by kernel_rfl
set_option maxRecDepth 100000 in
theorem law_rr : (fun (P : Program) (f : FuncId) (fn : Func) (s : ChangeSpec) (c : OpenClaim)=>(P.funcs.size,f,fn.params.size,s.name,c.func,fn.params.all (P.readableRec ·)).2.2.2.2.2) Tryz.prog 3 Tryz.f3 (Rows.OpenSpec.upto Rows.queryCloneIsIndependentSpec).bare Rows.queryCloneIsIndependentUptoRow = true := by kernel_rfl
set_option maxRecDepth 100000 in
theorem law_nt : (fun (P : Program) (f : FuncId) (fn : Func) (s : ChangeSpec) (c : OpenClaim)=>(P.funcs.size,f,fn.params.size,s.name,c.func,namedTie P c.named s.vars).2.2.2.2.2) Tryz.prog 3 Tryz.f3 (Rows.OpenSpec.upto Rows.queryCloneIsIndependentSpec).bare Rows.queryCloneIsIndependentUptoRow = true := by kernel_rfl
set_option maxRecDepth 100000 in
theorem law_st : (fun (P : Program) (f : FuncId) (fn : Func) (s : ChangeSpec) (c : OpenClaim)=>(P.funcs.size,f,fn.params.size,s.name,c.func,(c.stops == []) && (P.stops == []) && (c.knobs == []) && (P.stopKnobs == [])).2.2.2.2.2) Tryz.prog 3 Tryz.f3 (Rows.OpenSpec.upto Rows.queryCloneIsIndependentSpec).bare Rows.queryCloneIsIndependentUptoRow = true := by kernel_rfl
set_option maxRecDepth 100000 in
theorem law_inPlace : (fun (P : Program) (f : FuncId) (fn : Func) (s : ChangeSpec) (c : OpenClaim)=>(P.funcs.size,f,fn.params.size,s.name,c.func,c.inPlace == P.inPlace f).2.2.2.2.2) Tryz.prog 3 Tryz.f3 (Rows.OpenSpec.upto Rows.queryCloneIsIndependentSpec).bare Rows.queryCloneIsIndependentUptoRow = true := by kernel_rfl
set_option maxRecDepth 100000 in
theorem law_unf : (fun (P : Program) (f : FuncId) (fn : Func) (s : ChangeSpec) (c : OpenClaim)=>(P.funcs.size,f,fn.params.size,s.name,c.func,c.unfollowed == P.unfollowed f).2.2.2.2.2) Tryz.prog 3 Tryz.f3 (Rows.OpenSpec.upto Rows.queryCloneIsIndependentSpec).bare Rows.queryCloneIsIndependentUptoRow = true := by kernel_rfl
set_option maxRecDepth 100000 in
theorem law_rec : (fun (P : Program) (f : FuncId) (fn : Func) (s : ChangeSpec) (c : OpenClaim)=>(P.funcs.size,f,fn.params.size,s.name,c.func,c.recurses == P.recurses f).2.2.2.2.2) Tryz.prog 3 Tryz.f3 (Rows.OpenSpec.upto Rows.queryCloneIsIndependentSpec).bare Rows.queryCloneIsIndependentUptoRow = true := by kernel_rfl
set_option maxRecDepth 100000 in
theorem law_named : (fun (P : Program) (f : FuncId) (fn : Func) (s : ChangeSpec) (c : OpenClaim)=>(P.funcs.size,f,fn.params.size,s.name,c.func,c.named == P.varsNamed f).2.2.2.2.2) Tryz.prog 3 Tryz.f3 (Rows.OpenSpec.upto Rows.queryCloneIsIndependentSpec).bare Rows.queryCloneIsIndependentUptoRow = true := by kernel_rfl
set_option maxRecDepth 100000 in
theorem law_maps : (fun (P : Program) (f : FuncId) (fn : Func) (s : ChangeSpec) (c : OpenClaim)=>(P.funcs.size,f,fn.params.size,s.name,c.func,(c.maps == (fn.params.toList ++ s.plain.varTypes P).any (P.mapsRec ·)) && (c.ifaces == (fn.params.toList ++ s.plain.varTypes P).any (P.ifacesRec ·)) && (c.mapsOut == P.mapsAmong fn.resultTypes.toList)).2.2.2.2.2) Tryz.prog 3 Tryz.f3 (Rows.OpenSpec.upto Rows.queryCloneIsIndependentSpec).bare Rows.queryCloneIsIndependentUptoRow = true := by kernel_rfl
set_option maxRecDepth 100000 in
theorem law_loops : (fun (P : Program) (f : FuncId) (fn : Func) (s : ChangeSpec) (c : OpenClaim)=>(P.funcs.size,f,fn.params.size,s.name,c.func,(c.loops == (fn.params.toList ++ s.plain.varTypes P).any (P.loopsFrom ·))).2.2.2.2.2) Tryz.prog 3 Tryz.f3 (Rows.OpenSpec.upto Rows.queryCloneIsIndependentSpec).bare Rows.queryCloneIsIndependentUptoRow = true := by kernel_rfl
set_option maxRecDepth 100000 in
theorem law_wide : (fun (P : Program) (f : FuncId) (fn : Func) (s : ChangeSpec) (c : OpenClaim)=>(P.funcs.size,f,fn.params.size,s.name,c.func,(c.wideKeys == (fn.params.toList ++ s.plain.varTypes P ++ fn.resultTypes.toList).any (P.wideKeysFrom ·))).2.2.2.2.2) Tryz.prog 3 Tryz.f3 (Rows.OpenSpec.upto Rows.queryCloneIsIndependentSpec).bare Rows.queryCloneIsIndependentUptoRow = true := by kernel_rfl
set_option maxRecDepth 100000 in
theorem law_rest1 : (fun (P : Program) (f : FuncId) (fn : Func) (s : ChangeSpec) (c : OpenClaim)=>(P.funcs.size,f,fn.params.size,s.name,c.func,s.vars.all (P.varReadable ·) && fn.resultTypes.all (fun t=>P.readableRec t && decide (t < P.types.size)) && (c.ifacesOut == fn.resultTypes.toList.any (P.ifacesRec ·)) && (c.loopsOut == fn.resultTypes.toList.any (P.loopsFrom ·))).2.2.2.2.2) Tryz.prog 3 Tryz.f3 (Rows.OpenSpec.upto Rows.queryCloneIsIndependentSpec).bare Rows.queryCloneIsIndependentUptoRow = true := by kernel_rfl
set_option maxRecDepth 100000 in
theorem law_plainKeys : (fun (P : Program) (f : FuncId) (fn : Func) (s : ChangeSpec) (c : OpenClaim)=>(P.funcs.size,f,fn.params.size,s.name,c.func,c.plainKeys == P.plainKeys).2.2.2.2.2) Tryz.prog 3 Tryz.f3 (Rows.OpenSpec.upto Rows.queryCloneIsIndependentSpec).bare Rows.queryCloneIsIndependentUptoRow = true := by kernel_rfl
set_option maxRecDepth 100000 in
theorem law_rest2 : (fun (P : Program) (f : FuncId) (fn : Func) (s : ChangeSpec) (c : OpenClaim)=>(P.funcs.size,f,fn.params.size,s.name,c.func,c.shortTexts.isNone && P.stopsHeard && P.mayEnter && (c.lifted == P.liftsFinal) && (P.make == some c.make)).2.2.2.2.2) Tryz.prog 3 Tryz.f3 (Rows.OpenSpec.upto Rows.queryCloneIsIndependentSpec).bare Rows.queryCloneIsIndependentUptoRow = true := by kernel_rfl
set_option maxRecDepth 100000 in
theorem law_kinds : (fun (P : Program) (f : FuncId) (fn : Func) (s : ChangeSpec) (c : OpenClaim)=>(P.funcs.size,f,fn.params.size,s.name,c.func,(c.kinds == (if c.domain.isEmpty then [] else fn.params.toList.map fun t=>match P.underlying t with | some (.int k)=>some k | _=>none)) && (c.pinned == c.pinnedBy)).2.2.2.2.2) Tryz.prog 3 Tryz.f3 (Rows.OpenSpec.upto Rows.queryCloneIsIndependentSpec).bare Rows.queryCloneIsIndependentUptoRow = true := by kernel_rfl
set_option maxRecDepth 100000 in
theorem law_veil : (fun (P : Program) (f : FuncId) (fn : Func) (s : ChangeSpec) (c : OpenClaim)=>(P.funcs.size,f,fn.params.size,s.name,c.func,(c.veiled == (fn.params.toList ++ s.plain.varTypes P ++ fn.resultTypes.toList).any (P.veiledRec ·)) && c.veiledFits P fn.params.toList (fn.params.toList ++ s.plain.varTypes P ++ fn.resultTypes.toList)).2.2.2.2.2) Tryz.prog 3 Tryz.f3 (Rows.OpenSpec.upto Rows.queryCloneIsIndependentSpec).bare Rows.queryCloneIsIndependentUptoRow = true := by kernel_rfl
set_option maxRecDepth 100000 in
theorem law_facts : joinedFacts Tryz.prog 3 Tryz.f3 (Rows.OpenSpec.upto Rows.queryCloneIsIndependentSpec).bare Rows.queryCloneIsIndependentUptoRow = true := joined_of law_wf law_laid law_mapsRowed law_rr law_nt law_st law_inPlace law_unf law_rec law_named law_maps law_loops law_wide law_rest1 law_plainKeys law_rest2 law_kinds law_veil
theorem gl_all (W : World) : Gl W [] := by
 refine ⟨⟨?_,?_,?_⟩,?_⟩
 ·intro b hb; simp [glI] at hb
 ·intro b hb; simp [glT] at hb
 ·intro b hb; simp [glN] at hb
 ·intro b hb; simp [glB,glI,glT,glN] at hb
set_option maxRecDepth 100000 in
theorem law_lifted (os : Os) (started : os.Started) (H : Type) (enc : TypeId × Value → H) (F : Stop.Interp) :
  ReturnsInHanded {} Tryz.checked os 3 .any ((Rows.OpenSpec.upto Rows.queryCloneIsIndependentSpec).pre6 enc Tryz.prog Tryz.f3 Rows.queryCloneIsIndependentUptoRow.domain false) (((Rows.OpenSpec.upto Rows.queryCloneIsIndependentSpec).at F).post enc Tryz.prog Tryz.f3 false true false false) := by
 refine returnsInHanded_of_cond_sized (C := Tryz.checked) (s := Rows.OpenSpec.upto Rows.queryCloneIsIndependentSpec) (k := Rows.uptoSmall) rfl own_knob started (by kernel_rfl) Tryz.func3
  (OpenSpec.witness (enc := enc) (C := Tryz.checked) (s := Rows.OpenSpec.upto Rows.queryCloneIsIndependentSpec) (k := Rows.uptoSmall) rfl false ⟨#[],#[.agg #[.slice none 0 0,.slice none 0 0,.slice none 0 0],.slice none 0 0,.agg #[.int .i64 0,.string ⟨#[]⟩,.slice none 0 0,.slice none 0 0,.slice none 0 0,.slice none 0 0,.int .i64 0,.int .i64 0,.slice none 0 0],.slice none 0 0],[]⟩ 8 (by kernel_rfl) (by kernel_rfl) (by kernel_rfl)
   (x := ([.agg [.nil,.nil,.nil],.nil,.agg [.lit (.int .i64 0),.lit (.string []),.nil,.nil,.nil,.nil,.lit (.int .i64 0),.lit (.int .i64 0),.nil],.nil],[],[])) (by kernel_rfl) rfl (by kernel_rfl)) ?_
 intro W base args ds gs before hval hW _ hk hsz _
 have hN : ((ds ++ gs).map (fun d=>Rows.uptoBulk d)).sum ≤ 1048576 := by
  rw [oJ]; exact of_decide_eq_true hk
 refine law_callsB (s := Rows.queryCloneIsIndependentSpec) (tb := 4) bulk_is laid_out rfl ?_ rfl Tryz.underlying4 ?_ lawTypes_ok lawTypes_info ?_ law_args hval hW (gl_all W) hsz hN
 ·rw [Tryz.params3]
  intro t ht
  simp only [List.mem_cons,List.mem_nil_iff,or_false] at ht
  rcases ht with rfl | rfl | rfl | rfl <;> exact ⟨by kernel_rfl,of_decide_eq_true (by kernel_rfl)⟩
 ·intro ds hlen
  rw [Tryz.params3] at hlen
  match ds,hlen with
  | [d0,d1,d2,d3],_=>rfl
 ·rw [Tryz.params3]
  intro t ht
  simp only [List.mem_cons,List.mem_nil_iff,or_false] at ht
  rcases ht with rfl | rfl | rfl | rfl <;> simp [lawTypes]
theorem queryCloneIsIndependentUpto_holds : Rows.QueryCloneIsIndependentUptoSaid :=
 OpenClaim.holds_of_cond 3 Tryz.f3 rfl rfl rfl rfl rfl rfl rfl ⟨rfl,rfl,rfl,rfl,rfl⟩ rfl rfl rfl rfl rfl (by kernel_rfl) Tryz.func3 law_facts
  (of_decide_eq_true (by kernel_rfl)) (by unfold Func.isWrapper; rw [zy (by decide +kernel)]; exact ⟨rfl,rfl⟩)
  (fun os started H enc _ F=>law_lifted os started H enc F)
end
end Go.Proofs.YtioonpnnfepffaaGreat
