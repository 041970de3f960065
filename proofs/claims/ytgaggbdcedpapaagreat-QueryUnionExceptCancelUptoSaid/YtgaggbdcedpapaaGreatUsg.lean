/- queryUnionExceptCancelUpto_holds, part 7: the layer, the plain functions and what they compute; conditions as in the statement. -/
import Derived.Test.YtgaggbdcedpapaaGreatUsf
set_option maxHeartbeats 4000000
namespace Go.Proofs.YtgaggbdcedpapaaGreat
noncomputable section
open Go Go.Ab
open Go.Sort (SWO PermIn SortedIn)
structure STO {α : Type} (lt : α → α → Bool) : Prop where
 irrefl : ∀ x,lt x x = false
 trans : ∀ x y z,lt x y = true → lt y z = true → lt x z = true
 tri : ∀ x y,lt x y = false → lt y x = false → x = y
theorem STO.swo {α : Type} {lt : α → α → Bool} (h : STO lt) : SWO lt where
 irrefl := h.irrefl
 trans := h.trans
 ntrans := fun x y z h1 h2=>by
  cases hxz : lt x z with
  | false=>rfl
  | true =>
   cases hyx : lt y x with
   | true=>rw [h.trans y x z hyx hxz] at h2; cases h2
   | false =>
    have := h.tri x y h1 hyx
    subst this
    rw [hxz] at h2; cases h2
theorem bytes_sto : STO Op.bytesLess where
 irrefl := fun x=>by
  induction x with
  | nil=>rfl
  | cons a x ih=>simp [Op.bytesLess,ih]
 trans := fun x=>by
  induction x with
  | nil =>
   intro y z h1 h2
   cases y with
   | nil=>cases z with
    | nil=>exact h2
    | cons c z=>rfl
   | cons b y=>cases z with
    | nil=>simp [Op.bytesLess] at h2
    | cons c z=>rfl
  | cons a x ih =>
   intro y z h1 h2
   cases y with
   | nil=>simp [Op.bytesLess] at h1
   | cons b y=>cases z with
    | nil=>simp [Op.bytesLess] at h2
    | cons c z =>
     simp only [Op.bytesLess,Bool.or_eq_true,decide_eq_true_eq,Bool.and_eq_true,beq_iff_eq,UInt8.lt_iff_toNat_lt] at h1 h2 ⊢
     rcases h1 with h1 | ⟨e1,h1⟩
     ·rcases h2 with h2 | ⟨e2,h2⟩
      ·exact .inl (by omega)
      ·exact .inl (by rw [← e2]; exact h1)
     ·rcases h2 with h2 | ⟨e2,h2⟩
      ·exact .inl (by rw [e1]; exact h2)
      ·exact .inr ⟨e1.trans e2,ih y z h1 h2⟩
 tri := fun x=>by
  induction x with
  | nil =>
   intro y h1 h2
   cases y with
   | nil=>rfl
   | cons b y=>simp [Op.bytesLess] at h1
  | cons a x ih =>
   intro y h1 h2
   cases y with
   | nil=>simp [Op.bytesLess] at h2
   | cons b y =>
    simp only [Op.bytesLess,Bool.or_eq_false_iff,decide_eq_false_iff_not,Bool.and_eq_false_iff,UInt8.lt_iff_toNat_lt] at h1 h2
    have e : a = b := UInt8.toNat_inj.1 (by omega)
    subst e
    have h3 : Op.bytesLess x y = false := by rcases h1.2 with h | h; simp at h; exact h
    have h4 : Op.bytesLess y x = false := by rcases h2.2 with h | h; simp at h; exact h
    rw [ih y h3 h4]
theorem val_sto : STO ii where
 irrefl := fun x=>by simp [ii,bytes_sto.irrefl]
 trans := fun x y z h1 h2=>by
  unfold ii at h1 h2 ⊢
  by_cases k1 : x.kind = y.kind
  ·rw [zy (by simpa using k1)] at h1
   by_cases k2 : y.kind = z.kind
   ·rw [zy (by simpa using k2)] at h2
    rw [zy (by simpa using k1.trans k2)]
    by_cases i1 : x.int = y.int
    ·rw [zy (by simpa using i1)] at h1
     by_cases i2 : y.int = z.int
     ·rw [zy (by simpa using i2)] at h2
      rw [zy (by simpa using i1.trans i2)]
      exact bytes_sto.trans _ _ _ h1 h2
     ·rw [zp i2] at h2
      have := of_decide_eq_true h2
      rw [zp (by omega)]
      exact zt (by omega)
    ·rw [zp i1] at h1
     have g1 := of_decide_eq_true h1
     by_cases i2 : y.int = z.int
     ·rw [zp (by omega)]
      exact zt (by omega)
     ·rw [zp i2] at h2
      have := of_decide_eq_true h2
      rw [zp (by omega)]
      exact zt (by omega)
   ·rw [zp k2] at h2
    have := of_decide_eq_true h2
    rw [zp (by omega)]
    exact zt (by omega)
  ·rw [zp k1] at h1
   have g1 := of_decide_eq_true h1
   by_cases k2 : y.kind = z.kind
   ·rw [zp (by omega)]
    exact zt (by omega)
   ·rw [zp k2] at h2
    have := of_decide_eq_true h2
    rw [zp (by omega)]
    exact zt (by omega)
 tri := fun x y h1 h2=>by
  obtain ⟨a,b,c⟩ := x
  obtain ⟨a',b',c'⟩ := y
  unfold ii at h1 h2
  simp only at h1 h2
  by_cases k : a = a'
  ·subst k
   rw [zy (by simp)] at h1 h2
   by_cases i : b = b'
   ·subst i
    rw [zy (by simp)] at h1 h2
    rw [bytes_sto.tri _ _ h1 h2]
   ·rw [zp i] at h1
    rw [zp (fun e=>i e.symm)] at h2
    have := of_decide_eq_false h1
    have := of_decide_eq_false h2
    omega
  ·rw [zp k] at h1
   rw [zp (fun e=>k e.symm)] at h2
   have := of_decide_eq_false h1
   have := of_decide_eq_false h2
   omega
def cmpL : Rq → Rq → Int
 | a :: x,b :: y=>if a = b then cmpL x y else if ii a b = true then -1 else 1
 | _,_=>0
def ltL (x y : Rq) : Bool := decide (cmpL x y < 0)
theorem ltL_cons (a b : LVal) (x y : Rq) : ltL (a :: x) (b :: y) = if a = b then ltL x y else ii a b := by
 unfold ltL
 rw [cmpL]
 by_cases h : a = b
 ·rw [zp h,zp h]
 ·rw [zy h,zy h]
  cases ii a b <;> simp
abbrev RowN (n : Nat) := { x : Rq // x.length = n }
instance (n : Nat) : Inhabited (RowN n) := ⟨⟨List.replicate n (LVal.mk 0 0 []),by simp⟩⟩
theorem row_irrefl : ∀ x : Rq,ltL x x = false
 | []=>rfl
 | a :: x=>by rw [ltL_cons,zp rfl,row_irrefl x]
theorem row_trans : ∀ (x y z : Rq),x.length = y.length → y.length = z.length → ltL x y = true → ltL y z = true → ltL x z = true
 | [],y,z,_,_,h,_=>by simp [ltL,cmpL] at h
 | a :: x,[],z,h,_,_,_=>by simp at h
 | a :: x,b :: y,[],_,h,_,_=>by simp at h
 | a :: x,b :: y,c :: z,l1,l2,h1,h2=>by
  rw [ltL_cons] at h1 h2 ⊢
  by_cases e1 : a = b
  ·rw [zp e1] at h1
   by_cases e2 : b = c
   ·rw [zp e2] at h2
    rw [zp (e1.trans e2)]
    exact row_trans x y z (by simpa using l1) (by simpa using l2) h1 h2
   ·rw [zy e2] at h2
    subst e1
    rw [zy e2]
    exact h2
  ·rw [zy e1] at h1
   by_cases e2 : b = c
   ·subst e2
    rw [zy e1]
    exact h1
   ·rw [zy e2] at h2
    have h3 := val_sto.trans _ _ _ h1 h2
    rw [zy (fun e=>by subst e; rw [val_sto.irrefl] at h3; cases h3)]
    exact h3
theorem row_tri : ∀ (x y : Rq),x.length = y.length → ltL x y = false → ltL y x = false → x = y
 | [],[],_,_,_=>rfl
 | [],b :: y,h,_,_=>by simp at h
 | a :: x,[],h,_,_=>by simp at h
 | a :: x,b :: y,l,h1,h2=>by
  rw [ltL_cons] at h1 h2
  by_cases e : a = b
  ·subst e
   rw [zp rfl] at h1 h2
   rw [row_tri x y (by simpa using l) h1 h2]
  ·rw [zy e] at h1
   rw [zy (fun h=>e h.symm)] at h2
   exact absurd (val_sto.tri _ _ h1 h2) e
theorem row_sto (n : Nat) : STO (fun x y : RowN n=>ltL x.1 y.1) where
 irrefl := fun x=>row_irrefl x.1
 trans := fun x y z h1 h2=>row_trans x.1 y.1 z.1 (x.2.trans y.2.symm) (y.2.trans z.2.symm) h1 h2
 tri := fun x y h1 h2=>Subtype.ext (row_tri x.1 y.1 (x.2.trans y.2.symm) h1 h2)
theorem compare_eq {x y : Rq} (hl : x.length = y.length) : eB x y [] = some (cmpL x y) := by
 unfold eB
 obtain ⟨fl,hfl,hr⟩ := fy (step := fun (j1 : Nat) (x1 : LVal) (_ : Unit) =>
  aj (
   cond (decide ((j1 : Int) ≥ (y.length : Int)))
    (some true)
    (aj (aF y (j1 : Int)) fun (x25 : LVal) =>
    some (x1.kind == x25.kind && (x1.int == x25.int && (x1.text == x25.text && true))))) fun (t3 : Bool) =>
  cond t3
   (some (Flow.next ()))
   (aj (aF y (j1 : Int)) fun (x35 : LVal) =>
   bn (ii x1 x35) fun x37 =>
   cond (decide ((j1 : Int) < (([] : List Bool).length : Int)))
    (aj (aF ([] : List Bool) (j1 : Int)) fun (x45 : Bool) =>
    cond x45
     (cond (!x37)
      (some (.ret (-1)))
      (some (.ret 1)))
     (cond x37
      (some (.ret (-1)))
      (some (.ret 1))))
    (cond x37
     (some (.ret (-1)))
     (some (.ret 1)))))
  (fun j _=>cmpL (x.drop j) (y.drop j) = cmpL x y) (fun r=>r = cmpL x y) x 0 () rfl (fun k w s hk hI=>by
   simp only [Nat.zero_add] at hI ⊢
   have hkl := (zg.1 hk).1
   have hky : k < y.length := by omega
   have hw := (zg.1 hk).2
   rw [List.drop_eq_getElem_cons hkl,List.drop_eq_getElem_cons hky,hw,cmpL] at hI
   rw [zf (show ¬ (k : Int) ≥ (y.length : Int) from by omega),zd,gm hky,bPs,bPs,val_eq]
   by_cases e : w = y[k]
   ·rw [zt e,zc]
    rw [zp e] at hI
    exact ⟨_,rfl,hI⟩
   ·rw [zf e,zd,bPs,bT,zf (show ¬ (k : Int) < (([] : List Bool).length : Int) from by simp),zd]
    rw [zy e] at hI
    cases hx : ii w y[k] with
    | true=>rw [hx,zp rfl] at hI; exact ⟨_,rfl,hI⟩
    | false=>rw [hx,zy (by simp)] at hI; exact ⟨_,rfl,hI⟩)
 rw [hfl,bPs]
 cases fl with
 | brk s=>exact absurd hr (by simp)
 | ret r=>rw [lR,hr]
 | next s =>
  simp only [Nat.zero_add,List.drop_length] at hr
  rw [ig,← hr]
  rfl
theorem rowCmp {n : Nat} : CmpIs (Subtype.val : RowN n → Rq) (fun x y=>ltL x.1 y.1) (fun a0 a1=>eT a0 a1) where
 is := fun x y=>by
  refine ⟨cmpL x.1 y.1,?_,rfl⟩
  unfold eT
  rw [compare_eq (x.2.trans y.2.symm),bPs]
theorem sorted_same {α : Type} [Inhabited α] {lt : α → α → Bool} (h : STO lt) {A B A' B' : Array α} (hp : A.toList.Perm B.toList) (a1 : PermIn 0 A.size A A') (a2 : SortedIn lt 0 A.size A') (b1 : PermIn 0 B.size B B') (b2 : SortedIn lt 0 B.size B') : A'.toList = B'.toList := by
 have hz : A.size = B.size := by simpa using hp.length_eq
 have full : ∀ {C C' : Array α},PermIn 0 C.size C C' → C'.toList.Perm C.toList := fun {C C'} hc=>by
  have h3 := hc.2.2
  have e1 : C.extract 0 C.size = C := by simp
  have e2 : C'.extract 0 C.size = C' := by rw [← hc.1]; simp
  rw [e1,e2] at h3
  exact h3
 have hB : PermIn 0 A.size A B' := by
  refine ⟨b1.1.trans hz.symm,fun i hi=>?_,?_⟩
  ·have h1 : ¬ i < A.size := by omega
   have h2 : ¬ i < B'.size := by rw [b1.1,← hz]; exact h1
   rw [getElem!_neg A i h1,getElem!_neg B' i h2]
  ·have e1 : A.extract 0 A.size = A := by simp
   have e2 : B'.extract 0 A.size = B' := by rw [hz,← b1.1]; simp
   rw [e1,e2]
   exact (full b1).trans hp.symm
 rw [Go.Sort.sorted_unique_holds h.swo h.tri A A' a1 a2,Go.Sort.sorted_unique_holds h.swo h.tri A B' hB (by rw [hz]; exact b2)]
theorem sameRows_perm {a b : LResult} {n : Nat} (hl : ∀ x ∈ a.rows,x.length = n) (hp : a.rows.Perm b.rows) (hs : a.rows.length ≤ 1000000) : jg a b = some true := by
 have hlb : ∀ x ∈ b.rows,x.length = n := fun x hx=>hl x (hp.mem_iff.2 hx)
 unfold jg
 rw [mU (show (a.rows.length : Int) = (b.rows.length : Int) from by rw [hp.length_eq]),zd]
 have mk : ∀ (l : Rows) (h : ∀ x ∈ l,x.length = n),rp (Subtype.val : RowN n → Rq) (l.pmap Subtype.mk h).toArray = l := fun l h=>by
  unfold rp
  rw [List.map_pmap]
  simp
 obtain ⟨A',ea,a1,a2⟩ := rm (rowCmp (n := n)) (row_sto n).swo (A := (a.rows.pmap Subtype.mk hl).toArray) (by simpa using hs)
 obtain ⟨B',eb,b1,b2⟩ := rm (rowCmp (n := n)) (row_sto n).swo (A := (b.rows.pmap Subtype.mk hlb).toArray) (by have := hp.length_eq; simp; omega)
 have hsame := sorted_same (row_sto n) (by simpa using hp.pmap (f := Subtype.mk) (H₁ := hl) (H₂ := hlb)) a1 a2 b1 b2
 rw [mk] at ea eb
 have ze : (rp (Subtype.val : RowN n → Rq) A').length = a.rows.length := by rw [eE,a1.1]; simp
 have zb : (rp (Subtype.val : RowN n → Rq) B').length = b.rows.length := by rw [eE,b1.1]; simp
 rw [ea,bPs,bL ze,bPs,eb,bPs,bL zb,bPs]
 have hr : rp (Subtype.val : RowN n → Rq) A' = rp (Subtype.val : RowN n → Rq) B' := by unfold rp; rw [hsame]
 rw [hr]
 generalize rp (Subtype.val : RowN n → Rq) B' = L
 unfold cQ
 rw [ox,zt rfl,Bool.not_true,zd,eqLoop L L rfl _ (fun x _ y=>by unfold im; rw [equalRow]; rfl),bPs,zt rfl]
theorem oL (x : Rq) : ∀ (a b : Rows),(iM a b).count x = a.count x - b.count x
 | [],b=>by simp [iM]
 | y :: a,b=>by
  rw [iM]
  by_cases h : y ∈ b
  ·rw [zp h,oL x a (b.erase y),List.count_erase,List.count_cons]
   by_cases e : y = x
   ·subst e
    have := List.count_pos_iff.2 h
    simp
    omega
   ·simp [e,beq_iff_eq]
  ·rw [zy h,List.count_cons,oL x a b,List.count_cons]
   by_cases e : y = x
   ·subst e
    rw [List.count_eq_zero.2 h]
    simp
   ·simp [e,beq_iff_eq]
theorem cancel_perm (Q R : Rows) : (iM (Q ++ R) R).Perm Q := by
 rw [List.perm_iff_count]
 intro x
 rw [oL,List.count_append]
 omega
def bothQ (q r : LQuery) : LQuery := LQuery.mk 7 [] [] [] [] [] 0 0 [(LQuery.mk 6 [] [] [] [] [] 0 0 [q,r]),r]
theorem both_rows {rn : LRun} {q r : LQuery} : bp rn (bothQ q r) = iM (bp rn q ++ bp rn r) (bp rn r) := by
 have k : (bothQ q r).kind = 7 := rfl
 have hi : (bothQ q r).inputs = [(LQuery.mk 6 [] [] [] [] [] 0 0 [q,r]),r] := rfl
 have hu : bp rn (LQuery.mk 6 [] [] [] [] [] 0 0 [q,r]) = bp rn q ++ bp rn r := by
  rw [dS]
  rfl
 rw [dS,hi]
 unfold dU
 rw [zy (by omega),zy (by omega),zy (by omega),zp k]
 simp only [List.map_cons,List.map_nil,List.getD_cons_zero,List.getD_cons_succ,hu]
theorem rM {s : LSchema} (hs : lG s) (st : List LRelation) {q r : LQuery} (hq : TinyQ q) (hr : TinyQ r) (args : Rq) : eD s st q r args = some true := by
 unfold eD
 rw [scans_ok,bPs]
 simp only [Bool.not_true,zd]
 rw [show (LQuery.mk 7 [] [] [] [] [] 0 0 [(LQuery.mk 6 [] [] [] [] [] 0 0 [q,r]),r]) = bothQ q r from rfl]
 have hsm : SmallQ (bothQ q r) := by
  have hi : (bothQ q r).inputs = [(LQuery.mk 6 [] [] [] [] [] 0 0 [q,r]),r] := rfl
  have hi2 : (LQuery.mk 6 [] [] [] [] [] 0 0 [q,r]).inputs = [q,r] := rfl
  refine ⟨?_,fun x hx=>?_⟩
  ·rw [gD,hi]
   simp only [List.map_cons,List.map_nil]
   rw [gD (LQuery.mk 6 [] [] [] [] [] 0 0 [q,r]),hi2]
   have := hq.nodes
   have := hr.nodes
   simp
   omega
  ·rw [gD,hi] at hx
   simp only [List.map_cons,List.map_nil] at hx
   rw [gD (LQuery.mk 6 [] [] [] [] [] 0 0 [q,r]),hi2] at hx
   simp only [List.map_cons,List.map_nil,List.flatten_cons,List.flatten_nil,List.append_nil,List.mem_cons,List.mem_append] at hx
   rcases hx with rfl | (rfl | h | h) | h
   ·exact ⟨show (0 : Nat) ≤ 1000000 by omega,show (0 : Nat) ≤ 1000000 by omega⟩
   ·exact ⟨show (0 : Nat) ≤ 1000000 by omega,show (0 : Nat) ≤ 1000000 by omega⟩
   ·exact hq.here x h
   ·exact hr.here x h
   ·exact hr.here x h
 obtain ⟨b,hb,hrun⟩ := runs_tot hs st hsm args
 rw [hb,bPs]
 cases b with
 | false=>rfl
 | true =>
  have h1 := hrun rfl
  have h2 : Runs s st (LQuery.mk 6 [] [] [] [] [] 0 0 [q,r]) args := h1.sub (by simp [bothQ,LQuery.inputs])
  have hrq : Runs s st q args := h2.sub (by simp [LQuery.inputs])
  simp only [Bool.not_true,zd]
  rw [oS hs hsm h1,oS hs hq.small hrq]
  simp only [bPs,zc]
  have hok := rows_fit (r := jx s st args) ⟨rfl,rfl,rfl,hrq.instOk hs⟩ q (hrq.qok hq.small)
  have hlen : (bp (jx s st args) q).length ≤ 20000 := by
   have h1 := hok.len
   have h2 := hrq.size.2.2
   have h3 := (fZ h2).1
   omega
  rw [both_rows]
  have hp := cancel_perm (bp (jx s st args) q) (bp (jx s st args) r)
  rw [sameRows_perm (n := (bC (jx s st args) q).length) (fun x hx=>(hok.fits x (hp.mem_iff.1 hx)).1) hp (by rw [show (LResult.mk _ (iM (bp (jx s st args) q ++ bp (jx s st args) r) (bp (jx s st args) r))).rows = iM (bp (jx s st args) q ++ bp (jx s st args) r) (bp (jx s st args) r) from rfl,hp.length_eq]; omega),bPs]
end
end Go.Proofs.YtgaggbdcedpapaaGreat

namespace Go.Proofs.YtgaggbdcedpapaaGreat
noncomputable section
open Go Go.Ab
theorem own_knob : ownKnob Tryz.prog.godebug = none := by kernel_rfl
theorem laid_out : laidOutB Tryz.prog = true := by kernel_rfl
def lawTypes : List TypeId := [26,22,91,9,39,50,3,4,89,23,142,24,148,53,28,87,40,51,35,29,30,56,31,66,32,33,36]
theorem lawTypes_ok : lawTypes.all (okT Tryz.prog lawTypes) = true := by kernel_rfl
theorem lawTypes_info : ∀ t ∈ lawTypes,∃ i,Tryz.prog.info? t = some i ∧ i.bytes = Tryz.prog.bytesOf t ∧ i.size = Tryz.prog.cellsOf t := infos_of (by kernel_rfl)
theorem sh9 {n : Nat} {pvs : List PV} (h : Sh Tryz.prog n 9 pvs) : ∃ v : List UInt8,pvs = [.str v] := by
 cases n with
 | zero=>simp [Sh] at h
 | succ n=>simp only [Sh,Tryz.underlying9] at h; obtain ⟨m,rfl,_⟩ := h; exact ⟨m,rfl⟩
theorem sh3 {n : Nat} {pvs : List PV} (h : Sh Tryz.prog n 3 pvs) : ∃ v : Int,pvs = [ae v] := by
 cases n with
 | zero=>simp [Sh] at h
 | succ n=>simp only [Sh,Tryz.underlying3] at h; obtain ⟨m,rfl,_⟩ := h; exact ⟨m,rfl⟩
theorem sh4 {n : Nat} {pvs : List PV} (h : Sh Tryz.prog n 4 pvs) : ∃ v : Bool,pvs = [aE v] := by
 cases n with
 | zero=>simp [Sh] at h
 | succ n=>simp only [Sh,Tryz.underlying4] at h; obtain ⟨m,rfl⟩ := h; exact ⟨m,rfl⟩
theorem sh50 {n : Nat} {pvs : List PV} (h : Sh Tryz.prog n 50 pvs) : ∃ v : LCol,pvs = aG v := by
 cases n with
 | zero=>simp [Sh] at h
 | succ n =>
  simp only [Sh,Tryz.underlying50,List.map_cons,List.map_nil,gE] at h
  obtain ⟨p0,r0,rfl,h0,p1,r1,rfl,h1,p2,r2,rfl,h2,rfl⟩ := h
  obtain ⟨v0,rfl⟩ := sh9 h0
  obtain ⟨v1,rfl⟩ := sh3 h1
  obtain ⟨v2,rfl⟩ := sh4 h2
  exact ⟨LCol.mk v0 v1 v2,rfl⟩
theorem sh39 {n : Nat} {pvs : List PV} (h : Sh Tryz.prog n 39 pvs) : ∃ v : List LCol,pvs = [.list 50 (v.map aG)] := by
 cases n with
 | zero=>simp [Sh] at h
 | succ n =>
  simp only [Sh,Tryz.underlying39] at h
  obtain ⟨rows,rfl,hr⟩ := h
  obtain ⟨xs,rfl⟩ := iU (f := aG) (fun r hq=>sh50 (hr r hq))
  exact ⟨xs,rfl⟩
theorem sh89 {n : Nat} {pvs : List PV} (h : Sh Tryz.prog n 89 pvs) : ∃ v : List Int,pvs = [.list 3 (v.map bG)] := by
 cases n with
 | zero=>simp [Sh] at h
 | succ n =>
  simp only [Sh,Tryz.underlying89] at h
  obtain ⟨rows,rfl,hr⟩ := h
  obtain ⟨xs,rfl⟩ := iU (f := bG) (fun r hq=>let ⟨v,e⟩ := sh3 (hr r hq); ⟨v,e⟩)
  exact ⟨xs,rfl⟩
theorem sh91 {n : Nat} {pvs : List PV} (h : Sh Tryz.prog n 91 pvs) : ∃ v : LTable,pvs = bu v := by
 cases n with
 | zero=>simp [Sh] at h
 | succ n =>
  simp only [Sh,Tryz.underlying91,List.map_cons,List.map_nil,gE] at h
  obtain ⟨p0,r0,rfl,h0,p1,r1,rfl,h1,p2,r2,rfl,h2,rfl⟩ := h
  obtain ⟨v0,rfl⟩ := sh9 h0
  obtain ⟨v1,rfl⟩ := sh39 h1
  obtain ⟨v2,rfl⟩ := sh89 h2
  exact ⟨LTable.mk v0 v1 v2,rfl⟩
theorem sh22 {n : Nat} {pvs : List PV} (h : Sh Tryz.prog n 22 pvs) : ∃ v : List LTable,pvs = [.list 91 (v.map bu)] := by
 cases n with
 | zero=>simp [Sh] at h
 | succ n =>
  simp only [Sh,Tryz.underlying22] at h
  obtain ⟨rows,rfl,hr⟩ := h
  obtain ⟨xs,rfl⟩ := iU (f := bu) (fun r hq=>sh91 (hr r hq))
  exact ⟨xs,rfl⟩
theorem sh142 {n : Nat} {pvs : List PV} (h : Sh Tryz.prog n 142 pvs) : ∃ v : LForeignKey,pvs = cz v := by
 cases n with
 | zero=>simp [Sh] at h
 | succ n =>
  simp only [Sh,Tryz.underlying142,List.map_cons,List.map_nil,gE] at h
  obtain ⟨p0,r0,rfl,h0,p1,r1,rfl,h1,p2,r2,rfl,h2,rfl⟩ := h
  obtain ⟨v0,rfl⟩ := sh9 h0
  obtain ⟨v1,rfl⟩ := sh89 h1
  obtain ⟨v2,rfl⟩ := sh9 h2
  exact ⟨LForeignKey.mk v0 v1 v2,rfl⟩
theorem sh23 {n : Nat} {pvs : List PV} (h : Sh Tryz.prog n 23 pvs) : ∃ v : List LForeignKey,pvs = [.list 142 (v.map cz)] := by
 cases n with
 | zero=>simp [Sh] at h
 | succ n =>
  simp only [Sh,Tryz.underlying23] at h
  obtain ⟨rows,rfl,hr⟩ := h
  obtain ⟨xs,rfl⟩ := iU (f := cz) (fun r hq=>sh142 (hr r hq))
  exact ⟨xs,rfl⟩
theorem sh53 {n : Nat} {pvs : List PV} (h : Sh Tryz.prog n 53 pvs) : ∃ v : LVal,pvs = ab v := by
 cases n with
 | zero=>simp [Sh] at h
 | succ n =>
  simp only [Sh,Tryz.underlying53,List.map_cons,List.map_nil,gE] at h
  obtain ⟨p0,r0,rfl,h0,p1,r1,rfl,h1,p2,r2,rfl,h2,rfl⟩ := h
  obtain ⟨v0,rfl⟩ := sh3 h0
  obtain ⟨v1,rfl⟩ := sh3 h1
  obtain ⟨v2,rfl⟩ := sh9 h2
  exact ⟨LVal.mk v0 v1 v2,rfl⟩
theorem sh148 {n : Nat} {pvs : List PV} (h : Sh Tryz.prog n 148 pvs) : ∃ v : LConstraint,pvs = cG v := by
 cases n with
 | zero=>simp [Sh] at h
 | succ n =>
  simp only [Sh,Tryz.underlying148,List.map_cons,List.map_nil,gE] at h
  obtain ⟨p0,r0,rfl,h0,p1,r1,rfl,h1,p2,r2,rfl,h2,p3,r3,rfl,h3,p4,r4,rfl,h4,rfl⟩ := h
  obtain ⟨v0,rfl⟩ := sh9 h0
  obtain ⟨v1,rfl⟩ := sh3 h1
  obtain ⟨v2,rfl⟩ := sh9 h2
  obtain ⟨v3,rfl⟩ := sh3 h3
  obtain ⟨v4,rfl⟩ := sh53 h4
  exact ⟨LConstraint.mk v0 v1 v2 v3 v4,rfl⟩
theorem sh24 {n : Nat} {pvs : List PV} (h : Sh Tryz.prog n 24 pvs) : ∃ v : List LConstraint,pvs = [.list 148 (v.map cG)] := by
 cases n with
 | zero=>simp [Sh] at h
 | succ n =>
  simp only [Sh,Tryz.underlying24] at h
  obtain ⟨rows,rfl,hr⟩ := h
  obtain ⟨xs,rfl⟩ := iU (f := cG) (fun r hq=>sh148 (hr r hq))
  exact ⟨xs,rfl⟩
theorem sh26 {n : Nat} {pvs : List PV} (h : Sh Tryz.prog n 26 pvs) : ∃ v : LSchema,pvs = eh v := by
 cases n with
 | zero=>simp [Sh] at h
 | succ n =>
  simp only [Sh,Tryz.underlying26,List.map_cons,List.map_nil,gE] at h
  obtain ⟨p0,r0,rfl,h0,p1,r1,rfl,h1,p2,r2,rfl,h2,rfl⟩ := h
  obtain ⟨v0,rfl⟩ := sh22 h0
  obtain ⟨v1,rfl⟩ := sh23 h1
  obtain ⟨v2,rfl⟩ := sh24 h2
  exact ⟨LSchema.mk v0 v1 v2,rfl⟩
theorem sh51 {n : Nat} {pvs : List PV} (h : Sh Tryz.prog n 51 pvs) : ∃ v : Rq,pvs = [.list 53 (v.map ab)] := by
 cases n with
 | zero=>simp [Sh] at h
 | succ n =>
  simp only [Sh,Tryz.underlying51] at h
  obtain ⟨rows,rfl,hr⟩ := h
  obtain ⟨xs,rfl⟩ := iU (f := ab) (fun r hq=>sh53 (hr r hq))
  exact ⟨xs,rfl⟩
theorem sh40 {n : Nat} {pvs : List PV} (h : Sh Tryz.prog n 40 pvs) : ∃ v : Rz,pvs = [.list 51 (v.map (ak 53 ab))] := by
 cases n with
 | zero=>simp [Sh] at h
 | succ n =>
  simp only [Sh,Tryz.underlying40] at h
  obtain ⟨rows,rfl,hr⟩ := h
  obtain ⟨xs,rfl⟩ := iU (f := (ak 53 ab)) (fun r hq=>let ⟨v,e⟩ := sh51 (hr r hq); ⟨v,e⟩)
  exact ⟨xs,rfl⟩
theorem sh87 {n : Nat} {pvs : List PV} (h : Sh Tryz.prog n 87 pvs) : ∃ v : LRelation,pvs = bV v := by
 cases n with
 | zero=>simp [Sh] at h
 | succ n =>
  simp only [Sh,Tryz.underlying87,List.map_cons,List.map_nil,gE] at h
  obtain ⟨p0,r0,rfl,h0,p1,r1,rfl,h1,rfl⟩ := h
  obtain ⟨v0,rfl⟩ := sh9 h0
  obtain ⟨v1,rfl⟩ := sh40 h1
  exact ⟨LRelation.mk v0 v1,rfl⟩
theorem sh28 {n : Nat} {pvs : List PV} (h : Sh Tryz.prog n 28 pvs) : ∃ v : List LRelation,pvs = [.list 87 (v.map bV)] := by
 cases n with
 | zero=>simp [Sh] at h
 | succ n =>
  simp only [Sh,Tryz.underlying28] at h
  obtain ⟨rows,rfl,hr⟩ := h
  obtain ⟨xs,rfl⟩ := iU (f := bV) (fun r hq=>sh87 (hr r hq))
  exact ⟨xs,rfl⟩
theorem sh29 {n : Nat} {pvs : List PV} (h : Sh Tryz.prog n 29 pvs) : ∃ v : List (List UInt8),pvs = [.list 9 (v.map cl)] := by
 cases n with
 | zero=>simp [Sh] at h
 | succ n =>
  simp only [Sh,Tryz.underlying29] at h
  obtain ⟨rows,rfl,hr⟩ := h
  obtain ⟨xs,rfl⟩ := iU (f := cl) (fun r hq=>let ⟨v,e⟩ := sh9 (hr r hq); ⟨v,e⟩)
  exact ⟨xs,rfl⟩
theorem sh56 {n : Nat} {pvs : List PV} (h : Sh Tryz.prog n 56 pvs) : ∃ v : LExpr,pvs = bd v := by
 induction n generalizing pvs with
 | zero=>simp [Sh] at h
 | succ n ih =>
  simp only [Sh,Tryz.underlying56,List.map_cons,List.map_nil,gE] at h
  obtain ⟨p0,r0,rfl,h0,p1,r1,rfl,h1,p2,r2,rfl,h2,p3,r3,rfl,h3,p4,r4,rfl,h4,rfl⟩ := h
  obtain ⟨v0,rfl⟩ := sh3 h0
  obtain ⟨v1,rfl⟩ := sh9 h1
  obtain ⟨v2,rfl⟩ := sh3 h2
  obtain ⟨v3,rfl⟩ := sh53 h3
  cases n with
  | zero=>simp [Sh] at h4
  | succ n =>
  simp only [Sh,Tryz.underlying30] at h4
  obtain ⟨rows,rfl,hr4⟩ := h4
  obtain ⟨v4,rfl⟩ := rowsUp (f := bd) (rfl) ih hr4
  exact ⟨LExpr.mk v0 v1 v2 v3 v4,by rw [eC]; rfl⟩
theorem sh30 {n : Nat} {pvs : List PV} (h : Sh Tryz.prog n 30 pvs) : ∃ v : List LExpr,pvs = [.list 56 (v.map bd)] := by
 cases n with
 | zero=>simp [Sh] at h
 | succ n =>
  simp only [Sh,Tryz.underlying30] at h
  obtain ⟨rows,rfl,hr⟩ := h
  obtain ⟨xs,rfl⟩ := iU (f := bd) (fun r hq=>sh56 (hr r hq))
  exact ⟨xs,rfl⟩
theorem sh66 {n : Nat} {pvs : List PV} (h : Sh Tryz.prog n 66 pvs) : ∃ v : LAggregateCall,pvs = cj v := by
 cases n with
 | zero=>simp [Sh] at h
 | succ n =>
  simp only [Sh,Tryz.underlying66,List.map_cons,List.map_nil,gE] at h
  obtain ⟨p0,r0,rfl,h0,p1,r1,rfl,h1,p2,r2,rfl,h2,rfl⟩ := h
  obtain ⟨v0,rfl⟩ := sh9 h0
  obtain ⟨v1,rfl⟩ := sh9 h1
  obtain ⟨v2,rfl⟩ := sh30 h2
  exact ⟨LAggregateCall.mk v0 v1 v2,rfl⟩
theorem sh31 {n : Nat} {pvs : List PV} (h : Sh Tryz.prog n 31 pvs) : ∃ v : List LAggregateCall,pvs = [.list 66 (v.map cj)] := by
 cases n with
 | zero=>simp [Sh] at h
 | succ n =>
  simp only [Sh,Tryz.underlying31] at h
  obtain ⟨rows,rfl,hr⟩ := h
  obtain ⟨xs,rfl⟩ := iU (f := cj) (fun r hq=>sh66 (hr r hq))
  exact ⟨xs,rfl⟩
theorem sh32 {n : Nat} {pvs : List PV} (h : Sh Tryz.prog n 32 pvs) : ∃ v : List Bool,pvs = [.list 4 (v.map cA)] := by
 cases n with
 | zero=>simp [Sh] at h
 | succ n =>
  simp only [Sh,Tryz.underlying32] at h
  obtain ⟨rows,rfl,hr⟩ := h
  obtain ⟨xs,rfl⟩ := iU (f := cA) (fun r hq=>let ⟨v,e⟩ := sh4 (hr r hq); ⟨v,e⟩)
  exact ⟨xs,rfl⟩
theorem sh35 {n : Nat} {pvs : List PV} (h : Sh Tryz.prog n 35 pvs) : ∃ v : LQuery,pvs = aW v := by
 induction n generalizing pvs with
 | zero=>simp [Sh] at h
 | succ n ih =>
  simp only [Sh,Tryz.underlying35,List.map_cons,List.map_nil,gE] at h
  obtain ⟨p0,r0,rfl,h0,p1,r1,rfl,h1,p2,r2,rfl,h2,p3,r3,rfl,h3,p4,r4,rfl,h4,p5,r5,rfl,h5,p6,r6,rfl,h6,p7,r7,rfl,h7,p8,r8,rfl,h8,rfl⟩ := h
  obtain ⟨v0,rfl⟩ := sh3 h0
  obtain ⟨v1,rfl⟩ := sh9 h1
  obtain ⟨v2,rfl⟩ := sh29 h2
  obtain ⟨v3,rfl⟩ := sh30 h3
  obtain ⟨v4,rfl⟩ := sh31 h4
  obtain ⟨v5,rfl⟩ := sh32 h5
  obtain ⟨v6,rfl⟩ := sh3 h6
  obtain ⟨v7,rfl⟩ := sh3 h7
  cases n with
  | zero=>simp [Sh] at h8
  | succ n =>
  simp only [Sh,Tryz.underlying33] at h8
  obtain ⟨rows,rfl,hr8⟩ := h8
  obtain ⟨v8,rfl⟩ := rowsUp (f := aW) (rfl) ih hr8
  exact ⟨LQuery.mk v0 v1 v2 v3 v4 v5 v6 v7 v8,by rw [cv]; rfl⟩
theorem sh36 {n : Nat} {pvs : List PV} (h : Sh Tryz.prog n 36 pvs) : ∃ v : Rq,pvs = [.list 53 (v.map ab)] := by
 cases n with
 | zero=>simp [Sh] at h
 | succ n =>
  simp only [Sh,Tryz.underlying36] at h
  obtain ⟨rows,rfl,hr⟩ := h
  obtain ⟨xs,rfl⟩ := iU (f := ab) (fun r hq=>sh53 (hr r hq))
  exact ⟨xs,rfl⟩
theorem law_args : ∀ args,ArgsSh Tryz.prog Tryz.f12.params.toList args → cd args ≤ 1048576 → aV Tryz.prog 12 args (.val (.bool true)) := by
 intro args h hN
 rw [Tryz.params12] at h
 simp only [ArgsSh] at h
 obtain ⟨n0,p0,r0,rfl,h0,n1,p1,r1,rfl,h1,n2,p2,r2,rfl,h2,n3,p3,r3,rfl,h3,n4,p4,r4,rfl,h4,rfl⟩ := h
 obtain ⟨v0,rfl⟩ := sh26 h0
 obtain ⟨v1,rfl⟩ := sh28 h1
 obtain ⟨v2,rfl⟩ := sh35 h2
 obtain ⟨v3,rfl⟩ := sh35 h3
 obtain ⟨v4,rfl⟩ := sh36 h4
 have e0 : jA Tryz.prog 26 (eh v0) = .agg (eh v0) := by simp only [jA,Tryz.underlying26]
 rw [e0] at hN ⊢
 have e1 : jA Tryz.prog 28 [.list 87 (v1.map bV)] = .list 87 (v1.map bV) := by simp only [jA,Tryz.underlying28]; rfl
 rw [e1] at hN ⊢
 have e2 : jA Tryz.prog 35 (aW v2) = .agg (aW v2) := by simp only [jA,Tryz.underlying35]
 rw [cv] at e2
 rw [cv v2,e2] at hN ⊢
 have e3 : jA Tryz.prog 35 (aW v3) = .agg (aW v3) := by simp only [jA,Tryz.underlying35]
 rw [cv] at e3
 rw [cv v3,e3] at hN ⊢
 have e4 : jA Tryz.prog 36 [.list 53 (v4.map ab)] = .list 53 (v4.map ab) := by simp only [jA,Tryz.underlying36]; rfl
 rw [e4] at hN ⊢
 simp only [cd,PV.bulk] at hN
 have hs0 : lG v0 := smallS_bulk (n := 1048576) (by omega) (by omega)
 have hq2 : TinyQ v2 := tiny_bulk (n := 1048576) (by omega) (by omega)
 have hq3 : TinyQ v3 := tiny_bulk (n := 1048576) (by omega) (by omega)
 exact kR v0 v1 v2 v3 v4 true (rM hs0 v1 hq2 hq3 v4)
set_option maxRecDepth 100000 in
theorem law_wf : (fun (P : Program) (f : FuncId) (fn : Func) (s : ChangeSpec) (c : OpenClaim)=>(P.funcs.size,f,fn.params.size,s.name,c.func,c.wf (OpenSpec.ofChange s)).2.2.2.2.2) Tryz.prog 12 Tryz.f12 (Rows.OpenSpec.upto Rows.queryUnionExceptCancelSpec).bare Rows.queryUnionExceptCancelUptoRow = true := by kernel_rfl
set_option maxRecDepth 100000 in
theorem law_laid : (fun (P : Program) (f : FuncId) (fn : Func) (s : ChangeSpec) (c : OpenClaim)=>(P.funcs.size,f,fn.params.size,s.name,c.func,laidOutB P).2.2.2.2.2) Tryz.prog 12 Tryz.f12 (Rows.OpenSpec.upto Rows.queryUnionExceptCancelSpec).bare Rows.queryUnionExceptCancelUptoRow = true := by kernel_rfl
set_option maxRecDepth 100000 in
theorem law_mapsRowed : (fun (P : Program) (f : FuncId) (fn : Func) (s : ChangeSpec) (c : OpenClaim)=>(P.funcs.size,f,fn.params.size,s.name,c.func,mapsRowed P).2.2.2.2.2) Tryz.prog 12 Tryz.f12 (Rows.OpenSpec.upto Rows.queryUnionExceptCancelSpec).bare Rows.queryUnionExceptCancelUptoRow = true := by kernel_rfl
set_option maxRecDepth 100000 in
theorem law_rr : (fun (P : Program) (f : FuncId) (fn : Func) (s : ChangeSpec) (c : OpenClaim)=>(P.funcs.size,f,fn.params.size,s.name,c.func,fn.params.all (P.readableRec ·)).2.2.2.2.2) Tryz.prog 12 Tryz.f12 (Rows.OpenSpec.upto Rows.queryUnionExceptCancelSpec).bare Rows.queryUnionExceptCancelUptoRow = true := by kernel_rfl
set_option maxRecDepth 100000 in
theorem law_nt : (fun (P : Program) (f : FuncId) (fn : Func) (s : ChangeSpec) (c : OpenClaim)=>(P.funcs.size,f,fn.params.size,s.name,c.func,namedTie P c.named s.vars).2.2.2.2.2) Tryz.prog 12 Tryz.f12 (Rows.OpenSpec.upto Rows.queryUnionExceptCancelSpec).bare Rows.queryUnionExceptCancelUptoRow = true := by kernel_rfl
set_option maxRecDepth 100000 in
theorem law_st : (fun (P : Program) (f : FuncId) (fn : Func) (s : ChangeSpec) (c : OpenClaim)=>(P.funcs.size,f,fn.params.size,s.name,c.func,(c.stops == []) && (P.stops == []) && (c.knobs == []) && (P.stopKnobs == [])).2.2.2.2.2) Tryz.prog 12 Tryz.f12 (Rows.OpenSpec.upto Rows.queryUnionExceptCancelSpec).bare Rows.queryUnionExceptCancelUptoRow = true := by kernel_rfl
set_option maxRecDepth 100000 in
theorem law_inPlace : (fun (P : Program) (f : FuncId) (fn : Func) (s : ChangeSpec) (c : OpenClaim)=>(P.funcs.size,f,fn.params.size,s.name,c.func,c.inPlace == P.inPlace f).2.2.2.2.2) Tryz.prog 12 Tryz.f12 (Rows.OpenSpec.upto Rows.queryUnionExceptCancelSpec).bare Rows.queryUnionExceptCancelUptoRow = true := by kernel_rfl
set_option maxRecDepth 100000 in
theorem law_unf : (fun (P : Program) (f : FuncId) (fn : Func) (s : ChangeSpec) (c : OpenClaim)=>(P.funcs.size,f,fn.params.size,s.name,c.func,c.unfollowed == P.unfollowed f).2.2.2.2.2) Tryz.prog 12 Tryz.f12 (Rows.OpenSpec.upto Rows.queryUnionExceptCancelSpec).bare Rows.queryUnionExceptCancelUptoRow = true := by kernel_rfl
set_option maxRecDepth 100000 in
theorem law_rec : (fun (P : Program) (f : FuncId) (fn : Func) (s : ChangeSpec) (c : OpenClaim)=>(P.funcs.size,f,fn.params.size,s.name,c.func,c.recurses == P.recurses f).2.2.2.2.2) Tryz.prog 12 Tryz.f12 (Rows.OpenSpec.upto Rows.queryUnionExceptCancelSpec).bare Rows.queryUnionExceptCancelUptoRow = true := by kernel_rfl
set_option maxRecDepth 100000 in
theorem law_named : (fun (P : Program) (f : FuncId) (fn : Func) (s : ChangeSpec) (c : OpenClaim)=>(P.funcs.size,f,fn.params.size,s.name,c.func,c.named == P.varsNamed f).2.2.2.2.2) Tryz.prog 12 Tryz.f12 (Rows.OpenSpec.upto Rows.queryUnionExceptCancelSpec).bare Rows.queryUnionExceptCancelUptoRow = true := by kernel_rfl
set_option maxRecDepth 100000 in
theorem law_maps : (fun (P : Program) (f : FuncId) (fn : Func) (s : ChangeSpec) (c : OpenClaim)=>(P.funcs.size,f,fn.params.size,s.name,c.func,(c.maps == (fn.params.toList ++ s.plain.varTypes P).any (P.mapsRec ·)) && (c.ifaces == (fn.params.toList ++ s.plain.varTypes P).any (P.ifacesRec ·)) && (c.mapsOut == P.mapsAmong fn.resultTypes.toList)).2.2.2.2.2) Tryz.prog 12 Tryz.f12 (Rows.OpenSpec.upto Rows.queryUnionExceptCancelSpec).bare Rows.queryUnionExceptCancelUptoRow = true := by kernel_rfl
set_option maxRecDepth 100000 in
theorem law_loops : (fun (P : Program) (f : FuncId) (fn : Func) (s : ChangeSpec) (c : OpenClaim)=>(P.funcs.size,f,fn.params.size,s.name,c.func,(c.loops == (fn.params.toList ++ s.plain.varTypes P).any (P.loopsFrom ·))).2.2.2.2.2) Tryz.prog 12 Tryz.f12 (Rows.OpenSpec.upto Rows.queryUnionExceptCancelSpec).bare Rows.queryUnionExceptCancelUptoRow = true := by kernel_rfl
set_option maxRecDepth 100000 in
theorem law_wide : (fun (P : Program) (f : FuncId) (fn : Func) (s : ChangeSpec) (c : OpenClaim)=>(P.funcs.size,f,fn.params.size,s.name,c.func,(c.wideKeys == (fn.params.toList ++ s.plain.varTypes P ++ fn.resultTypes.toList).any (P.wideKeysFrom ·))).2.2.2.2.2) Tryz.prog 12 Tryz.f12 (Rows.OpenSpec.upto Rows.queryUnionExceptCancelSpec).bare Rows.queryUnionExceptCancelUptoRow = true := by kernel_rfl
set_option maxRecDepth 100000 in
theorem law_rest1 : (fun (P : Program) (f : FuncId) (fn : Func) (s : ChangeSpec) (c : OpenClaim)=>(P.funcs.size,f,fn.params.size,s.name,c.func,s.vars.all (P.varReadable ·) && fn.resultTypes.all (fun t=>P.readableRec t && decide (t < P.types.size)) && (c.ifacesOut == fn.resultTypes.toList.any (P.ifacesRec ·)) && (c.loopsOut == fn.resultTypes.toList.any (P.loopsFrom ·))).2.2.2.2.2) Tryz.prog 12 Tryz.f12 (Rows.OpenSpec.upto Rows.queryUnionExceptCancelSpec).bare Rows.queryUnionExceptCancelUptoRow = true := by kernel_rfl
set_option maxRecDepth 100000 in
theorem law_plainKeys : (fun (P : Program) (f : FuncId) (fn : Func) (s : ChangeSpec) (c : OpenClaim)=>(P.funcs.size,f,fn.params.size,s.name,c.func,c.plainKeys == P.plainKeys).2.2.2.2.2) Tryz.prog 12 Tryz.f12 (Rows.OpenSpec.upto Rows.queryUnionExceptCancelSpec).bare Rows.queryUnionExceptCancelUptoRow = true := by kernel_rfl
set_option maxRecDepth 100000 in
theorem law_rest2 : (fun (P : Program) (f : FuncId) (fn : Func) (s : ChangeSpec) (c : OpenClaim)=>(P.funcs.size,f,fn.params.size,s.name,c.func,c.shortTexts.isNone && P.stopsHeard && P.mayEnter && (c.lifted == P.liftsFinal) && (P.make == some c.make)).2.2.2.2.2) Tryz.prog 12 Tryz.f12 (Rows.OpenSpec.upto Rows.queryUnionExceptCancelSpec).bare Rows.queryUnionExceptCancelUptoRow = true := by kernel_rfl
set_option maxRecDepth 100000 in
theorem law_kinds : (fun (P : Program) (f : FuncId) (fn : Func) (s : ChangeSpec) (c : OpenClaim)=>(P.funcs.size,f,fn.params.size,s.name,c.func,(c.kinds == (if c.domain.isEmpty then [] else fn.params.toList.map fun t=>match P.underlying t with | some (.int k)=>some k | _=>none)) && (c.pinned == c.pinnedBy)).2.2.2.2.2) Tryz.prog 12 Tryz.f12 (Rows.OpenSpec.upto Rows.queryUnionExceptCancelSpec).bare Rows.queryUnionExceptCancelUptoRow = true := by kernel_rfl
set_option maxRecDepth 100000 in
theorem law_veil : (fun (P : Program) (f : FuncId) (fn : Func) (s : ChangeSpec) (c : OpenClaim)=>(P.funcs.size,f,fn.params.size,s.name,c.func,(c.veiled == (fn.params.toList ++ s.plain.varTypes P ++ fn.resultTypes.toList).any (P.veiledRec ·)) && c.veiledFits P fn.params.toList (fn.params.toList ++ s.plain.varTypes P ++ fn.resultTypes.toList)).2.2.2.2.2) Tryz.prog 12 Tryz.f12 (Rows.OpenSpec.upto Rows.queryUnionExceptCancelSpec).bare Rows.queryUnionExceptCancelUptoRow = true := by kernel_rfl
set_option maxRecDepth 100000 in
theorem law_facts : joinedFacts Tryz.prog 12 Tryz.f12 (Rows.OpenSpec.upto Rows.queryUnionExceptCancelSpec).bare Rows.queryUnionExceptCancelUptoRow = true := joined_of law_wf law_laid law_mapsRowed law_rr law_nt law_st law_inPlace law_unf law_rec law_named law_maps law_loops law_wide law_rest1 law_plainKeys law_rest2 law_kinds law_veil
set_option maxRecDepth 100000 in
theorem law_lifted (os : Os) (started : os.Started) (H : Type) (enc : TypeId × Value → H) (F : Stop.Interp) :
  ReturnsInHanded {} Tryz.checked os 12 .any ((Rows.OpenSpec.upto Rows.queryUnionExceptCancelSpec).pre6 enc Tryz.prog Tryz.f12 Rows.queryUnionExceptCancelUptoRow.domain false) (((Rows.OpenSpec.upto Rows.queryUnionExceptCancelSpec).at F).post enc Tryz.prog Tryz.f12 false true false false) := by
 refine returnsInHanded_of_cond_sized (C := Tryz.checked) (s := Rows.OpenSpec.upto Rows.queryUnionExceptCancelSpec) (k := Rows.uptoSmall) rfl own_knob started (by kernel_rfl) Tryz.func12
  (OpenSpec.witness (enc := enc) (C := Tryz.checked) (s := Rows.OpenSpec.upto Rows.queryUnionExceptCancelSpec) (k := Rows.uptoSmall) rfl false ⟨#[],#[.agg #[.slice none 0 0,.slice none 0 0,.slice none 0 0],.slice none 0 0,.agg #[.int .i64 0,.string ⟨#[]⟩,.slice none 0 0,.slice none 0 0,.slice none 0 0,.slice none 0 0,.int .i64 0,.int .i64 0,.slice none 0 0],.agg #[.int .i64 0,.string ⟨#[]⟩,.slice none 0 0,.slice none 0 0,.slice none 0 0,.slice none 0 0,.int .i64 0,.int .i64 0,.slice none 0 0],.slice none 0 0],[]⟩ 8 (by kernel_rfl) (by kernel_rfl) (by kernel_rfl)
   (x := ([.agg [.nil,.nil,.nil],.nil,.agg [.lit (.int .i64 0),.lit (.string []),.nil,.nil,.nil,.nil,.lit (.int .i64 0),.lit (.int .i64 0),.nil],.agg [.lit (.int .i64 0),.lit (.string []),.nil,.nil,.nil,.nil,.lit (.int .i64 0),.lit (.int .i64 0),.nil],.nil],[],[])) (by kernel_rfl) rfl (by kernel_rfl)) ?_
 intro W base args ds gs before hval hW _ hk hsz _
 have hN : ((ds ++ gs).map (fun d=>Rows.uptoBulk d)).sum ≤ 1048576 := by
  rw [oI]; exact of_decide_eq_true hk
 refine law_callsB (s := Rows.queryUnionExceptCancelSpec) (tb := 4) bulk_is laid_out rfl ?_ rfl Tryz.underlying4 ?_ lawTypes_ok lawTypes_info ?_ law_args hval hW hsz hN
 ·rw [Tryz.params12]
  intro t ht
  simp only [List.mem_cons,List.mem_nil_iff,or_false] at ht
  rcases ht with rfl | rfl | rfl | rfl | rfl <;> exact ⟨by kernel_rfl,of_decide_eq_true (by kernel_rfl)⟩
 ·intro ds hlen
  rw [Tryz.params12] at hlen
  match ds,hlen with
  | [d0,d1,d2,d3,d4],_=>rfl
 ·rw [Tryz.params12]
  intro t ht
  simp only [List.mem_cons,List.mem_nil_iff,or_false] at ht
  rcases ht with rfl | rfl | rfl | rfl | rfl <;> simp [lawTypes]
theorem queryUnionExceptCancelUpto_holds : Rows.QueryUnionExceptCancelUptoSaid :=
 OpenClaim.holds_of_cond 12 Tryz.f12 rfl rfl rfl rfl rfl rfl rfl ⟨rfl,rfl,rfl,rfl,rfl⟩ rfl rfl rfl rfl rfl (by kernel_rfl) Tryz.func12 law_facts
  (of_decide_eq_true (by kernel_rfl)) (by unfold Func.isWrapper; rw [zy (by decide +kernel)]; exact ⟨rfl,rfl⟩)
  (fun os started H enc _ F=>law_lifted os started H enc F)
end
end Go.Proofs.YtgaggbdcedpapaaGreat
