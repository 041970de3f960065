/- queryCloneIsIndependentUpto_holds, part 2: the layer, the plain functions and what they compute; conditions as in the statement. -/
import Derived.Test.YtioonpnnfepffaaGreatCia
set_option maxHeartbeats 4000000
namespace Go.Ab
noncomputable section
open Go.ChangeShapes
def kj (W : World) : Mem := fun b o=>W.cell? ⟨b,o,none⟩
def laidFs (P : Program) : Nat → List Field → Bool
 | _,[]=>true
 | o,f :: fs=>Nat.beq f.offset o && laidFs P (o + P.cellsOf f.type) fs
def okT (P : Program) (S : List TypeId) (t : TypeId) : Bool :=
 match P.underlying t with
 | some .bool | some (.int _) | some .string=>true
 | some (.slice e)=>S.contains e && Nat.blt 0 (P.cellsOf e)
 | some (.struct fs)=>laidFs P 0 fs.toList && fs.toList.all (fun f=>S.contains f.type) && Nat.beq (fs.toList.map fun f=>P.cellsOf f.type).sum (P.cellsOf t)
 | _=>false
def gz (Sh : TypeId → List PV → Prop) : List TypeId → List PV → Prop
 | [],pvs=>pvs = []
 | t :: ts,pvs=>∃ a b,pvs = a ++ b ∧ Sh t a ∧ gz Sh ts b
def Sh (P : Program) : Nat → TypeId → List PV → Prop
 | 0,_,_=>False
 | n + 1,t,pvs=>match P.underlying t with
  | some .bool=>∃ b,pvs = [.val (.bool b)]
  | some (.int k)=>∃ m,pvs = [.val (.int k m)] ∧ (Lit.int k m).wf = true
  | some .string=>∃ l,pvs = [.str l] ∧ l.length ≤ 2 ^ 47
  | some (.slice e)=>∃ rows,pvs = [.list e rows] ∧ ∀ r ∈ rows,Sh P n e r
  | some (.struct fs)=>gz (Sh P n) (fs.toList.map (·.type)) pvs
  | _=>False
section
variable {H : Type} {enc : TypeId × Value → H} {P : Program} {W : World} {S : List TypeId}
theorem dm.of_cells {b : Nat} : ∀ {o : Nat} {pvs : List PV} {cs : List Value},aB P (kj W) false pvs cs → (∀ x ∈ cs,x.oneCell' = true) → (∀ j,j < cs.length → W.cell? ⟨b,o + j,none⟩ = cs[j]?) → dm P (kj W) b o pvs
 | _,[],_,_,_,_=>by simp [dm]
 | o,p :: ps,cs,h,h1,hm=>by
  simp only [aB] at h
  obtain ⟨x,xs,rfl,h2,h3⟩ := h
  simp only [dm]
  refine ⟨⟨x,?_,h1 x (by simp),h2⟩,dm.of_cells h3 (fun y hy=>h1 y (by simp [hy])) fun j hj=>?_⟩
  ·simpa [kj] using hm 0 (by simp)
  ·have := hm (j + 1) (by simpa using hj)
   rw [show o + 1 + j = o + (j + 1) from by omega]
   simpa using this
theorem Sh.one : ∀ {n : Nat} {t : TypeId} {pvs : List PV},Sh P n t pvs → pvs.all PV.one = true := by
 intro n
 induction n with
 | zero=>intro t pvs h; simp [Sh] at h
 | succ n ih =>
  intro t pvs h
  simp only [Sh] at h
  split at h
  ·obtain ⟨b,rfl⟩ := h; rfl
  ·obtain ⟨m,rfl,_⟩ := h; rfl
  ·obtain ⟨l,rfl,_⟩ := h; rfl
  ·obtain ⟨rows,rfl,_⟩ := h; rfl
  ·rename_i fs _
   generalize fs.toList.map (·.type) = ts at h
   induction ts generalizing pvs with
   | nil=>simp only [gz] at h; subst h; rfl
   | cons t ts iht =>
    simp only [gz] at h
    obtain ⟨a,b,rfl,h1,h2⟩ := h
    rw [List.all_append,ih h1,iht h2]
    rfl
  ·cases h
theorem trod_int_some {n : Nat} {t : TypeId} {k : IntKind} {cs : List Value} {x : DataW H × List MemPlace} {sp : Nat → Bool} (hu : P.underlying t = some (.int k)) (h : DataW.trod enc P W 0 sp true (n + 1) t cs = some x) : ∃ m,cs = [.int k m] ∧ (Lit.int k m).wf = true := by
 unfold DataW.trod at h
 rw [hu] at h
 split at h <;> simp_all
theorem trod_bool_some {n : Nat} {t : TypeId} {cs : List Value} {x : DataW H × List MemPlace} {sp : Nat → Bool} (hu : P.underlying t = some .bool) (h : DataW.trod enc P W 0 sp true (n + 1) t cs = some x) : ∃ b,cs = [.bool b] := by
 unfold DataW.trod at h
 rw [hu] at h
 split at h <;> simp_all
theorem trod_str_some {n : Nat} {t : TypeId} {cs : List Value} {x : DataW H × List MemPlace} {sp : Nat → Bool} (hu : P.underlying t = some .string) (h : DataW.trod enc P W 0 sp true (n + 1) t cs = some x) : ∃ s : ByteArray,cs = [.string s] ∧ x.1 = .lit (.string s.data.toList) := by
 unfold DataW.trod at h
 rw [hu] at h
 split at h <;> simp_all
 rw [← h.2]
theorem rQ {n : Nat} {t : TypeId} {fs : Array Field} {cs : List Value} {x : DataW H × List MemPlace} {sp : Nat → Bool} (hu : P.underlying t = some (.struct fs)) (h : DataW.trod enc P W 0 sp true (n + 1) t cs = some x) :
  cs.length = P.cellsOf t ∧ ∃ xs,(fs.toList.mapM fun f=>DataW.trod enc P W 0 sp true n f.type ((cs.drop f.offset).take (P.cellsOf f.type))) = some xs ∧ x = (.agg (xs.map (·.1)),xs.flatMap (·.2)) := by
 unfold DataW.trod at h
 rw [hu] at h
 split at h <;> simp_all
 obtain ⟨_,a,h2,h3⟩ := h
 exact ⟨a,h2,h3.symm⟩
theorem sh {n : Nat} {t e : TypeId} {cs : List Value} {x : DataW H × List MemPlace} (hu : P.underlying t = some (.slice e)) (h : DataW.trod enc P W 0 (fun _=>true) true (n + 1) t cs = some x) :
  (cs = [.slice none 0 0] ∧ x = (.nil,[])) ∨ ∃ a len cap elems rest,cs = [.slice (some a) len cap] ∧ len ≤ cap ∧ cap ≤ maxLen ∧
   ((List.range len).mapM fun i=>(W.cells? 0 (a.add (i * P.cellsOf e)) (P.cellsOf e)).bind (DataW.trod enc P W 0 (fun _=>true) true n e)) = some elems ∧
   ((List.range (cap - len)).mapM fun i=>(W.cells? 0 (a.add ((len + i) * P.cellsOf e)) (P.cellsOf e)).bind (DataW.trod enc P W 0 (fun _=>true) true n e)) = some rest ∧
   x.1 = .slice (elems.map (·.1)) (rest.map (·.1)) := by
 unfold DataW.trod at h
 rw [hu] at h
 split at h <;> simp_all
 rename_i e' a len cap _
 obtain ⟨⟨h1,h2⟩,h3⟩ := h
 cases hel : ((List.range len).mapM fun i=>(W.cells? 0 (a.add (i * P.cellsOf e')) (P.cellsOf e')).bind (DataW.trod enc P W 0 (fun _=>true) true n e')) with
 | none=>rw [hel] at h3; cases h3
 | some elems =>
  rw [hel,Option.bind_some] at h3
  cases hre : ((List.range (cap - len)).mapM fun i=>(W.cells? 0 (a.add ((len + i) * P.cellsOf e')) (P.cellsOf e')).bind (DataW.trod enc P W 0 (fun _=>true) true n e')) with
  | none=>rw [hre] at h3; cases h3
  | some rest =>
   rw [hre,Option.map_some,zo] at h3
   exact ⟨a,len,cap,⟨rfl,rfl,rfl⟩,h1,h2,elems,hel,rest,hre,by rw [← h3]⟩
end
def ki (P : Program) (t : TypeId) (pvs : List PV) : PV :=
 match P.underlying t with
 | some (.struct _)=>.agg pvs
 | _=>pvs.headD .any
def ArgsSh (P : Program) : List TypeId → List PV → Prop
 | [],av0=>av0 = []
 | t :: ts,av0=>∃ n pvs rest,av0 = ki P t pvs :: rest ∧ Sh P n t pvs ∧ ArgsSh P ts rest
section
variable {H : Type} {enc : TypeId × Value → H} {P : Program} {W : World} {S : List TypeId}
theorem qo (hl : laidOutB P = true) {W' : World} (hb : RowKit.Below W.heap.size W W') {sp : Nat → Bool} : ∀ {ts : List TypeId} {vs : List Value} {ds : List (DataW H)} {ps : List MemPlace},(∀ t ∈ ts,P.readableRec t = true ∧ t < P.types.size) →
  DataW.TrodAll enc P W 0 (fun _=>true) true ts vs ds ps → (∀ x ∈ ps,x.block < W.heap.size) → (∀ x ∈ ps,sp x.block = true) → DataW.TrodAll enc P W' 0 sp true ts vs ds ps
 | [],_,_,_,_,h,_,_=>by
  obtain ⟨rfl,rfl,rfl⟩ := trodAll_nil h
  exact trodAll_mk0
 | t :: ts,_,_,_,hr,h,hlt,hsp=>by
  obtain ⟨v,vs,d,ds,p,q,rfl,rfl,rfl,h1,h2⟩ := trodAll_cons h
  exact ⟨p,q,WideElems.Trod_stays hl (hr t (by simp)).1 (hr t (by simp)).2 h1 (fun x hx=>hb.same (hlt x (by simp [hx]))) (fun x hx=>hsp x (by simp [hx])),
   qo hl hb (fun t ht=>hr t (by simp [ht])) h2 (fun x hx=>hlt x (by simp [hx])) (fun x hx=>hsp x (by simp [hx])),rfl⟩
theorem rL {sp : Nat → Bool} {hd : Bool} : ∀ {ts : List TypeId} {vs : List Value} {ds : List (DataW H)} {ps : List MemPlace},DataW.TrodAll enc P W 0 sp hd ts vs ds ps → ds.length = ts.length
 | [],_,_,_,h=>by
  obtain ⟨_,rfl,_⟩ := trodAll_nil h
  rfl
 | t :: ts,_,_,_,h=>by
  obtain ⟨v,vs,d,ds,p,q,rfl,rfl,rfl,_,h2⟩ := trodAll_cons h
  simp [rL h2]
theorem InvH.start (W : World) (hg : Gl W []) : InvH P ⟨W,[],kj W,hg⟩ (kj W) Heap.empty W :=
 ⟨fun _ _ _ h=>h,Mem.le_refl _,fun _ _ _ h=>.inl h,rfl,rfl,rfl,Nat.le_refl _,fun _ _ _=>rfl,fun _ _ h=>by simp [Heap.empty] at h,fun _ _ h=>by simp [Heap.empty] at h,
  fun _ _ _ _ h=>by simp [Heap.empty] at h,fun _ _ _ _ _ h=>by simp [Heap.empty] at h,fun _ _ _ _ h=>by simp [Heap.empty] at h⟩
theorem InvH.below {hg : Gl W []} {M : Mem} {Hp : Heap} {W' : World} (h : InvH P ⟨W,[],kj W,hg⟩ M Hp W') : RowKit.Below W.heap.size W W' :=
 ⟨h.os,h.tape,h.output,h.size,fun k hk=>h.frame k hk (by simp)⟩
end
mutual
def PV.bulk : PV → Nat
 | .str l=>l.length + 1
 | .list _ rows=>fU rows + 1
 | .agg cs=>bd cs
 | .any=>1
 | .val _=>1
 | .tup _=>1
 | .ptr _=>1
 | .fn _ _=>1
 | .box _ _ _=>1
 | .own _ _ _=>1
 | .optr _ _ _ _ _=>1
 | .err _=>1
def bd : List PV → Nat
 | []=>0
 | p :: ps=>p.bulk + bd ps
def fU : List (List PV) → Nat
 | []=>0
 | r :: rs=>bd r + fU rs
end
theorem ph : ∀ a b : List PV,bd (a ++ b) = bd a + bd b
 | [],b=>by simp [bd]
 | p :: a,b=>by simp only [List.cons_append,bd,ph a b]; omega
structure IsBulk (B : (H : Type) → DataW H → Nat) : Prop where
 one : ∀ H d,1 ≤ B H d
 str : ∀ H l,l.length + 1 ≤ B H (.lit (.string l))
 slice : ∀ H (a b : List (DataW H)),(a.map (B H)).sum + 1 ≤ B H (.slice a b)
 agg : ∀ H (a : List (DataW H)),(a.map (B H)).sum ≤ B H (.agg a)
theorem Sh.up {P : Program} : ∀ {n : Nat} {t : TypeId} {pvs : List PV},Sh P n t pvs → Sh P (n + 1) t pvs := by
 intro n
 induction n with
 | zero=>intro t pvs h; simp [Sh] at h
 | succ n ih =>
  intro t pvs h
  rw [Sh] at h ⊢
  split at h
  ·exact h
  ·exact h
  ·exact h
  ·obtain ⟨rows,rfl,hr⟩ := h
   exact ⟨rows,rfl,fun r hq=>ih (hr r hq)⟩
  ·rename_i fs hu
   have key : ∀ (ts : List TypeId) (l : List PV),gz (Sh P n) ts l → gz (Sh P (n + 1)) ts l := by
    intro ts
    induction ts with
    | nil=>intro l h; simp only [gz] at h ⊢; exact h
    | cons t ts iht =>
     intro l h
     simp only [gz] at h ⊢
     obtain ⟨a,b,h1,h2,h3⟩ := h
     exact ⟨a,b,h1,ih h2,iht b h3⟩
   exact key _ _ h
  ·cases h
theorem Sh.cast {P : Program} {n : Nat} {t t' : TypeId} {pvs : List PV} (h : P.underlying t = P.underlying t') (hs : Sh P n t pvs) : Sh P n t' pvs := by
 cases n with
 | zero=>simp [Sh] at hs
 | succ n=>rw [Sh] at hs ⊢; rwa [h] at hs
theorem jd {α : Type} {f : α → List PV} : ∀ {rows : List (List PV)},(∀ r ∈ rows,∃ x,r = f x) → ∃ xs : List α,rows = xs.map f
 | [],_=>⟨[],rfl⟩
 | r :: rs,h=>by
  obtain ⟨x,rfl⟩ := h r (by simp)
  obtain ⟨xs,rfl⟩ := jd (rows := rs) fun q hq=>h q (by simp [hq])
  exact ⟨x :: xs,rfl⟩
theorem rowsUp {α : Type} {f : α → List PV} {P : Program} {n : Nat} {e t : TypeId} (he : P.underlying e = P.underlying t) (ih : ∀ {pvs},Sh P (n + 1) t pvs → ∃ v,pvs = f v) {rows : List (List PV)} (hr : ∀ r ∈ rows,Sh P n e r) : ∃ xs : List α,rows = xs.map f :=
 jd fun r hq=>ih (Sh.up (Sh.cast he (hr r hq)))
def infosB (P : Program) (S : List TypeId) : Bool := S.all fun t=>match P.info? t with
 | some i=>Nat.beq i.bytes (P.bytesOf t) && Nat.beq i.size (P.cellsOf t)
 | none=>false
theorem infos_of {P : Program} {S : List TypeId} (h : infosB P S = true) : ∀ t ∈ S,∃ i,P.info? t = some i ∧ i.bytes = P.bytesOf t ∧ i.size = P.cellsOf t := by
 intro t ht
 have := List.all_eq_true.1 h t ht
 cases hi : P.info? t with
 | none=>rw [hi] at this; cases this
 | some i =>
  rw [hi] at this
  simp only [Bool.and_eq_true] at this
  exact ⟨i,rfl,Nat.eq_of_beq_eq_true this.1,Nat.eq_of_beq_eq_true this.2⟩
section
variable {B : (H : Type) → DataW H → Nat} {H : Type} {enc : TypeId × Value → H} {P : Program} {W : World} {S : List TypeId}
theorem rK {n : Nat} (ih : ∀ t ∈ S,∀ (cs : List Value) x,DataW.trod enc P W 0 (fun _=>true) true n t cs = some x → (x.1.weights P t).all (· ≤ reachBytes) = true → ∃ pvs,Sh P n t pvs ∧ aB P (kj W) false pvs cs ∧ bd pvs ≤ B H x.1) :
  ∀ (fs : List Field) (o : Nat) (cs : List Value) (xs : List (DataW H × List MemPlace)),laidFs P o fs = true → fs.all (fun f=>S.contains f.type) = true → o + (fs.map fun f=>P.cellsOf f.type).sum = cs.length →
   (fs.mapM fun f=>DataW.trod enc P W 0 (fun _=>true) true n f.type ((cs.drop f.offset).take (P.cellsOf f.type))) = some xs →
   (DataW.weightsEach P (fs.map (·.type)) (xs.map (·.1))).all (· ≤ reachBytes) = true → ∃ pvs,gz (Sh P n) (fs.map (·.type)) pvs ∧ aB P (kj W) false pvs (cs.drop o) ∧ bd pvs ≤ ((xs.map (·.1)).map (B H)).sum
 | [],o,cs,xs,_,_,hlen,_,_=>by
  refine ⟨[],by simp [gz],?_,by simp [bd]⟩
  simp only [aB]
  exact List.drop_eq_nil_of_le (by simp at hlen; omega)
 | f :: fs,o,cs,xs,hl,hS,hlen,hm,hw=>by
  simp only [laidFs,Bool.and_eq_true] at hl
  simp only [List.all_cons,Bool.and_eq_true] at hS
  simp only [List.map_cons,List.sum_cons] at hlen
  have hoff : f.offset = o := Nat.eq_of_beq_eq_true hl.1
  rw [List.mapM_cons] at hm
  cases hx : DataW.trod enc P W 0 (fun _=>true) true n f.type ((cs.drop f.offset).take (P.cellsOf f.type)) with
  | none=>rw [hx] at hm; cases hm
  | some x =>
   rw [hx] at hm
   cases hr : (fs.mapM fun f=>DataW.trod enc P W 0 (fun _=>true) true n f.type ((cs.drop f.offset).take (P.cellsOf f.type))) with
   | none=>rw [hr] at hm; cases hm
   | some r =>
    rw [hr] at hm
    have hm' : x :: r = xs := Option.some.inj hm
    subst hm'
    simp only [List.map_cons,DataW.weightsEach,List.all_append,Bool.and_eq_true] at hw
    obtain ⟨pa,ha1,ha2,ha3⟩ := ih f.type (by simpa using hS.1) _ x hx hw.1
    obtain ⟨pb,hb1,hb2,hb3⟩ := rK ih fs (o + P.cellsOf f.type) cs r hl.2 hS.2 (by omega) hr hw.2
    refine ⟨pa ++ pb,⟨pa,pb,rfl,ha1,hb1⟩,?_,by rw [ph]; simp only [List.map_cons,List.sum_cons]; omega⟩
    have := ha2.append hb2
    rw [hoff] at this
    have e : (cs.drop o).take (P.cellsOf f.type) ++ cs.drop (o + P.cellsOf f.type) = cs.drop o := by
     rw [← List.drop_drop]; exact List.take_append_drop _ _
    rwa [e] at this
theorem absB_rows {n : Nat} {e : TypeId} (ih : ∀ (cs : List Value) x,DataW.trod enc P W 0 (fun _=>true) true n e cs = some x → (x.1.weights P e).all (· ≤ reachBytes) = true → ∃ pvs,Sh P n e pvs ∧ aB P (kj W) false pvs cs ∧ bd pvs ≤ B H x.1)
  {b o c : Nat} : ∀ (elems : List (DataW H × List MemPlace)) (k : Nat),(∀ j,j < elems.length → ((W.cells? 0 ((⟨b,o,none⟩ : Addr).add ((k + j) * c)) c).bind (DataW.trod enc P W 0 (fun _=>true) true n e)) = elems[j]?) →
   (DataW.weightsAll P e (elems.map (·.1))).all (· ≤ reachBytes) = true → ∃ rows : List (List PV),rows.length = elems.length ∧ (∀ r ∈ rows,Sh P n e r) ∧ dd P (kj W) c b (o + k * c) rows ∧ fU rows ≤ ((elems.map (·.1)).map (B H)).sum
 | [],k,_,_=>⟨[],rfl,by simp,by simp [dd],by simp [fU]⟩
 | x :: r,k,hj,hw=>by
  simp only [List.map_cons,DataW.weightsAll,List.all_append,Bool.and_eq_true] at hw
  have h0 := hj 0 (by simp)
  simp only [Nat.add_zero,List.getElem?_cons_zero] at h0
  cases hcs : W.cells? 0 ((⟨b,o,none⟩ : Addr).add (k * c)) c with
  | none=>rw [hcs] at h0; cases h0
  | some cs =>
   rw [hcs] at h0
   simp only [Option.bind_some] at h0
   obtain ⟨pv,hp1,hp2,hp3⟩ := ih cs x h0 hw.1
   obtain ⟨_,hlen,hcell⟩ := World.cells?_some hcs
   obtain ⟨rows,hr1,hr2,hr3,hr4⟩ := absB_rows ih r (k + 1) (fun j hj'=>by
    have := hj (j + 1) (by simpa using hj')
    rw [show k + (j + 1) = k + 1 + j from by omega] at this
    simpa using this) hw.2
   refine ⟨pv :: rows,by simp [hr1],?_,?_,by simp only [fU,List.map_cons,List.sum_cons]; omega⟩
   ·intro q hq
    rcases List.mem_cons.1 hq with rfl | hq
    ·exact hp1
    ·exact hr2 q hq
   ·simp only [dd]
    have hpl : pv.length = c := by rw [← hlen]; exact (hp2.length).symm
    have hone : ∀ y ∈ cs,y.oneCell' = true := aB.oneCell hp1.one hp2
    refine ⟨hpl,dm.of_cells hp2 hone fun j hj'=>?_,?_⟩
    ·have := hcell j (by omega)
     rw [← this,gB,gB]
    ·rw [show o + (k + 1) * c = o + k * c + c from by rw [Nat.add_mul]; omega] at hr3
     exact hr3
theorem absB (hB : IsBulk B) (hS : S.all (okT P S) = true) (hinf : ∀ t ∈ S,∃ i,P.info? t = some i ∧ i.bytes = P.bytesOf t ∧ i.size = P.cellsOf t) : ∀ (n : Nat) (t : TypeId),t ∈ S → ∀ (cs : List Value) x,DataW.trod enc P W 0 (fun _=>true) true n t cs = some x →
  (x.1.weights P t).all (· ≤ reachBytes) = true → ∃ pvs,Sh P n t pvs ∧ aB P (kj W) false pvs cs ∧ bd pvs ≤ B H x.1 := by
 intro n
 induction n with
 | zero=>intro t _ cs x h; simp [DataW.trod] at h
 | succ n ih =>
  intro t ht cs x h hw
  have hok := List.all_eq_true.1 hS t ht
  unfold okT at hok
  simp only [Sh]
  split at hok
  ·rename_i hu
   obtain ⟨b,rfl⟩ := trod_bool_some hu h
   exact ⟨_,⟨b,rfl⟩,by simp [aB,Rep],by simp only [bd,PV.bulk]; exact hB.one _ _⟩
  ·rename_i k hu
   obtain ⟨m,rfl,hm⟩ := trod_int_some hu h
   exact ⟨_,⟨m,rfl,hm⟩,by simp [aB,Rep],by simp only [bd,PV.bulk]; exact hB.one _ _⟩
  ·rename_i hu
   obtain ⟨s,rfl,hx⟩ := trod_str_some hu h
   rw [hx] at hw
   simp only [DataW.weights,List.all_cons,List.all_nil,Bool.and_true,decide_eq_true_eq] at hw
   have hle : s.data.toList.length ≤ 2 ^ 47 := Nat.le_trans hw (by unfold reachBytes; omega)
   refine ⟨_,⟨s.data.toList,rfl,hle⟩,?_,by simp only [bd,PV.bulk]; rw [hx]; exact hB.str _ _⟩
   simp only [aB,Rep]
   exact ⟨_,[],rfl,⟨by simp,Nat.le_trans hle (by unfold iM; omega)⟩,rfl⟩
  ·rename_i e hu
   simp only [Bool.and_eq_true] at hok
   have he : e ∈ S := by simpa using hok.1
   obtain ⟨i,hi1,hi2,hi3⟩ := hinf e he
   rcases sh hu h with ⟨rfl,rfl⟩ | ⟨a,len,cap,elems,rest,rfl,hlc,hcm,hel,hre,hx⟩
   ·refine ⟨_,⟨[],rfl,by simp⟩,?_,by simp only [bd,PV.bulk,fU]; exact hB.one _ _⟩
    simp only [aB,Rep]
    exact ⟨_,[],rfl,⟨none,0,i,rfl,by simp,by simp,hi1,by simp,by simp⟩,rfl⟩
   ·have hlen : elems.length = len := by simpa using mapM_some_length hel
    have hrlen : rest.length = cap - len := by simpa using mapM_some_length hre
    rw [hx] at hw
    simp only [DataW.weights,hu,List.all_cons,List.all_append,zl,Bool.and_eq_true,decide_eq_true_eq] at hw
    have hpos : 0 < P.cellsOf e := by simpa [Nat.blt_eq] using hok.2
    have hget : ∀ j,j < elems.length → (W.cells? 0 (a.add (j * P.cellsOf e)) (P.cellsOf e)).bind (DataW.trod enc P W 0 (fun _=>true) true n e) = elems[j]? := fun j hj=>mapM_some_get hel j j (List.getElem?_range (by omega))
    have hsp : elems ≠ [] → a.spot = none := fun hne=>by
     have h0 := hget 0 (List.length_pos_iff.2 hne)
     rw [Nat.zero_mul] at h0
     cases hcs : W.cells? 0 (a.add 0) (P.cellsOf e) with
     | none=>rw [hcs] at h0; cases elems with
      | nil=>exact absurd rfl hne
      | cons _ _=>cases h0
     | some cs =>
      obtain ⟨_,hl,hc⟩ := World.cells?_some hcs
      have := hc 0 hpos
      cases hs : a.spot with
      | none=>rfl
      | some q =>
       have h1 : W.cell? ((a.add 0).add 0) = none := by
        simp only [World.cell?,Addr.add,hs,if_true]
        split <;> simp
       rw [h1] at this
       have := List.getElem?_eq_none_iff.1 this.symm
       omega
    have hby : len * i.bytes ≤ 2 ^ 47 := by
     have h1 := hw.1
     rw [hi2]
     have : len * P.bytesOf e ≤ (elems.length + rest.length) * P.bytesOf e := Nat.mul_le_mul_right _ (by omega)
     unfold reachBytes at h1
     omega
    by_cases hne : elems = []
    ·subst hne
     refine ⟨_,⟨[],rfl,by simp⟩,?_,by simp only [bd,PV.bulk,fU]; exact hB.one _ _⟩
     simp only [List.length_nil] at hlen
     subst hlen
     simp only [aB,Rep]
     exact ⟨_,[],rfl,⟨some a,cap,i,rfl,by simp,hcm,hi1,by simp,by simp⟩,rfl⟩
    ·obtain ⟨b,o,sp⟩ := a
     have := hsp hne
     simp only at this
     subst this
     obtain ⟨rows,hr1,hr2,hr3,hr4⟩ := absB_rows (B := B) (fun cs x hx hw=>ih e he cs x hx hw) elems 0 (fun j hj=>by rw [Nat.zero_add]; exact hget j hj) hw.2.1
     refine ⟨_,⟨rows,rfl,hr2⟩,?_,by simp only [bd,PV.bulk]; rw [hx]; exact Nat.le_trans (by omega) (hB.slice _ _ _)⟩
     simp only [aB,Rep]
     have hrl : rows.length = len := by omega
     rw [hrl]
     refine ⟨_,[],rfl,⟨some ⟨b,o,none⟩,cap,i,rfl,hlc,hcm,hi1,hby,fun _=>⟨b,o,rfl,?_⟩⟩,rfl⟩
     rw [hi3]
     simpa using hr3
  ·rename_i fs hu
   simp only [Bool.and_eq_true] at hok
   obtain ⟨hl,xs,hm,hx⟩ := rQ hu h
   rw [hx] at hw
   simp only [DataW.weights,hu] at hw
   have hsum := Nat.eq_of_beq_eq_true hok.2
   obtain ⟨pvs,h1,h2,h3⟩ := rK (B := B) ih fs.toList 0 cs xs hok.1.1 hok.1.2 (by rw [hsum,hl]; omega) hm hw
   exact ⟨pvs,h1,by simpa using h2,by rw [hx]; exact Nat.le_trans h3 (hB.agg _ _)⟩
  ·cases hok
omit enc W S in
theorem argPV_bulk (hB : IsBulk B) (t : TypeId) (pvs : List PV) : (ki P t pvs).bulk ≤ max (bd pvs) 1 := by
 have _ := hB
 unfold ki
 split
 ·simp only [PV.bulk]; omega
 ·cases pvs with
  | nil=>simp [PV.bulk,bd]
  | cons p ps=>simp only [List.headD_cons,bd]; omega
theorem absB_val (hB : IsBulk B) (hS : S.all (okT P S) = true) (hinf : ∀ t ∈ S,∃ i,P.info? t = some i ∧ i.bytes = P.bytesOf t ∧ i.size = P.cellsOf t) {base : Nat} {t : TypeId} (ht : t ∈ S) {v : Value} {d : DataW H} {ps : List MemPlace}
  (hv : Value.okWide P W .any base t v) (h : DataW.Trod enc P W 0 (fun _=>true) true t v d ps) (hw : (d.weights P t).all (· ≤ reachBytes) = true) : ∃ n pvs,Sh P n t pvs ∧ Rep P (kj W) true (ki P t pvs) v ∧ (ki P t pvs).bulk ≤ B H d := by
 obtain ⟨n,hn⟩ := h
 obtain ⟨pvs,h1,h2,hb⟩ := absB hB hS hinf n t ht _ (d,ps) hn hw
 refine ⟨n,pvs,h1,?_,Nat.le_trans (argPV_bulk hB t pvs) (Nat.max_le.2 ⟨hb,hB.one _ _⟩)⟩
 have h2' := aB.slot h2
 have hok := List.all_eq_true.1 hS t ht
 unfold okT at hok
 unfold ki
 have one : v.cells = #[v] → Rep P (kj W) true (pvs.headD .any) v := by
  intro e
  rw [e] at h2'
  cases pvs with
  | nil=>simp [aB] at h2'
  | cons p ps =>
   simp only [aB] at h2'
   obtain ⟨x,xs,hx,hp,_⟩ := h2'
   simp only [List.cons.injEq] at hx
   rw [hx.1]
   exact hp
 cases hu : P.underlying t with
 | none=>rw [hu] at hok; cases hok
 | some td =>
  rw [hu] at hok
  cases td <;> first | (simp only [Bool.false_eq_true] at hok; done) | skip
  case bool=>obtain ⟨b,rfl⟩ := WideShapes.okWide_bool hu hv; exact one rfl
  case int k=>obtain ⟨m,rfl⟩ := WideShapes.okWide_int hu hv; exact one rfl
  case string=>obtain ⟨s,rfl⟩ := WideShapes.okWide_string hu hv; exact one rfl
  case slice e=>obtain ⟨a,len,cap,rfl⟩ := WideShapes.okWide_slice hu hv; exact one rfl
  case struct fs =>
   obtain ⟨cs,rfl,_⟩ := WideShapes.okWide_struct hu hv
   simp only [Rep]
   exact ⟨cs,rfl,h2'⟩
theorem absB_args (hB : IsBulk B) (hS : S.all (okT P S) = true) (hinf : ∀ t ∈ S,∃ i,P.info? t = some i ∧ i.bytes = P.bytesOf t ∧ i.size = P.cellsOf t) {base : Nat} : ∀ {ts : List TypeId} {vs : List Value} {ds : List (DataW H)} {ps : List MemPlace},(∀ t ∈ ts,t ∈ S) →
  (∀ (j : Nat) t v,ts[j]? = some t → vs[j]? = some v → Value.okWide P W .any base t v) → DataW.TrodAll enc P W 0 (fun _=>true) true ts vs ds ps → (DataW.weightsEach P ts ds).all (· ≤ reachBytes) = true →
  ∃ av0,ArgsSh P ts av0 ∧ aB P (kj W) true av0 vs ∧ bd av0 ≤ (ds.map (B H)).sum
 | [],_,_,_,_,_,h,_=>by
  obtain ⟨rfl,rfl,rfl⟩ := trodAll_nil h
  exact ⟨[],rfl,by simp [aB],by simp [bd]⟩
 | t :: ts,_,_,_,hm,hv,h,hw=>by
  obtain ⟨v,vs,d,ds,p,q,rfl,rfl,rfl,h1,h2⟩ := trodAll_cons h
  simp only [DataW.weightsEach,List.all_append,Bool.and_eq_true] at hw
  obtain ⟨n,pvs,a1,a2,a3⟩ := absB_val hB hS hinf (hm t (by simp)) (hv 0 t v rfl rfl) h1 hw.1
  obtain ⟨av0,b1,b2,b3⟩ := absB_args hB hS hinf (fun t ht=>hm t (by simp [ht])) (fun j t v ht hv'=>hv (j + 1) t v (by simpa using ht) (by simpa using hv')) h2 hw.2
  refine ⟨ki P t pvs :: av0,⟨n,pvs,av0,rfl,a1,b1⟩,?_,by simp only [bd,List.map_cons,List.sum_cons]; omega⟩
  simp only [aB]
  exact ⟨v,vs,rfl,a2,b2⟩
theorem law_callsB {N : Nat} (hB : IsBulk B) (hl : laidOutB P = true) {f : FuncId} {fn : Func} {s : ChangeSpec} {fresh handsOn again : Bool} {tb : TypeId} (hvars : s.vars = []) (hr : ∀ t ∈ fn.params.toList,P.readableRec t = true ∧ t < P.types.size) (hres : fn.resultTypes = #[tb]) (htb : P.underlying tb = some .bool)
  (hfn : ∀ ds : List (DataW H),ds.length = fn.params.toList.length → s.fn H ds = { results := [.lit (.bool true)],args := ds })
  (hS : S.all (okT P S) = true) (hinf : ∀ t ∈ S,∃ i,P.info? t = some i ∧ i.bytes = P.bytesOf t ∧ i.size = P.cellsOf t) (hm : ∀ t ∈ fn.params.toList,t ∈ S)
  (hspec : ∀ av0,ArgsSh P fn.params.toList av0 → bd av0 ≤ N → aL P f av0 (.val (.bool true)))
  {base : Nat} {args : Array Value} {ds gs : List (DataW H)} {before : List MemPlace} (hval : ∀ (j : Nat) t v,fn.params[j]? = some t → args[j]? = some v → Value.okWide P W .any base t v)
  (hW : DataW.Whole enc P fn.params.toList s.vars false W args.toList ds gs before) (hg : Gl W []) (hsz : (DataW.weightsEach P (fn.params.toList ++ s.plain.varTypes P) (ds ++ gs)).all (· ≤ reachBytes) = true) (hN : ((ds ++ gs).map (B H)).sum ≤ N) :
  Calls P f args W fun e W'=>∃ v,e = .returned v ∧ s.post enc P fn false fresh handsOn again W args v W' := by
 have hlt := hW.lt
 have hW' := hW
 obtain ⟨p,q,hA,hV,rfl,hz,hn⟩ := hW
 have hV' := hV
 rw [hvars] at hV
 obtain ⟨rfl,rfl⟩ := trodVars_none hV
 have hvt : s.plain.varTypes P = [] := by simp [DataSpec.varTypes,ChangeSpec.plain,hvars]
 rw [hvt,List.append_nil,List.append_nil] at hsz
 rw [List.append_nil] at hN
 have hlen : ds.length = fn.params.toList.length := rL hA
 obtain ⟨av0,h1,h2,h3⟩ := absB_args hB hS hinf hm (fun j t v ht hv=>hval j t v (by simpa using ht) (by simpa using hv)) hA hsz
 refine (hspec av0 h1 (Nat.le_trans h3 hN) W (kj W) [] hg args (InvH.start W hg) h2).mono ?_
 rintro e W' ⟨v,u,H',M',rfl,⟨rfl,rfl⟩,hi,hrep⟩
 simp only [Rep] at hrep
 subst hrep
 have hb := hi.below
 refine ⟨_,rfl,?_⟩
 have hfn' : s.fn H (ds ++ []) = { results := [.lit (.bool true)],args := ds } := by rw [List.append_nil]; exact hfn ds hlen
 have hargs : ∀ sp : Nat → Bool,(∀ x ∈ p ++ [],sp x.block = true) → DataW.TrodAll enc P W' 0 sp true fn.params.toList args.toList ds p := fun sp hsp =>
  qo hl hb hr hA (fun x hx=>hlt x (by simp [hx])) (fun x hx=>hsp x (by simp [hx]))
 have hres' : ∀ (b : Nat) (sp : Nat → Bool) (hd : Bool),DataW.TrodAll enc P W' b sp hd fn.resultTypes.toList ((Value.bool true).resultList fn.resultTypes.size) [.lit (.bool true)] [] := by
  intro b sp hd
  rw [hres]
  refine trodAll_mk1 ⟨1,?_⟩
  show DataW.trod enc P W' b sp hd 1 tb [.bool true] = _
  unfold DataW.trod
  rw [htb]
 have hvs : ∀ sp : Nat → Bool,DataW.TrodVars enc P W' sp s.vars ([] : List (DataW H)) [] := fun sp=>by rw [hvars]; simp [DataW.TrodVars]
 have hold : ∀ x ∈ p ++ [],(fun b=>decide (b < W.heap.size)) x.block = true := fun x hx=>by simpa using hlt x hx
 refine ⟨ds,[],p ++ [],[],p,[],hW',?_,?_,?_,hb.frame _,fun _=>⟨RowKit.ok_one hres rfl (RowKit.okWide_bool_mk htb true),[.lit (.bool true)] ++ ds,[],([] ++ p) ++ [],⟨[] ++ p,[],?_,hvs _,rfl,?_,fun h=>by cases h⟩,?_⟩⟩
 ·rw [hfn']; exact hres' _ _ _
 ·rw [hfn']; exact hargs _ hold
 ·rw [hfn']; exact hvs _
 ·exact trodAll_append (hargs _ fun _ _=>rfl) (hres' _ _ _)
 ·intro b off hx
  have hx' : MemPlace.cell b off ∈ p ++ [] := by simpa using hx
  rw [hb.frozen (hlt _ hx')]
  exact hz b off hx'
 ·intro x hx _
  simpa using hx
end
end
end Go.Ab

namespace Go.Ab
noncomputable section
open Go
theorem joined_of {P : Program} {f : FuncId} {fn : Func} {s : ChangeSpec} {c : OpenClaim}
  (h_wf : (c.wf (OpenSpec.ofChange s)) = true)
  (h_laid : (laidOutB P) = true)
  (h_mapsRowed : (mapsRowed P) = true)
  (h_rr : (fn.params.all (P.readableRec ·)) = true)
  (h_nt : (namedTie P c.named s.vars) = true)
  (h_st : ((c.stops == []) && (P.stops == []) && (c.knobs == []) && (P.stopKnobs == [])) = true)
  (h_inPlace : (c.inPlace == P.inPlace f) = true)
  (h_unf : (c.unfollowed == P.unfollowed f) = true)
  (h_rec : (c.recurses == P.recurses f) = true)
  (h_named : (c.named == P.varsNamed f) = true)
  (h_maps : ((c.maps == (fn.params.toList ++ s.plain.varTypes P).any (P.mapsRec ·)) && (c.ifaces == (fn.params.toList ++ s.plain.varTypes P).any (P.ifacesRec ·)) && (c.mapsOut == P.mapsAmong fn.resultTypes.toList)) = true)
  (h_loops : ((c.loops == (fn.params.toList ++ s.plain.varTypes P).any (P.loopsFrom ·))) = true)
  (h_wide : ((c.wideKeys == (fn.params.toList ++ s.plain.varTypes P ++ fn.resultTypes.toList).any (P.wideKeysFrom ·))) = true)
  (h_rest1 : (s.vars.all (P.varReadable ·) && fn.resultTypes.all (fun t=>P.readableRec t && decide (t < P.types.size)) && (c.ifacesOut == fn.resultTypes.toList.any (P.ifacesRec ·)) && (c.loopsOut == fn.resultTypes.toList.any (P.loopsFrom ·))) = true)
  (h_plainKeys : (c.plainKeys == P.plainKeys) = true)
  (h_rest2 : (c.shortTexts.isNone && P.stopsHeard && P.mayEnter && (c.lifted == P.liftsFinal) && (P.make == some c.make)) = true)
  (h_kinds : ((c.kinds == (if c.domain.isEmpty then [] else fn.params.toList.map fun t=>match P.underlying t with | some (.int k)=>some k | _=>none)) && (c.pinned == c.pinnedBy)) = true)
  (h_veil : ((c.veiled == (fn.params.toList ++ s.plain.varTypes P ++ fn.resultTypes.toList).any (P.veiledRec ·)) && c.veiledFits P fn.params.toList (fn.params.toList ++ s.plain.varTypes P ++ fn.resultTypes.toList)) = true)
  : joinedFacts P f fn s c = true := by
 simp only [Bool.and_eq_true] at h_st h_maps h_rest1 h_rest2 h_kinds h_veil
 simp only [joinedFacts,Bool.and_eq_true]
 exact ⟨⟨⟨⟨⟨⟨⟨⟨⟨⟨⟨⟨⟨⟨⟨⟨⟨⟨⟨⟨⟨⟨⟨⟨⟨⟨⟨⟨⟨⟨⟨h_wf,h_laid⟩,h_mapsRowed⟩,h_rr⟩,h_nt⟩,h_st.1.1.1⟩,h_st.1.1.2⟩,h_st.1.2⟩,h_st.2⟩,h_inPlace⟩,h_unf⟩,h_rec⟩,h_named⟩,h_maps.1.1⟩,h_maps.1.2⟩,h_maps.2⟩,h_loops⟩,h_wide⟩,h_rest1.1.1.1⟩,h_rest1.1.1.2⟩,h_rest1.1.2⟩,h_rest1.2⟩,h_plainKeys⟩,h_rest2.1.1.1.1⟩,h_rest2.1.1.1.2⟩,h_rest2.1.1.2⟩,h_rest2.1.2⟩,h_rest2.2⟩,h_kinds.1⟩,h_kinds.2⟩,h_veil.1⟩,h_veil.2⟩
end
end Go.Ab

namespace Go.Ab
noncomputable section
section
variable {P : Program} {ops : Array Oper} {rest : List Oper} {o : Oper} {n : Nat} {s s' : Nat → PV} {bx : Nat → Option Box} {ob : Nat → Option Obj} {K : PState → Prop} {T : TT}
abbrev kP (xs : List UInt8) : List (List PV) := xs.map fun c=>[.val (.int .u8 c.toNat)]
end
def ae {α β : Type} (o : Option α) (k : α → Option β) : Option β := match o with
 | some a=>k a
 | none=>none
def br {α β : Type} (a : α) (k : α → β) : β := k a
inductive Flow (σ ρ : Type) where
 | next (s : σ)
 | brk (s : σ)
 | ret (r : ρ)
def Flow.thenR {σ ρ : Type} (fl : Flow σ ρ) (k : σ → Option ρ) : Option ρ := match fl with
 | .next s=>k s
 | .brk s=>k s
 | .ret r=>some r
def Flow.thenF {σ τ ρ : Type} (fl : Flow σ ρ) (k : σ → Option (Flow τ ρ)) : Option (Flow τ ρ) := match fl with
 | .next s=>k s
 | .brk s=>k s
 | .ret r=>some (.ret r)
def aD {α σ ρ : Type} (step : Nat → α → σ → Option (Flow σ ρ)) : Nat → List α → σ → Option (Flow σ ρ)
 | _,[],s=>some (.next s)
 | j,x :: xs,s=>match step j x s with
  | none=>none
  | some (.next s')=>aD step (j + 1) xs s'
  | some (.brk s')=>some (.next s')
  | some (.ret r)=>some (.ret r)
def jo {σ ρ : Type} (step : σ → Option (Flow σ ρ)) : Nat → σ → Option (Flow σ ρ)
 | 0,_=>none
 | n + 1,s=>match step s with
  | none=>none
  | some (.next s')=>jo step n s'
  | some (.brk s')=>some (.next s')
  | some (.ret r)=>some (.ret r)
open Classical in
def fJ {σ ρ : Type} (step : σ → Option (Flow σ ρ)) (s : σ) : Option (Flow σ ρ) :=
 if h : ∃ r,∃ n,jo step n s = some r then some h.choose else none
theorem iterM_le {σ ρ : Type} {step : σ → Option (Flow σ ρ)} : ∀ {n m : Nat} {s : σ} {r : Flow σ ρ},jo step n s = some r → n ≤ m → jo step m s = some r
 | 0,_,_,_,h,_=>by simp [jo] at h
 | n + 1,0,_,_,_,hm=>by omega
 | n + 1,m + 1,s,r,h,hm=>by
  simp only [jo] at h ⊢
  split at h
  ·cases h
  ·exact iterM_le h (by omega)
  ·exact h
  ·exact h
theorem whileM_iff {σ ρ : Type} {step : σ → Option (Flow σ ρ)} {s : σ} {r : Flow σ ρ} : fJ step s = some r ↔ ∃ n,jo step n s = some r := by
 unfold fJ
 constructor
 ·intro h
  split at h
  ·rename_i hx
   obtain ⟨n,hn⟩ := hx.choose_spec
   exact ⟨n,by rw [hn]; exact h⟩
  ·cases h
 ·rintro ⟨n,hn⟩
  have hx : ∃ r,∃ n,jo step n s = some r := ⟨r,n,hn⟩
  rw [dif_pos hx]
  obtain ⟨m,hm⟩ := hx.choose_spec
  have h1 := iterM_le hn (Nat.le_max_left n m)
  have h2 := iterM_le hm (Nat.le_max_right n m)
  rw [h1] at h2
  exact h2.symm
theorem lk {σ ρ : Type} {step : σ → Option (Flow σ ρ)} {s : σ} {fl r : Flow σ ρ} (h : step s = some fl) (hr : match fl with | .next s'=>fJ step s' = some r | .brk s'=>r = .next s' | .ret x=>r = .ret x) : fJ step s = some r := by
 rw [whileM_iff]
 cases fl with
 | next s' =>
  obtain ⟨n,hn⟩ := whileM_iff.1 hr
  exact ⟨n + 1,by simp only [jo,h,hn]⟩
 | brk s'=>exact ⟨1,by simp only [jo,h,hr]⟩
 | ret x=>exact ⟨1,by simp only [jo,h,hr]⟩
theorem au {α β : Type} {o : Option α} {k : α → Option β} {r : β} (h : ae o k = some r) : ∃ a,o = some a ∧ k a = some r := by
 cases o with
 | none=>cases h
 | some a=>exact ⟨a,rfl,h⟩
theorem cL {α β : Type} {a : α} {k : α → β} {r : β} (h : br a k = r) : ∃ x,a = x ∧ k x = r := ⟨a,rfl,h⟩
theorem condT {α : Type} {c : Bool} {A B r : α} (h : c = true) (H : cond c A B = r) : A = r := by subst h; exact H
theorem condF {α : Type} {c : Bool} {A B r : α} (h : c = false) (H : cond c A B = r) : B = r := by subst h; exact H
theorem aM {P : Program} {fn : Func} {R : PV → Heap → Prop} {k : List KI} {st : PState} {c : Operand} {x y : Code} {b : Bool} (hc : evS st.s c = .val (.bool b)) {α : Type} {A B r : α} (H : (bif b then A else B) = r) (ht : A = r → V P fn R (.code x :: k) st) (hf : B = r → V P fn R (.code y :: k) st) : V P fn R (.code (.cond c x y) :: k) st := bh hc (fun h=>ht (Go.Ab.condT h H)) (fun h=>hf (Go.Ab.condF h H))
theorem aV {P : Program} {ops : Array Oper} {o : Oper} {rest : List Oper} {n : Nat} {s : Nat → PV} {bx : Nat → Option Box} {ob : Nat → Option Obj} {K : PState → Prop} {j : Nat} {want b : Bool} {d : Nat} (hg : o.guard = some (j,want)) (hd : (ops[j]?).bind (·.dst) = some d) (hs : s d = .val (.bool b)) {α : Type} {A B r : α} (H : cond b A B = r)
  (ht : A = r → Ao P ops (o :: rest) ⟨n,upd s d (.val (.bool true)),bx,ob⟩ K) (hf : B = r → Ao P ops (o :: rest) ⟨n,upd s d (.val (.bool false)),bx,ob⟩ K) : Ao P ops (o :: rest) ⟨n,s,bx,ob⟩ K := gw hg hd hs (fun h=>ht (condT h H)) (fun h=>hf (condF h H))
theorem Do.sH {P : Program} {T : TT} {rb : RB} {ops : Array Oper} {o : Oper} {k : Nat} {L : List Nat} {n : Nat} {s : Nat → PV} {bx : Nat → Option Box} {ob : Nat → Option Obj} {K : PState → Prop} {j : Nat} {want b : Bool} {d : Nat} (ho : ops[k]? = some o) (hg : o.guard = some (j,want)) (hd : (ops[j]?).bind (·.dst) = some d) (hs : s d = .val (.bool b)) {α : Type} {A B r : α} (H : cond b A B = r)
  (ht : A = r → Do P T rb ops (k :: L) ⟨n,upd s d (.val (.bool true)),bx,ob⟩ K) (hf : B = r → Do P T rb ops (k :: L) ⟨n,upd s d (.val (.bool false)),bx,ob⟩ K) : Do P T rb ops (k :: L) ⟨n,s,bx,ob⟩ K := mJ ho hg hd hs (fun h=>ht (condT h H)) (fun h=>hf (condF h H))
theorem mR {P : Program} {T : TT} {rb : RB} {ops : Array Oper} {o : Oper} {k : Nat} {L : List Nat} {n : Nat} {s : Nat → PV} {bx : Nat → Option Box} {ob : Nat → Option Obj} {K : PState → Prop} {j : Nat} {want b : Bool} {d : Nat} {α : Type} {A B r : α} (H : cond b A B = r) (ht : A = r → Do P T rb ops (k :: L) ⟨n,upd s d (.val (.bool true)),bx,ob⟩ K) (hf : B = r → Do P T rb ops (k :: L) ⟨n,upd s d (.val (.bool false)),bx,ob⟩ K) (ho : ops[k]? = some o := by exact rfl) (hg : o.guard = some (j,want) := by exact rfl) (hd : (ops[j]?).bind (·.dst) = some d := by exact rfl) (hs : s d = .val (.bool b) := by exact rfl) : Do P T rb ops (k :: L) ⟨n,s,bx,ob⟩ K := Do.sH ho hg hd hs H ht hf
theorem qx {σ τ ρ : Type} {r : ρ} {k : σ → Option (Flow τ ρ)} {x : Flow τ ρ} (h : Flow.thenF (.ret r) k = some x) : x = .ret r := (Option.some.inj h).symm
theorem aY {σ ρ : Type} {r x : ρ} {k : σ → Option ρ} (h : Flow.thenR (.ret r) k = some x) : r = x := Option.some.inj h
theorem aA {α : Type} {a b : α} (h : some a = some b) : a = b := Option.some.inj h
def mE {α σ ρ : Type} (step : Nat → α → σ → Option (Flow σ ρ)) (xs : List α) (j : Nat) (res : Flow σ ρ) : Flow σ ρ → Prop
 | .next s'=>aD step (j + 1) (xs.drop (j + 1)) s' = some res
 | .brk s'=>res = .next s'
 | .ret r=>res = .ret r
theorem rMc {α σ ρ : Type} {step : Nat → α → σ → Option (Flow σ ρ)} {xs : List α} {j : Nat} {s : σ} {res : Flow σ ρ} (hj : j < xs.length) (h : aD step j (xs.drop j) s = some res) :
  ∃ x fl,xs[j]? = some x ∧ step j x s = some fl ∧ mE step xs j res fl := by
 rw [List.drop_eq_getElem_cons hj,aD] at h
 refine ⟨xs[j],?_⟩
 split at h
 ·cases h
 ·rename_i s' hs; exact ⟨_,ze hj,hs,h⟩
 ·rename_i s' hs; exact ⟨_,ze hj,hs,(Option.some.inj h).symm⟩
 ·rename_i s' hs; exact ⟨_,ze hj,hs,(Option.some.inj h).symm⟩
theorem rMd {α σ ρ : Type} {step : Nat → α → σ → Option (Flow σ ρ)} {xs : List α} {j : Nat} {s : σ} {res : Flow σ ρ} (hj : xs.length ≤ j) (h : aD step j (xs.drop j) s = some res) : res = .next s := by
 rw [List.drop_eq_nil_of_le hj,aD] at h
 exact (Option.some.inj h).symm
def iterGo {σ ρ : Type} (step : σ → Option (Flow σ ρ)) (n : Nat) (res : Flow σ ρ) : Flow σ ρ → Prop
 | .next s'=>jo step n s' = some res
 | .brk s'=>res = .next s'
 | .ret r=>res = .ret r
theorem fv {σ ρ : Type} {step : σ → Option (Flow σ ρ)} {n : Nat} {s : σ} {res : Flow σ ρ} (h : jo step (n + 1) s = some res) : ∃ fl,step s = some fl ∧ iterGo step n res fl := by
 rw [jo] at h
 split at h
 ·cases h
 ·rename_i s' hs; exact ⟨_,hs,h⟩
 ·rename_i s' hs; exact ⟨_,hs,(Option.some.inj h).symm⟩
 ·rename_i s' hs; exact ⟨_,hs,(Option.some.inj h).symm⟩
section
variable {P : Program} {fn : Func} {R : PV → Heap → Prop} {k : List KI} {n : Nat} {s : Nat → PV} {bx : Nat → Option Box} {ob : Nat → Option Obj} {T : TT} {st : PState}
theorem dM {τ γ : Type} (J : τ → γ → PState) (Gd : τ → Prop) {c : Code} (h : V P fn R (.code c :: .stop (fun st'=>∃ t g,Gd t ∧ st' = J t g) :: k) st) (hk : ∀ t g,Gd t → V P fn R k (J t g)) :
  V P fn R (.code c :: k) st := by
 intro C M a w hi
 have := h C M a w hi
 simp only [after] at this ⊢
 refine wp_mono this ?_
 intro e a w he
 cases e with
 | normal =>
  obtain ⟨st',M',⟨t,g,hG,rfl⟩,hi'⟩ := he
  exact hk t g hG C M' a w hi'
 | _=>exact he
theorem be {τ γ : Type} {J : τ → γ → PState} {Gd : τ → Prop} (t : τ) (g : γ) (hG : Gd t) (h : Gh P st (J t g)) : V P fn R (.stop (fun st'=>∃ t g,Gd t ∧ st' = J t g) :: k) st :=
 eh h (sq ⟨t,g,hG,rfl⟩)
theorem fS {τ γ β : Type} {x : Option τ} {f : τ → Option β} {r : β} (J : τ → γ → PState) {c : Code} (H : ae x f = some r) (h : ∀ u,x = some u → V P fn R (.code c :: .stop (fun st'=>∃ t g,t = u ∧ st' = J t g) :: k) st)
  (hk : ∀ t g,f t = some r → V P fn R k (J t g)) : V P fn R (.code c :: k) st := by
 obtain ⟨u,h1,h2⟩ := au H
 exact dM J (fun t=>t = u) (h u h1) (fun t g e=>hk t g (e ▸ h2))
theorem gF {τ γ β : Type} {x : τ} {f : τ → β} {r : β} (J : τ → γ → PState) {c : Code} (H : br x f = r) (h : ∀ u,x = u → V P fn R (.code c :: .stop (fun st'=>∃ t g,t = u ∧ st' = J t g) :: k) st)
  (hk : ∀ t g,f t = r → V P fn R k (J t g)) : V P fn R (.code c :: k) st := by
 obtain ⟨u,h1,h2⟩ := cL H
 exact dM J (fun t=>t = u) (h u h1) (fun t g e=>hk t g (e ▸ h2))
theorem V.cutR {σ γ β : Type} {x : Option (Flow σ β)} {f : σ → Option β} {r : β} (J : σ → γ → PState) {c : Code} (H : ae x (fun fl=>fl.thenR f) = some r) (h : ∀ u,x = some u → u.thenR f = some r → V P fn R (.code c :: .stop (fun st'=>∃ t g,u = .next t ∧ st' = J t g) :: k) st)
  (hk : ∀ t g,f t = some r → V P fn R k (J t g)) : V P fn R (.code c :: k) st := by
 obtain ⟨u,h1,h2⟩ := au H
 exact dM J (fun t=>u = .next t) (h u h1 h2) (fun t g e=>hk t g (by subst e; exact h2))
theorem eF {α σ ρ γ : Type} {step : Nat → α → σ → Option (Flow σ ρ)} {xs : List α} {res : Flow σ ρ} (F : Nat → σ → γ → PState) {s₀ : σ} (g₀ : γ) {c : Code}
  (hres : aD step 0 xs s₀ = some res) (h₀ : Gh P st (F 0 s₀ g₀))
  (round : ∀ j s g,j ≤ xs.length → aD step j (xs.drop j) s = some res →
   V P fn R (.code c :: .stop (fun st'=>∃ s' g',(j + 1 ≤ xs.length ∧ aD step (j + 1) (xs.drop (j + 1)) s' = some res) ∧ st' = F (j + 1) s' g') :: k) (F j s g)) :
  V P fn R (.code (.loop c) :: k) st := by
 refine jT (X := Nat × σ × γ) (fun X=>F X.1 X.2.1 X.2.2) (fun X=>X.1 ≤ xs.length ∧ aD step X.1 (xs.drop X.1) X.2.1 = some res) (fun X=>xs.length - X.1) (0,s₀,g₀) ⟨Nat.zero_le _,by simpa using hres⟩ h₀ ?_
 rintro ⟨j,s,g⟩ ⟨h1,h2⟩
 have := round j s g h1 h2
 intro C M a w hi
 have h3 := this C M a w hi
 simp only [after] at h3 ⊢
 refine wp_mono h3 ?_
 intro e a w he
 cases e with
 | normal =>
  obtain ⟨st',M',⟨s',g',⟨h4,h5⟩,rfl⟩,hi'⟩ := he
  exact ⟨_,M',⟨(j + 1,s',g'),by show xs.length - (j + 1) < xs.length - j; omega,⟨h4,h5⟩,rfl⟩,hi'⟩
 | _=>exact he
theorem eg {σ γ : Type} {Q : σ → Prop} {F : σ → γ → PState} (s' : σ) (g' : γ) (hQ : Q s') (h : Gh P st (F s' g')) : V P fn R (.stop (fun st'=>∃ s' g',Q s' ∧ st' = F s' g') :: k) st :=
 eh h (sq ⟨s',g',hQ,rfl⟩)
theorem gN {σ ρ γ : Type} {step : σ → Option (Flow σ ρ)} {res : Flow σ ρ} (F : σ → γ → PState) {s₀ : σ} (g₀ : γ) {c : Code}
  (hres : fJ step s₀ = some res) (h₀ : Gh P st (F s₀ g₀))
  (round : ∀ m s g,jo step (m + 1) s = some res → V P fn R (.code c :: .stop (fun st'=>∃ s' g',jo step m s' = some res ∧ st' = F s' g') :: k) (F s g)) :
  V P fn R (.code (.loop c) :: k) st := by
 obtain ⟨m,hm⟩ := whileM_iff.1 hres
 refine jT (X := Nat × σ × γ) (fun X=>F X.2.1 X.2.2) (fun X=>jo step X.1 X.2.1 = some res) (fun X=>X.1) (m,s₀,g₀) hm h₀ ?_
 rintro ⟨j,s,g⟩ h2
 cases j with
 | zero=>simp [jo] at h2
 | succ j =>
 have := round j s g h2
 intro C M a w hi
 have h3 := this C M a w hi
 simp only [after] at h3 ⊢
 refine wp_mono h3 ?_
 intro e a w he
 cases e with
 | normal =>
  obtain ⟨st',M',⟨s',g',h5,rfl⟩,hi'⟩ := he
  exact ⟨_,M',⟨(j,s',g'),Nat.lt_succ_self j,h5,rfl⟩,hi'⟩
 | _=>exact he
theorem Gh.cast (d : Nat) {p q : PV} (hs : s d = p) (h : PLe P p q) : Gh P ⟨n,s,bx,ob⟩ ⟨n,upd s d q,bx,ob⟩ := fun _ M _ _ hi =>
 ⟨M,⟨hi.1.1,hi.1.2.1,fun t=>by
  show Rep P M true (upd s d q t) _
  rw [dJ]
  split
  ·rename_i e; subst e; have := hi.1.2.2 t; exact h M _ (hs ▸ this)
  ·exact hi.1.2.2 t⟩,hi.2⟩
end
section
variable {α : Type} {f f' : α → List PV}
theorem bl (hE : ∀ x,f' x = f x) {xs : List α} {j : Nat} {x : α} (h : xs[j]? = some x) : (xs.map f')[((j : Nat) : Int).toNat]? = some (f x) := by
 simp [h,hE]
theorem aO (hE : ∀ x,f' x = f x) {xs : List α} {i : Int} {x : α} (h : xs[i.toNat]? = some x) : (xs.map f')[i.toNat]? = some (f x) := by
 simp [h,hE]
theorem kw (hE : ∀ x,f' x = f x) (xs : List α) : xs.map f = xs.map f' := by
 apply List.map_congr_left
 intro x _
 exact (hE x).symm
theorem pC {xs ys : List α} {a b : Nat} (h : ys = (xs.take b).drop a) : ((xs.map f).take b).drop a = ys.map f := by rw [h]; simp
theorem pl {xs : List α} {j : Nat} (h : decide ((j : Int) < ((xs.length : Nat) : Int)) = true) : j < xs.length := by simpa using h
theorem pp {xs : List α} {j : Nat} (h : decide ((j : Int) < ((xs.length : Nat) : Int)) = false) : xs.length ≤ j := by simpa using h
end
theorem gP.of_eq {P : Program} {a b : List (List PV)} (h : a = b) : gP P a b := h ▸ gP.refl a
theorem gP.trans {P : Program} {a b c : List (List PV)} (h : gP P a b) (h' : gP P b c) : gP P a c := ⟨h.1.trans h'.1,fun M k x o hx=>h'.2 M k x o (h.2 M k x o hx)⟩
theorem lA.trans {P : Program} {a b c : PV} (h : lA P a b) (h' : lA P b c) : lA P a c := fun M s x hx=>h' M s x (h M s x hx)
def aK {α : Type} (xs : List α) (i : Int) : Option α := if 0 ≤ i then xs[i.toNat]? else none
theorem gIs {α : Type} {xs : List α} {i : Int} {x : α} (h : aK xs i = some x) : 0 ≤ i ∧ xs[i.toNat]? = some x := by
 unfold aK at h
 split at h
 ·rename_i h0; exact ⟨h0,h⟩
 ·cases h
theorem bq {α β : Type} {xs : List α} {i : Int} {k : α → Option β} {r : β} (h : ae (aK xs i) k = some r) : ∃ a,(0 ≤ i ∧ xs[i.toNat]? = some a) ∧ k a = some r := by
 obtain ⟨a,h1,h2⟩ := au h
 exact ⟨a,gIs h1,h2⟩
def nn {α : Type} (xs : List α) (a b : Int) : Option (List α) := if 0 ≤ a ∧ a ≤ b ∧ b ≤ xs.length then some ((xs.take b.toNat).drop a.toNat) else none
theorem oH {α : Type} {xs ys : List α} {a b : Int} (h : nn xs a b = some ys) : (0 ≤ a ∧ a ≤ b ∧ b ≤ xs.length) ∧ ys = (xs.take b.toNat).drop a.toNat := by
 unfold nn at h
 split at h
 ·rename_i h0; exact ⟨h0,(Option.some.inj h).symm⟩
 ·cases h
def cy {α : Type} (bytes : Nat) (xs ys : List α) : Option (List α) := if (xs.length + ys.length) * bytes ≤ 2 ^ 47 ∧ xs.length + ys.length ≤ maxLen then some (xs ++ ys) else none
theorem bX {α : Type} {bytes : Nat} {xs ys zs : List α} (h : cy bytes xs ys = some zs) : (xs.length + ys.length) * bytes ≤ 2 ^ 47 ∧ xs.length + ys.length ≤ maxLen ∧ zs = xs ++ ys := by
 unfold cy at h
 split at h
 ·rename_i h0; exact ⟨h0.1,h0.2,(Option.some.inj h).symm⟩
 ·cases h
theorem cK {α β : Type} {f : α → β} {bytes : Nat} {xs ys : List α} (h : (xs.length + ys.length) * bytes ≤ 2 ^ 47) : ((xs.map f).length + (ys.map f).length) * bytes ≤ 2 ^ 47 := by simpa using h
theorem cI {α β : Type} {f : α → β} {xs ys : List α} (h : xs.length + ys.length ≤ maxLen) : (xs.map f).length + (ys.map f).length ≤ maxLen := by simpa using h
theorem cF {α β : Type} {f : α → β} {xs ys zs : List α} (h : zs = xs ++ ys) : xs.map f ++ ys.map f = zs.map f := by rw [h,List.map_append]
def Flow.thenP {σ β : Type} (fl : Flow σ Empty) (k : σ → Option β) : Option β := match fl with
 | .next s=>k s
 | .brk s=>k s
 | .ret r=>r.elim
theorem ci {σ β : Type} {fl : Flow σ Empty} {t : σ} {k : σ → Option β} {r : β} (h : fl = .next t) (H : fl.thenP k = some r) : k t = some r := by subst h; exact H
theorem lU {σ ρ : Type} {fl : Flow σ ρ} {t : σ} {k : σ → Option ρ} {r : ρ} (h : fl = .next t) (H : fl.thenR k = some r) : k t = some r := by subst h; exact H
theorem thenF_next {σ τ ρ : Type} {fl : Flow σ ρ} {t : σ} {k : σ → Option (Flow τ ρ)} {r : Flow τ ρ} (h : fl = .next t) (H : fl.thenF k = some r) : k t = some r := by subst h; exact H
section
variable {P : Program} {fn : Func} {R : PV → Heap → Prop} {k : List KI} {n : Nat} {s : Nat → PV} {bx : Nat → Option Box} {ob : Nat → Option Obj} {T : TT}
def nB {σ γ : Type} : σ → γ → Nat → Option Box := fun _ _ _=>none
def nO {σ γ : Type} : σ → γ → Nat → Option Obj := fun _ _ _=>none
theorem su {α σ ρ γ β : Type} {step : Nat → α → σ → Option (Flow σ ρ)} {xs : List α} {s₀ : σ} {th : Flow σ ρ → Option β} {r : β} {rw : α → List PV}
  (hT : T.Ok P) (d : Nat) {e : TypeId} {ei : TInfo} (hei : T.get e = some ei) (hs : s d = .list e (xs.map rw))
  (S : σ → γ → Nat → PV) (B : σ → γ → Nat → Option Box) (O : σ → γ → Nat → Option Obj) (E : (Nat → PV) → Nat → σ → γ → Nat → PV) (g₀ : γ)
  {id rid : Nat} {ops : Array Oper} {o : Oper} {tst : Operand} {rest : Code} {S' : Nat → σ → γ → Nat → PV}
  (H : ae (aD step 0 xs s₀) th = some r)
  (h₀ : Gh P ⟨n,s,bx,ob⟩ ⟨n,E (S s₀ g₀) 0 s₀ g₀,B s₀ g₀,O s₀ g₀⟩)
  (ho : ops.toList = [o])
  (hq : ∀ j s g,nD T ops n (E (S s g) j s g) (B s g) o = some (S' j s g))
  (ht : ∀ j s g,evS (S' j s g) tst = .val (.bool (decide ((j : Int) < ((xs.length : Nat) : Int)))))
  (hx : ∀ j s g,Gh P ⟨n,S' j s g,B s g,O s g⟩ ⟨n,S s g,B s g,O s g⟩)
  (round : ∀ fl,th fl = some r → ∀ j s g,xs.length ≤ maxLen → j < xs.length → ∀ x fb,xs[j]? = some x → step j x s = some fb → mE step xs j fl fb →
   V P fn R (.code rest :: .stop (fun st'=>∃ s' g',(j + 1 ≤ xs.length ∧ aD step (j + 1) (xs.drop (j + 1)) s' = some fl) ∧ st' = ⟨n,E (S s' g') (j + 1) s' g',B s' g',O s' g'⟩) :: .blk id :: .stop (fun st'=>∃ t g,fl = .next t ∧ st' = ⟨n,S t g,B t g,O t g⟩) :: k) ⟨n,S' j s g,B s g,O s g⟩)
  (hk : ∀ t g,th (.next t) = some r → V P fn R k ⟨n,S t g,B t g,O t g⟩) :
  V P fn R (.code (.block id (.loop (.seq (.region rid ops false) (.seq (.cond tst .skip (.exit id)) rest)))) :: k) ⟨n,s,bx,ob⟩ := by
 refine gG hT d hei hs (fun hz _=>?_)
 rw [zl] at hz
 obtain ⟨fl,h1,h2⟩ := au H
 refine dM (fun t g=>⟨n,S t g,B t g,O t g⟩) (fun t=>fl = .next t) ?_ (fun t g e=>hk t g (by subst e; exact h2))
 refine av (eF (fun j s g=>⟨n,E (S s g) j s g,B s g,O s g⟩) g₀ h1 h₀ (fun j s g hj hr=>?_))
 refine ab (aa ?_)
 rw [ho]
 refine ah hT (hq j s g) (ac ?_)
 refine ab (bh (ht j s g) (fun h=>?_) (fun h=>?_))
 ·have hl : j < xs.length := by simpa using h
  obtain ⟨x,fb,hx1,H,hg⟩ := rMc hl hr
  exact ao (round fl h2 j s g hz hl x fb hx1 H hg)
 ·have hn := rMd (by simpa using h) hr
  refine bm (k' := .stop (fun st'=>∃ t g,fl = .next t ∧ st' = ⟨n,S t g,B t g,O t g⟩) :: k) ?_ (be s g hn (hx j s g))
  simp [mN,Nat.beq_refl]
theorem sv {α σ γ β : Type} {step : Nat → α → σ → Option (Flow σ Empty)} {xs : List α} {s₀ : σ} {kk : σ → Option (β)} {r : β} {rw : α → List PV}
  (hT : T.Ok P) (d : Nat) {e : TypeId} {ei : TInfo} (hei : T.get e = some ei) (hs : s d = .list e (xs.map rw))
  (S : σ → γ → Nat → PV) (B : σ → γ → Nat → Option Box) (O : σ → γ → Nat → Option Obj) (E : (Nat → PV) → Nat → σ → γ → Nat → PV) (g₀ : γ)
  {id rid : Nat} {ops : Array Oper} {o : Oper} {tst : Operand} {rest : Code} {S' : Nat → σ → γ → Nat → PV}
  (H : ae (aD step 0 xs s₀) (fun fl=>fl.thenP kk) = some r)
  (ho : ops.toList = [o])
  (h₀ : Gh P ⟨n,s,bx,ob⟩ ⟨n,E (S s₀ g₀) 0 s₀ g₀,B s₀ g₀,O s₀ g₀⟩)
  (hq : ∀ j s g,nD T ops n (E (S s g) j s g) (B s g) o = some (S' j s g))
  (ht : ∀ j s g,evS (S' j s g) tst = .val (.bool (decide ((j : Int) < ((xs.length : Nat) : Int)))))
  (hx : ∀ j s g,Gh P ⟨n,S' j s g,B s g,O s g⟩ ⟨n,S s g,B s g,O s g⟩)
  (round : ∀ fl,fl.thenP kk = some r → ∀ j s g,xs.length ≤ maxLen → j < xs.length → ∀ x fb,xs[j]? = some x → step j x s = some fb → mE step xs j fl fb →
   V P fn R (.code rest :: .stop (fun st'=>∃ s' g',(j + 1 ≤ xs.length ∧ aD step (j + 1) (xs.drop (j + 1)) s' = some fl) ∧ st' = ⟨n,E (S s' g') (j + 1) s' g',B s' g',O s' g'⟩) :: .blk id :: .stop (fun st'=>∃ t g,fl = .next t ∧ st' = ⟨n,S t g,B t g,O t g⟩) :: k) ⟨n,S' j s g,B s g,O s g⟩)
  (hk : ∀ t g,kk t = some r → V P fn R k ⟨n,S t g,B t g,O t g⟩) :
  V P fn R (.code (.block id (.loop (.seq (.region rid ops false) (.seq (.cond tst .skip (.exit id)) rest)))) :: k) ⟨n,s,bx,ob⟩ :=
 su hT d hei hs S B O E g₀ H h₀ ho hq ht hx round (fun t g e=>hk t g e)
theorem sT {α σ γ β : Type} {step : Nat → α → σ → Option (Flow σ β)} {xs : List α} {s₀ : σ} {kk : σ → Option (β)} {r : β} {rw : α → List PV}
  (hT : T.Ok P) (d : Nat) {e : TypeId} {ei : TInfo} (hei : T.get e = some ei) (hs : s d = .list e (xs.map rw))
  (S : σ → γ → Nat → PV) (B : σ → γ → Nat → Option Box) (O : σ → γ → Nat → Option Obj) (E : (Nat → PV) → Nat → σ → γ → Nat → PV) (g₀ : γ)
  {id rid : Nat} {ops : Array Oper} {o : Oper} {tst : Operand} {rest : Code} {S' : Nat → σ → γ → Nat → PV}
  (H : ae (aD step 0 xs s₀) (fun fl=>fl.thenR kk) = some r)
  (ho : ops.toList = [o])
  (h₀ : Gh P ⟨n,s,bx,ob⟩ ⟨n,E (S s₀ g₀) 0 s₀ g₀,B s₀ g₀,O s₀ g₀⟩)
  (hq : ∀ j s g,nD T ops n (E (S s g) j s g) (B s g) o = some (S' j s g))
  (ht : ∀ j s g,evS (S' j s g) tst = .val (.bool (decide ((j : Int) < ((xs.length : Nat) : Int)))))
  (hx : ∀ j s g,Gh P ⟨n,S' j s g,B s g,O s g⟩ ⟨n,S s g,B s g,O s g⟩)
  (round : ∀ fl,fl.thenR kk = some r → ∀ j s g,xs.length ≤ maxLen → j < xs.length → ∀ x fb,xs[j]? = some x → step j x s = some fb → mE step xs j fl fb →
   V P fn R (.code rest :: .stop (fun st'=>∃ s' g',(j + 1 ≤ xs.length ∧ aD step (j + 1) (xs.drop (j + 1)) s' = some fl) ∧ st' = ⟨n,E (S s' g') (j + 1) s' g',B s' g',O s' g'⟩) :: .blk id :: .stop (fun st'=>∃ t g,fl = .next t ∧ st' = ⟨n,S t g,B t g,O t g⟩) :: k) ⟨n,S' j s g,B s g,O s g⟩)
  (hk : ∀ t g,kk t = some r → V P fn R k ⟨n,S t g,B t g,O t g⟩) :
  V P fn R (.code (.block id (.loop (.seq (.region rid ops false) (.seq (.cond tst .skip (.exit id)) rest)))) :: k) ⟨n,s,bx,ob⟩ :=
 su hT d hei hs S B O E g₀ H h₀ ho hq ht hx round (fun t g e=>hk t g e)
def eL {α : Type} (i m d : Nat) (ety : TypeId) (xs : List α) (rw : α → List PV) (e : Nat → PV) (j : Nat) : Nat → PV := upd (upd (upd e i (.val (.int .i64 (j : Int)))) m (.val (.int .i64 (xs.length : Int)))) d (.list ety (xs.map rw))
theorem fg {α σ γ β : Type} {step : Nat → α → σ → Option (Flow σ Empty)} {xs : List α} {s₀ : σ} {kk : σ → Option (β)} {r : β} {rw : α → List PV}
  (hT : T.Ok P) (i m d : Nat) {e : TypeId} {ei : TInfo}
  (S : σ → γ → Nat → PV) (B : σ → γ → Nat → Option Box) (O : σ → γ → Nat → Option Obj) (g₀ : γ)
  {id rid : Nat} {ops : Array Oper} {o : Oper} {tst : Operand} {rest : Code} {S' : Nat → σ → γ → Nat → PV}
  (H : ae (aD step 0 xs s₀) (fun fl=>fl.thenP kk) = some r)
  (round : ∀ fl,fl.thenP kk = some r → ∀ j s g,xs.length ≤ maxLen → j < xs.length → ∀ x fb,xs[j]? = some x → step j x s = some fb → mE step xs j fl fb →
   V P fn R (.code rest :: .stop (fun st'=>∃ s' g',(j + 1 ≤ xs.length ∧ aD step (j + 1) (xs.drop (j + 1)) s' = some fl) ∧ st' = ⟨n,eL i m d e xs rw (S s' g') (j + 1),B s' g',O s' g'⟩) :: .blk id :: .stop (fun st'=>∃ t g,fl = .next t ∧ st' = ⟨n,S t g,B t g,O t g⟩) :: k) ⟨n,S' j s g,B s g,O s g⟩)
  (hk : ∀ t g,kk t = some r → V P fn R k ⟨n,S t g,B t g,O t g⟩)
  (hs : s d = .list e (xs.map rw) := by exact rfl) (hei : T.get e = some ei := by exact rfl) (ho : ops.toList = [o] := by exact rfl)
  (h₀ : Gh P ⟨n,s,bx,ob⟩ ⟨n,eL i m d e xs rw (S s₀ g₀) 0,B s₀ g₀,O s₀ g₀⟩ := by exact Gh.d)
  (hq : ∀ j s g,nD T ops n (eL i m d e xs rw (S s g) j) (B s g) o = some (S' j s g) := by exact fun _ _ _=>rfl)
  (ht : ∀ j s g,evS (S' j s g) tst = .val (.bool (decide ((j : Int) < ((xs.length : Nat) : Int)))) := by exact fun _ _ _=>rfl)
  (hx : ∀ j s g,Gh P ⟨n,S' j s g,B s g,O s g⟩ ⟨n,S s g,B s g,O s g⟩ := by exact fun _ _ _=>Gh.d) :
  V P fn R (.code (.block id (.loop (.seq (.region rid ops false) (.seq (.cond tst .skip (.exit id)) rest)))) :: k) ⟨n,s,bx,ob⟩ :=
 sv hT d hei hs S B O (fun e j _ _=>eL i m d _ xs rw e j) g₀ H ho h₀ hq ht hx round hk
theorem ez {α σ γ β : Type} {step : Nat → α → σ → Option (Flow σ β)} {xs : List α} {s₀ : σ} {kk : σ → Option (β)} {r : β} {rw : α → List PV}
  (hT : T.Ok P) (i m d : Nat) {e : TypeId} {ei : TInfo}
  (S : σ → γ → Nat → PV) (B : σ → γ → Nat → Option Box) (O : σ → γ → Nat → Option Obj) (g₀ : γ)
  {id rid : Nat} {ops : Array Oper} {o : Oper} {tst : Operand} {rest : Code} {S' : Nat → σ → γ → Nat → PV}
  (H : ae (aD step 0 xs s₀) (fun fl=>fl.thenR kk) = some r)
  (round : ∀ fl,fl.thenR kk = some r → ∀ j s g,xs.length ≤ maxLen → j < xs.length → ∀ x fb,xs[j]? = some x → step j x s = some fb → mE step xs j fl fb →
   V P fn R (.code rest :: .stop (fun st'=>∃ s' g',(j + 1 ≤ xs.length ∧ aD step (j + 1) (xs.drop (j + 1)) s' = some fl) ∧ st' = ⟨n,eL i m d e xs rw (S s' g') (j + 1),B s' g',O s' g'⟩) :: .blk id :: .stop (fun st'=>∃ t g,fl = .next t ∧ st' = ⟨n,S t g,B t g,O t g⟩) :: k) ⟨n,S' j s g,B s g,O s g⟩)
  (hk : ∀ t g,kk t = some r → V P fn R k ⟨n,S t g,B t g,O t g⟩)
  (hs : s d = .list e (xs.map rw) := by exact rfl) (hei : T.get e = some ei := by exact rfl) (ho : ops.toList = [o] := by exact rfl)
  (h₀ : Gh P ⟨n,s,bx,ob⟩ ⟨n,eL i m d e xs rw (S s₀ g₀) 0,B s₀ g₀,O s₀ g₀⟩ := by exact Gh.d)
  (hq : ∀ j s g,nD T ops n (eL i m d e xs rw (S s g) j) (B s g) o = some (S' j s g) := by exact fun _ _ _=>rfl)
  (ht : ∀ j s g,evS (S' j s g) tst = .val (.bool (decide ((j : Int) < ((xs.length : Nat) : Int)))) := by exact fun _ _ _=>rfl)
  (hx : ∀ j s g,Gh P ⟨n,S' j s g,B s g,O s g⟩ ⟨n,S s g,B s g,O s g⟩ := by exact fun _ _ _=>Gh.d) :
  V P fn R (.code (.block id (.loop (.seq (.region rid ops false) (.seq (.cond tst .skip (.exit id)) rest)))) :: k) ⟨n,s,bx,ob⟩ :=
 sT hT d hei hs S B O (fun e j _ _=>eL i m d _ xs rw e j) g₀ H ho h₀ hq ht hx round hk
end
def resT (s : Nat → PV) : List ResultVar → Option (List PV)
 | []=>some []
 | .tmp t :: l=>match resT s l with | some ps=>some (s t :: ps) | none=>none
 | .cell _ _ :: _=>none
section
variable {P : Program} {fn : Func} {R : PV → Heap → Prop} {k : List KI} {n : Nat} {s : Nat → PV} {bx : Nat → Option Box} {ob : Nat → Option Obj} {T : TT} {st : PState}
theorem resT_all : ∀ {l : List ResultVar} {ps : List PV},resT s l = some ps → ln T ⟨n,s,bx,ob⟩ l ps
 | [],ps,h=>by simp only [resT,zo] at h; exact h.symm
 | .tmp t :: l,ps,h=>by
  simp only [resT] at h
  split at h
  ·rename_i qs hq; cases h; exact ⟨_,_,rfl,rfl,resT_all hq⟩
  ·cases h
 | .cell _ _ :: _,ps,h=>by simp [resT] at h
theorem et {α : Type} {x y : α} {ps : List PV} {r : PV} (hT : T.Ok P) (H : x = y) (h : resT s fn.results.toList = some ps) (he : x = y → me ps = r := by intro e; subst e; rfl) :
  V P fn (fun u H=>u = r ∧ H = Heap.empty) (.code .ret :: k) ⟨n,s,bx,ob⟩ := bj hT rfl (resT_all h) (PLe.q (he H))
theorem aS {α : Type} {x y : α} {ps : List PV} {r : PV} (hT : T.Ok P) (H : some x = some y) (h : resT s fn.results.toList = some ps) (he : x = y → me ps = r := by intro e; subst e; rfl) :
  V P fn (fun u H=>u = r ∧ H = Heap.empty) (.code .ret :: k) ⟨n,s,bx,ob⟩ := et hT (aA H) h he
theorem rY {α : Type} {x y : α} {r p : PV} {a t tag b off : Nat} {ti : TInfo} {cells : List PV} (hT : T.Ok P) (H : x = y) (hr : fn.results = #[.cell a t]) (hti : T.get t = some ti) (hs : s a = .box tag b off) (hb : bx tag = some ⟨b,cells⟩) (hc : eo ti off cells = some p) (he : x = y → p = r := by intro e; subst e; rfl) :
  V P fn (fun u H=>u = r ∧ H = Heap.empty) (.code .ret :: k) ⟨n,s,bx,ob⟩ := bj hT hr (ps := [p]) ⟨_,_,rfl,⟨_,_,_,_,_,hti,hs,hb,hc⟩,rfl⟩ (PLe.q (he H))
theorem qa {α : Type} {x y : α} {r p : PV} {a t tag b off : Nat} {ti : TInfo} {cells : List PV} (hT : T.Ok P) (H : some x = some y) (hr : fn.results = #[.cell a t]) (hti : T.get t = some ti) (hs : s a = .box tag b off) (hb : bx tag = some ⟨b,cells⟩) (hc : eo ti off cells = some p) (he : x = y → p = r := by intro e; subst e; rfl) :
  V P fn (fun u H=>u = r ∧ H = Heap.empty) (.code .ret :: k) ⟨n,s,bx,ob⟩ := rY hT (aA H) hr hti hs hb hc he
theorem bg {α σ ρ γ : Type} {step : Nat → α → σ → Option (Flow σ ρ)} {xs : List α} {j : Nat} {res fb : Flow σ ρ} {v : σ} {F : σ → γ → PState} (g' : γ) (H : some (Flow.next v) = some fb) (hl : j < xs.length) (hg : mE step xs j res fb) (h : Gh P st (F v g') := by exact Gh.d) :
  V P fn R (.stop (fun st'=>∃ s' g',(j + 1 ≤ xs.length ∧ aD step (j + 1) (xs.drop (j + 1)) s' = some res) ∧ st' = F s' g') :: k) st := by
 cases H
 exact eg v g' ⟨hl,hg⟩ h
end
def gj (n : Int) : Option Nat := if n ≤ 2 ^ 62 then some n.toNat else none
theorem fm {n : Int} {m : Nat} (h : gj n = some m) : n ≤ 2 ^ 62 ∧ m = n.toNat := by
 unfold gj at h
 split at h
 ·rename_i h0; exact ⟨h0,(Option.some.inj h).symm⟩
 ·cases h
section
variable {P : Program} {ops : Array Oper} {rest : List Oper} {o : Oper} {n : Nat} {s s' : Nat → PV} {bx : Nat → Option Box} {ob : Nat → Option Obj} {K : PState → Prop} {T : TT} {rb : RB} {k : Nat} {L : List Nat}
theorem lO (d : Nat) {p q : PV} (hs : s d = p) (h : PLe P p q) (hV : Ao P ops rest ⟨n,upd s d q,bx,ob⟩ K) : Ao P ops rest ⟨n,s,bx,ob⟩ K := dB (Gh.cast d hs h) hV
theorem Ao.lenL (hT : T.Ok P) (hg : aQ ops s o = some true) {x : Operand} {t : TypeId} {ts : List TypeId} (ho : o.op = .call { callee := .builtin .len,args := #[x],argTypes := (t :: ts).toArray }) {ti : TInfo} {e' : TypeId} (hti : T.get t = some ti) (hd : ti.desc = .slice e')
  {e : TypeId} {rows : List (List PV)} (hx : evS s x = .list e rows) {m : Nat} (hm : rows.length = m) (hp : putD n s o.dst (.val (.int .i64 m)) = some s') (h : Ao P ops rest ⟨n,s',bx,ob⟩ K) : Ao P ops (o :: rest) ⟨n,s,bx,ob⟩ K := by
 refine mT hT hg (r := .val (.int .i64 m)) ?_ hp h
 rw [ho]
 simp [ix,oj,hti,hd,hx,lenPV,hm]
theorem az {x : Operand} {t : TypeId} {ts : List TypeId} {ti : TInfo} {e' : TypeId} {e : TypeId} {rows : List (List PV)} {m : Nat} (hT : T.Ok P) (hm : rows.length = m) (h : Ao P ops rest ⟨n,s',bx,ob⟩ K) (hg : aQ ops s o = some true := by exact rfl) (ho : o.op = .call { callee := .builtin .len,args := #[x],argTypes := (t :: ts).toArray } := by exact rfl) (hti : T.get t = some ti := by exact rfl) (hd : ti.desc = .slice e' := by exact rfl) (hx : evS s x = .list e rows := by exact rfl) (hp : putD n s o.dst (.val (.int .i64 m)) = some s' := by exact rfl) : Ao P ops (o :: rest) ⟨n,s,bx,ob⟩ K := Ao.lenL hT hg ho hti hd hx hm hp h
theorem Ao.lenO (hT : T.Ok P) (hg : aQ ops s o = some true) {x : Operand} {t : TypeId} {ts : List TypeId} (ho : o.op = .call { callee := .builtin .len,args := #[x],argTypes := (t :: ts).toArray }) {ti : TInfo} {e' : TypeId} (hti : T.get t = some ti) (hd : ti.desc = .slice e')
  {tg l : Nat} {g : OwnRef} (hx : evS s x = .own tg g l) {m : Nat} (hm : l = m) (hp : putD n s o.dst (.val (.int .i64 m)) = some s') (h : Ao P ops rest ⟨n,s',bx,ob⟩ K) : Ao P ops (o :: rest) ⟨n,s,bx,ob⟩ K := by
 refine mT hT hg (r := .val (.int .i64 m)) ?_ hp h
 rw [ho]
 simp [ix,oj,hti,hd,hx,lenPV,hm]
theorem el {x : Operand} {t : TypeId} {ts : List TypeId} {ti : TInfo} {e' : TypeId} {tg l : Nat} {g : OwnRef} {m : Nat} (hT : T.Ok P) (hm : l = m) (h : Ao P ops rest ⟨n,s',bx,ob⟩ K) (hg : aQ ops s o = some true := by exact rfl) (ho : o.op = .call { callee := .builtin .len,args := #[x],argTypes := (t :: ts).toArray } := by exact rfl) (hti : T.get t = some ti := by exact rfl) (hd : ti.desc = .slice e' := by exact rfl) (hx : evS s x = .own tg g l := by exact rfl) (hp : putD n s o.dst (.val (.int .i64 m)) = some s' := by exact rfl) : Ao P ops (o :: rest) ⟨n,s,bx,ob⟩ K := Ao.lenO hT hg ho hti hd hx hm hp h
theorem sD (ho : ops[k]? = some o) (hg : aQ ops s o = some true) {x : Operand} {t : TypeId} {ts : List TypeId} (hop : o.op = .call { callee := .builtin .len,args := #[x],argTypes := (t :: ts).toArray }) {ti : TInfo} {e' : TypeId} (hti : T.get t = some ti) (hd : ti.desc = .slice e')
  {e : TypeId} {rows : List (List PV)} (hx : evS s x = .list e rows) {m : Nat} (hm : rows.length = m) (hp : putD n s o.dst (.val (.int .i64 m)) = some s') (h : Do P T rb ops L ⟨n,s',bx,ob⟩ K) : Do P T rb ops (k :: L) ⟨n,s,bx,ob⟩ K := by
 refine sc ho hg (by rw [hop]; rfl) (r := .val (.int .i64 m)) ?_ hp h
 rw [hop]
 simp [gS,ix,oj,hti,hd,hx,lenPV,hm]
theorem sl (hT : T.Ok P) (hg : aQ ops s o = some true) {t : TypeId} {x : Operand} {lo hi : Option Operand} (ho : o.op = .slice t x lo hi none) {ti : TInfo} {e : TypeId} (hti : T.get t = some ti) (hd : ti.desc = .slice e)
  {rows : List (List PV)} (hx : evS s x = .list e rows) {m : Nat} (hm : rows.length = m) {a b : Int} (ha : kL (lo.map (evS s)) 0 = some a) (hb : kL (hi.map (evS s)) m = some b) (hab : 0 ≤ a ∧ a ≤ b ∧ b ≤ m)
  {rows' : List (List PV)} (hr : (rows.take b.toNat).drop a.toNat = rows') (hp : putD n s o.dst (.list e rows') = some s') (h : Ao P ops rest ⟨n,s',bx,ob⟩ K) : Ao P ops (o :: rest) ⟨n,s,bx,ob⟩ K := by
 subst hm
 refine mT hT hg (r := .list e rows') ?_ hp h
 rw [ho]
 simp only [ix,hti,hd,hx,pe,Nat.beq_refl,zc,ha,hb]
 rw [zp hab,hr]
theorem Do.subL (ho : ops[k]? = some o) (hg : aQ ops s o = some true) {t : TypeId} {x : Operand} {lo hi : Option Operand} (hop : o.op = .slice t x lo hi none) {ti : TInfo} {e : TypeId} (hti : T.get t = some ti) (hd : ti.desc = .slice e)
  {rows : List (List PV)} (hx : evS s x = .list e rows) {m : Nat} (hm : rows.length = m) {a b : Int} (ha : kL (lo.map (evS s)) 0 = some a) (hb : kL (hi.map (evS s)) m = some b) (hab : 0 ≤ a ∧ a ≤ b ∧ b ≤ m)
  {rows' : List (List PV)} (hr : (rows.take b.toNat).drop a.toNat = rows') (hp : putD n s o.dst (.list e rows') = some s') (h : Do P T rb ops L ⟨n,s',bx,ob⟩ K) : Do P T rb ops (k :: L) ⟨n,s,bx,ob⟩ K := by
 subst hm
 refine sc ho hg (by rw [hop]; rfl) (r := .list e rows') ?_ hp h
 rw [hop]
 simp only [gS,ix,hti,hd,hx,pe,Nat.beq_refl,zc,ha,hb]
 rw [zp hab,hr]
theorem Rep.rowsLe {M : Mem} {b : Bool} {e : TypeId} {rows rows' : List (List PV)} (h : gP P rows rows') {x : Value} (hx : Rep P M b (.list e rows) x) : Rep P M b (.list e rows') x := lA.list h M b x hx
theorem rF (hT : T.Ok P) {o : Oper} {ev : Operand → PV} {H : Heap} {x y : Operand} {t : TypeId} (ho : o.op = .call { callee := .builtin .append,args := #[x,y],argTypes := #[t,t] }) {ti ei : TInfo} {e : TypeId} (hti : T.get t = some ti) (hd : ti.desc = .slice e) (hei : T.get e = some ei)
  (hz : Nat.beq ei.zero.cells.size ei.size = true) (hsz : Nat.blt 0 ei.size = true) {tag : Nat} {g : OwnRef} {len : Nat} {rows rows2 rows2' rows' : List (List PV)} {wr : Bool} (hx : ev x = .own tag g len) (hob : H.ob tag = some ⟨g,e,rows,wr⟩) (hlen : len = rows.length) (hy : ev y = .list e rows2)
  (hle : gP P rows2 rows2') (hby : (rows.length + rows2'.length) * ei.bytes ≤ 2 ^ 47) (hmx : rows.length + rows2'.length ≤ maxLen) (heq : rows ++ rows2' = rows') {K : PV → Heap → Prop} (hk : ∀ g',K (.own tag g' rows'.length) ⟨H.bx,upd H.ob tag (some ⟨g',e,rows',wr⟩)⟩) : Eff P o ev H K := by
 subst heq
 classical
 have hxy : x ≠ y := fun e=>by subst e; rw [hx] at hy; cases hy
 intro C M a w next Q hi he hn
 have key := rJ (P := P) (o := o) (ev := fun z=>if z = y then PV.list e rows2' else ev z) (H := H) hT ho hti hd hei hz hsz (rows2 := rows2') (by simp [hxy,hx]) hob hlen (by simp) hby hmx (K := K) hk
 refine key C M a w next Q hi (fun z hz=>?_) hn
 by_cases hzy : z = y
 ·subst hzy
  simp only [if_true]
  have := he z hz
  rw [hy] at this
  exact Rep.rowsLe hle this
 ·simp only [hzy,if_false]
  exact he z hz
theorem cr (hT : T.Ok P) (hg : aQ ops s o = some true) {x y : Operand} {t : TypeId} (ho : o.op = .call { callee := .builtin .append,args := #[x,y],argTypes := #[t,t] }) {d : Nat} (hdst : o.dst = some d) (hlt : Nat.blt d n = true) {ti ei : TInfo} {e : TypeId} (hti : T.get t = some ti) (hd : ti.desc = .slice e) (hei : T.get e = some ei)
  (hz : Nat.beq ei.zero.cells.size ei.size = true) (hsz : Nat.blt 0 ei.size = true) {tag : Nat} {g : OwnRef} {len : Nat} {rows rows2 rows2' rows' : List (List PV)} {wr : Bool} (hx : evS s x = .own tag g len) (hob : ob tag = some ⟨g,e,rows,wr⟩) (hlen : len = rows.length) (hy : evS s y = .list e rows2)
  (hle : gP P rows2 rows2') (hby : (rows.length + rows2'.length) * ei.bytes ≤ 2 ^ 47) (hmx : rows.length + rows2'.length ≤ maxLen) (heq : rows ++ rows2' = rows') (h : ∀ g',Ao P ops rest ⟨n,upd s d (.own tag g' rows'.length),bx,upd ob tag (some ⟨g',e,rows',wr⟩)⟩ K) : Ao P ops (o :: rest) ⟨n,s,bx,ob⟩ K :=
 er hg (rF hT ho hti hd hei hz hsz hx hob hlen hy hle hby hmx heq fun g'=>⟨_,by simp [hdst,putD,hlt],h g'⟩)
theorem Ao.appendCQ {x y : Operand} {t : TypeId} {d : Nat} {ti ei : TInfo} {e : TypeId} {tag : Nat} {g : OwnRef} {len : Nat} {rows rows2 rows2' rows' : List (List PV)} {wr : Bool} (hT : T.Ok P) (hle : gP P rows2 rows2') (hby : (rows.length + rows2'.length) * ei.bytes ≤ 2 ^ 47) (hmx : rows.length + rows2'.length ≤ maxLen) (heq : rows ++ rows2' = rows') (h : ∀ g',Ao P ops rest ⟨n,upd s d (.own tag g' rows'.length),bx,upd ob tag (some ⟨g',e,rows',wr⟩)⟩ K) (hg : aQ ops s o = some true := by exact rfl) (ho : o.op = .call { callee := .builtin .append,args := #[x,y],argTypes := #[t,t] } := by exact rfl) (hdst : o.dst = some d := by exact rfl) (hlt : Nat.blt d n = true := by exact rfl) (hti : T.get t = some ti := by exact rfl) (hd : ti.desc = .slice e := by exact rfl) (hei : T.get e = some ei := by exact rfl) (hz : Nat.beq ei.zero.cells.size ei.size = true := by exact rfl) (hsz : Nat.blt 0 ei.size = true := by exact rfl) (hx : evS s x = .own tag g len := by exact rfl) (hob : ob tag = some ⟨g,e,rows,wr⟩ := by exact rfl) (hlen : len = rows.length := by exact rfl) (hy : evS s y = .list e rows2 := by exact rfl) : Ao P ops (o :: rest) ⟨n,s,bx,ob⟩ K := cr hT hg ho hdst hlt hti hd hei hz hsz hx hob hlen hy hle hby hmx heq h
theorem ew (hT : T.Ok P) (ho : ops[k]? = some o) (hg : aQ ops s o = some true) {x y : Operand} {t : TypeId} (hop : o.op = .call { callee := .builtin .append,args := #[x,y],argTypes := #[t,t] }) {d : Nat} (hdst : o.dst = some d) (hlt : Nat.blt d n = true) {ti ei : TInfo} {e : TypeId} (hti : T.get t = some ti) (hd : ti.desc = .slice e) (hei : T.get e = some ei)
  (hz : Nat.beq ei.zero.cells.size ei.size = true) (hsz : Nat.blt 0 ei.size = true) {tag : Nat} {g : OwnRef} {len : Nat} {rows rows2 rows2' rows' : List (List PV)} {wr : Bool} (hx : evS s x = .own tag g len) (hob : ob tag = some ⟨g,e,rows,wr⟩) (hlen : len = rows.length) (hy : evS s y = .list e rows2)
  (hle : gP P rows2 rows2') (hby : (rows.length + rows2'.length) * ei.bytes ≤ 2 ^ 47) (hmx : rows.length + rows2'.length ≤ maxLen) (heq : rows ++ rows2' = rows') (h : ∀ g',Do P T rb ops L ⟨n,upd s d (.own tag g' rows'.length),bx,upd ob tag (some ⟨g',e,rows',wr⟩)⟩ K) : Do P T rb ops (k :: L) ⟨n,s,bx,ob⟩ K := by
 refine ⟨o,ho,true,hg,?_⟩
 simp only [if_true,hop,dE]
 exact fun bx'=>rF hT hop hti hd hei hz hsz hx hob hlen hy hle hby hmx heq fun g'=>⟨rfl,fun hx=>by simp [nN] at hx,_,by simp [hdst,putD,hlt],h g'⟩
theorem Do.appendCQ {x y : Operand} {t : TypeId} {d : Nat} {ti ei : TInfo} {e : TypeId} {tag : Nat} {g : OwnRef} {len : Nat} {rows rows2 rows2' rows' : List (List PV)} {wr : Bool} (hT : T.Ok P) (hle : gP P rows2 rows2') (hby : (rows.length + rows2'.length) * ei.bytes ≤ 2 ^ 47) (hmx : rows.length + rows2'.length ≤ maxLen) (heq : rows ++ rows2' = rows') (h : ∀ g',Do P T rb ops L ⟨n,upd s d (.own tag g' rows'.length),bx,upd ob tag (some ⟨g',e,rows',wr⟩)⟩ K) (ho : ops[k]? = some o := by exact rfl) (hg : aQ ops s o = some true := by exact rfl) (hop : o.op = .call { callee := .builtin .append,args := #[x,y],argTypes := #[t,t] } := by exact rfl) (hdst : o.dst = some d := by exact rfl) (hlt : Nat.blt d n = true := by exact rfl) (hti : T.get t = some ti := by exact rfl) (hd : ti.desc = .slice e := by exact rfl) (hei : T.get e = some ei := by exact rfl) (hz : Nat.beq ei.zero.cells.size ei.size = true := by exact rfl) (hsz : Nat.blt 0 ei.size = true := by exact rfl) (hx : evS s x = .own tag g len := by exact rfl) (hob : ob tag = some ⟨g,e,rows,wr⟩ := by exact rfl) (hlen : len = rows.length := by exact rfl) (hy : evS s y = .list e rows2 := by exact rfl) : Do P T rb ops (k :: L) ⟨n,s,bx,ob⟩ K := ew hT ho hg hop hdst hlt hti hd hei hz hsz hx hob hlen hy hle hby hmx heq h
theorem sR (hT : T.Ok P) (hg : aQ ops s o = some true) {t e : TypeId} {m : Nat} {ps : Array (Nat × Operand)} (ho : o.op = .buildSlice t m ps) {ti : TInfo} (hti : T.get t = some ti) (hd : ti.desc = .slice e) {rows rows' : List (List PV)}
  (hr : kt T e m (gE (evS s) ps) = some rows) (hle : gP P rows rows') {d : Nat} (hdst : o.dst = some d) (hlt : Nat.blt d n = true) (h : Ao P ops rest ⟨n,upd s d (.list e rows'),bx,ob⟩ K) : Ao P ops (o :: rest) ⟨n,s,bx,ob⟩ K := by
 refine qT hT hg ho hti hd hr (s' := upd s d (.list e rows)) (by simp [hdst,putD,hlt]) (lO d (eC _ _ _) (PLe.of2 (lA.list hle)) ?_)
 have : upd (upd s d (PV.list e rows)) d (.list e rows') = upd s d (.list e rows') := by
  funext t
  simp only [dJ]
  split <;> rfl
 rw [this]
 exact h
theorem cv {t e : TypeId} {m : Nat} {ps : Array (Nat × Operand)} {ti : TInfo} {rows rows' : List (List PV)} {d : Nat} (hT : T.Ok P) (hle : gP P rows rows') (h : Ao P ops rest ⟨n,upd s d (.list e rows'),bx,ob⟩ K) (hg : aQ ops s o = some true := by exact rfl) (ho : o.op = .buildSlice t m ps := by exact rfl) (hti : T.get t = some ti := by exact rfl) (hd : ti.desc = .slice e := by exact rfl) (hr : kt T e m (gE (evS s) ps) = some rows := by exact rfl) (hdst : o.dst = some d := by exact rfl) (hlt : Nat.blt d n = true := by exact rfl) : Ao P ops (o :: rest) ⟨n,s,bx,ob⟩ K := sR hT hg ho hti hd hr hle hdst hlt h
end
section
variable {P : Program} {fn : Func} {R : PV → Heap → Prop} {ks : List KI} {n : Nat} {s : Nat → PV} {bx : Nat → Option Box} {ob : Nat → Option Obj} {T : TT}
end
section
variable {P : Program} {C : Ctx} {M : Mem} {H : Heap} {w : World}
theorem InvH.reobj (h : InvH P C M H w) {tag : Nat} {g : OwnRef} {e : TypeId} {rows rows' : List (List PV)} {wr : Bool} (hx : H.ob tag = some ⟨g,e,rows,wr⟩) (hl : rows'.map List.length = rows.map List.length) (hle : iz P rows.flatten rows'.flatten) :
  InvH P C M ⟨H.bx,upd H.ob tag (some ⟨g,e,rows',wr⟩)⟩ w := by
 have hlen : rows'.length = rows.length := by simpa using congrArg List.length hl
 have key : ∀ t y,upd H.ob tag (some ⟨g,e,rows',wr⟩) t = some y → (t = tag ∧ y = ⟨g,e,rows',wr⟩) ∨ H.ob t = some y := by
  intro t y hy
  rw [dJ] at hy
  split at hy
  ·rename_i e; exact .inl ⟨e,(Option.some.inj hy).symm⟩
  ·exact .inr hy
 have same : ∀ t y,upd H.ob tag (some ⟨g,e,rows',wr⟩) t = some y → ∃ z,H.ob t = some z ∧ z.g = y.g := by
  intro t y hy
  rcases key t y hy with ⟨rfl,rfl⟩ | hy
  ·exact ⟨_,hx,rfl⟩
  ·exact ⟨y,hy,rfl⟩
 refine ⟨h.mem,h.ext,h.new,h.os,h.tape,h.output,h.size,h.frame,h.boxes,?_,h.dbox,?_,?_⟩
 ·intro t y hy
  rcases key t y hy with ⟨rfl,rfl⟩ | hy
  ·obtain ⟨i,h1,h2,h3,h4⟩ := h.objs _ _ hx
   simp only at h1 h2 h3 h4
   refine ⟨i,h1,?_,?_,?_⟩
   ·simpa only [hlen] using h2
   ·intro r hr
    have : r.length ∈ rows'.map List.length := List.mem_map.2 ⟨r,hr,rfl⟩
    rw [hl] at this
    obtain ⟨q,hq,e1⟩ := List.mem_map.1 this
    rw [← e1]
    exact h3 q hq
   ·rcases h4 with ⟨a,b,c⟩ | ⟨b,cur,h5,h6,h7,h8,h9,h10,h11,h12,h13,h14⟩
    ·refine .inl ⟨a,?_,c⟩
     rw [b] at hlen
     exact List.length_eq_zero_iff.1 hlen
    ·refine .inr ⟨b,cur,h5,h6,h7,h8,?_,h10,?_,?_,h13,?_⟩
     ·simpa only [hlen] using h9
     ·simp only [hlen]; exact hle M false _ h11
     ·simpa only [hlen] using h12
     ·simpa only [hlen] using h14
  ·exact h.objs t y hy
 ·intro t t' y y' b hy hy' hb hb'
  obtain ⟨z,hz,e1⟩ := same t y hy
  obtain ⟨z',hz',e1'⟩ := same t' y' hy'
  exact h.dobj t t' z z' b hz hz' (e1 ▸ hb) (e1' ▸ hb')
 ·intro t t' y y' hy hy' hb
  obtain ⟨z',hz',e1'⟩ := same t' y' hy'
  exact h.dmix t t' y z' hy hz' (e1' ▸ hb)
theorem InvH.cutO (h : InvH P C M H w) {tag : Nat} {g : OwnRef} {e : TypeId} {rows : List (List PV)} (hx : H.ob tag = some ⟨g,e,rows,true⟩) (k : Nat) :
  InvH P C M ⟨H.bx,upd H.ob tag (some ⟨g,e,rows.take k,true⟩)⟩ w := by
 have key : ∀ t y,upd H.ob tag (some ⟨g,e,rows.take k,true⟩) t = some y → (t = tag ∧ y = ⟨g,e,rows.take k,true⟩) ∨ H.ob t = some y := by
  intro t y hy
  rw [dJ] at hy
  split at hy
  ·rename_i e; exact .inl ⟨e,(Option.some.inj hy).symm⟩
  ·exact .inr hy
 have same : ∀ t y,upd H.ob tag (some ⟨g,e,rows.take k,true⟩) t = some y → ∃ z,H.ob t = some z ∧ z.g = y.g := by
  intro t y hy
  rcases key t y hy with ⟨rfl,rfl⟩ | hy
  ·exact ⟨_,hx,rfl⟩
  ·exact ⟨y,hy,rfl⟩
 refine ⟨h.mem,h.ext,h.new,h.os,h.tape,h.output,h.size,h.frame,h.boxes,?_,h.dbox,?_,?_⟩
 ·intro t y hy
  rcases key t y hy with ⟨rfl,rfl⟩ | hy
  ·obtain ⟨i,h1,h2,h3,h4⟩ := h.objs _ _ hx
   simp only at h1 h2 h3 h4
   have hle : (rows.take k).length ≤ rows.length := by simp; omega
   refine ⟨i,h1,Nat.le_trans (Nat.mul_le_mul_right _ hle) h2,fun r hr=>h3 r (List.mem_of_mem_take hr),?_⟩
   rcases h4 with ⟨a,b,c⟩ | ⟨b,cur,h5,h6,h7,h8,h9,h10,h11,h12,h13,h14⟩
   ·exact .inl ⟨a,by simp [b],c⟩
   ·refine .inr ⟨b,cur,h5,h6,h7,h8,Nat.le_trans hle h9,h10,?_,?_,fun _=>h13 trivial,?_⟩
    ·have hflat : (rows.take k).flatten = rows.flatten.take ((rows.take k).length * i.size) := by
      have aux : ∀ (l : List (List PV)) (m : Nat),(∀ r ∈ l,r.length = i.size) → (l.take m).flatten = l.flatten.take ((l.take m).length * i.size) := by
       intro l
       induction l with
       | nil=>intro m _; simp
       | cons r l ih =>
        intro m hr
        cases m with
        | zero=>simp
        | succ m =>
         have h1 := hr r (by simp)
         have := ih m fun r hr'=>hr r (by simp [hr'])
         simp only [List.take_succ_cons,List.flatten_cons,List.length_cons]
         have e1 : ((l.take m).length + 1) * i.size = r.length + (l.take m).length * i.size := by rw [Nat.add_mul,h1]; omega
         rw [e1,List.take_length_add_append,this]
      exact aux rows k h3
     rw [hflat]
     have := h11.take ((rows.take k).length * i.size)
     rw [List.take_take,Nat.min_eq_left (Nat.mul_le_mul_right _ hle)] at this
     exact this
    ·intro v hv
     refine h12 v ?_
     have e1 : cur.toList.take ((rows.take k).length * i.size) = (cur.toList.take (rows.length * i.size)).take ((rows.take k).length * i.size) := by
      rw [List.take_take,Nat.min_eq_left (Nat.mul_le_mul_right _ hle)]
     rw [e1] at hv
     exact List.mem_of_mem_take hv
    ·intro o _
     exact h13 trivial o
  ·exact h.objs t y hy
 ·intro t t' y y' b hy hy' hb hb'
  obtain ⟨z,hz,e1⟩ := same t y hy
  obtain ⟨z',hz',e1'⟩ := same t' y' hy'
  exact h.dobj t t' z z' b hz hz' (e1 ▸ hb) (e1' ▸ hb')
 ·intro t t' y y' hy hy' hb
  obtain ⟨z',hz',e1'⟩ := same t' y' hy'
  exact h.dmix t t' y z' hy hz' (e1' ▸ hb)
end
theorem iz.of_eq {P : Program} {a b : List PV} (h : a = b) : iz P a b := h ▸ iz.refl a
theorem iz.trans {P : Program} {a b c : List PV} (h : iz P a b) (h' : iz P b c) : iz P a c := fun M s xs hx=>h' M s xs (h M s xs hx)
def oO (bytes : Nat) (n : Int) : Option Unit := if 0 ≤ n ∧ n.toNat * bytes ≤ 2 ^ 47 ∧ n.toNat ≤ maxLen then some () else none
theorem growI_some {bytes : Nat} {n : Int} {u : Unit} (h : oO bytes n = some u) : 0 ≤ n ∧ n.toNat * bytes ≤ 2 ^ 47 ∧ n.toNat ≤ maxLen := by
 unfold oO at h
 split at h
 ·assumption
 ·cases h
section
variable {P : Program} {ops : Array Oper} {rest : List Oper} {o : Oper} {n : Nat} {s s' : Nat → PV} {bx : Nat → Option Box} {ob : Nat → Option Obj} {K : PState → Prop} {T : TT} {rb : RB} {k : Nat} {L : List Nat}
theorem oi (hT : T.Ok P) (hg : aQ ops s o = some true) {t t' : TypeId} {x : Operand} (ho : o.op = .binOp .eql t x (.const (.slice none 0 0)) t') {ti : TInfo} {e : TypeId} (hti : T.get t = some ti) (hd : ti.desc = .slice e) {e' : TypeId} {rows : List (List PV)} (hx : evS s x = .list e' rows) {d : Nat} (hdst : o.dst = some d) (hlt : Nat.blt d n = true)
  (h : ∀ b : Bool,(b = true → rows = []) → Ao P ops rest ⟨n,upd s d (.val (.bool b)),bx,ob⟩ K) : Ao P ops (o :: rest) ⟨n,s,bx,ob⟩ K := by
 refine er hg (fun C M a w next Q hi he hn=>?_)
 have hxr := he x (by rw [ho]; simp [Op.operands])
 rw [show (⟨n,s,bx,ob⟩ : PState).s = s from rfl,hx] at hxr
 simp only [Rep] at hxr
 obtain ⟨ad,c,i,hv,_,_,_,_,hr⟩ := hxr
 have hu := (hT.get hti).und
 rw [hd] at hu
 have hrun : (execOp a.eval o).run P w = .ok (.value (.bool ad.isNone)) w := by
  have h1 := run_equal_slice_nil (P := P) w t e ad rows.length c hu
  have h2 : (eqGuard .eql t x (.const (.slice none 0 0)) (.slice ad rows.length c) (.slice none 0 0)).run P w = .ok () w := by unfold eqGuard; split <;> simp
  simp only [execOp,ho,hv,show a.eval (.const (.slice none 0 0)) = .slice none 0 0 from rfl,Sem.run_bind,h2,Result.andThen_ok,binOp,h1]
  rfl
 unfold Oper.wp
 rw [hrun]
 refine hn _ (.val (.bool ad.isNone)) ⟨bx,ob⟩ M w ⟨_,by simp [hdst,putD,hlt],h ad.isNone fun hb=>?_⟩ (Mem.le_refl M) hi (by simp only [Rep])
 cases rows with
 | nil=>rfl
 | cons r rows =>
  obtain ⟨b,o,e1,_⟩ := hr (by simp)
  rw [e1] at hb
  cases hb
theorem mz (hT : T.Ok P) (hg : aQ ops s o = some true) {t e : TypeId} {m : Nat} {ps : Array (Nat × Operand)} (ho : o.op = .buildSlice t m ps) {d : Nat} (hdst : o.dst = some d) (hlt : Nat.blt d n = true) {ti : TInfo} (hti : T.get t = some ti) (hd : ti.desc = .slice e) {rows rows' : List (List PV)}
  (hr : kt T e m (gE (evS s) ps) = some rows) (hl : rows'.map List.length = rows.map List.length) (hm : rows.length = m) (hle : iz P rows.flatten rows'.flatten) (h : ∀ g,Ao P ops rest ⟨n,upd s d (.own d g rows'.length),bx,upd ob d (some ⟨g,e,rows',true⟩)⟩ K) : Ao P ops (o :: rest) ⟨n,s,bx,ob⟩ K := by
 refine Ao.bsO hT hg ho hdst hlt hti hd hr fun g=>?_
 have hlen : rows'.length = m := by rw [← hm]; simpa using congrArg List.length hl
 have h' := h g
 rw [hlen] at h'
 refine dB (st' := ⟨n,upd s d (.own d g m),bx,upd ob d (some ⟨g,e,rows',true⟩)⟩) ?_ h'
 intro C M a w hi
 refine ⟨M,hi.1,?_⟩
 have := hi.2.reobj (tag := d) (rows' := rows') (eC _ _ _) hl hle
 simp only [PState.heap] at this ⊢
 have e2 : upd (upd ob d (some ⟨g,e,rows,true⟩)) d (some ⟨g,e,rows',true⟩) = upd ob d (some ⟨g,e,rows',true⟩) := by
  funext t
  simp only [dJ]
  split <;> rfl
 rwa [e2] at this
theorem sz (hT : T.Ok P) (hg : aQ ops s o = some true) {x : Operand} {t : TypeId} {ts : List TypeId} (ho : o.op = .call { callee := .builtin .cap,args := #[x],argTypes := (t :: ts).toArray }) {ti : TInfo} {e : TypeId} (hti : T.get t = some ti) (hd : ti.desc = .slice e)
  (hx : evS s x = .val (.slice none 0 0)) (hp : putD n s o.dst (.val (.int .i64 0)) = some s') (h : Ao P ops rest ⟨n,s',bx,ob⟩ K) : Ao P ops (o :: rest) ⟨n,s,bx,ob⟩ K := by
 refine er hg (fun C M a w next Q hi he hn=>?_)
 have hxr := he x (by rw [ho]; simp [Op.operands,Call.operands])
 rw [show (⟨n,s,bx,ob⟩ : PState).s = s from rfl,hx] at hxr
 simp only [Rep] at hxr
 have hu := (hT.get hti).und
 rw [hd] at hu
 have hrun : (execOp a.eval o).run P w = .ok (.value (.int .i64 0)) w := by
  simp only [execOp,ho,resolve,Sem.run_bind,Sem.run_pure,Result.andThen_ok,invoke,builtin,List.map_toArray,List.map_cons,List.map_nil,hxr]
  simp [Builtin.cap_,run_underlying hu,goInt]
 unfold Oper.wp
 rw [hrun]
 exact hn _ _ ⟨bx,ob⟩ M w ⟨s',hp,h⟩ (Mem.le_refl M) hi (by simp only [Rep])
theorem Ao.subN (hT : T.Ok P) (hg : aQ ops s o = some true) {t : TypeId} {x y : Operand} (ho : o.op = .slice t x none (some y) none) {ti : TInfo} {e : TypeId} (hti : T.get t = some ti) (hd : ti.desc = .slice e) {ei : TInfo} (hei : T.get e = some ei)
  (hx : evS s x = .val (.slice none 0 0)) {kk : IntKind} (hy : evS s y = .val (.int kk 0)) (hp : putD n s o.dst (.val (.slice none 0 0)) = some s') (h : Ao P ops rest ⟨n,s',bx,ob⟩ K) : Ao P ops (o :: rest) ⟨n,s,bx,ob⟩ K := by
 refine er hg (fun C M a w next Q hi he hn=>?_)
 have hxr := he x (by rw [ho]; simp [Op.operands])
 have hyr := he y (by rw [ho]; simp [Op.operands])
 rw [show (⟨n,s,bx,ob⟩ : PState).s = s from rfl,hx] at hxr
 rw [show (⟨n,s,bx,ob⟩ : PState).s = s from rfl,hy] at hyr
 simp only [Rep] at hxr hyr
 have hu := (hT.get hti).und
 rw [hd] at hu
 have hrun : (execOp a.eval o).run P w = .ok (.value (.slice none 0 0)) w := by
  simp only [execOp,ho,Sem.run_bind,Sem.run_pure,Option.map_some,Option.map_none,hxr,hyr]
  simp [Instr.sliceAt,Instr.slice,run_underlying hu,Instr.sliceBounds,Instr.sliceBound,asIntOf,(hT.get hei).rsize w]
 unfold Oper.wp
 rw [hrun]
 exact hn _ _ ⟨bx,ob⟩ M w ⟨s',hp,h⟩ (Mem.le_refl M) hi (by simp only [Rep])
theorem Ao.cutO (hT : T.Ok P) (hg : aQ ops s o = some true) {t : TypeId} {x y : Operand} (ho : o.op = .slice t x none (some y) none) {ti : TInfo} {e : TypeId} (hti : T.get t = some ti) (hd : ti.desc = .slice e) {ei : TInfo} (hei : T.get e = some ei)
  {tag : Nat} {g : OwnRef} {len : Nat} {rows rows' : List (List PV)} (hx : evS s x = .own tag g len) (hob : ob tag = some ⟨g,e,rows,true⟩) (hlen : len = rows.length) {kk : IntKind} {m : Int} (hy : evS s y = .val (.int kk m)) (hm : 0 ≤ m ∧ m.toNat ≤ rows.length) (hr : rows.take m.toNat = rows') {d : Nat} (hdst : o.dst = some d) (hlt : Nat.blt d n = true)
  (h : Ao P ops rest ⟨n,upd s d (.own tag g rows'.length),bx,upd ob tag (some ⟨g,e,rows',true⟩)⟩ K) : Ao P ops (o :: rest) ⟨n,s,bx,ob⟩ K := by
 subst hlen
 subst hr
 refine er hg (fun C M a w next Q hi he hn=>?_)
 have hxr := he x (by rw [ho]; simp [Op.operands])
 have hyr := he y (by rw [ho]; simp [Op.operands])
 rw [show (⟨n,s,bx,ob⟩ : PState).s = s from rfl,hx] at hxr
 rw [show (⟨n,s,bx,ob⟩ : PState).s = s from rfl,hy] at hyr
 simp only [Rep] at hxr hyr
 have hu := (hT.get hti).und
 rw [hd] at hu
 have hcap : rows.length ≤ g.cap := by
  obtain ⟨i,_,_,_,h4⟩ := hi.objs tag _ hob
  rcases h4 with ⟨_,b,_⟩ | ⟨_,_,_,_,_,_,h9,_⟩
  ·simp only at b; rw [b]; simp
  ·exact h9
 have hmc : m ≤ (g.cap : Int) := by omega
 have hl2 : (rows.take m.toNat).length = m.toNat := by simp; omega
 have hrun : (execOp a.eval o).run P w = .ok (.value (g.val (rows.take m.toNat).length)) w := by
  rw [hl2]
  simp only [execOp,ho,Sem.run_bind,Sem.run_pure,Option.map_some,Option.map_none,hxr.2,hyr,OwnRef.val]
  cases hb : g.blk with
  | none=>simp [Instr.sliceAt,Instr.slice,run_underlying hu,Instr.sliceBounds,Instr.sliceBound,asIntOf,(hT.get hei).rsize w,hm.1,hmc]
  | some b =>
   have e0 : (⟨b,0,none⟩ : Addr).add 0 = ⟨b,0,none⟩ := by rw [gB]
   simp [Instr.sliceAt,Instr.slice,run_underlying hu,Instr.sliceBounds,Instr.sliceBound,asIntOf,(hT.get hei).rsize w,hm.1,hmc,e0]
 unfold Oper.wp
 rw [hrun]
 exact hn _ (.own tag g (rows.take m.toNat).length) ⟨bx,upd ob tag (some ⟨g,e,rows.take m.toNat,true⟩)⟩ M w ⟨_,by simp [hdst,putD,hlt],h⟩ (Mem.le_refl M) (hi.cutO hob m.toNat) (by simp [Rep])
theorem sj (hT : T.Ok P) (hg : aQ ops s o = some true) {x y : Operand} {t u : TypeId} (ho : o.op = .call { callee := .builtin .append,args := #[x,y],argTypes := #[t,u] }) {d : Nat} (hdst : o.dst = some d) (hlt : Nat.blt d n = true) {ti ui ei : TInfo} {e : TypeId} (hti : T.get t = some ti) (hd : ti.desc = .slice e) (hui : T.get u = some ui) (hud : ui.desc = .int .i64) (hei : T.get e = some ei)
  (hz : Nat.beq ei.zero.cells.size ei.size = true) (hsz : Nat.blt 0 ei.size = true) (_hf : PV.frozL (cU ei) = true) (h1 : (cU ei).all PV.one = true) (hx : evS s x = .val (.slice none 0 0)) {m : Int} (hy : evS s y = .val (.int .i64 m)) (hm : 0 < m) (hby : m.toNat * ei.bytes ≤ 2 ^ 47) (hmx : m.toNat ≤ maxLen)
  (h : ∀ g,Ao P ops rest ⟨n,upd s d (.own d g (List.replicate m.toNat (cU ei)).length),bx,upd ob d (some ⟨g,e,List.replicate m.toNat (cU ei),true⟩)⟩ K) : Ao P ops (o :: rest) ⟨n,s,bx,ob⟩ K := by
 refine er hg (fun C M a w next Q hi he hn=>?_)
 have hxr := he x (by rw [ho]; simp [Op.operands,Call.operands])
 have hyr := he y (by rw [ho]; simp [Op.operands,Call.operands])
 rw [show (⟨n,s,bx,ob⟩ : PState).s = s from rfl,hx] at hxr
 rw [show (⟨n,s,bx,ob⟩ : PState).s = s from rfl,hy] at hyr
 simp only [Rep] at hxr hyr
 have hu := (hT.get hti).und
 rw [hd] at hu
 have hu2 := (hT.get hui).und
 rw [hud] at hu2
 have hu3 := (hT.get hei).und
 obtain ⟨i,hinf,hs,hbs,hzero⟩ := (hT.get hei).info
 have hz1 := Nat.eq_of_beq_eq_true hz
 have hsz' : 0 < i.size := by have : 0 < ei.size := by simpa [Nat.blt_eq] using hsz
                              omega
 obtain ⟨k,hk⟩ : ∃ k : Nat,k = m.toNat := ⟨_,rfl⟩
 rw [← hk] at hby hmx h
 have hkm : m = (k : Int) := by omega
 subst hkm
 have hk0 : 0 < k := by omega
 have hwrap : IntKind.i64.wrap (k : Int) = k := by
  simp only [IntKind.wrap,IntKind.bits,IntKind.signed]
  simp
  unfold maxLen at hmx
  omega
 have h63 : ¬ (9223372036854775807 < (k : Int)) := by unfold maxLen at hmx; omega
 have hby2 : k * i.bytes ≤ 140737488355328 := by rw [hbs]; exact hby
 have h48 : ¬ (281474976710656 < Builtin.nextslicecap k 0 * i.bytes) := by rw [nextslicecap_zero hk0]; omega
 have h48' : ¬ (281474976710656 < (k : Int) * (i.bytes : Int)) := by
  have : ((k * i.bytes : Nat) : Int) ≤ 140737488355328 := Int.ofNat_le.2 hby2
  rw [Int.natCast_mul] at this
  omega
 have hne : ¬ (k * i.size = 0) := by
  have := Nat.mul_pos hk0 hsz'
  omega
 have hrun : (Builtin.append_ #[t,u] o.type #[.slice none 0 0,.int .i64 k]).run P w = .ok (.slice (some ⟨w.heap.size,0,none⟩) k (grownCap w k 0 e)) (w.drew.alloc (.cells (Builtin.zeroCells ei.zero.cells k ++ Builtin.zeroCells ei.zero.cells (grownCap w k 0 e - k)) e)) := by
  have hk1 : k ≠ 0 := by omega
  have hk3 : ¬ ((k : Int) < 0) := by omega
  simp [Builtin.append_,run_underlying hu,run_underlying hu2,sizeOf,typeInfo,zeroValue,hinf,hzero,asInt,asIntOf,hwrap,hk1,hk3,h63,h48,h48',Question.forced,run_firstCells_none,newRow,grownCap]
  exact fun h0=>absurd h0 hne
 have hrun' : (execOp a.eval o).run P w = .ok (.value (.slice (some ⟨w.heap.size,0,none⟩) k (grownCap w k 0 e))) (w.drew.alloc (.cells (Builtin.zeroCells ei.zero.cells k ++ Builtin.zeroCells ei.zero.cells (grownCap w k 0 e - k)) e)) := by
  simp only [execOp,ho,resolve,Sem.run_bind,Sem.run_pure,Result.andThen_ok,invoke,builtin,List.map_toArray,List.map_cons,List.map_nil,hxr,hyr]
  rw [hrun]
  rfl
 unfold Oper.wp
 rw [hrun']
 have hge := grownCap_ge w k 0 e
 have hgm : grownCap w k 0 e ≤ maxLen := grownCap_le_maxLen w k 0 e hmx
 have hzl : (cU ei).length = i.size := by simp [cU,hz1,hs]
 have hzc : (Builtin.zeroCells ei.zero.cells k).toList = (List.replicate k ei.zero.cells.toList).flatten := by
  unfold Builtin.zeroCells
  exact oa ei.zero.cells k
 have hzs : (Builtin.zeroCells ei.zero.cells k).toList.length = k * i.size := by
  rw [hzc]; simp [hz1,hs]
 have hrep : aB P M false (List.replicate k (cU ei)).flatten (List.replicate k ei.zero.cells.toList).flatten := lg (ke _) k
 have htake : ((Builtin.zeroCells ei.zero.cells k ++ Builtin.zeroCells ei.zero.cells (grownCap w k 0 e - k)).toList.take ((List.replicate k (cU ei)).length * i.size)) = (List.replicate k ei.zero.cells.toList).flatten := by
  rw [List.length_replicate,Array.toList_append,← hzc]
  rw [← hzs]
  exact List.take_left
 refine hn _ (.own d ⟨some w.heap.size,grownCap w k 0 e⟩ (List.replicate k (cU ei)).length) _ M _ ⟨_,by simp [hdst,putD,hlt],h ⟨some w.heap.size,grownCap w k 0 e⟩⟩ (Mem.le_refl M)
  ((show InvH P C M ⟨bx,ob⟩ w.drew from hi.drew).alloc_obj d e (List.replicate k (cU ei)) true _ _ i hinf ?_ ?_ ?_ ?_ hgm ?_ ?_) ?_
 ·rw [List.length_replicate]; exact hby2
 ·intro r hr
  rw [List.eq_of_mem_replicate hr]
  exact hzl
 ·simp only [Array.size_append,size_zeroCells,hz1,← hs,← Nat.add_mul]
  congr 1
  omega
 ·rw [List.length_replicate]; exact hge
 ·rw [htake]; exact hrep
 ·rw [htake]
  refine aB.oneCell ?_ hrep
  rw [List.all_flatten]
  rw [List.all_eq_true]
  intro r hr
  rw [List.eq_of_mem_replicate hr]
  exact h1
 ·simp [Rep,OwnRef.val]
end
@[simp] theorem bPs {α β : Type} (a : α) (k : α → Option β) : ae (some a) k = k a := rfl
@[simp] theorem bindP_none {α β : Type} (k : α → Option β) : ae none k = none := rfl
@[simp] theorem bQ {α β : Type} (a : α) (k : α → β) : br a k = k a := rfl
@[simp] theorem bI {σ β : Type} (s : σ) (k : σ → Option β) : Flow.thenP (.next s) k = k s := rfl
@[simp] theorem iV {σ ρ : Type} (s : σ) (k : σ → Option ρ) : Flow.thenR (.next s) k = k s := rfl
@[simp] theorem nx {σ ρ : Type} (r : ρ) (k : σ → Option ρ) : Flow.thenR (.ret r) k = some r := rfl
@[simp] theorem thenF_nextS {σ τ ρ : Type} (s : σ) (k : σ → Option (Flow τ ρ)) : Flow.thenF (.next s) k = k s := rfl
@[simp] theorem thenF_retS {σ τ ρ : Type} (r : ρ) (k : σ → Option (Flow τ ρ)) : Flow.thenF (.ret r) k = some (.ret r) := rfl
theorem appI_ok {α : Type} {bytes : Nat} {xs ys : List α} (h1 : (xs.length + ys.length) * bytes ≤ 2 ^ 47) (h2 : xs.length + ys.length ≤ maxLen) : cy bytes xs ys = some (xs ++ ys) := by
 unfold cy; rw [zp ⟨h1,h2⟩]
theorem lM {α : Type} {xs : List α} {i : Int} {x : α} (h0 : 0 ≤ i) (h : xs[i.toNat]? = some x) : aK xs i = some x := by unfold aK; rw [zp h0,h]
theorem gL {α : Type} {xs : List α} {j : Nat} {x : α} (h : xs[j]? = some x) : aK xs (j : Int) = some x := lM (by omega) (by simpa using h)
theorem oZ {α : Type} {xs : List α} {a b : Int} (h : 0 ≤ a ∧ a ≤ b ∧ b ≤ xs.length) : nn xs a b = some ((xs.take b.toNat).drop a.toNat) := by unfold nn; rw [zp h]
theorem growI_ok {bytes : Nat} {n : Int} (h : 0 ≤ n ∧ n.toNat * bytes ≤ 2 ^ 47 ∧ n.toNat ≤ maxLen) : oO bytes n = some () := by unfold oO; rw [zp h]
theorem jX {n : Int} (h : n ≤ 2 ^ 62) : gj n = some n.toNat := by unfold gj; rw [zp h]
theorem eI {α σ ρ : Type} {step : Nat → α → σ → Option (Flow σ ρ)} (I : Nat → σ → Prop) (Q : ρ → Prop) :
  ∀ (xs : List α) (j : Nat) (s : σ),I j s → (∀ k x s,xs[k]? = some x → I (j + k) s → ∃ fl,step (j + k) x s = some fl ∧ (match fl with | .next s'=>I (j + k + 1) s' | .brk _=>False | .ret r=>Q r)) →
   ∃ fl,aD step j xs s = some fl ∧ (match fl with | .next s'=>I (j + xs.length) s' | .brk _=>False | .ret r=>Q r)
 | [],j,s,h,_=>⟨.next s,rfl,by simpa using h⟩
 | x :: xs,j,s,h,hs=>by
  obtain ⟨fl,h1,h2⟩ := hs 0 x s rfl (by simpa using h)
  rw [Nat.add_zero] at h1
  cases fl with
  | next s' =>
   obtain ⟨fl,h3,h4⟩ := eI I Q xs (j + 1) s' (by simpa using h2) (fun k y t hk hI=>by
    obtain ⟨fl,h5,h6⟩ := hs (k + 1) y t (by simpa using hk) (by rw [show j + (k + 1) = j + 1 + k from by omega]; exact hI)
    rw [show j + (k + 1) = j + 1 + k from by omega] at h5 h6
    exact ⟨fl,h5,h6⟩)
   refine ⟨fl,by rw [aD,h1]; exact h3,?_⟩
   rw [show j + (x :: xs).length = j + 1 + xs.length from by simp; omega]
   exact h4
  | brk s'=>exact absurd h2 (by simp)
  | ret r=>exact ⟨.ret r,by rw [aD,h1],h2⟩
theorem rMa {α σ ρ : Type} {step : Nat → α → σ → Option (Flow σ ρ)} {xs : List α} {s : σ} (S : Nat → σ) (h0 : S 0 = s) (hs : ∀ k x,xs[k]? = some x → step k x (S k) = some (.next (S (k + 1)))) : aD step 0 xs s = some (.next (S xs.length)) := by
 subst h0
 obtain ⟨fl,h1,h2⟩ := eI (step := step) (fun j s=>s = S j) (fun _=>False) xs 0 (S 0) rfl (fun k x s hk hI=>by
  simp only [Nat.zero_add] at hI
  subst hI
  exact ⟨_,by rw [Nat.zero_add]; exact hs k x hk,by simp⟩)
 cases fl with
 | next s'=>simp only [Nat.zero_add] at h2; rw [h1,h2]
 | brk s'=>exact absurd h2 (by simp)
 | ret r=>exact absurd h2 (by simp)
theorem io {α β ρ : Type} {step : Nat → α → List β → Option (Flow (List β) ρ)} {xs : List α} (f : α → β) (hs : ∀ k x,xs[k]? = some x → step k x ((xs.take k).map f) = some (.next ((xs.take k).map f ++ [f x]))) :
  aD step 0 xs [] = some (.next (xs.map f)) := by
 have := rMa (step := step) (xs := xs) (fun k=>(xs.take k).map f) rfl (fun k x hk=>by
  rw [hs k x hk,List.take_add_one,hk]
  simp)
 simpa using this
theorem mP {α σ ρ : Type} {step : Nat → α → σ → Option (Flow σ ρ)} {xs : List α} {s : σ} (g : σ → α → σ) (hs : ∀ k x,xs[k]? = some x → step k x ((xs.take k).foldl g s) = some (.next (g ((xs.take k).foldl g s) x))) :
  aD step 0 xs s = some (.next (xs.foldl g s)) := by
 have := rMa (step := step) (xs := xs) (fun k=>(xs.take k).foldl g s) rfl (fun k x hk=>by
  rw [hs k x hk,List.take_add_one,hk,List.foldl_append]
  rfl)
 simpa using this
theorem oX {α ρ : Type} {step : Nat → α → Unit → Option (Flow Unit ρ)} (p : α → Bool) (out : Nat → α → ρ) : ∀ (xs : List α) (j : Nat),(∀ k x,xs[k]? = some x → step (j + k) x () = some (if p x then .ret (out (j + k) x) else .next ())) →
  aD step j xs () = some (match xs.findIdx? p with | some i=>(match xs[i]? with | some x=>.ret (out (j + i) x) | none=>.next ()) | none=>.next ())
 | [],j,_=>rfl
 | x :: xs,j,hs=>by
  have h0 := hs 0 x rfl
  rw [Nat.add_zero] at h0
  rw [aD,h0,List.findIdx?_cons]
  cases hp : p x with
  | true=>simp
  | false =>
   simp only [Bool.false_eq_true,if_false]
   rw [oX p out xs (j + 1) (fun k y hk=>by
    have := hs (k + 1) y (by simpa using hk)
    rw [show j + (k + 1) = j + 1 + k from by omega] at this
    exact this)]
   cases xs.findIdx? p with
   | none=>simp
   | some i =>
    simp only [Option.map_some,List.getElem?_cons_succ]
    rw [show j + 1 + i = j + (i + 1) from by omega]
section
variable {P : Program} {T : TT} {M : Mem}
end
def fe {α : Type} (p : Prop) [Decidable p] (a : α) : Option α := if p then some a else none
theorem dH {α : Type} {p : Prop} [Decidable p] {a b : α} (h : fe p a = some b) : p ∧ a = b := by
 unfold fe at h
 split at h
 ·rename_i hp; exact ⟨hp,Option.some.inj h⟩
 ·cases h
@[simp] theorem ec {α : Type} {p : Prop} [Decidable p] {a : α} (h : p) : fe p a = some a := by unfold fe; rw [zp h]
end
end Go.Ab

namespace Go.Ab
noncomputable section
open Go.Proofs
def tS (d : TypeDesc) : TInfo := ⟨d,1,24,.slice none 0 0,[]⟩
def tP (d : TypeDesc) : TInfo := ⟨d,1,8,.pointer none,[]⟩
def tF (d : TypeDesc) : TInfo := ⟨d,1,8,.nilFunc,[]⟩
theorem tO {P : Program} {k : Nat} {v : TInfo} (i : TypeInfo) (h : P.info? k = some i) (e : (i.size,i.bytes,i.zero,v.eqf) = (v.size,v.bytes,some v.zero,[])) (u : P.underlying k = some v.desc) : v.Ok P k := by
 simp only [Prod.mk.injEq] at e
 exact ⟨⟨i,h,e.1,e.2.1,e.2.2.1⟩,u,fun hn=>absurd e.2.2.2 hn⟩
def ti48 : TInfo := ⟨Tryz.t47.desc,3,32,.agg #[.int .i64 0,.int .i64 0,.string ⟨#[]⟩],[(3,0),(3,1),(9,2)]⟩
def ti52 : TInfo := ⟨Tryz.t52.desc,3,32,.agg #[.string ⟨#[]⟩,.int .i64 0,.bool false],[(9,0),(3,1),(4,2)]⟩
def ti53 : TInfo := ⟨Tryz.t52.desc,3,32,.agg #[.string ⟨#[]⟩,.int .i64 0,.bool false],[(9,0),(3,1),(4,2)]⟩
theorem ti48_ok : ti48.Ok Tryz.prog 48 := ⟨⟨Tryz.t48,by kernel_rfl,rfl,rfl,rfl⟩,Tryz.underlying48,fun _=>⟨Tryz.stoodInHeld48,Tryz.eqGuardType48,by simp [eu,Program.fieldsOf,Tryz.underlying48,ti48],by kernel_rfl⟩⟩
theorem ti52_ok : ti52.Ok Tryz.prog 52 := ⟨⟨Tryz.t52,by kernel_rfl,rfl,rfl,rfl⟩,Tryz.underlying52,fun _=>⟨Tryz.stoodInHeld52,Tryz.eqGuardType52,by simp [eu,Program.fieldsOf,Tryz.underlying52,ti52],by kernel_rfl⟩⟩
theorem ti53_ok : ti53.Ok Tryz.prog 53 := ⟨⟨Tryz.t53,by kernel_rfl,rfl,rfl,rfl⟩,Tryz.underlying53,fun _=>⟨Tryz.stoodInHeld53,Tryz.eqGuardType53,by simp [eu,Program.fieldsOf,Tryz.underlying53,ti53],by kernel_rfl⟩⟩
def tt : TT := (.node 73 (tF Tryz.t73.desc) (.node 35 ⟨Tryz.t34.desc,9,160,.agg #[.int .i64 0,.string ⟨#[]⟩,.slice none 0 0,.slice none 0 0,.slice none 0 0,.slice none 0 0,.int .i64 0,.int .i64 0,.slice none 0 0],[]⟩ (.node 23 (tS Tryz.t23.desc) (.node 5 ⟨Tryz.t5.desc,1,1,.int .u8 0,[]⟩ (.node 3 ⟨Tryz.t3.desc,1,8,.int .i64 0,[]⟩ (.node 2 ⟨Tryz.t2.desc,1,8,.int .i64 0,[]⟩ (.node 1 (tF Tryz.t1.desc) .leaf .leaf) .leaf) (.node 4 ⟨Tryz.t4.desc,1,1,.bool false,[]⟩ .leaf .leaf)) (.node 20 ⟨Tryz.t20.desc,1,16,.nilIface,[]⟩ (.node 9 ⟨Tryz.t9.desc,1,16,.string ⟨#[]⟩,[]⟩ .leaf .leaf) (.node 22 (tS Tryz.t22.desc) .leaf .leaf))) (.node 30 (tS Tryz.t30.desc) (.node 28 (tS Tryz.t27.desc) (.node 26 ⟨Tryz.t25.desc,3,72,.agg #[.slice none 0 0,.slice none 0 0,.slice none 0 0],[]⟩ (.node 24 (tS Tryz.t24.desc) .leaf .leaf) .leaf) (.node 29 (tS Tryz.t29.desc) .leaf .leaf)) (.node 32 (tS Tryz.t32.desc) (.node 31 (tS Tryz.t31.desc) .leaf .leaf) (.node 33 (tS Tryz.t33.desc) .leaf .leaf)))) (.node 52 ti52 (.node 45 (tF Tryz.t45.desc) (.node 40 (tS Tryz.t40.desc) (.node 39 (tS Tryz.t39.desc) (.node 36 (tS Tryz.t36.desc) .leaf .leaf) .leaf) (.node 42 ⟨Tryz.t41.desc,2,48,.agg #[.slice none 0 0,.slice none 0 0],[]⟩ .leaf .leaf)) (.node 48 ti48 (.node 46 (tF Tryz.t46.desc) .leaf .leaf) (.node 50 ⟨Tryz.t49.desc,7,88,.agg #[.int .i64 0,.string ⟨#[]⟩,.int .i64 0,.int .i64 0,.int .i64 0,.string ⟨#[]⟩,.slice none 0 0],[]⟩ .leaf .leaf))) (.node 59 ⟨Tryz.t58.desc,2,40,.agg #[.string ⟨#[]⟩,.slice none 0 0],[]⟩ (.node 56 ⟨Tryz.t55.desc,3,64,.agg #[.string ⟨#[]⟩,.slice none 0 0,.slice none 0 0],[]⟩ (.node 54 (tS Tryz.t54.desc) (.node 53 ti53 .leaf .leaf) .leaf) (.node 57 (tS Tryz.t36.desc) .leaf .leaf)) (.node 63 (tF Tryz.t63.desc) (.node 60 ⟨Tryz.t3.desc,1,8,.int .i64 0,[]⟩ .leaf .leaf) (.node 70 ⟨Tryz.t69.desc,3,56,.agg #[.string ⟨#[]⟩,.string ⟨#[]⟩,.slice none 0 0],[]⟩ .leaf .leaf))))) (.node 119 ⟨Tryz.t118.desc,4,96,.agg #[.slice none 0 0,.slice none 0 0,.slice none 0 0,.slice none 0 0],[]⟩ (.node 96 (tF Tryz.t96.desc) (.node 87 (tF Tryz.t87.desc) (.node 82 (tF Tryz.t82.desc) (.node 80 (tF Tryz.t80.desc) (.node 74 (tF Tryz.t74.desc) .leaf .leaf) .leaf) (.node 86 (tF Tryz.t86.desc) .leaf .leaf)) (.node 94 ⟨Tryz.t94.desc,8,192,.agg #[.slice none 0 0,.slice none 0 0,.slice none 0 0,.slice none 0 0,.slice none 0 0,.slice none 0 0,.slice none 0 0,.slice none 0 0],[]⟩ (.node 91 (tF Tryz.t91.desc) .leaf .leaf) (.node 95 ⟨Tryz.t94.desc,8,192,.agg #[.slice none 0 0,.slice none 0 0,.slice none 0 0,.slice none 0 0,.slice none 0 0,.slice none 0 0,.slice none 0 0,.slice none 0 0],[]⟩ .leaf .leaf))) (.node 105 (tF Tryz.t105.desc) (.node 101 ⟨Tryz.t100.desc,3,56,.agg #[.string ⟨#[]⟩,.slice none 0 0,.string ⟨#[]⟩],[]⟩ (.node 100 ⟨Tryz.t100.desc,3,56,.agg #[.string ⟨#[]⟩,.slice none 0 0,.string ⟨#[]⟩],[]⟩ (.node 98 (tF Tryz.t98.desc) .leaf .leaf) .leaf) (.node 102 (tF Tryz.t102.desc) .leaf .leaf)) (.node 113 ⟨Tryz.t113.desc,8,8,.agg #[.bool false,.bool false,.bool false,.bool false,.bool false,.bool false,.bool false,.bool false],[]⟩ (.node 107 ⟨Tryz.t106.desc,7,80,.agg #[.string ⟨#[]⟩,.int .i64 0,.string ⟨#[]⟩,.int .i64 0,.int .i64 0,.int .i64 0,.string ⟨#[]⟩],[]⟩ .leaf .leaf) (.node 114 (tF Tryz.t114.desc) .leaf .leaf)))) (.node 154 (tS Tryz.t154.desc) (.node 137 (tF Tryz.t137.desc) (.node 129 (tF Tryz.t129.desc) (.node 127 ⟨Tryz.t126.desc,5,120,.agg #[.slice none 0 0,.slice none 0 0,.slice none 0 0,.slice none 0 0,.slice none 0 0],[]⟩ (.node 126 ⟨Tryz.t126.desc,5,120,.agg #[.slice none 0 0,.slice none 0 0,.slice none 0 0,.slice none 0 0,.slice none 0 0],[]⟩ .leaf .leaf) .leaf) (.node 136 (tF Tryz.t136.desc) .leaf .leaf)) (.node 145 (tS Tryz.t145.desc) (.node 139 (tF Tryz.t139.desc) .leaf .leaf) (.node 148 (tF Tryz.t148.desc) .leaf .leaf))) (.node 182 (tF Tryz.t182.desc) (.node 160 (tF Tryz.t160.desc) (.node 158 (tS Tryz.t158.desc) .leaf .leaf) (.node 162 (tF Tryz.t162.desc) .leaf .leaf)) (.node 192 ⟨Tryz.t192.desc,1,8,.int .u64 0,[]⟩ (.node 184 (tF Tryz.t184.desc) .leaf .leaf) (.node 194 (tF Tryz.t194.desc) .leaf .leaf))))))
theorem tk : tt.Ok Tryz.prog := ⟨tO Tryz.t73 (by kernel_rfl) rfl Tryz.underlying73,⟨tO Tryz.t35 (by kernel_rfl) rfl Tryz.underlying35,⟨tO Tryz.t23 (by kernel_rfl) rfl Tryz.underlying23,⟨tO Tryz.t5 (by kernel_rfl) rfl Tryz.underlying5,⟨tO Tryz.t3 (by kernel_rfl) rfl Tryz.underlying3,⟨tO Tryz.t2 (by kernel_rfl) rfl Tryz.underlying2,⟨tO Tryz.t1 (by kernel_rfl) rfl Tryz.underlying1,trivial,trivial⟩,trivial⟩,⟨tO Tryz.t4 (by kernel_rfl) rfl Tryz.underlying4,trivial,trivial⟩⟩,⟨tO Tryz.t20 (by kernel_rfl) rfl Tryz.underlying20,⟨tO Tryz.t9 (by kernel_rfl) rfl Tryz.underlying9,trivial,trivial⟩,⟨tO Tryz.t22 (by kernel_rfl) rfl Tryz.underlying22,trivial,trivial⟩⟩⟩,⟨tO Tryz.t30 (by kernel_rfl) rfl Tryz.underlying30,⟨tO Tryz.t28 (by kernel_rfl) rfl Tryz.underlying28,⟨tO Tryz.t26 (by kernel_rfl) rfl Tryz.underlying26,⟨tO Tryz.t24 (by kernel_rfl) rfl Tryz.underlying24,trivial,trivial⟩,trivial⟩,⟨tO Tryz.t29 (by kernel_rfl) rfl Tryz.underlying29,trivial,trivial⟩⟩,⟨tO Tryz.t32 (by kernel_rfl) rfl Tryz.underlying32,⟨tO Tryz.t31 (by kernel_rfl) rfl Tryz.underlying31,trivial,trivial⟩,⟨tO Tryz.t33 (by kernel_rfl) rfl Tryz.underlying33,trivial,trivial⟩⟩⟩⟩,⟨ti52_ok,⟨tO Tryz.t45 (by kernel_rfl) rfl Tryz.underlying45,⟨tO Tryz.t40 (by kernel_rfl) rfl Tryz.underlying40,⟨tO Tryz.t39 (by kernel_rfl) rfl Tryz.underlying39,⟨tO Tryz.t36 (by kernel_rfl) rfl Tryz.underlying36,trivial,trivial⟩,trivial⟩,⟨tO Tryz.t42 (by kernel_rfl) rfl Tryz.underlying42,trivial,trivial⟩⟩,⟨ti48_ok,⟨tO Tryz.t46 (by kernel_rfl) rfl Tryz.underlying46,trivial,trivial⟩,⟨tO Tryz.t50 (by kernel_rfl) rfl Tryz.underlying50,trivial,trivial⟩⟩⟩,⟨tO Tryz.t59 (by kernel_rfl) rfl Tryz.underlying59,⟨tO Tryz.t56 (by kernel_rfl) rfl Tryz.underlying56,⟨tO Tryz.t54 (by kernel_rfl) rfl Tryz.underlying54,⟨ti53_ok,trivial,trivial⟩,trivial⟩,⟨tO Tryz.t57 (by kernel_rfl) rfl Tryz.underlying57,trivial,trivial⟩⟩,⟨tO Tryz.t63 (by kernel_rfl) rfl Tryz.underlying63,⟨tO Tryz.t60 (by kernel_rfl) rfl Tryz.underlying60,trivial,trivial⟩,⟨tO Tryz.t70 (by kernel_rfl) rfl Tryz.underlying70,trivial,trivial⟩⟩⟩⟩⟩,⟨tO Tryz.t119 (by kernel_rfl) rfl Tryz.underlying119,⟨tO Tryz.t96 (by kernel_rfl) rfl Tryz.underlying96,⟨tO Tryz.t87 (by kernel_rfl) rfl Tryz.underlying87,⟨tO Tryz.t82 (by kernel_rfl) rfl Tryz.underlying82,⟨tO Tryz.t80 (by kernel_rfl) rfl Tryz.underlying80,⟨tO Tryz.t74 (by kernel_rfl) rfl Tryz.underlying74,trivial,trivial⟩,trivial⟩,⟨tO Tryz.t86 (by kernel_rfl) rfl Tryz.underlying86,trivial,trivial⟩⟩,⟨tO Tryz.t94 (by kernel_rfl) rfl Tryz.underlying94,⟨tO Tryz.t91 (by kernel_rfl) rfl Tryz.underlying91,trivial,trivial⟩,⟨tO Tryz.t95 (by kernel_rfl) rfl Tryz.underlying95,trivial,trivial⟩⟩⟩,⟨tO Tryz.t105 (by kernel_rfl) rfl Tryz.underlying105,⟨tO Tryz.t101 (by kernel_rfl) rfl Tryz.underlying101,⟨tO Tryz.t100 (by kernel_rfl) rfl Tryz.underlying100,⟨tO Tryz.t98 (by kernel_rfl) rfl Tryz.underlying98,trivial,trivial⟩,trivial⟩,⟨tO Tryz.t102 (by kernel_rfl) rfl Tryz.underlying102,trivial,trivial⟩⟩,⟨tO Tryz.t113 (by kernel_rfl) rfl Tryz.underlying113,⟨tO Tryz.t107 (by kernel_rfl) rfl Tryz.underlying107,trivial,trivial⟩,⟨tO Tryz.t114 (by kernel_rfl) rfl Tryz.underlying114,trivial,trivial⟩⟩⟩⟩,⟨tO Tryz.t154 (by kernel_rfl) rfl Tryz.underlying154,⟨tO Tryz.t137 (by kernel_rfl) rfl Tryz.underlying137,⟨tO Tryz.t129 (by kernel_rfl) rfl Tryz.underlying129,⟨tO Tryz.t127 (by kernel_rfl) rfl Tryz.underlying127,⟨tO Tryz.t126 (by kernel_rfl) rfl Tryz.underlying126,trivial,trivial⟩,trivial⟩,⟨tO Tryz.t136 (by kernel_rfl) rfl Tryz.underlying136,trivial,trivial⟩⟩,⟨tO Tryz.t145 (by kernel_rfl) rfl Tryz.underlying145,⟨tO Tryz.t139 (by kernel_rfl) rfl Tryz.underlying139,trivial,trivial⟩,⟨tO Tryz.t148 (by kernel_rfl) rfl Tryz.underlying148,trivial,trivial⟩⟩⟩,⟨tO Tryz.t182 (by kernel_rfl) rfl Tryz.underlying182,⟨tO Tryz.t160 (by kernel_rfl) rfl Tryz.underlying160,⟨tO Tryz.t158 (by kernel_rfl) rfl Tryz.underlying158,trivial,trivial⟩,⟨tO Tryz.t162 (by kernel_rfl) rfl Tryz.underlying162,trivial,trivial⟩⟩,⟨tO Tryz.t192 (by kernel_rfl) rfl Tryz.underlying192,⟨tO Tryz.t184 (by kernel_rfl) rfl Tryz.underlying184,trivial,trivial⟩,⟨tO Tryz.t194 (by kernel_rfl) rfl Tryz.underlying194,trivial,trivial⟩⟩⟩⟩⟩⟩
end
end Go.Ab


namespace Go.Proofs.YtioonpnnfepffaaGreat
noncomputable section
open Go Go.Ab
theorem mok : Tryz.prog.follows .mixedOrders = true := by kernel_rfl
abbrev ai (n : Int) : PV := .val (.int .i64 n)
abbrev ay (b : Bool) : PV := .val (.bool b)
structure LVal where
 kind : Int
 int : Int
 text : List UInt8
 deriving DecidableEq
structure LCol where
 name : List UInt8
 kind : Int
 nullable : Bool
 deriving DecidableEq
inductive LExpr where
 | mk (kind : Int) (name : List UInt8) (index : Int) (value : LVal) (args : List LExpr)
def LExpr.kind : LExpr → Int | .mk k _ _ _ _=>k
def LExpr.name : LExpr → List UInt8 | .mk _ n _ _ _=>n
def LExpr.index : LExpr → Int | .mk _ _ i _ _=>i
def LExpr.value : LExpr → LVal | .mk _ _ _ v _=>v
def LExpr.args : LExpr → List LExpr | .mk _ _ _ _ a=>a
structure LEnv where
 cols : List LCol
 row : List LVal
 params : List LVal
 vnames : List (List UInt8)
 vvals : List LVal
def LVal.nul : LVal := ⟨0,0,[]⟩
@[simp] def af (v : LVal) : List PV := [ai v.kind,ai v.int,.str v.text]
@[simp] def aR (c : LCol) : List PV := [.str c.name,ai c.kind,ay c.nullable]
mutual
def aC : LExpr → List PV
 | .mk k n i v a=>[ai k,.str n,ai i,ai v.kind,ai v.int,.str v.text,.list 50 (pG a)]
def pG : List LExpr → List (List PV)
 | []=>[]
 | e :: r=>aC e :: pG r
end
theorem qD : ∀ l,pG l = l.map aC
 | []=>rfl
 | e :: r=>by simp [pG,qD r]
def cz (e : LExpr) : List PV := [ai e.kind,.str e.name,ai e.index,ai e.value.kind,ai e.value.int,.str e.value.text,.list 50 (e.args.map aC)]
theorem bP (e : LExpr) : aC e = cz e := by
 cases e
 simp [aC,cz,qD,LExpr.kind,LExpr.name,LExpr.index,LExpr.value,LExpr.args]
abbrev jV (v : LVal) : PV := .agg (af v)
abbrev pcol (c : LCol) : PV := .agg (aR c)
abbrev jx (e : LExpr) : PV := .agg (cz e)
abbrev pvals (l : List LVal) : PV := .list 48 (l.map af)
abbrev jM (l : List LCol) : PV := .list 53 (l.map aR)
abbrev pi (l : List LExpr) : PV := .list 50 (l.map aC)
abbrev pstrs (l : List (List UInt8)) : PV := .list 9 (l.map fun s=>[.str s])
abbrev pints (l : List Int) : PV := .list 3 (l.map fun n=>[ai n])
@[simp] def encEnv (v : LEnv) : List PV := [jM v.cols,pvals v.row,pvals v.params,pstrs v.vnames,pvals v.vvals]
abbrev penv (v : LEnv) : PV := .agg (encEnv v)
theorem qX {l : List LExpr} {j : Nat} (h : j < l.length) : (l.map aC)[((j : Nat) : Int).toNat]? = some (cz l[j]) := by
 simp [h,bP]
def bf {α : Type} (p : α → Bool) (l : List α) : Int := match l.findIdx? p with
 | some i=>i
 | none=>-1
theorem nW {α : Type} {p : α → Bool} {l : List α} {j : Nat} (hlt : j < l.length) (hpre : ∀ x ∈ l.take j,p x = false) (h : p l[j] = true) : bf p l = (j : Int) := by
 have : l.findIdx? p = some j := by
  rw [List.findIdx?_eq_some_iff_getElem]
  refine ⟨hlt,h,fun i hi=>?_⟩
  have := hpre l[i] (List.mem_take_iff_getElem.2 ⟨i,by omega,rfl⟩)
  simp [this]
 simp [bf,this]
theorem kl {α : Type} {p : α → Bool} {l : List α} (hpre : ∀ x ∈ l,p x = false) : bf p l = -1 := by
 have : l.findIdx? p = none := by
  rw [List.findIdx?_eq_none_iff]
  exact hpre
 simp [bf,this]
theorem nT {α : Type} {p : α → Bool} {l : List α} {j : Nat} (hlt : j < l.length) (hpre : ∀ x ∈ l.take j,p x = false) (h : p l[j] = false) : ∀ x ∈ l.take (j + 1),p x = false := by
 intro x hx
 rw [List.take_add_one,ze hlt] at hx
 simp only [Option.toList,List.mem_append,List.mem_singleton] at hx
 rcases hx with hx | rfl
 ·exact hpre x hx
 ·exact h
theorem bD {n : Int} (h1 : -9223372036854775808 ≤ n) (h2 : n ≤ 9223372036854775807) : IntKind.i64.wrap n = n := by
 simp only [IntKind.wrap,IntKind.bits,IntKind.signed]
 simp
 omega
theorem ft {j : Nat} (h : j < maxLen) : ai (IntKind.i64.wrap ((j : Int) + 1)) = ai ((j + 1 : Nat) : Int) := by
 rw [bD (by omega) (by simp [maxLen] at h; omega)]
 simp
theorem iT {α : Type} {p : α → Bool} {l : List α} : (decide (bf p l ≥ 0)) = l.any p := by
 rw [Bool.eq_iff_iff]
 simp only [decide_eq_true_eq,List.any_eq_true]
 cases h : l.findIdx? p with
 | none =>
  have e : bf p l = -1 := by simp [bf,h]
  rw [List.findIdx?_eq_none_iff] at h
  rw [e]
  constructor
  ·intro h'; omega
  ·rintro ⟨x,hx,hp⟩; rw [h x hx] at hp; cases hp
 | some i =>
  have e : bf p l = (i : Int) := by simp [bf,h]
  rw [List.findIdx?_eq_some_iff_getElem] at h
  rw [e]
  exact ⟨fun _=>⟨_,List.getElem_mem h.1,h.2.1⟩,fun _=>by omega⟩
abbrev Rq := List LVal
abbrev Rz := List (List LVal)
abbrev bS : Int → List PV := fun n=>[ai n]
abbrev cf : Bool → List PV := fun b=>[ay b]
abbrev cj : List UInt8 → List PV := fun s=>[.str s]
abbrev al {α : Type} (e : TypeId) (f : α → List PV) : List α → List PV := fun l=>[.list e (l.map f)]
theorem kT {n : Int} {m j : Nat} (hm : n ≤ 2 ^ 62 ∧ m = n.toNat) (h : decide ((j : Int) < n) = true) : j < (List.range m).length := by
 have := of_decide_eq_true h
 simp
 omega
theorem kX {n : Int} {m j : Nat} (hm : n ≤ 2 ^ 62 ∧ m = n.toNat) (h : decide ((j : Int) < n) = false) : (List.range m).length ≤ j := by
 have := of_decide_eq_false h
 simp
 omega
theorem mA {m j x : Nat} (h : (List.range m)[j]? = some x) : j = x := by
 have := zg.1 h
 obtain ⟨h1,h2⟩ := this
 simpa using h2
theorem fR {n : Int} {m j : Nat} (hm : n ≤ 2 ^ 62 ∧ m = n.toNat) (h : j < (List.range m).length) : ai (IntKind.i64.wrap ((j : Int) + 1)) = ai ((j + 1 : Nat) : Int) := by
 rw [bD (by omega) (by simp at h; omega)]
 simp
end
end Go.Proofs.YtioonpnnfepffaaGreat

namespace Go.Proofs.YtioonpnnfepffaaGreat
noncomputable section
open Go Go.Ab
attribute [local irreducible] V Ao Gh Eff PH
set_option maxRecDepth 4000
theorem indexCol {g : FuncId} {caps : List PV} {p : LCol → Bool} (xs : List LCol) (hg : ∀ (vs : Array Value) (w : World),(callFunc g vs).run Tryz.prog w = .ok (.enter g vs) w) (hp : ∀ x ∈ xs,aL Tryz.prog g (.agg (aR x) :: caps) (ay (p x))) :
  aL Tryz.prog 88 [.list 53 (xs.map aR),.fn g caps] (ai (bf p xs)) := by
 refine PH.ax Tryz.func88 Tryz.ntmps88 ?_
 repeat (first | refine ah tk rfl ?_ | refine ac ?_ | refine ab ?_ | refine aa ?_ | refine av ?_)
 refine gG tk 0 rfl rfl fun hl _=>?_
 refine jT (X := Nat) (fun j=>⟨19,upd (upd (upd (upd (fun _=>.any) 0 (.list 53 (xs.map aR))) 1 (.fn g caps)) 7 (ai (xs.map aR).length)) 8 (ai j),fun _=>none,fun _=>none⟩)
  (fun j=>j ≤ xs.length ∧ ∀ x ∈ xs.take j,p x = false) (fun j=>xs.length - j) 0 ⟨Nat.zero_le _,by simp⟩ (Gh.le (ap (ap (ap (ap aT)))) aI aJ) ?_
 rintro j ⟨hj,hpre⟩
 repeat (first | refine ah tk rfl ?_ | refine ac ?_ | refine ab ?_ | refine aa ?_)
 refine bh rfl (fun h=>?_) (fun h=>?_)
 ·have hlt : j < xs.length := by simpa using h
  have hget : xs[j]? = some xs[j] := ze hlt
  repeat (first | refine ah tk rfl ?_ | refine ac ?_ | refine ab ?_ | refine aa ?_ | refine ao ?_ | refine av ?_)
  refine nU tk rfl rfl rfl rfl rfl rfl (zn j) (r := aR xs[j]) (by simp [hget]) rfl ?_
  repeat (refine ah tk rfl ?_)
  refine aj hg (gK.r) (hp xs[j] (List.getElem_mem hlt)) ?_
  repeat (refine ac ?_)
  refine bh rfl (fun h=>?_) (fun h=>?_)
  ·repeat (first | refine ah tk rfl ?_ | refine ac ?_ | refine ab ?_ | refine aa ?_)
   refine cT tk (PLe.q ?_)
   rw [nW hlt hpre h]
  ·repeat (first | refine ah tk rfl ?_ | refine ac ?_ | refine aa ?_ | refine ao ?_ | refine aG ?_)
   refine kx (j + 1) (by omega) ⟨hlt,?_⟩ (Gh.le (bs (PLe.q ?_) (ap (ap (ap aT)))) aI aJ)
   ·exact nT hlt hpre h
   ·exact ft (by simp at hl; omega)
 ·have hge : j = xs.length := by have : ¬ j < xs.length := by simpa using h
                                 omega
  repeat (first | refine ah tk rfl ?_ | refine ac ?_ | refine ab ?_ | refine aa ?_ | refine bm rfl ?_)
  refine cT tk (PLe.q ?_)
  rw [kl (by rw [hge] at hpre; simpa using hpre)]
theorem indexVal {g : FuncId} {caps : List PV} {p : LVal → Bool} (xs : Rq) (hg : ∀ (vs : Array Value) (w : World),(callFunc g vs).run Tryz.prog w = .ok (.enter g vs) w) (hp : ∀ x ∈ xs,aL Tryz.prog g (.agg (af x) :: caps) (ay (p x))) :
  aL Tryz.prog 125 [.list 48 (xs.map af),.fn g caps] (ai (bf p xs)) := by
 refine PH.ax Tryz.func125 Tryz.ntmps125 ?_
 repeat (first | refine ah tk rfl ?_ | refine ac ?_ | refine ab ?_ | refine aa ?_ | refine av ?_)
 refine gG tk 0 rfl rfl fun hl _=>?_
 refine jT (X := Nat) (fun j=>⟨19,upd (upd (upd (upd (fun _=>.any) 0 (.list 48 (xs.map af))) 1 (.fn g caps)) 7 (ai (xs.map af).length)) 8 (ai j),fun _=>none,fun _=>none⟩)
  (fun j=>j ≤ xs.length ∧ ∀ x ∈ xs.take j,p x = false) (fun j=>xs.length - j) 0 ⟨Nat.zero_le _,by simp⟩ (Gh.le (ap (ap (ap (ap aT)))) aI aJ) ?_
 rintro j ⟨hj,hpre⟩
 repeat (first | refine ah tk rfl ?_ | refine ac ?_ | refine ab ?_ | refine aa ?_)
 refine bh rfl (fun h=>?_) (fun h=>?_)
 ·have hlt : j < xs.length := by simpa using h
  have hget : xs[j]? = some xs[j] := ze hlt
  repeat (first | refine ah tk rfl ?_ | refine ac ?_ | refine ab ?_ | refine aa ?_ | refine ao ?_ | refine av ?_)
  refine nU tk rfl rfl rfl rfl rfl rfl (zn j) (r := af xs[j]) (by simp [hget]) rfl ?_
  repeat (refine ah tk rfl ?_)
  refine aj hg (gK.r) (hp xs[j] (List.getElem_mem hlt)) ?_
  repeat (refine ac ?_)
  refine bh rfl (fun h=>?_) (fun h=>?_)
  ·repeat (first | refine ah tk rfl ?_ | refine ac ?_ | refine ab ?_ | refine aa ?_)
   refine cT tk (PLe.q ?_)
   rw [nW hlt hpre h]
  ·repeat (first | refine ah tk rfl ?_ | refine ac ?_ | refine aa ?_ | refine ao ?_ | refine aG ?_)
   refine kx (j + 1) (by omega) ⟨hlt,?_⟩ (Gh.le (bs (PLe.q ?_) (ap (ap (ap aT)))) aI aJ)
   ·exact nT hlt hpre h
   ·exact ft (by simp at hl; omega)
 ·have hge : j = xs.length := by have : ¬ j < xs.length := by simpa using h
                                 omega
  repeat (first | refine ah tk rfl ?_ | refine ac ?_ | refine ab ?_ | refine aa ?_ | refine bm rfl ?_)
  refine cT tk (PLe.q ?_)
  rw [kl (by rw [hge] at hpre; simpa using hpre)]
theorem db {g : FuncId} {caps : List PV} {p : LVal → Bool} (xs : Rq) (hg : ∀ (vs : Array Value) (w : World),(callFunc g vs).run Tryz.prog w = .ok (.enter g vs) w) (hp : ∀ x ∈ xs,aL Tryz.prog g (.agg (af x) :: caps) (ay (p x))) :
  aL Tryz.prog 111 [.list 48 (xs.map af),.fn g caps] (ay (xs.any p)) := by
 refine PH.ax Tryz.func111 Tryz.ntmps111 ?_
 repeat (first | refine ah tk rfl ?_ | refine ac ?_ | refine ab ?_ | refine aa ?_)
 refine aj Tryz.call125 (gK.r) (indexVal xs hg hp) ?_
 repeat (first | refine ah tk rfl ?_ | refine ac ?_)
 refine cT tk (PLe.q ?_)
 rw [iT]
theorem indexInt {g : FuncId} {caps : List PV} {p : Int → Bool} (xs : List Int) (hg : ∀ (vs : Array Value) (w : World),(callFunc g vs).run Tryz.prog w = .ok (.enter g vs) w) (hp : ∀ x ∈ xs,aL Tryz.prog g (ai x :: caps) (ay (p x))) :
  aL Tryz.prog 143 [.list 3 (xs.map fun x=>[ai x]),.fn g caps] (ai (bf p xs)) := by
 refine PH.ax Tryz.func143 Tryz.ntmps143 ?_
 repeat (first | refine ah tk rfl ?_ | refine ac ?_ | refine ab ?_ | refine aa ?_ | refine av ?_)
 refine gG tk 0 rfl rfl fun hl _=>?_
 refine jT (X := Nat) (fun j=>⟨19,upd (upd (upd (upd (fun _=>.any) 0 (.list 3 (xs.map fun x=>[ai x]))) 1 (.fn g caps)) 7 (ai (xs.map fun x=>[ai x]).length)) 8 (ai j),fun _=>none,fun _=>none⟩)
  (fun j=>j ≤ xs.length ∧ ∀ x ∈ xs.take j,p x = false) (fun j=>xs.length - j) 0 ⟨Nat.zero_le _,by simp⟩ (Gh.le (ap (ap (ap (ap aT)))) aI aJ) ?_
 rintro j ⟨hj,hpre⟩
 repeat (first | refine ah tk rfl ?_ | refine ac ?_ | refine ab ?_ | refine aa ?_)
 refine bh rfl (fun h=>?_) (fun h=>?_)
 ·have hlt : j < xs.length := by simpa using h
  have hget : xs[j]? = some xs[j] := ze hlt
  repeat (first | refine ah tk rfl ?_ | refine ac ?_ | refine ab ?_ | refine aa ?_ | refine ao ?_ | refine av ?_)
  refine nU tk rfl rfl rfl rfl rfl rfl (zn j) (r := [ai xs[j]]) (by simp [hget]) rfl ?_
  repeat (refine ah tk rfl ?_)
  refine aj hg (gK.r) (hp xs[j] (List.getElem_mem hlt)) ?_
  repeat (refine ac ?_)
  refine bh rfl (fun h=>?_) (fun h=>?_)
  ·repeat (first | refine ah tk rfl ?_ | refine ac ?_ | refine ab ?_ | refine aa ?_)
   refine cT tk (PLe.q ?_)
   rw [nW hlt hpre h]
  ·repeat (first | refine ah tk rfl ?_ | refine ac ?_ | refine aa ?_ | refine ao ?_ | refine aG ?_)
   refine kx (j + 1) (by omega) ⟨hlt,?_⟩ (Gh.le (bs (PLe.q ?_) (ap (ap (ap aT)))) aI aJ)
   ·exact nT hlt hpre h
   ·exact ft (by simp at hl; omega)
 ·have hge : j = xs.length := by have : ¬ j < xs.length := by simpa using h
                                 omega
  repeat (first | refine ah tk rfl ?_ | refine ac ?_ | refine ab ?_ | refine aa ?_ | refine bm rfl ?_)
  refine cT tk (PLe.q ?_)
  rw [kl (by rw [hge] at hpre; simpa using hpre)]
theorem containsInt {g : FuncId} {caps : List PV} {p : Int → Bool} (xs : List Int) (hg : ∀ (vs : Array Value) (w : World),(callFunc g vs).run Tryz.prog w = .ok (.enter g vs) w) (hp : ∀ x ∈ xs,aL Tryz.prog g (ai x :: caps) (ay (p x))) :
  aL Tryz.prog 138 [.list 3 (xs.map fun x=>[ai x]),.fn g caps] (ay (xs.any p)) := by
 refine PH.ax Tryz.func138 Tryz.ntmps138 ?_
 repeat (first | refine ah tk rfl ?_ | refine ac ?_ | refine ab ?_ | refine aa ?_)
 refine aj Tryz.call143 (gK.r) (indexInt xs hg hp) ?_
 repeat (first | refine ah tk rfl ?_ | refine ac ?_)
 refine cT tk (PLe.q ?_)
 rw [iT]
theorem cB (s : List UInt8) (xs : List (List UInt8)) :
  aL Tryz.prog 54 [pstrs xs,.str s] (ai (bf (fun x=>s == x) xs)) := by
 refine PH.ax Tryz.func54 Tryz.ntmps54 ?_
 repeat (first | refine ah tk rfl ?_ | refine ac ?_ | refine ab ?_ | refine aa ?_ | refine av ?_)
 refine gG tk 0 rfl rfl fun hl _=>?_
 refine jT (X := Nat) (fun j=>⟨19,upd (upd (upd (upd (fun _=>.any) 0 (pstrs xs)) 1 (.str s)) 7 (ai (xs.map fun s=>[PV.str s]).length)) 8 (ai j),fun _=>none,fun _=>none⟩)
  (fun j=>j ≤ xs.length ∧ ∀ x ∈ xs.take j,(s == x) = false) (fun j=>xs.length - j) 0 ⟨Nat.zero_le _,by simp⟩ (Gh.le (ap (ap (ap (ap aT)))) aI aJ) ?_
 rintro j ⟨hj,hpre⟩
 repeat (first | refine ah tk rfl ?_ | refine ac ?_ | refine ab ?_ | refine aa ?_)
 refine bh rfl (fun h=>?_) (fun h=>?_)
 ·have hlt : j < xs.length := by simpa using h
  have hget : xs[j]? = some xs[j] := ze hlt
  repeat (first | refine ah tk rfl ?_ | refine ac ?_ | refine ab ?_ | refine aa ?_ | refine ao ?_ | refine av ?_)
  refine nU tk rfl rfl rfl rfl rfl rfl (zn j) (r := [.str xs[j]]) (by simp [hget]) rfl ?_
  repeat (first | refine ah tk rfl ?_ | refine ac ?_)
  refine bh rfl (fun h=>?_) (fun h=>?_)
  ·repeat (first | refine ah tk rfl ?_ | refine ac ?_ | refine ab ?_ | refine aa ?_)
   refine cT tk (PLe.q ?_)
   rw [nW hlt hpre h]
  ·repeat (first | refine ah tk rfl ?_ | refine ac ?_ | refine aa ?_ | refine ao ?_ | refine aG ?_)
   refine kx (j + 1) (by omega) ⟨hlt,?_⟩ (Gh.le (bs (PLe.q ?_) (ap (ap (ap aT)))) aI aJ)
   ·exact nT (p := fun x=>s == x) hlt hpre h
   ·exact ft (by simp at hl; omega)
 ·have hge : j = xs.length := by have : ¬ j < xs.length := by simpa using h
                                 omega
  repeat (first | refine ah tk rfl ?_ | refine ac ?_ | refine ab ?_ | refine aa ?_ | refine bm rfl ?_)
  refine cT tk (PLe.q ?_)
  rw [kl (by rw [hge] at hpre; simpa using hpre)]
def eO (v : LVal) : Bool :=
 if v.kind = 0 then decide (v = ⟨0,0,[]⟩) else if v.kind = 1 then v.text == [] && decide (v.int ≥ -1000000000000) && decide (v.int ≤ 1000000000000)
 else if v.kind = 2 then v.text == [] && (v.int == 0 || v.int == 1) else if v.kind = 3 then v.int == 0 && decide (v.text.length ≤ 24) else false
theorem rH (v : LVal) : aL Tryz.prog 36 [jV v] (ay (eO v)) := by
 refine PH.ax Tryz.func36 Tryz.ntmps36 ?_
 repeat' (first | refine ah tk rfl ?_ | refine ac ?_ | refine ab ?_ | refine aa ?_ | refine ao ?_ | refine av ?_ | refine aG ?_ | refine aH ?_ | refine bh rfl (fun h=>?_) (fun h=>?_) | ((fail_if_success refine fO rfl ?_); refine gw rfl rfl rfl (fun h=>?_) (fun h=>?_)))
 all_goals refine cT tk (PLe.q ?_)
 all_goals cases v
 all_goals simp_all [eO]
 ·rename_i x _
  rw [Bool.eq_iff_iff]
  cases x <;> simp
 ·omega
 ·omega
def lx (a b : LVal) : Bool :=
 if a.kind ≠ b.kind then decide (a.kind < b.kind) else if a.int ≠ b.int then decide (a.int < b.int) else Op.bytesLess a.text b.text
theorem lV (a b : LVal) : aL Tryz.prog 117 [jV a,jV b] (ay (lx a b)) := by
 refine PH.ax Tryz.func117 Tryz.ntmps117 ?_
 repeat' (first | refine ah tk rfl ?_ | refine ac ?_ | refine ab ?_ | refine aa ?_ | refine ao ?_ | refine av ?_ | refine aG ?_ | refine aH ?_ | refine bh rfl (fun h=>?_) (fun h=>?_))
 all_goals refine cT tk (PLe.q ?_)
 all_goals simp_all [lx]
def kV (v : LVal) : Bool := v.kind == 2 && v.int == 1
theorem isTS (v : LVal) : aL Tryz.prog 64 [jV v] (ay (kV v)) := by
 refine PH.ax Tryz.func64 Tryz.ntmps64 ?_
 repeat' (first | refine ah tk rfl ?_ | refine ac ?_ | refine ab ?_ | refine aa ?_ | refine aH ?_ | ((fail_if_success refine fO rfl ?_); refine gw rfl rfl rfl (fun h=>?_) (fun h=>?_)))
 all_goals refine cT tk (PLe.q ?_)
 all_goals simp_all [kV]
def lZ (b : Bool) : LVal := ⟨2,if b then 1 else 0,[]⟩
theorem ma (b : Bool) : aL Tryz.prog 109 [ay b] (jV (lZ b)) := by
 refine PH.ax Tryz.func109 Tryz.ntmps109 ?_
 repeat' (first | refine ah tk rfl ?_ | refine ac ?_ | refine ab ?_ | refine aa ?_ | refine ao ?_ | (refine fC tk rfl rfl rfl rfl rfl rfl ?_; intro bk) | refine ak tk ?_ | refine bh rfl (fun h=>?_) (fun h=>?_))
 all_goals refine cn tk (PLe.q ?_)
 all_goals simp_all [lZ]
def intV (n : Int) : LVal := if n < -1000000000000 ∨ n > 1000000000000 then .nul else ⟨1,n,[]⟩
theorem qN (n : Int) : aL Tryz.prog 114 [ai n] (jV (intV n)) := by
 refine PH.ax Tryz.func114 Tryz.ntmps114 ?_
 repeat' (first | refine ah tk rfl ?_ | refine ac ?_ | refine ab ?_ | refine aa ?_ | refine ao ?_ | refine bU rfl ?_ | (refine fC tk rfl rfl rfl rfl rfl rfl ?_; intro bk) | refine ak tk ?_ | refine bh rfl (fun h=>?_) (fun h=>?_) | ((fail_if_success refine fO rfl ?_); refine gw rfl rfl rfl (fun h=>?_) (fun h=>?_)))
 all_goals refine cn tk (PLe.q ?_)
 all_goals simp_all [intV,LVal.nul]
 all_goals (rw [zy (by omega)]; try simp)
def wr (n : Int) : Int := IntKind.i64.wrap n
def nP (op : List UInt8) (a b : Int) : LVal :=
 if op = [43] then intV (wr (a + b)) else if op = [45] then intV (wr (a - b)) else if a = 0 ∨ b = 0 then intV 0
 else if wr ((wr (a * b)).tdiv b) = a then intV (wr (a * b)) else .nul
theorem numberV_spec (op : List UInt8) (a b : Int) : aL Tryz.prog 128 [.str op,ai a,ai b] (jV (nP op a b)) := by
 refine PH.ax Tryz.func128 Tryz.ntmps128 ?_
 repeat' (first | refine ah tk rfl ?_ | refine ac ?_ | refine ab ?_ | refine aa ?_ | refine ao ?_ | refine bU rfl ?_ | refine av ?_ | refine aG ?_ | (refine fC tk rfl rfl rfl rfl rfl rfl ?_; intro bk) | refine ak tk ?_ | refine bh rfl (fun h=>?_) (fun h=>?_) | ((fail_if_success refine fO rfl ?_); refine gw rfl rfl rfl (fun h=>?_) (fun h=>?_)) | (show Ao _ _ _ _ _; first | refine aj Tryz.call114 (gK.r) (qN _) ?_))
 case refine_2.refine_2.refine_2.refine_2 =>
  refine Ao.quo tk rfl rfl rfl rfl (by simpa using h) rfl ?_
  repeat' (first | refine ah tk rfl ?_ | refine ac ?_ | refine ab ?_ | refine aa ?_ | refine ao ?_ | refine ak tk ?_ | refine bh rfl (fun h=>?_) (fun h=>?_) | (show Ao _ _ _ _ _; first | refine aj Tryz.call114 (gK.r) (qN _) ?_))
  all_goals refine cn tk (PLe.q ?_)
  all_goals simp_all [nP,wr,LVal.nul]
 all_goals refine cn tk (PLe.q ?_)
 all_goals simp_all [nP,wr]
end
end Go.Proofs.YtioonpnnfepffaaGreat

namespace Go.Proofs.YtioonpnnfepffaaGreat
noncomputable section
open Go Go.Ab
attribute [local irreducible] V Ao Do Gh Eff PH IntKind.wrap
set_option maxRecDepth 4000
theorem dN (v : LVal) : aL Tryz.prog 112 [jV v] (ay (v.kind == 0)) := by
 refine PH.ax Tryz.func112 Tryz.ntmps112 ?_
 repeat' (first | refine ah tk rfl ?_ | refine ac ?_ | refine ab ?_ | refine aa ?_ | refine aH ?_)
 all_goals refine cT tk (PLe.q rfl)
theorem bothIs_spec (v : LVal) (n : Int) : aL Tryz.prog 124 [jV v,ai n] (ay (v.kind == 2 && v.int == n)) := by
 refine PH.ax Tryz.func124 Tryz.ntmps124 ?_
 repeat' (first | refine ah tk rfl ?_ | refine ac ?_ | refine ab ?_ | refine aa ?_ | refine aH ?_ | ((fail_if_success refine fO rfl ?_); refine gw rfl rfl rfl (fun h=>?_) (fun h=>?_)))
 all_goals refine cT tk (PLe.q ?_)
 all_goals simp_all
theorem se (v : LVal) (n : Int) : aL Tryz.prog 127 [jV v,.ptr [ai n]] (ay (v.kind != n)) := by
 refine PH.ax Tryz.func127 Tryz.ntmps127 ?_
 repeat' (first | refine ah tk rfl ?_ | refine ac ?_ | refine ab ?_ | refine aa ?_ | refine aH ?_)
 all_goals refine cT tk (PLe.q rfl)
theorem la (n : Int) (l : Rq) : aL Tryz.prog 126 [ai n,.ptr [pvals l]] (ay (!(l.any fun v=>v.kind != n))) := by
 refine PH.ax Tryz.func126 Tryz.ntmps126 ?_
 repeat' (first | refine ah tk rfl ?_ | refine ac ?_ | refine ab ?_ | refine aa ?_ | refine aH ?_ | (show Ao _ _ _ _ _; first | refine aj Tryz.call111 (gK.r) (db (p := fun v=>v.kind != n) l Tryz.call127 fun v _=>se v n) ?_))
 all_goals refine cT tk (PLe.q rfl)
def de : List (List UInt8) := [[43],[45],[42],[61],[60],[60,61],[97,110,100],[111,114],[110,111,116],[124,124],[105,115,32,110,117,108,108],[108,101,110,103,116,104],[105,102]]
def opArity : List Int := [2,2,2,2,2,2,2,2,1,2,1,1,3]
theorem gM : aL Tryz.prog 108 [] (.tup [pstrs de,pints opArity]) := by
 refine PH.ax Tryz.func108 Tryz.ntmps108 ?_
 repeat (first | refine ah tk rfl ?_ | refine ac ?_ | refine ab ?_ | refine aa ?_ | refine qT tk rfl rfl rfl rfl rfl rfl ?_)
 refine sL tk rfl rfl rfl (PLe.q ?_)
 rfl
def bothV (a b : LVal) (d : Int) : LVal :=
 if (a.kind == 2 && a.int == d) || (b.kind == 2 && b.int == d) then lZ (d == 1)
 else if (a.kind == 2 && a.int == wr (1 - d)) && (b.kind == 2 && b.int == wr (1 - d)) then lZ (d == 0) else .nul
theorem bothV_spec (a b : LVal) (d : Int) : aL Tryz.prog 110 [jV a,jV b,ai d] (jV (bothV a b d)) := by
 refine PH.ax Tryz.func110 Tryz.ntmps110 ?_
 repeat' (first | refine ah tk rfl ?_ | refine ac ?_ | refine ab ?_ | refine aa ?_ | refine ao ?_ | refine bU rfl ?_ | refine bB rfl ?_ | refine av ?_ | refine aG ?_ | refine aH ?_ | (refine fC tk rfl rfl rfl rfl rfl rfl ?_; intro bk) | refine ak tk ?_ | refine bh rfl (fun h=>?_) (fun h=>?_) | ((fail_if_success refine fO rfl ?_); refine gw rfl rfl rfl (fun h=>?_) (fun h=>?_)) | (show Ao _ _ _ _ _; first | refine aj Tryz.call124 (gK.r) (bothIs_spec _ _) ?_ | refine aj Tryz.call109 (gK.r) (ma _) ?_))
 all_goals refine cn tk (PLe.q ?_)
 all_goals (simp only [bothV,wr, *,Bool.or_true,Bool.true_or,Bool.or_self,Bool.and_self,Bool.and_false,Bool.false_and,Bool.false_eq_true,if_true,if_false]; try rfl)
def ja (n : Int) (l : Rq) : Bool := !(l.any fun v=>v.kind != n)
def je (op : List UInt8) (l : Rq) : LVal :=
 let a := l.getD 0 .nul
 let b := l.getD 1 .nul
 if op == [61] then lZ (decide (a = b)) else if op == [60] then lZ (lx a b) else if op == [60,61] then lZ (!lx b a)
 else if op == [110,111,116] then (if ja 2 l then lZ (a.int == 0) else .nul)
 else if op == [108,101,110,103,116,104] then (if ja 3 l then intV a.text.length else .nul)
 else if op == [124,124] then (if ja 3 l && decide (a.text.length + b.text.length ≤ 24) then ⟨3,0,a.text ++ b.text⟩ else .nul)
 else if ja 1 l then nP op a.int b.int else .nul
theorem valEq (a b : LVal) : (a.kind == b.kind && (a.int == b.int && (a.text == b.text && true))) = decide (a = b) := by
 cases a; cases b
 rw [Bool.eq_iff_iff]
 simp
theorem ru (op : List UInt8) (a : LVal) (hop : op = [110,111,116] ∨ op = [108,101,110,103,116,104]) : aL Tryz.prog 113 [.str op,pvals [a]] (jV (je op [a])) := by
 rcases hop with rfl | rfl
 ·refine PH.ax Tryz.func113 Tryz.ntmps113 ?_
  repeat' (first | refine ah tk rfl ?_ | refine ac ?_ | refine ab ?_ | refine aa ?_ | refine ao ?_ | refine bU rfl ?_ | refine bB rfl ?_ | refine av ?_ | refine aG ?_ | refine aH ?_ | (refine fC tk rfl rfl rfl rfl rfl rfl ?_; intro bk) | refine ak tk ?_ | refine bh rfl (fun h=>?_) (fun h=>?_) | (show Ao _ _ _ _ _; first | refine aj Tryz.call126 (gK.r) (la _ _) ?_ | refine aj Tryz.call109 (gK.r) (ma _) ?_))
  all_goals refine cn tk (PLe.q ?_)
  all_goals simp_all [je,LVal.nul,ja]
 ·refine PH.ax Tryz.func113 Tryz.ntmps113 ?_
  repeat' (first | refine ah tk rfl ?_ | refine ac ?_ | refine ab ?_ | refine aa ?_ | refine ao ?_ | refine bU rfl ?_ | refine bB rfl ?_ | refine av ?_ | refine aG ?_ | refine aH ?_ | (refine fC tk rfl rfl rfl rfl rfl rfl ?_; intro bk) | refine ak tk ?_ | refine bh rfl (fun h=>?_) (fun h=>?_) | (show Ao _ _ _ _ _; first | refine aj Tryz.call126 (gK.r) (la _ _) ?_ | refine aj Tryz.call114 (gK.r) (qN _) ?_))
  all_goals refine cn tk (PLe.q ?_)
  all_goals simp_all [je,LVal.nul,ja]
theorem jJ (op : List UInt8) (a b : LVal) (h1 : (op == [110,111,116]) = false) (h2 : (op == [108,101,110,103,116,104]) = false) : aL Tryz.prog 113 [.str op,pvals [a,b]] (jV (je op [a,b])) := by
 refine PH.ax Tryz.func113 Tryz.ntmps113 ?_
 refine V.textF 1 rfl fun hq=>?_
 have ha : a.text.length ≤ iM := hq (af a) (by simp) _ (by simp)
 have hb : b.text.length ≤ iM := hq (af b) (by simp) _ (by simp)
 clear hq
 repeat' (first | (show Ao _ _ _ _ _; first | refine ah tk rfl ?_ | refine ac ?_ | refine aH ?_ | (refine fC tk rfl rfl rfl rfl rfl rfl ?_; intro bk) | refine ak tk ?_ | refine aj Tryz.call126 (gK.r) (la _ _) ?_ | refine aj Tryz.call109 (gK.r) (ma _) ?_) | (show V _ _ _ _ _; first | refine ab ?_ | refine aa ?_ | refine ao ?_ | refine bB rfl ?_ | refine av ?_ | refine aG ?_ | (show V _ _ _ (.code (.region 6 _ true) :: _) _; refine bo tk mok ⟨false,false,[]⟩ [0,1,2,3,4,5,6,7,8] rfl (by decide +kernel) rfl ?_) | (show V _ _ _ (.code (.region 8 _ true) :: _) _; refine bo tk mok ⟨false,false,[]⟩ [0,1,2,3,4,5,6,7,8] rfl (by decide +kernel) rfl ?_) | (show V _ _ _ (.code (.region 10 _ true) :: _) _; refine bo tk mok ⟨false,false,[]⟩ [0,1,2,3,4,5,6,7,8,9] rfl (by decide +kernel) rfl ?_) | (show V _ _ _ (.code (.region 18 _ true) :: _) _; refine bo tk mok ⟨false,false,[]⟩ [0,1,2,3,4,5,6,7,8,9,10,11,12,13,14,15] rfl (by decide +kernel) rfl ?_) | (show V _ _ _ (.code (.region 19 _ true) :: _) _; refine bo tk mok ⟨false,false,[]⟩ [0,1,2,3,4,5,6,7,8,9,10] rfl (by decide +kernel) rfl ?_) | (show V _ _ _ (.code (.region 4 _ true) :: _) _; refine bo tk mok ⟨false,false,[]⟩ [0,1,2,3,4,5,6,7,8,9,10] rfl (by decide +kernel) rfl ?_) | refine bh rfl (fun h=>?_) (fun h=>?_)) | (show Do _ _ _ _ _ _ _; first | refine bt rfl ?_ | refine bn ?_ | refine bR ?_ | refine aZ Tryz.call126 (gK.r) (la _ _) ?_ | refine aZ Tryz.call109 (gK.r) (ma _) ?_ | refine aZ Tryz.call117 (gK.r) (lV _ _) ?_ | refine aZ Tryz.call128 (gK.r) (numberV_spec _ _ _) ?_ | ((fail_if_success refine mr rfl rfl ?_); refine mJ rfl rfl rfl rfl (fun h=>?_) (fun h=>?_))))
 all_goals have hw : IntKind.i64.wrap ((a.text.length : Int) + (b.text.length : Int)) = (a.text.length : Int) + (b.text.length : Int) := bD (by omega) (by unfold iM at ha hb; omega)
 all_goals try (exfalso; simp_all; done)
 case refine_2.refine_2.refine_2.refine_2.refine_2.refine_1.refine_1.refine_1 =>
  have hc : a.text.length + b.text.length ≤ 24 := by
   simp only [decide_eq_true_eq] at h
   have : IntKind.i64.wrap ((a.text.length : Int) + (b.text.length : Int)) ≤ 24 := h
   omega
  refine Do.cat rfl rfl rfl rfl rfl (by unfold iM; omega) rfl ?_
  repeat (first | refine bt rfl ?_ | refine bn ?_ | refine bR ?_)
  refine cn tk (PLe.q ?_)
  simp_all [je,ja]
 all_goals refine cn tk (PLe.q ?_)
 all_goals try simp only [valEq]
 case refine_2.refine_2.refine_2.refine_2.refine_2.refine_1.refine_1.refine_2 =>
  rw [hw] at h
  have hc : ¬ a.text.length + b.text.length ≤ 24 := by
   simp only [decide_eq_false_iff_not] at h
   omega
  simp_all [je,ja,LVal.nul]
  rw [zy (by omega)]
  exact ⟨rfl,rfl,rfl⟩
 case refine_2.refine_2.refine_2.refine_2.refine_2.refine_1.refine_2 =>
  simp_all [je,ja,LVal.nul]
  rw [zy (fun hh=>h hh.1.1 hh.1.2)]
  exact ⟨rfl,rfl,rfl⟩
 case refine_2.refine_2.refine_2.refine_2.refine_2.refine_2.refine_2 =>
  simp_all [je,ja,LVal.nul]
  rw [zy (fun hh=>h hh.1 hh.2)]
  exact ⟨rfl,rfl,rfl⟩
 all_goals simp_all [je,ja,LVal.nul]
def bW (name : List UInt8) : Option Nat :=
 if name == [43] || name == [45] || name == [42] || name == [61] || name == [60] || name == [60,61] || name == [97,110,100] || name == [111,114] || name == [124,124] then some 2
 else if name == [110,111,116] || name == [105,115,32,110,117,108,108] || name == [108,101,110,103,116,104] then some 1
 else if name == [105,102] then some 3 else none
def bJ (name : List UInt8) (l : Rq) : LVal :=
 let a := l.getD 0 .nul
 let b := l.getD 1 .nul
 let c := l.getD 2 .nul
 if bW name ≠ some l.length then .nul
 else if name == [105,115,32,110,117,108,108] then lZ (a.kind == 0)
 else if name == [105,102] then (if kV a then b else c)
 else if name == [97,110,100] then bothV a b 0
 else if name == [111,114] then bothV a b 1
 else if l.any (fun v=>v.kind == 0) then .nul else je name l
mutual
def cM (v : LEnv) : LExpr → LVal
 | .mk k n i x args =>
  if k == 1 then x
  else if k == 2 then (let j := bf (fun c : LCol=>c.name == n) v.cols
   if 0 ≤ j ∧ j < v.row.length then v.row.getD j.toNat .nul else .nul)
  else if k == 3 then (if 0 ≤ i ∧ i < v.params.length ∧ (v.params.getD i.toNat .nul).kind = x.kind then v.params.getD i.toNat .nul else .nul)
  else if k == 4 then (let j := bf (fun s : List UInt8=>n == s) v.vnames
   if 0 ≤ j ∧ j < v.vvals.length then v.vvals.getD j.toNat .nul else .nul)
  else if k == 5 then bJ n (evalEs v args)
  else .nul
def evalEs (v : LEnv) : List LExpr → Rq
 | []=>[]
 | e :: r=>cM v e :: evalEs v r
end
theorem evalEs_map (v : LEnv) : ∀ l,evalEs v l = l.map (cM v)
 | []=>rfl
 | e :: r=>by simp [evalEs,evalEs_map v r]
theorem it {α : Type} : ∀ {l : List α},l.length = 2 → ∃ a b,l = [a,b]
 | [a,b],_=>⟨a,b,rfl⟩
theorem len3 {α : Type} : ∀ {l : List α},l.length = 3 → ∃ a b c,l = [a,b,c]
 | [a,b,c],_=>⟨a,b,c,rfl⟩
theorem evalRows {v : LEnv} {args : List LExpr} {j : Nat} (h : j < args.length) : ((args.take j).map (cM v)).map af ++ [af (cM v args[j])] = ((args.take (j + 1)).map (cM v)).map af := by
 rw [List.take_add_one,ze h]
 simp only [List.map_append,Option.toList,List.map_cons,List.map_nil]
theorem reckon_spec (v : LEnv) (e : LExpr)
  (ih : ∀ a ∈ e.args,aL Tryz.prog 65 [penv v,jx a] (jV (cM v a))) :
  aL Tryz.prog 90 [penv v,jx e] (jV (bJ e.name (e.args.map (cM v)))) := by
 refine PH.ax Tryz.func90 Tryz.ntmps90 ?_
 repeat (first | refine ah tk rfl ?_ | refine ac ?_ | refine ab ?_ | refine aa ?_ | refine av ?_ | refine aH ?_ | (refine fC tk rfl rfl rfl rfl rfl rfl ?_; intro bk))
 refine gG tk 12 rfl rfl fun hl hby=>?_
 rw [zl] at hl hby
 have hby' : e.args.length * 88 ≤ 2 ^ 47 := hby
 refine ic tk 5 5 (e := 48) rfl rfl ?_
 refine jT (X := Nat × OwnRef) (fun X=>⟨92,upd (upd (upd (upd (upd (upd (upd (fun _=>.any) 5 (.own 5 X.2 (((e.args.take X.1).map (cM v)).map af).length)) 4 (.box 4 bk 0)) 3 (.ptr (cz e))) 2 (.ptr (encEnv v))) 12 (pi e.args)) 13 (ai (e.args.map aC).length)) 14 (ai X.1),upd (fun _=>none) 4 (some ⟨bk,af .nul⟩),upd (fun _=>none) 5 (some ⟨X.2,48,((e.args.take X.1).map (cM v)).map af,true⟩)⟩)
  (fun X=>X.1 ≤ e.args.length) (fun X=>e.args.length - X.1) (0,⟨none,0⟩) (Nat.zero_le _) (Gh.le (ap (ap (ap (ap (ap (ap (ap aT))))))) (aX rfl (gK.r) aI) (aP aJ)) ?_
 rintro ⟨j,g⟩ hj
 replace hj : j ≤ e.args.length := hj
 repeat (first | refine ah tk rfl ?_ | refine ac ?_ | refine ab ?_ | refine aa ?_)
 refine bh rfl (fun h=>?_) (fun h=>?_)
 ·have hlt : j < e.args.length := by simpa using h
  repeat (first | refine ab ?_ | refine aa ?_ | refine ao ?_ | refine av ?_)
  refine aU tk (zn j) (qX hlt) ?_
  repeat (first | refine ah tk rfl ?_ | refine ac ?_ | refine aa ?_ | refine aq tk ?_ | (refine fC tk rfl rfl rfl rfl rfl rfl ?_; intro bk) | refine ak tk ?_)
  refine aj Tryz.call65 (gK.r) (ih _ (List.getElem_mem hlt)) ?_
  repeat (refine qT tk rfl rfl rfl rfl rfl rfl ?_)
  refine rV (rows2 := [af (cM v e.args[j])]) tk rfl rfl rfl rfl rfl rfl rfl rfl rfl rfl rfl rfl rfl ?_ ?_ fun g'=>?_
  ·simp only [zl,List.length_take,List.length_cons,List.length_nil]
   rw [Nat.min_eq_left hj]
   show (j + 1) * 32 ≤ 2 ^ 47
   omega
  ·simp only [zl,List.length_take,List.length_cons,List.length_nil]
   omega
  repeat (first | refine ah tk rfl ?_ | refine ac ?_ | refine aa ?_ | refine aG ?_)
  rw [evalRows hlt]
  refine kx (j + 1,g') ?_ ?_ (Gh.le (bs (PLe.q (ft (by omega))) (ap (ap (ap (ap (ap (ap aT))))))) (aX rfl (gK.r) aI) (aP aJ))
  ·show e.args.length - (j + 1) < e.args.length - j
   omega
  ·exact hlt
 have hge : j = e.args.length := by have : ¬ j < e.args.length := by simpa using h
                                    omega
 subst hge
 refine dZ 5 rfl rfl rfl ?_
 simp only [List.take_length]
 generalize e.args.map (cM v) = L
 refine eh (st' := ⟨92,upd (upd (upd (fun _=>.any) 5 (pvals L)) 4 (.box 4 bk 0)) 3 (.ptr [ai e.kind,.str e.name,ai e.index,ai e.value.kind,ai e.value.int,.str e.value.text,pi e.args]),upd (fun _=>none) 4 (some ⟨bk,af .nul⟩),fun _=>none⟩) (Gh.le (ap (ap (ap aT))) (aX rfl (gK.r) aI) aJ) ?_
 generalize e.name = name
 by_cases hn : name ∈ de
 ·simp only [de,List.mem_cons,List.mem_nil_iff,or_false] at hn
  rcases hn with rfl | rfl | rfl | rfl | rfl | rfl | rfl | rfl | rfl | rfl | rfl | rfl | rfl
  ·have hi : bf (fun x=>[43] == x) de = 0 := by rfl
   by_cases hl : L.length = 2
   ·obtain ⟨a,b,rfl⟩ := it hl
    repeat' (first | (show Ao _ _ _ _ _; first | refine ah tk rfl ?_ | refine ac ?_ | refine ak tk ?_ | refine aj Tryz.call108 (gK.r) (gM) ?_ | refine aj Tryz.call54 (gK.r) (hi ▸ cB _ _) ?_ | refine aj Tryz.call111 (gK.r) (db (p := fun v=>v.kind == 0) _ Tryz.call112 fun v _=>dN v) ?_ | refine aj Tryz.call113 (gK.r) (jJ _ _ _ rfl rfl) ?_) | (show V _ _ _ _ _; first | refine ab ?_ | refine aa ?_ | refine ao ?_ | refine bB rfl ?_ | refine av ?_ | refine aG ?_ | refine bm rfl ?_ | refine bh rfl (fun h=>?_) (fun h=>?_)))
    all_goals refine cn tk (PLe.q ?_)
    all_goals simp_all [bJ,bW,LVal.nul]
   ·repeat' (first | (show Ao _ _ _ _ _; first | refine ah tk rfl ?_ | refine ac ?_ | refine ak tk ?_ | refine aj Tryz.call108 (gK.r) (gM) ?_ | refine aj Tryz.call54 (gK.r) (hi ▸ cB _ _) ?_ | refine aj Tryz.call111 (gK.r) (db (p := fun v=>v.kind == 0) _ Tryz.call112 fun v _=>dN v) ?_) | (show V _ _ _ _ _; first | refine ab ?_ | refine aa ?_ | refine ao ?_ | refine bB rfl ?_ | refine av ?_ | refine aG ?_ | refine bm rfl ?_ | refine bh rfl (fun h=>?_) (fun h=>?_)))
    all_goals try (exfalso; simp_all; omega)
    all_goals refine cn tk (PLe.q ?_)
    all_goals (have : bJ [43] L = .nul := by simp [bJ,bW]; omega)
    all_goals (rw [this]; rfl)
  ·have hi : bf (fun x=>[45] == x) de = 1 := by rfl
   by_cases hl : L.length = 2
   ·obtain ⟨a,b,rfl⟩ := it hl
    repeat' (first | (show Ao _ _ _ _ _; first | refine ah tk rfl ?_ | refine ac ?_ | refine ak tk ?_ | refine aj Tryz.call108 (gK.r) (gM) ?_ | refine aj Tryz.call54 (gK.r) (hi ▸ cB _ _) ?_ | refine aj Tryz.call111 (gK.r) (db (p := fun v=>v.kind == 0) _ Tryz.call112 fun v _=>dN v) ?_ | refine aj Tryz.call113 (gK.r) (jJ _ _ _ rfl rfl) ?_) | (show V _ _ _ _ _; first | refine ab ?_ | refine aa ?_ | refine ao ?_ | refine bB rfl ?_ | refine av ?_ | refine aG ?_ | refine bm rfl ?_ | refine bh rfl (fun h=>?_) (fun h=>?_)))
    all_goals refine cn tk (PLe.q ?_)
    all_goals simp_all [bJ,bW,LVal.nul]
   ·repeat' (first | (show Ao _ _ _ _ _; first | refine ah tk rfl ?_ | refine ac ?_ | refine ak tk ?_ | refine aj Tryz.call108 (gK.r) (gM) ?_ | refine aj Tryz.call54 (gK.r) (hi ▸ cB _ _) ?_ | refine aj Tryz.call111 (gK.r) (db (p := fun v=>v.kind == 0) _ Tryz.call112 fun v _=>dN v) ?_) | (show V _ _ _ _ _; first | refine ab ?_ | refine aa ?_ | refine ao ?_ | refine bB rfl ?_ | refine av ?_ | refine aG ?_ | refine bm rfl ?_ | refine bh rfl (fun h=>?_) (fun h=>?_)))
    all_goals try (exfalso; simp_all; omega)
    all_goals refine cn tk (PLe.q ?_)
    all_goals (have : bJ [45] L = .nul := by simp [bJ,bW]; omega)
    all_goals (rw [this]; rfl)
  ·have hi : bf (fun x=>[42] == x) de = 2 := by rfl
   by_cases hl : L.length = 2
   ·obtain ⟨a,b,rfl⟩ := it hl
    repeat' (first | (show Ao _ _ _ _ _; first | refine ah tk rfl ?_ | refine ac ?_ | refine ak tk ?_ | refine aj Tryz.call108 (gK.r) (gM) ?_ | refine aj Tryz.call54 (gK.r) (hi ▸ cB _ _) ?_ | refine aj Tryz.call111 (gK.r) (db (p := fun v=>v.kind == 0) _ Tryz.call112 fun v _=>dN v) ?_ | refine aj Tryz.call113 (gK.r) (jJ _ _ _ rfl rfl) ?_) | (show V _ _ _ _ _; first | refine ab ?_ | refine aa ?_ | refine ao ?_ | refine bB rfl ?_ | refine av ?_ | refine aG ?_ | refine bm rfl ?_ | refine bh rfl (fun h=>?_) (fun h=>?_)))
    all_goals refine cn tk (PLe.q ?_)
    all_goals simp_all [bJ,bW,LVal.nul]
   ·repeat' (first | (show Ao _ _ _ _ _; first | refine ah tk rfl ?_ | refine ac ?_ | refine ak tk ?_ | refine aj Tryz.call108 (gK.r) (gM) ?_ | refine aj Tryz.call54 (gK.r) (hi ▸ cB _ _) ?_ | refine aj Tryz.call111 (gK.r) (db (p := fun v=>v.kind == 0) _ Tryz.call112 fun v _=>dN v) ?_) | (show V _ _ _ _ _; first | refine ab ?_ | refine aa ?_ | refine ao ?_ | refine bB rfl ?_ | refine av ?_ | refine aG ?_ | refine bm rfl ?_ | refine bh rfl (fun h=>?_) (fun h=>?_)))
    all_goals try (exfalso; simp_all; omega)
    all_goals refine cn tk (PLe.q ?_)
    all_goals (have : bJ [42] L = .nul := by simp [bJ,bW]; omega)
    all_goals (rw [this]; rfl)
  ·have hi : bf (fun x=>[61] == x) de = 3 := by rfl
   by_cases hl : L.length = 2
   ·obtain ⟨a,b,rfl⟩ := it hl
    repeat' (first | (show Ao _ _ _ _ _; first | refine ah tk rfl ?_ | refine ac ?_ | refine ak tk ?_ | refine aj Tryz.call108 (gK.r) (gM) ?_ | refine aj Tryz.call54 (gK.r) (hi ▸ cB _ _) ?_ | refine aj Tryz.call111 (gK.r) (db (p := fun v=>v.kind == 0) _ Tryz.call112 fun v _=>dN v) ?_ | refine aj Tryz.call113 (gK.r) (jJ _ _ _ rfl rfl) ?_) | (show V _ _ _ _ _; first | refine ab ?_ | refine aa ?_ | refine ao ?_ | refine bB rfl ?_ | refine av ?_ | refine aG ?_ | refine bm rfl ?_ | refine bh rfl (fun h=>?_) (fun h=>?_)))
    all_goals refine cn tk (PLe.q ?_)
    all_goals simp_all [bJ,bW,LVal.nul]
   ·repeat' (first | (show Ao _ _ _ _ _; first | refine ah tk rfl ?_ | refine ac ?_ | refine ak tk ?_ | refine aj Tryz.call108 (gK.r) (gM) ?_ | refine aj Tryz.call54 (gK.r) (hi ▸ cB _ _) ?_ | refine aj Tryz.call111 (gK.r) (db (p := fun v=>v.kind == 0) _ Tryz.call112 fun v _=>dN v) ?_) | (show V _ _ _ _ _; first | refine ab ?_ | refine aa ?_ | refine ao ?_ | refine bB rfl ?_ | refine av ?_ | refine aG ?_ | refine bm rfl ?_ | refine bh rfl (fun h=>?_) (fun h=>?_)))
    all_goals try (exfalso; simp_all; omega)
    all_goals refine cn tk (PLe.q ?_)
    all_goals (have : bJ [61] L = .nul := by simp [bJ,bW]; omega)
    all_goals (rw [this]; rfl)
  ·have hi : bf (fun x=>[60] == x) de = 4 := by rfl
   by_cases hl : L.length = 2
   ·obtain ⟨a,b,rfl⟩ := it hl
    repeat' (first | (show Ao _ _ _ _ _; first | refine ah tk rfl ?_ | refine ac ?_ | refine ak tk ?_ | refine aj Tryz.call108 (gK.r) (gM) ?_ | refine aj Tryz.call54 (gK.r) (hi ▸ cB _ _) ?_ | refine aj Tryz.call111 (gK.r) (db (p := fun v=>v.kind == 0) _ Tryz.call112 fun v _=>dN v) ?_ | refine aj Tryz.call113 (gK.r) (jJ _ _ _ rfl rfl) ?_) | (show V _ _ _ _ _; first | refine ab ?_ | refine aa ?_ | refine ao ?_ | refine bB rfl ?_ | refine av ?_ | refine aG ?_ | refine bm rfl ?_ | refine bh rfl (fun h=>?_) (fun h=>?_)))
    all_goals refine cn tk (PLe.q ?_)
    all_goals simp_all [bJ,bW,LVal.nul]
   ·repeat' (first | (show Ao _ _ _ _ _; first | refine ah tk rfl ?_ | refine ac ?_ | refine ak tk ?_ | refine aj Tryz.call108 (gK.r) (gM) ?_ | refine aj Tryz.call54 (gK.r) (hi ▸ cB _ _) ?_ | refine aj Tryz.call111 (gK.r) (db (p := fun v=>v.kind == 0) _ Tryz.call112 fun v _=>dN v) ?_) | (show V _ _ _ _ _; first | refine ab ?_ | refine aa ?_ | refine ao ?_ | refine bB rfl ?_ | refine av ?_ | refine aG ?_ | refine bm rfl ?_ | refine bh rfl (fun h=>?_) (fun h=>?_)))
    all_goals try (exfalso; simp_all; omega)
    all_goals refine cn tk (PLe.q ?_)
    all_goals (have : bJ [60] L = .nul := by simp [bJ,bW]; omega)
    all_goals (rw [this]; rfl)
  ·have hi : bf (fun x=>[60,61] == x) de = 5 := by rfl
   by_cases hl : L.length = 2
   ·obtain ⟨a,b,rfl⟩ := it hl
    repeat' (first | (show Ao _ _ _ _ _; first | refine ah tk rfl ?_ | refine ac ?_ | refine ak tk ?_ | refine aj Tryz.call108 (gK.r) (gM) ?_ | refine aj Tryz.call54 (gK.r) (hi ▸ cB _ _) ?_ | refine aj Tryz.call111 (gK.r) (db (p := fun v=>v.kind == 0) _ Tryz.call112 fun v _=>dN v) ?_ | refine aj Tryz.call113 (gK.r) (jJ _ _ _ rfl rfl) ?_) | (show V _ _ _ _ _; first | refine ab ?_ | refine aa ?_ | refine ao ?_ | refine bB rfl ?_ | refine av ?_ | refine aG ?_ | refine bm rfl ?_ | refine bh rfl (fun h=>?_) (fun h=>?_)))
    all_goals refine cn tk (PLe.q ?_)
    all_goals simp_all [bJ,bW,LVal.nul]
   ·repeat' (first | (show Ao _ _ _ _ _; first | refine ah tk rfl ?_ | refine ac ?_ | refine ak tk ?_ | refine aj Tryz.call108 (gK.r) (gM) ?_ | refine aj Tryz.call54 (gK.r) (hi ▸ cB _ _) ?_ | refine aj Tryz.call111 (gK.r) (db (p := fun v=>v.kind == 0) _ Tryz.call112 fun v _=>dN v) ?_) | (show V _ _ _ _ _; first | refine ab ?_ | refine aa ?_ | refine ao ?_ | refine bB rfl ?_ | refine av ?_ | refine aG ?_ | refine bm rfl ?_ | refine bh rfl (fun h=>?_) (fun h=>?_)))
    all_goals try (exfalso; simp_all; omega)
    all_goals refine cn tk (PLe.q ?_)
    all_goals (have : bJ [60,61] L = .nul := by simp [bJ,bW]; omega)
    all_goals (rw [this]; rfl)
  ·have hi : bf (fun x=>[97,110,100] == x) de = 6 := by rfl
   by_cases hl : L.length = 2
   ·obtain ⟨a,b,rfl⟩ := it hl
    repeat' (first | (show Ao _ _ _ _ _; first | refine ah tk rfl ?_ | refine ac ?_ | refine aj Tryz.call108 (gK.r) (gM) ?_ | refine aj Tryz.call54 (gK.r) (hi ▸ cB _ _) ?_) | (show V _ _ _ _ _; first | refine ab ?_ | refine aa ?_ | refine ao ?_ | refine bU rfl ?_ | refine bB rfl ?_ | refine av ?_ | refine bm rfl ?_ | (show V _ _ _ (.code (.region 19 _ true) :: _) _; refine bo tk mok ⟨false,false,[]⟩ [0,1,2,3,4,5,6,7] rfl (by decide +kernel) rfl ?_)) | (show Do _ _ _ _ _ _ _; first | refine bt rfl ?_ | refine bn ?_ | refine bR ?_ | refine aZ Tryz.call110 (gK.r) (bothV_spec _ _ _) ?_))
    all_goals refine cn tk (PLe.q ?_)
    all_goals simp_all [bJ,bW,LVal.nul]
   ·repeat' (first | (show Ao _ _ _ _ _; first | refine ah tk rfl ?_ | refine ac ?_ | refine ak tk ?_ | refine aj Tryz.call108 (gK.r) (gM) ?_ | refine aj Tryz.call54 (gK.r) (hi ▸ cB _ _) ?_) | (show V _ _ _ _ _; first | refine ab ?_ | refine aa ?_ | refine ao ?_ | refine bU rfl ?_ | refine bB rfl ?_ | refine av ?_ | refine bm rfl ?_ | (show V _ _ _ (.code (.region 19 _ true) :: _) _; refine bo tk mok ⟨false,false,[]⟩ [0,1,2,3,4,5,6,7] rfl (by decide +kernel) rfl ?_) | refine bh rfl (fun h=>?_) (fun h=>?_)) | (show Do _ _ _ _ _ _ _; first | refine bt rfl ?_))
    all_goals try (exfalso; simp_all; omega)
    all_goals refine cn tk (PLe.q ?_)
    all_goals (have : bJ [97,110,100] L = .nul := by simp [bJ,bW]; omega)
    all_goals (rw [this]; rfl)
  ·have hi : bf (fun x=>[111,114] == x) de = 7 := by rfl
   by_cases hl : L.length = 2
   ·obtain ⟨a,b,rfl⟩ := it hl
    repeat' (first | (show Ao _ _ _ _ _; first | refine ah tk rfl ?_ | refine ac ?_ | refine aj Tryz.call108 (gK.r) (gM) ?_ | refine aj Tryz.call54 (gK.r) (hi ▸ cB _ _) ?_) | (show V _ _ _ _ _; first | refine ab ?_ | refine aa ?_ | refine ao ?_ | refine bU rfl ?_ | refine bB rfl ?_ | refine av ?_ | refine bm rfl ?_ | (show V _ _ _ (.code (.region 21 _ true) :: _) _; refine bo tk mok ⟨false,false,[]⟩ [0,1,2,3,4,5,6,7] rfl (by decide +kernel) rfl ?_)) | (show Do _ _ _ _ _ _ _; first | refine bt rfl ?_ | refine bn ?_ | refine bR ?_ | refine aZ Tryz.call110 (gK.r) (bothV_spec _ _ _) ?_))
    all_goals refine cn tk (PLe.q ?_)
    all_goals simp_all [bJ,bW,LVal.nul]
   ·repeat' (first | (show Ao _ _ _ _ _; first | refine ah tk rfl ?_ | refine ac ?_ | refine ak tk ?_ | refine aj Tryz.call108 (gK.r) (gM) ?_ | refine aj Tryz.call54 (gK.r) (hi ▸ cB _ _) ?_) | (show V _ _ _ _ _; first | refine ab ?_ | refine aa ?_ | refine ao ?_ | refine bU rfl ?_ | refine bB rfl ?_ | refine av ?_ | refine bm rfl ?_ | (show V _ _ _ (.code (.region 21 _ true) :: _) _; refine bo tk mok ⟨false,false,[]⟩ [0,1,2,3,4,5,6,7] rfl (by decide +kernel) rfl ?_) | refine bh rfl (fun h=>?_) (fun h=>?_)) | (show Do _ _ _ _ _ _ _; first | refine bt rfl ?_))
    all_goals try (exfalso; simp_all; omega)
    all_goals refine cn tk (PLe.q ?_)
    all_goals (have : bJ [111,114] L = .nul := by simp [bJ,bW]; omega)
    all_goals (rw [this]; rfl)
  ·have hi : bf (fun x=>[110,111,116] == x) de = 8 := by rfl
   by_cases hl : L.length = 1
   ·obtain ⟨a,rfl⟩ := List.length_eq_one_iff.1 hl
    repeat' (first | (show Ao _ _ _ _ _; first | refine ah tk rfl ?_ | refine ac ?_ | refine ak tk ?_ | refine aj Tryz.call108 (gK.r) (gM) ?_ | refine aj Tryz.call54 (gK.r) (hi ▸ cB _ _) ?_ | refine aj Tryz.call111 (gK.r) (db (p := fun v=>v.kind == 0) _ Tryz.call112 fun v _=>dN v) ?_ | refine rT (g := 113) rfl rfl rfl Tryz.call113 (gK.r) (ru _ _ (by simp)) rfl ?_) | (show V _ _ _ _ _; first | refine ab ?_ | refine aa ?_ | refine ao ?_ | refine bB rfl ?_ | refine av ?_ | refine aG ?_ | refine bm rfl ?_ | refine bh rfl (fun h=>?_) (fun h=>?_)))
    all_goals refine cn tk (PLe.q ?_)
    all_goals simp_all [bJ,bW,LVal.nul]
   ·repeat' (first | (show Ao _ _ _ _ _; first | refine ah tk rfl ?_ | refine ac ?_ | refine ak tk ?_ | refine aj Tryz.call108 (gK.r) (gM) ?_ | refine aj Tryz.call54 (gK.r) (hi ▸ cB _ _) ?_ | refine aj Tryz.call111 (gK.r) (db (p := fun v=>v.kind == 0) _ Tryz.call112 fun v _=>dN v) ?_) | (show V _ _ _ _ _; first | refine ab ?_ | refine aa ?_ | refine ao ?_ | refine bB rfl ?_ | refine av ?_ | refine aG ?_ | refine bm rfl ?_ | refine bh rfl (fun h=>?_) (fun h=>?_)))
    all_goals try (exfalso; simp_all; omega)
    all_goals refine cn tk (PLe.q ?_)
    all_goals (have : bJ [110,111,116] L = .nul := by simp [bJ,bW]; omega)
    all_goals (rw [this]; rfl)
  ·have hi : bf (fun x=>[124,124] == x) de = 9 := by rfl
   by_cases hl : L.length = 2
   ·obtain ⟨a,b,rfl⟩ := it hl
    repeat' (first | (show Ao _ _ _ _ _; first | refine ah tk rfl ?_ | refine ac ?_ | refine ak tk ?_ | refine aj Tryz.call108 (gK.r) (gM) ?_ | refine aj Tryz.call54 (gK.r) (hi ▸ cB _ _) ?_ | refine aj Tryz.call111 (gK.r) (db (p := fun v=>v.kind == 0) _ Tryz.call112 fun v _=>dN v) ?_ | refine aj Tryz.call113 (gK.r) (jJ _ _ _ rfl rfl) ?_) | (show V _ _ _ _ _; first | refine ab ?_ | refine aa ?_ | refine ao ?_ | refine bB rfl ?_ | refine av ?_ | refine aG ?_ | refine bm rfl ?_ | refine bh rfl (fun h=>?_) (fun h=>?_)))
    all_goals refine cn tk (PLe.q ?_)
    all_goals simp_all [bJ,bW,LVal.nul]
   ·repeat' (first | (show Ao _ _ _ _ _; first | refine ah tk rfl ?_ | refine ac ?_ | refine ak tk ?_ | refine aj Tryz.call108 (gK.r) (gM) ?_ | refine aj Tryz.call54 (gK.r) (hi ▸ cB _ _) ?_ | refine aj Tryz.call111 (gK.r) (db (p := fun v=>v.kind == 0) _ Tryz.call112 fun v _=>dN v) ?_) | (show V _ _ _ _ _; first | refine ab ?_ | refine aa ?_ | refine ao ?_ | refine bB rfl ?_ | refine av ?_ | refine aG ?_ | refine bm rfl ?_ | refine bh rfl (fun h=>?_) (fun h=>?_)))
    all_goals try (exfalso; simp_all; omega)
    all_goals refine cn tk (PLe.q ?_)
    all_goals (have : bJ [124,124] L = .nul := by simp [bJ,bW]; omega)
    all_goals (rw [this]; rfl)
  ·have hi : bf (fun x=>[105,115,32,110,117,108,108] == x) de = 10 := by rfl
   by_cases hl : L.length = 1
   ·obtain ⟨a,rfl⟩ := List.length_eq_one_iff.1 hl
    repeat' (first | (show Ao _ _ _ _ _; first | refine ah tk rfl ?_ | refine ac ?_ | refine ak tk ?_ | refine aj Tryz.call108 (gK.r) (gM) ?_ | refine aj Tryz.call54 (gK.r) (hi ▸ cB _ _) ?_ | refine aj Tryz.call109 (gK.r) (ma _) ?_) | (show V _ _ _ _ _; first | refine ab ?_ | refine aa ?_ | refine ao ?_ | refine bU rfl ?_ | refine bB rfl ?_ | refine av ?_ | refine bm rfl ?_))
    all_goals refine cn tk (PLe.q ?_)
    all_goals simp_all [bJ,bW,LVal.nul]
   ·repeat' (first | (show Ao _ _ _ _ _; first | refine ah tk rfl ?_ | refine ac ?_ | refine ak tk ?_ | refine aj Tryz.call108 (gK.r) (gM) ?_ | refine aj Tryz.call54 (gK.r) (hi ▸ cB _ _) ?_) | (show V _ _ _ _ _; first | refine ab ?_ | refine aa ?_ | refine ao ?_ | refine bU rfl ?_ | refine av ?_ | refine bm rfl ?_ | refine bh rfl (fun h=>?_) (fun h=>?_)))
    all_goals try (exfalso; simp_all; omega)
    all_goals refine cn tk (PLe.q ?_)
    all_goals (have : bJ [105,115,32,110,117,108,108] L = .nul := by simp [bJ,bW]; omega)
    all_goals (rw [this]; rfl)
  ·have hi : bf (fun x=>[108,101,110,103,116,104] == x) de = 11 := by rfl
   by_cases hl : L.length = 1
   ·obtain ⟨a,rfl⟩ := List.length_eq_one_iff.1 hl
    repeat' (first | (show Ao _ _ _ _ _; first | refine ah tk rfl ?_ | refine ac ?_ | refine ak tk ?_ | refine aj Tryz.call108 (gK.r) (gM) ?_ | refine aj Tryz.call54 (gK.r) (hi ▸ cB _ _) ?_ | refine aj Tryz.call111 (gK.r) (db (p := fun v=>v.kind == 0) _ Tryz.call112 fun v _=>dN v) ?_ | refine rT (g := 113) rfl rfl rfl Tryz.call113 (gK.r) (ru _ _ (by simp)) rfl ?_) | (show V _ _ _ _ _; first | refine ab ?_ | refine aa ?_ | refine ao ?_ | refine bB rfl ?_ | refine av ?_ | refine aG ?_ | refine bm rfl ?_ | refine bh rfl (fun h=>?_) (fun h=>?_)))
    all_goals refine cn tk (PLe.q ?_)
    all_goals simp_all [bJ,bW,LVal.nul]
   ·repeat' (first | (show Ao _ _ _ _ _; first | refine ah tk rfl ?_ | refine ac ?_ | refine ak tk ?_ | refine aj Tryz.call108 (gK.r) (gM) ?_ | refine aj Tryz.call54 (gK.r) (hi ▸ cB _ _) ?_ | refine aj Tryz.call111 (gK.r) (db (p := fun v=>v.kind == 0) _ Tryz.call112 fun v _=>dN v) ?_) | (show V _ _ _ _ _; first | refine ab ?_ | refine aa ?_ | refine ao ?_ | refine bB rfl ?_ | refine av ?_ | refine aG ?_ | refine bm rfl ?_ | refine bh rfl (fun h=>?_) (fun h=>?_)))
    all_goals try (exfalso; simp_all; omega)
    all_goals refine cn tk (PLe.q ?_)
    all_goals (have : bJ [108,101,110,103,116,104] L = .nul := by simp [bJ,bW]; omega)
    all_goals (rw [this]; rfl)
  ·have hi : bf (fun x=>[105,102] == x) de = 12 := by rfl
   by_cases hl : L.length = 3
   ·obtain ⟨a,b,c,rfl⟩ := len3 hl
    repeat' (first | (show Ao _ _ _ _ _; first | refine ah tk rfl ?_ | refine ac ?_ | refine ak tk ?_ | refine aj Tryz.call108 (gK.r) (gM) ?_ | refine aj Tryz.call54 (gK.r) (hi ▸ cB _ _) ?_ | refine aj Tryz.call64 (gK.r) (isTS _) ?_) | (show V _ _ _ _ _; first | refine ab ?_ | refine aa ?_ | refine ao ?_ | refine bU rfl ?_ | refine bB rfl ?_ | refine av ?_ | refine bm rfl ?_ | refine bh rfl (fun h=>?_) (fun h=>?_)))
    all_goals refine cn tk (PLe.q ?_)
    all_goals simp_all [bJ,bW,LVal.nul]
   ·repeat' (first | (show Ao _ _ _ _ _; first | refine ah tk rfl ?_ | refine ac ?_ | refine ak tk ?_ | refine aj Tryz.call108 (gK.r) (gM) ?_ | refine aj Tryz.call54 (gK.r) (hi ▸ cB _ _) ?_) | (show V _ _ _ _ _; first | refine ab ?_ | refine aa ?_ | refine ao ?_ | refine bU rfl ?_ | refine bB rfl ?_ | refine av ?_ | refine bm rfl ?_ | refine bh rfl (fun h=>?_) (fun h=>?_)))
    all_goals try (exfalso; simp_all; omega)
    all_goals refine cn tk (PLe.q ?_)
    all_goals (have : bJ [105,102] L = .nul := by simp [bJ,bW]; omega)
    all_goals (rw [this]; rfl)
 have hi : bf (fun x=>name == x) de = -1 := kl fun x hx=>by
  cases hb : name == x with
  | false=>rfl
  | true=>exact absurd (by rw [eq_of_beq hb]; exact hx) hn
 repeat' (first | (show Ao _ _ _ _ _; first | refine ah tk rfl ?_ | refine ac ?_ | refine ak tk ?_ | refine aj Tryz.call108 (gK.r) (gM) ?_ | refine aj Tryz.call54 (gK.r) (hi ▸ cB _ _) ?_) | (show V _ _ _ _ _; first | refine ab ?_ | refine aa ?_ | refine bU rfl ?_ | refine bm rfl ?_))
 all_goals refine cn tk (PLe.q ?_)
 have : bW name = none := by
  simp only [de,List.mem_cons,List.mem_nil_iff,or_false,not_or] at hn
  simp [bW,hn]
 have : bJ name L = .nul := by simp [bJ,this]
 rw [this]
 rfl
theorem colName_spec (c : LCol) (e : LExpr) : aL Tryz.prog 89 [pcol c,.ptr (cz e)] (ay (c.name == e.name)) := by
 refine PH.ax Tryz.func89 Tryz.ntmps89 ?_
 repeat' (first | (show Ao _ _ _ _ _; first | refine ah tk rfl ?_ | refine ac ?_ | refine aH ?_) | (show V _ _ _ _ _; first | refine ab ?_ | refine aa ?_))
 all_goals refine cT tk (PLe.q rfl)
theorem getVal {l : Rq} {j : Int} (h0 : 0 ≤ j) (h : j < ((l.map af).length : Int)) : (l.map af)[j.toNat]? = some (af (l.getD j.toNat .nul)) := by
 simp at h
 have : j.toNat < l.length := by omega
 simp [this]
theorem pZ (v : LEnv) (e : LExpr) : cM v e =
  if e.kind == 1 then e.value
  else if e.kind == 2 then (if 0 ≤ bf (fun c : LCol=>c.name == e.name) v.cols ∧ bf (fun c : LCol=>c.name == e.name) v.cols < v.row.length then v.row.getD (bf (fun c : LCol=>c.name == e.name) v.cols).toNat .nul else .nul)
  else if e.kind == 3 then (if 0 ≤ e.index ∧ e.index < v.params.length ∧ (v.params.getD e.index.toNat .nul).kind = e.value.kind then v.params.getD e.index.toNat .nul else .nul)
  else if e.kind == 4 then (if 0 ≤ bf (fun s : List UInt8=>e.name == s) v.vnames ∧ bf (fun s : List UInt8=>e.name == s) v.vnames < v.vvals.length then v.vvals.getD (bf (fun s : List UInt8=>e.name == s) v.vnames).toNat .nul else .nul)
  else if e.kind == 5 then bJ e.name (e.args.map (cM v))
  else .nul := by
 cases e
 rw [cM,evalEs_map]
 rfl
theorem evalStep (v : LEnv) (e : LExpr) (ih : ∀ a ∈ e.args,aL Tryz.prog 65 [penv v,jx a] (jV (cM v a))) :
  aL Tryz.prog 65 [penv v,jx e] (jV (cM v e)) := by
 refine PH.ax Tryz.func65 Tryz.ntmps65 ?_
 repeat' (first | (show Ao _ _ _ _ _; first | refine ah tk rfl ?_ | refine ac ?_ | refine aH ?_ | (refine fC tk rfl rfl rfl rfl rfl rfl ?_; intro bk) | refine ak tk ?_ | refine aj Tryz.call88 (gK.r) (indexCol (p := fun c=>c.name == e.name) _ Tryz.call89 fun c _=>colName_spec c e) ?_ | refine aj Tryz.call54 (gK.r) (cB _ _) ?_ | refine aj Tryz.call90 (gK.r) (reckon_spec v e ih) ?_ | refine nU tk rfl rfl rfl rfl rfl rfl (of_decide_eq_true (by assumption)) (getVal (of_decide_eq_true (by assumption)) (of_decide_eq_true (by assumption))) rfl ?_ | ((fail_if_success refine fO rfl ?_); refine gw rfl rfl rfl (fun h=>?_) (fun h=>?_))) | (show V _ _ _ _ _; first | refine ab ?_ | refine aa ?_ | refine ao ?_ | refine bB rfl ?_ | refine av ?_ | refine aG ?_ | (show V _ _ _ (.code (.region 9 _ true) :: _) _; refine bo tk mok ⟨false,false,[]⟩ [0,1,2,3,4,5,6,7,8,9,10,11,12,13,14,15,16,17,18,19,20,21,22,23] rfl (by decide +kernel) rfl ?_) | refine bh rfl (fun h=>?_) (fun h=>?_)) | (show Do _ _ _ _ _ _ _; first | refine bt rfl ?_ | refine bn ?_ | refine sO rfl rfl rfl rfl rfl rfl rfl (of_decide_eq_true (by assumption)) (getVal (of_decide_eq_true (by assumption)) (of_decide_eq_true (by assumption))) rfl ?_ | ((fail_if_success refine mr rfl rfl ?_); refine mJ rfl rfl rfl rfl (fun h=>?_) (fun h=>?_))))
 all_goals refine cn tk (PLe.q ?_)
 all_goals rw [pZ]
 all_goals simp_all [LVal.nul]
 all_goals rw [zy (by omega)]
 all_goals exact ⟨rfl,rfl,rfl⟩
theorem mY (v : LEnv) : ∀ e : LExpr,aL Tryz.prog 65 [penv v,jx e] (jV (cM v e))
 | .mk k n i x args=>evalStep v (.mk k n i x args) fun a ha=>by
  have ha' : a ∈ args := ha
  exact mY v a
def lit (v : LVal) : LExpr := .mk 1 [] 0 v []
def mI (acc r : Int × Int) : Int × Int := (wr (acc.1 + r.1),if r.2 > acc.2 then r.2 else acc.2)
mutual
def iO : LExpr → Int × Int
 | .mk _ _ _ _ args=>let r := (sizesE args).foldl mI (1,0); (r.1,wr (r.2 + 1))
def sizesE : List LExpr → List (Int × Int)
 | []=>[]
 | e :: r=>iO e :: sizesE r
end
theorem sizesE_map : ∀ l,sizesE l = l.map iO
 | []=>rfl
 | e :: r=>by simp [sizesE,sizesE_map r]
theorem sizeE_eq (e : LExpr) : iO e = (((e.args.map iO).foldl mI (1,0)).1,wr (((e.args.map iO).foldl mI (1,0)).2 + 1)) := by
 cases e
 rw [iO,sizesE_map]
 rfl
theorem foldl_take {α β : Type} (g : β → α → β) (z : β) {l : List α} {j : Nat} (h : j < l.length) : (l.take (j + 1)).foldl g z = g ((l.take j).foldl g z) l[j] := by
 rw [List.take_add_one,ze h,List.foldl_append]
 rfl
theorem sizeStep_spec (e : LExpr) (ih : ∀ a ∈ e.args,aL Tryz.prog 122 [jx a] (.tup [ai (iO a).1,ai (iO a).2])) :
  aL Tryz.prog 122 [jx e] (.tup [ai (iO e).1,ai (iO e).2]) := by
 refine PH.ax Tryz.func122 Tryz.ntmps122 ?_
 repeat (first | refine ah tk rfl ?_ | refine ac ?_ | refine ab ?_ | refine aa ?_ | refine av ?_ | refine aH ?_)
 refine gG tk 11 rfl rfl fun hl _=>?_
 rw [zl] at hl
 refine jT (X := Nat) (fun j=>⟨32,upd (upd (upd (upd (upd (fun _=>.any) 5 (ai (((e.args.map iO).take j).foldl mI (1,0)).2)) 4 (ai (((e.args.map iO).take j).foldl mI (1,0)).1)) 11 (pi e.args)) 12 (ai (e.args.map aC).length)) 13 (ai j),fun _=>none,fun _=>none⟩)
  (fun j=>j ≤ e.args.length) (fun j=>e.args.length - j) 0 (Nat.zero_le _) (Gh.le (ap (ap (ap (ap (ap aT))))) aI aJ) ?_
 intro j hj
 repeat (first | refine ah tk rfl ?_ | refine ac ?_ | refine ab ?_ | refine aa ?_)
 refine bh rfl (fun h=>?_) (fun h=>?_)
 ·have hlt : j < e.args.length := by simpa using h
  repeat (first | refine ab ?_ | refine aa ?_ | refine ao ?_ | refine av ?_)
  refine aU tk (zn j) (qX hlt) ?_
  repeat (first | refine ah tk rfl ?_ | refine ac ?_ | refine ab ?_ | refine aa ?_ | refine aq tk ?_ | (refine fC tk rfl rfl rfl rfl rfl rfl ?_; intro bk) | refine ak tk ?_)
  refine aj Tryz.call122 (gK.r) (ih _ (List.getElem_mem hlt)) ?_
  repeat (first | refine ah tk rfl ?_ | refine ac ?_ | refine aa ?_ | refine aG ?_)
  have e1 := foldl_take mI (1,0) (l := e.args.map iO) (j := j) (by simpa using hlt)
  rw [List.getElem_map] at e1
  refine kx (j + 1) (by omega) hlt (Gh.le (bs (PLe.q (ft (by omega))) (ap (ap (bs (PLe.q (by rw [e1]; rfl)) (bs (PLe.q (by rw [e1]; rfl)) aT))))) aI aJ)
 have hge : j = e.args.length := by have : ¬ j < e.args.length := by simpa using h
                                    omega
 subst hge
 rw [show (e.args.map iO).take e.args.length = e.args.map iO from by rw [List.take_of_length_le]; simp]
 repeat (first | refine ah tk rfl ?_ | refine ac ?_ | refine ab ?_ | refine aa ?_ | refine bm rfl ?_)
 refine sL tk rfl rfl rfl (PLe.q ?_)
 rw [sizeE_eq]
 rfl
theorem size_spec : ∀ e : LExpr,aL Tryz.prog 122 [jx e] (.tup [ai (iO e).1,ai (iO e).2])
 | .mk k n i x args=>sizeStep_spec (.mk k n i x args) fun a ha=>by
  have ha' : a ∈ args := ha
  exact size_spec a
def oy (c : UInt8) : Bool := (decide ((c.toNat : Int) ≥ 97) && decide ((c.toNat : Int) ≤ 122)) || (decide ((c.toNat : Int) ≥ 48) && decide ((c.toNat : Int) ≤ 57))
theorem inner_spec (c : UInt8) : aL Tryz.prog 131 [.val (.int .u8 c.toNat)] (ay (oy c)) := by
 refine PH.ax Tryz.func131 Tryz.ntmps131 ?_
 repeat' (first | (show Ao _ _ _ _ _; first | refine ah tk rfl ?_ | refine ac ?_ | ((fail_if_success refine fO rfl ?_); refine gw rfl rfl rfl (fun h=>?_) (fun h=>?_))) | (show V _ _ _ _ _; first | refine ab ?_ | refine aa ?_))
 all_goals refine cT tk (PLe.q ?_)
 all_goals simp_all [oy]
 all_goals omega
theorem colIs_spec (c : LCol) (name : List UInt8) : aL Tryz.prog 136 [pcol c,.ptr [.str name]] (ay (c.name == name)) := by
 refine PH.ax Tryz.func136 Tryz.ntmps136 ?_
 repeat' (first | (show Ao _ _ _ _ _; first | refine ah tk rfl ?_ | refine ac ?_ | refine aH ?_) | (show V _ _ _ _ _; first | refine ab ?_ | refine aa ?_))
 all_goals refine cT tk (PLe.q rfl)
def kE (l : List LCol) (name : List UInt8) : LCol × Bool :=
 let i := bf (fun c : LCol=>c.name == name) l
 if i < 0 then (⟨[],0,false⟩,false) else (l.getD i.toNat ⟨[],0,false⟩,true)
theorem getCol {l : List LCol} {j : Int} (h0 : 0 ≤ j) (h : j < l.length) : (l.map aR)[j.toNat]? = some (aR (l.getD j.toNat ⟨[],0,false⟩)) := by
 have : j.toNat < l.length := by omega
 simp [this]
theorem idxOf_lt {α : Type} {p : α → Bool} {l : List α} : bf p l < l.length := by
 simp only [bf]
 split
 ·rename_i i h
  have := (List.findIdx?_eq_some_iff_getElem.1 h).1
  omega
 ·omega
theorem find_spec (l : List LCol) (name : List UInt8) : aL Tryz.prog 133 [jM l,.str name] (.tup [pcol (kE l name).1,ay (kE l name).2]) := by
 refine PH.ax Tryz.func133 Tryz.ntmps133 ?_
 repeat' (first | (show Ao _ _ _ _ _; first | refine ah tk rfl ?_ | refine ac ?_ | refine aH ?_ | (refine fC tk rfl rfl rfl rfl rfl rfl ?_; intro bk) | refine ak tk ?_ | refine aj Tryz.call88 (gK.r) (indexCol (p := fun c=>c.name == name) _ Tryz.call136 fun c _=>colIs_spec c name) ?_ | refine nU tk rfl rfl rfl rfl rfl rfl (Int.not_lt.1 (of_decide_eq_false (by assumption))) (getCol (Int.not_lt.1 (of_decide_eq_false (by assumption))) idxOf_lt) rfl ?_) | (show V _ _ _ _ _; first | refine ab ?_ | refine aa ?_ | refine ao ?_ | refine bh rfl (fun h=>?_) (fun h=>?_)))
 all_goals refine V.retCT tk rfl rfl rfl rfl rfl rfl (PLe.q ?_)
 all_goals simp_all [kE]
 all_goals rw [zy (by omega)]
 all_goals exact ⟨⟨rfl,rfl,rfl⟩,rfl⟩
def dp (s : List UInt8) : Bool := decide (1 ≤ s.length) && decide (s.length ≤ 12) && (match s with | []=>false | c :: _=>decide (c.toNat ≥ 97) && decide (c.toNat ≤ 122)) && s.all oy
theorem idxStrAt {l : List UInt8} {j : Nat} (h : j < l.length) : l[((j : Nat) : Int).toNat]? = some l[j] := by simp [h]
theorem mm (s : List UInt8) : aL Tryz.prog 120 [.str s] (ay (dp s)) := by
 cases s with
 | nil =>
  refine PH.ax Tryz.func120 Tryz.ntmps120 ?_
  repeat' (first | (show Ao _ _ _ _ _; first | refine ah tk rfl ?_ | refine ac ?_) | (show V _ _ _ _ _; first | refine ab ?_ | refine aa ?_ | refine bU rfl ?_))
  all_goals refine cT tk (PLe.q rfl)
 | cons c s =>
  refine PH.ax Tryz.func120 Tryz.ntmps120 ?_
  refine V.strF 0 rfl fun hl=>?_
  repeat' (first | (show Ao _ _ _ _ _; first | refine ah tk rfl ?_ | refine ac ?_ | ((fail_if_success refine fO rfl ?_); refine gw rfl rfl rfl (fun h=>?_) (fun h=>?_))) | (show V _ _ _ _ _; first | refine ab ?_ | refine aa ?_ | refine ao ?_ | refine bU rfl ?_ | refine av ?_ | refine bh rfl (fun h=>?_) (fun h=>?_)))
  case cons.refine_1 =>
   refine cT tk (PLe.q ?_)
   have : ¬ (c :: s).length ≤ 12 := by simp only [decide_eq_true_eq] at h; omega
   have : dp (c :: s) = false := by simp only [dp,this]; simp
   rw [this]
  case cons.refine_2.refine_1 =>
   refine cT tk (PLe.q ?_)
   have : ¬ c.toNat ≥ 97 := by simp only [decide_eq_true_eq] at h; omega
   simp [dp,this]
  case cons.refine_2.refine_2.refine_1 =>
   refine cT tk (PLe.q ?_)
   have : ¬ c.toNat ≤ 122 := by simp only [decide_eq_true_eq] at h; omega
   simp [dp,this]
  rename_i h1 h2
  have hs : dp (c :: s) = (c :: s).all oy := by
   simp only [decide_eq_false_iff_not] at h1 h2 h
   have e1 : (c :: s).length ≤ 12 := by omega
   have e2 : c.toNat ≥ 97 := by omega
   have e3 : c.toNat ≤ 122 := by omega
   simp only [dp,e1,e2,e3]
   simp
  rw [hs]
  clear hs h h1 h2
  generalize hL : c :: s = L at *
  refine jT (X := Nat) (fun j=>⟨33,upd (upd (upd (fun _=>.any) 0 (.str L)) 23 (ai L.length)) 24 (ai j),fun _=>none,fun _=>none⟩)
   (fun j=>j ≤ L.length ∧ ∀ x ∈ L.take j,oy x = true) (fun j=>L.length - j) 0 ⟨Nat.zero_le _,by simp⟩ (Gh.le (ap (ap (ap aT))) aI aJ) ?_
  rintro j ⟨hj,hpre⟩
  repeat (first | refine ah tk rfl ?_ | refine ac ?_ | refine ab ?_ | refine aa ?_)
  refine bh rfl (fun h=>?_) (fun h=>?_)
  ·have hlt : j < L.length := by simpa using h
   repeat (first | refine ah tk rfl ?_ | refine ac ?_ | refine ab ?_ | refine aa ?_ | refine ao ?_ | refine av ?_)
   refine sm tk rfl rfl rfl rfl rfl rfl (zn j) (idxStrAt hlt) rfl ?_
   skip
   refine aj Tryz.call131 (gK.r) (inner_spec _) ?_
   repeat (first | refine ah tk rfl ?_ | refine ac ?_)
   refine bh rfl (fun h=>?_) (fun h=>?_)
   ·repeat (first | refine ah tk rfl ?_ | refine ac ?_ | refine ab ?_ | refine aa ?_)
    refine cT tk (PLe.q ?_)
    have : L.all oy = false := by
     rw [List.all_eq_false]
     exact ⟨L[j],List.getElem_mem hlt,by simpa using h⟩
    rw [this]
   ·repeat (first | refine ah tk rfl ?_ | refine ac ?_ | refine aa ?_ | refine ao ?_ | refine aG ?_)
    refine kx (j + 1) (by omega) ⟨hlt,?_⟩ (Gh.le (bs (PLe.q (ft (by unfold maxLen; unfold iM at hl; omega))) (ap (ap aT))) aI aJ)
    intro x hx
    rw [List.take_add_one,ze hlt] at hx
    simp only [Option.toList,List.mem_append,List.mem_singleton] at hx
    rcases hx with hx | rfl
    ·exact hpre x hx
    ·simpa using h
  have hge : j = L.length := by have : ¬ j < L.length := by simpa using h
                                omega
  repeat (first | refine ah tk rfl ?_ | refine ac ?_ | refine ab ?_ | refine aa ?_ | refine bm rfl ?_)
  refine cT tk (PLe.q ?_)
  have : L.all oy = true := by
   rw [List.all_eq_true]
   rw [hge] at hpre
   simpa using hpre
  rw [this]
abbrev KR := Int × Bool × Int
abbrev pkr (r : KR) : PV := .tup [ai r.1,ay r.2.1,ai r.2.2]
def kI (kind : Int) (nullable ok : Bool) : KR := if ok then (kind,nullable,0) else (0,false,7)
theorem fM (kind : Int) (nullable ok : Bool) : aL Tryz.prog 141 [ai kind,ay nullable,ay ok] (pkr (kI kind nullable ok)) := by
 refine PH.ax Tryz.func141 Tryz.ntmps141 ?_
 repeat' (first | (show Ao _ _ _ _ _; first | refine ah tk rfl ?_ | refine ac ?_) | (show V _ _ _ _ _; first | refine ab ?_ | refine aa ?_ | refine ao ?_ | refine bh rfl (fun h=>?_) (fun h=>?_)))
 all_goals refine fj tk (PLe.q ?_)
 all_goals simp_all [kI]
def po (a b : Int) : Bool := a == b || a == 0 || b == 0
theorem nv (a b : Int) : aL Tryz.prog 140 [ai a,ai b] (ay (po a b)) := by
 refine PH.ax Tryz.func140 Tryz.ntmps140 ?_
 repeat' (first | (show Ao _ _ _ _ _; first | refine ah tk rfl ?_ | refine ac ?_ | ((fail_if_success refine fO rfl ?_); refine gw rfl rfl rfl (fun h=>?_) (fun h=>?_))) | (show V _ _ _ _ _; first | refine ab ?_ | refine aa ?_))
 all_goals refine cT tk (PLe.q ?_)
 all_goals simp_all [po]
theorem allOf1_spec (n want : Int) : aL Tryz.prog 139 [ai n,.ptr [ai want]] (ay (n != want && n != 0)) := by
 refine PH.ax Tryz.func139 Tryz.ntmps139 ?_
 repeat' (first | (show Ao _ _ _ _ _; first | refine ah tk rfl ?_ | refine ac ?_ | ((fail_if_success refine fO rfl ?_); refine gw rfl rfl rfl (fun h=>?_) (fun h=>?_))) | (show V _ _ _ _ _; first | refine ab ?_ | refine aa ?_))
 all_goals refine cT tk (PLe.q ?_)
 all_goals simp_all
def nG (want : Int) (l : List Int) : Bool := !(l.any fun n=>n != want && n != 0)
theorem jB (want : Int) (l : List Int) : aL Tryz.prog 137 [ai want,.ptr [pints l]] (ay (nG want l)) := by
 refine PH.ax Tryz.func137 Tryz.ntmps137 ?_
 repeat' (first | (show Ao _ _ _ _ _; first | refine ah tk rfl ?_ | refine ac ?_ | refine aH ?_ | refine aj Tryz.call138 (gK.r) (containsInt (p := fun n=>n != want && n != 0) l Tryz.call139 fun n _=>allOf1_spec n want) ?_) | (show V _ _ _ _ _; first | refine ab ?_ | refine aa ?_))
 all_goals refine cT tk (PLe.q rfl)
def gk (x : Int) : KR := (0,false,x)
def dU (name : List UInt8) (kinds : List Int) (nullable : Bool) : KR :=
 if name == [43] || name == [45] || name == [42] then kI 1 true (nG 1 kinds)
 else if name == [124,124] then kI 3 true (nG 3 kinds)
 else if name == [108,101,110,103,116,104] then kI 1 nullable (nG 3 kinds)
 else if name == [97,110,100] || name == [111,114] || name == [110,111,116] then kI 2 nullable (nG 2 kinds)
 else if name == [105,115,32,110,117,108,108] then (2,false,0)
 else if name == [105,102] then kI (if kinds.getD 2 0 > kinds.getD 1 0 then kinds.getD 2 0 else kinds.getD 1 0) nullable (po (kinds.getD 0 0) 2 && po (kinds.getD 1 0) (kinds.getD 2 0))
 else kI 2 nullable (po (kinds.getD 0 0) (kinds.getD 1 0))
def jt (name : List UInt8) (i : Int) (x : LVal) (ks : List KR) : KR :=
 if bW name ≠ some ks.length ∨ i ≠ 0 ∨ x ≠ .nul then gk 3
 else match ks.find? fun r=>r.2.2 != 0 with
  | some r=>gk r.2.2
  | none=>dU name (ks.map (·.1)) (ks.any (·.2.1))
mutual
def dl (cols vars : List LCol) : LExpr → KR
 | .mk k n i x args =>
  if k ≠ 5 ∧ 0 < args.length then gk 3
  else if k == 1 then (if eO x && n == [] && i == 0 then (x.kind,x.kind == 0,0) else gk 3)
  else if k == 3 then (if i < 0 ∨ i ≥ 8 ∨ n ≠ [] ∨ x.kind < 1 ∨ x.kind > 3 ∨ x ≠ ⟨x.kind,0,[]⟩ then gk 3 else (x.kind,true,0))
  else if k == 2 || k == 4 then
   (if dp n && i == 0 && decide (x = .nul) then
    (let r := kE (if k == 4 then vars else cols) n
     if r.2 then (r.1.kind,r.1.nullable,0) else gk 23)
    else gk 3)
  else if k == 5 then jt n i x (kindsE cols vars args)
  else gk 3
def kindsE (cols vars : List LCol) : List LExpr → List KR
 | []=>[]
 | e :: r=>dl cols vars e :: kindsE cols vars r
end
theorem kindsE_map (cols vars : List LCol) : ∀ l,kindsE cols vars l = l.map (dl cols vars)
 | []=>rfl
 | e :: r=>by simp [kindsE,kindsE_map cols vars r]
theorem arity_of_idx (name : List UInt8) : (bf (fun x=>name == x) de < 0 ∧ bW name = none) ∨
  ∃ a : Nat,0 ≤ bf (fun x=>name == x) de ∧ (opArity.map fun n=>[ai n])[(bf (fun x=>name == x) de).toNat]? = some [ai a] ∧ bW name = some a := by
 by_cases hn : name ∈ de
 ·refine .inr ?_
  simp only [de,List.mem_cons,List.mem_nil_iff,or_false] at hn
  rcases hn with rfl | rfl | rfl | rfl | rfl | rfl | rfl | rfl | rfl | rfl | rfl | rfl | rfl <;> exact ⟨_,by decide,rfl,rfl⟩
 ·refine .inl ⟨?_,?_⟩
  ·rw [kl fun x hx=>by
    cases hb : name == x with
    | false=>rfl
    | true=>exact absurd (by rw [eq_of_beq hb]; exact hx) hn]
   decide
  ·simp only [de,List.mem_cons,List.mem_nil_iff,or_false,not_or] at hn
   simp [bW,hn]
theorem find_at {α : Type} {p : α → Bool} {l : List α} {j : Nat} (hlt : j < l.length) (hpre : ∀ x ∈ l.take j,p x = false) (h : p l[j] = true) : l.find? p = some l[j] := by
 rw [List.find?_eq_some_iff_getElem]
 refine ⟨h,j,hlt,rfl,fun i hi=>?_⟩
 have := hpre l[i] (List.mem_take_iff_getElem.2 ⟨i,by omega,rfl⟩)
 simp [this]
theorem kindRows {cols vars : List LCol} {args : List LExpr} {j : Nat} (h : j < args.length) : ((args.take j).map (dl cols vars)).map (fun r=>[ai r.1]) ++ [[ai (dl cols vars args[j]).1]] = ((args.take (j + 1)).map (dl cols vars)).map fun r=>[ai r.1] := by
 rw [List.take_add_one,ze h]
 simp only [List.map_append,Option.toList,List.map_cons,List.map_nil]
theorem kindAny {cols vars : List LCol} {args : List LExpr} {j : Nat} (h : j < args.length) : ((args.take (j + 1)).map (dl cols vars)).any (·.2.1) = (((args.take j).map (dl cols vars)).any (·.2.1) || (dl cols vars args[j]).2.1) := by
 rw [List.take_add_one,ze h]
 simp only [List.map_append,List.any_append,Option.toList,List.map_cons,List.map_nil,List.any_cons,List.any_nil,Bool.or_false]
theorem opKind_spec (cols vars : List LCol) (e : LExpr) (ih : ∀ a ∈ e.args,aL Tryz.prog 123 [jM cols,jM vars,jx a] (pkr (dl cols vars a))) :
  aL Tryz.prog 134 [jM cols,jM vars,jx e] (pkr (jt e.name e.index e.value (e.args.map (dl cols vars)))) := by
 rcases arity_of_idx e.name with ⟨hK,ha⟩ | ⟨ar,hK,hr,ha⟩
 ·refine PH.ax Tryz.func134 Tryz.ntmps134 ?_
  repeat' (first | (show Ao _ _ _ _ _; first | refine ah tk rfl ?_ | refine ac ?_ | refine aH ?_ | refine aj Tryz.call108 (gK.r) (gM) ?_ | refine aj Tryz.call54 (gK.r) (cB _ _) ?_) | (show V _ _ _ _ _; first | refine ab ?_ | refine aa ?_ | refine bU rfl ?_ | (show V _ _ _ (.code (.region 3 _ true) :: _) _; refine bo tk mok ⟨false,false,[]⟩ [0,1,2,3,4,5,6,7,8,9,10,11,12,13,14,15,16,17,18,19,20,21,22] rfl (by decide +kernel) rfl ?_)) | (show Do _ _ _ _ _ _ _; first | refine bt rfl ?_ | refine bn ?_ | ((fail_if_success refine mr rfl rfl ?_); refine mJ rfl rfl rfl rfl (fun h=>?_) (fun h=>?_))))
  all_goals try (exfalso; simp_all <;> omega; done)
  all_goals refine fj tk (PLe.q ?_)
  all_goals (have : jt e.name e.index e.value (e.args.map (dl cols vars)) = gk 3 := by simp [jt,ha])
  all_goals (rw [this]; rfl)
 ·refine PH.ax Tryz.func134 Tryz.ntmps134 ?_
  repeat' (first | (show Ao _ _ _ _ _; first | refine ah tk rfl ?_ | refine ac ?_ | refine aH ?_ | (refine fC tk rfl rfl rfl rfl rfl rfl ?_; intro bk) | refine aj Tryz.call108 (gK.r) (gM) ?_ | refine aj Tryz.call54 (gK.r) (cB _ _) ?_) | (show V _ _ _ _ _; first | refine ab ?_ | refine aa ?_ | refine ao ?_ | refine bU rfl ?_ | refine av ?_ | (show V _ _ _ (.code (.region 3 _ true) :: _) _; refine bo tk mok ⟨false,false,[]⟩ [0,1,2,3,4,5,6,7,8,9,10,11,12,13,14,15,16,17,18,19,20,21,22] rfl (by decide +kernel) rfl ?_) | refine bh rfl (fun h=>?_) (fun h=>?_)) | (show Do _ _ _ _ _ _ _; first | refine bt rfl ?_ | refine bn ?_ | refine bK hK hr ?_ | ((fail_if_success refine mr rfl rfl ?_); refine mJ rfl rfl rfl rfl (fun h=>?_) (fun h=>?_))))
  all_goals try (exfalso; simp_all <;> omega; done)
  case inr.refine_2.refine_1 =>
   refine fj tk (PLe.q ?_)
   rw [jt,zp (.inl (by rw [ha]; simp at h ⊢; omega))]
   rfl
  case inr.refine_2.refine_2.refine_1 =>
   refine fj tk (PLe.q ?_)
   rw [jt,zp (.inr (.inl (by simpa using h)))]
   rfl
  case inr.refine_2.refine_2.refine_2.refine_1 =>
   refine fj tk (PLe.q ?_)
   rw [jt,zp (.inr (.inr (by intro hh; rw [hh] at h; simp [LVal.nul] at h)))]
   rfl
  rename_i h0 h1 h2
  have hlen : e.args.length = ar := by
   simp at h1
   omega
  have hgood : ¬ (bW e.name ≠ some (e.args.map (dl cols vars)).length ∨ e.index ≠ 0 ∨ e.value ≠ .nul) := by
   rw [ha]
   rintro (h3 | h3 | h3)
   ·simp [hlen] at h3
   ·exact h3 (by simpa using h2)
   ·apply h3
    cases hv : e.value
    rw [hv] at h
    simp at h
    simp [LVal.nul,h]
  rw [jt,zy hgood]
  refine gG tk 53 rfl rfl fun hl hby=>?_
  rw [zl] at hl hby
  have hby' : e.args.length * 88 ≤ 2 ^ 47 := hby
  refine iC tk 12 0 12 (e := 3) rfl rfl rfl rfl ?_
  refine jT (X := Nat × OwnRef) (fun X=>⟨164,upd (upd (upd (upd (upd (upd (upd (upd (fun _=>.any) 13 (ay (((e.args.take X.1).map (dl cols vars)).any (·.2.1)))) 12 (.box 12 bk 0)) 5 (.ptr (cz e))) 1 (jM vars)) 0 (jM cols)) 53 (pi e.args)) 54 (ai (e.args.map aC).length)) 55 (ai X.1),upd (fun _=>none) 12 (some ⟨bk,[.own 12 X.2 (((e.args.take X.1).map (dl cols vars)).map fun r=>[ai r.1]).length]⟩),upd (fun _=>none) 12 (some ⟨X.2,3,((e.args.take X.1).map (dl cols vars)).map fun r=>[ai r.1],true⟩)⟩)
   (fun X=>X.1 ≤ e.args.length ∧ ∀ x ∈ (e.args.map (dl cols vars)).take X.1,(x.2.2 != 0) = false) (fun X=>e.args.length - X.1) (0,⟨none,0⟩) ⟨Nat.zero_le _,by simp⟩ (Gh.le (ap (ap (ap (ap (ap (ap (ap (ap aT)))))))) (aX rfl (gK.r) aI) (aP aJ)) ?_
  rintro ⟨j,g⟩ ⟨hj,hpre⟩
  replace hj : j ≤ e.args.length := hj
  replace hpre : ∀ x ∈ (e.args.map (dl cols vars)).take j,(x.2.2 != 0) = false := hpre
  repeat (first | refine ah tk rfl ?_ | refine ac ?_ | refine ab ?_ | refine aa ?_)
  refine bh rfl (fun h=>?_) (fun h=>?_)
  ·have hlt : j < e.args.length := by simpa using h
   have hlt' : j < (e.args.map (dl cols vars)).length := by simpa using hlt
   repeat (first | refine ab ?_ | refine aa ?_ | refine ao ?_ | refine av ?_)
   refine aU tk (zn j) (qX hlt) ?_
   repeat (first | refine ah tk rfl ?_ | refine ac ?_ | refine ab ?_ | refine aa ?_ | refine aq tk ?_ | (refine fC tk rfl rfl rfl rfl rfl rfl ?_; intro bk) | refine ak tk ?_)
   refine aj Tryz.call123 (gK.r) (ih _ (List.getElem_mem hlt)) ?_
   repeat (first | refine ah tk rfl ?_ | refine ac ?_ | refine ab ?_ | refine aa ?_)
   refine bh rfl (fun h=>?_) (fun h=>?_)
   ·repeat (first | refine ah tk rfl ?_ | refine ac ?_ | refine ab ?_ | refine aa ?_)
    refine fj tk (PLe.q ?_)
    rw [find_at hlt' hpre (by simpa using h),List.getElem_map]
    rfl
   ·repeat (first | refine ah tk rfl ?_ | refine aa ?_ | refine ao ?_ | refine aq tk ?_ | refine qT tk rfl rfl rfl rfl rfl rfl ?_)
    refine rV (rows2 := [[ai (dl cols vars e.args[j]).1]]) tk rfl rfl rfl rfl rfl rfl rfl rfl rfl rfl rfl rfl rfl ?_ ?_ fun g'=>?_
    ·simp only [zl,List.length_take,List.length_cons,List.length_nil]
     rw [Nat.min_eq_left hj]
     show (j + 1) * 8 ≤ 2 ^ 47
     omega
    ·simp only [zl,List.length_take,List.length_cons,List.length_nil]
     omega
    repeat (refine ah tk rfl ?_)
    have hpre' : ∀ x ∈ (e.args.map (dl cols vars)).take (j + 1),(x.2.2 != 0) = false := nT (p := fun x : KR=>x.2.2 != 0) hlt' hpre (by rw [List.getElem_map]; exact h)
    have hany := kindAny (cols := cols) (vars := vars) hlt
    refine gw rfl rfl rfl (fun hn=>?_) (fun hn=>?_)
    ·repeat (first | refine ah tk rfl ?_ | refine ac ?_ | refine aa ?_ | refine aG ?_ | refine ak tk ?_)
     rw [kindRows hlt]
     refine kx (j + 1,g') ?_ ⟨hlt,hpre'⟩ (Gh.le (bs (PLe.q (ft (by omega))) (ap (ap (ap (ap (ap (ap (bs (PLe.q (by rw [hany,hn]; rfl)) aT)))))))) (aX rfl (gK.r) aI) (aP aJ))
     show e.args.length - (j + 1) < e.args.length - j
     omega
    ·repeat (first | refine ah tk rfl ?_ | refine ac ?_ | refine aa ?_ | refine aG ?_ | refine ak tk ?_)
     rw [kindRows hlt]
     refine kx (j + 1,g') ?_ ⟨hlt,hpre'⟩ (Gh.le (bs (PLe.q (ft (by omega))) (ap (ap (ap (ap (ap (ap (bs (PLe.q (by rw [hany,hn]; rfl)) aT)))))))) (aX rfl (gK.r) aI) (aP aJ))
     show e.args.length - (j + 1) < e.args.length - j
     omega
  have hge : j = e.args.length := by have : ¬ j < e.args.length := by simpa using h
                                     omega
  subst hge
  refine dY 12 0 rfl rfl rfl rfl rfl (sK 12 rfl rfl rfl rfl ?_)
  have hks : (e.args.map (dl cols vars)).find? (fun r=>r.2.2 != 0) = none := by
   rw [List.find?_eq_none]
   intro x hx
   have := hpre x (by rw [List.take_of_length_le (by simp)]; exact hx)
   simp [this]
  rw [hks]
  simp only [List.take_length]
  have hlk : (e.args.map (dl cols vars)).length = ar := by simp [hlen]
  generalize e.args.map (dl cols vars) = KS at hlk
  refine eh (st' := ⟨164,upd (upd (upd (fun _=>.any) 13 (ay (KS.any (·.2.1)))) 12 (.ptr [pints (KS.map (·.1))])) 5 (.ptr [ai e.kind,.str e.name,ai e.index,ai e.value.kind,ai e.value.int,.str e.value.text,pi e.args]),fun _=>none,fun _=>none⟩) (Gh.le (ap (bs (PLe.q (show PV.ptr [.list 3 (KS.map fun r=>[ai r.1])] = _ from by simp)) (ap aT))) aI aJ) ?_
  replace hlk : (KS.map (·.1)).length = ar := by simpa using hlk
  generalize KS.map (·.1) = kinds at hlk
  generalize KS.any (·.2.1) = nl
  generalize e.name = name at ha
  clear hpre hks hgood h0 h1 h2 h hr hK ih hlen
  by_cases hn : name ∈ de
  ·simp only [de,List.mem_cons,List.mem_nil_iff,or_false] at hn
   rcases hn with rfl | rfl | rfl | rfl | rfl | rfl | rfl | rfl | rfl | rfl | rfl | rfl | rfl
   ·have har : ar = 2 := by have : some 2 = some ar := ha; exact (Option.some.inj this).symm
    subst har
    obtain ⟨a,b,rfl⟩ := it hlk
    repeat' (first | (show Ao _ _ _ _ _; first | refine ah tk rfl ?_ | refine ac ?_ | refine aj Tryz.call137 (gK.r) (jB _ _) ?_ | refine aj Tryz.call141 (gK.r) (fM _ _ _) ?_) | (show V _ _ _ _ _; first | refine ab ?_ | refine aa ?_ | refine ao ?_ | refine bU rfl ?_ | refine av ?_ | refine bm rfl ?_))
    all_goals refine fj tk (PLe.q ?_)
    all_goals simp_all [dU]
   ·have har : ar = 2 := by have : some 2 = some ar := ha; exact (Option.some.inj this).symm
    subst har
    obtain ⟨a,b,rfl⟩ := it hlk
    repeat' (first | (show Ao _ _ _ _ _; first | refine ah tk rfl ?_ | refine ac ?_ | refine aj Tryz.call137 (gK.r) (jB _ _) ?_ | refine aj Tryz.call141 (gK.r) (fM _ _ _) ?_) | (show V _ _ _ _ _; first | refine ab ?_ | refine aa ?_ | refine ao ?_ | refine bU rfl ?_ | refine bB rfl ?_ | refine av ?_ | refine bm rfl ?_))
    all_goals refine fj tk (PLe.q ?_)
    all_goals simp_all [dU]
   ·have har : ar = 2 := by have : some 2 = some ar := ha; exact (Option.some.inj this).symm
    subst har
    obtain ⟨a,b,rfl⟩ := it hlk
    repeat' (first | (show Ao _ _ _ _ _; first | refine ah tk rfl ?_ | refine ac ?_ | refine aj Tryz.call137 (gK.r) (jB _ _) ?_ | refine aj Tryz.call141 (gK.r) (fM _ _ _) ?_) | (show V _ _ _ _ _; first | refine ab ?_ | refine aa ?_ | refine bU rfl ?_ | refine bB rfl ?_ | refine av ?_ | refine bm rfl ?_))
    all_goals refine fj tk (PLe.q ?_)
    all_goals simp_all [dU]
   ·have har : ar = 2 := by have : some 2 = some ar := ha; exact (Option.some.inj this).symm
    subst har
    obtain ⟨a,b,rfl⟩ := it hlk
    repeat' (first | (show Ao _ _ _ _ _; first | refine ah tk rfl ?_ | refine ac ?_) | (show V _ _ _ _ _; first | refine ab ?_ | refine aa ?_ | refine ao ?_ | refine bB rfl ?_ | refine av ?_ | refine aG ?_ | refine bm rfl ?_ | (show V _ _ _ (.code (.region 34 _ true) :: _) _; refine bo tk mok ⟨false,false,[]⟩ [0,1,2,3,4,5,6,7,8,9,10,11,12,13,14,15] rfl (by decide +kernel) rfl ?_)) | (show Do _ _ _ _ _ _ _; first | refine bt rfl ?_ | refine bn ?_ | refine aZ Tryz.call140 (gK.r) (nv _ _) ?_ | refine aZ Tryz.call141 (gK.r) (fM _ _ _) ?_))
    all_goals refine fj tk (PLe.q ?_)
    all_goals simp_all [dU]
   ·have har : ar = 2 := by have : some 2 = some ar := ha; exact (Option.some.inj this).symm
    subst har
    obtain ⟨a,b,rfl⟩ := it hlk
    repeat' (first | (show Ao _ _ _ _ _; first | refine ah tk rfl ?_ | refine ac ?_) | (show V _ _ _ _ _; first | refine ab ?_ | refine aa ?_ | refine ao ?_ | refine bB rfl ?_ | refine av ?_ | refine aG ?_ | refine bm rfl ?_ | (show V _ _ _ (.code (.region 34 _ true) :: _) _; refine bo tk mok ⟨false,false,[]⟩ [0,1,2,3,4,5,6,7,8,9,10,11,12,13,14,15] rfl (by decide +kernel) rfl ?_)) | (show Do _ _ _ _ _ _ _; first | refine bt rfl ?_ | refine bn ?_ | refine aZ Tryz.call140 (gK.r) (nv _ _) ?_ | refine aZ Tryz.call141 (gK.r) (fM _ _ _) ?_))
    all_goals refine fj tk (PLe.q ?_)
    all_goals simp_all [dU]
   ·have har : ar = 2 := by have : some 2 = some ar := ha; exact (Option.some.inj this).symm
    subst har
    obtain ⟨a,b,rfl⟩ := it hlk
    repeat' (first | (show Ao _ _ _ _ _; first | refine ah tk rfl ?_ | refine ac ?_) | (show V _ _ _ _ _; first | refine ab ?_ | refine aa ?_ | refine ao ?_ | refine bB rfl ?_ | refine av ?_ | refine aG ?_ | refine bm rfl ?_ | (show V _ _ _ (.code (.region 34 _ true) :: _) _; refine bo tk mok ⟨false,false,[]⟩ [0,1,2,3,4,5,6,7,8,9,10,11,12,13,14,15] rfl (by decide +kernel) rfl ?_)) | (show Do _ _ _ _ _ _ _; first | refine bt rfl ?_ | refine bn ?_ | refine aZ Tryz.call140 (gK.r) (nv _ _) ?_ | refine aZ Tryz.call141 (gK.r) (fM _ _ _) ?_))
    all_goals refine fj tk (PLe.q ?_)
    all_goals simp_all [dU]
   ·have har : ar = 2 := by have : some 2 = some ar := ha; exact (Option.some.inj this).symm
    subst har
    obtain ⟨a,b,rfl⟩ := it hlk
    repeat' (first | (show Ao _ _ _ _ _; first | refine ah tk rfl ?_ | refine ac ?_ | refine aj Tryz.call137 (gK.r) (jB _ _) ?_ | refine aj Tryz.call141 (gK.r) (fM _ _ _) ?_) | (show V _ _ _ _ _; first | refine ab ?_ | refine aa ?_ | refine ao ?_ | refine bU rfl ?_ | refine bB rfl ?_ | refine av ?_ | refine bm rfl ?_))
    all_goals refine fj tk (PLe.q ?_)
    all_goals simp_all [dU]
   ·have har : ar = 2 := by have : some 2 = some ar := ha; exact (Option.some.inj this).symm
    subst har
    obtain ⟨a,b,rfl⟩ := it hlk
    repeat' (first | (show Ao _ _ _ _ _; first | refine ah tk rfl ?_ | refine ac ?_ | refine aj Tryz.call137 (gK.r) (jB _ _) ?_ | refine aj Tryz.call141 (gK.r) (fM _ _ _) ?_) | (show V _ _ _ _ _; first | refine ab ?_ | refine aa ?_ | refine ao ?_ | refine bU rfl ?_ | refine bB rfl ?_ | refine av ?_ | refine bm rfl ?_))
    all_goals refine fj tk (PLe.q ?_)
    all_goals simp_all [dU]
   ·have har : ar = 1 := by have : some 1 = some ar := ha; exact (Option.some.inj this).symm
    subst har
    obtain ⟨a,rfl⟩ := List.length_eq_one_iff.1 hlk
    repeat' (first | (show Ao _ _ _ _ _; first | refine ah tk rfl ?_ | refine ac ?_ | refine aj Tryz.call137 (gK.r) (jB _ _) ?_ | refine aj Tryz.call141 (gK.r) (fM _ _ _) ?_) | (show V _ _ _ _ _; first | refine ab ?_ | refine aa ?_ | refine bU rfl ?_ | refine bB rfl ?_ | refine av ?_ | refine bm rfl ?_))
    all_goals refine fj tk (PLe.q ?_)
    all_goals simp_all [dU]
   ·have har : ar = 2 := by have : some 2 = some ar := ha; exact (Option.some.inj this).symm
    subst har
    obtain ⟨a,b,rfl⟩ := it hlk
    repeat' (first | (show Ao _ _ _ _ _; first | refine ah tk rfl ?_ | refine ac ?_ | refine aj Tryz.call137 (gK.r) (jB _ _) ?_ | refine aj Tryz.call141 (gK.r) (fM _ _ _) ?_) | (show V _ _ _ _ _; first | refine ab ?_ | refine aa ?_ | refine bU rfl ?_ | refine bB rfl ?_ | refine av ?_ | refine bm rfl ?_))
    all_goals refine fj tk (PLe.q ?_)
    all_goals simp_all [dU]
   ·have har : ar = 1 := by have : some 1 = some ar := ha; exact (Option.some.inj this).symm
    subst har
    obtain ⟨a,rfl⟩ := List.length_eq_one_iff.1 hlk
    repeat' (first | (show Ao _ _ _ _ _; first | refine ah tk rfl ?_ | refine ac ?_) | (show V _ _ _ _ _; first | refine ab ?_ | refine aa ?_ | refine bU rfl ?_ | refine bB rfl ?_ | refine av ?_ | refine bm rfl ?_))
    all_goals refine fj tk (PLe.q ?_)
    all_goals simp_all [dU]
   ·have har : ar = 1 := by have : some 1 = some ar := ha; exact (Option.some.inj this).symm
    subst har
    obtain ⟨a,rfl⟩ := List.length_eq_one_iff.1 hlk
    repeat' (first | (show Ao _ _ _ _ _; first | refine ah tk rfl ?_ | refine ac ?_ | refine aj Tryz.call137 (gK.r) (jB _ _) ?_ | refine aj Tryz.call141 (gK.r) (fM _ _ _) ?_) | (show V _ _ _ _ _; first | refine ab ?_ | refine aa ?_ | refine bU rfl ?_ | refine bB rfl ?_ | refine av ?_ | refine bm rfl ?_))
    all_goals refine fj tk (PLe.q ?_)
    all_goals simp_all [dU]
   ·have har : ar = 3 := by have : some 3 = some ar := ha; exact (Option.some.inj this).symm
    subst har
    obtain ⟨a,b,c,rfl⟩ := len3 hlk
    repeat' (first | (show Ao _ _ _ _ _; first | refine ah tk rfl ?_ | refine ac ?_) | (show V _ _ _ _ _; first | refine ab ?_ | refine aa ?_ | refine bU rfl ?_ | refine bB rfl ?_ | refine av ?_ | refine bm rfl ?_ | (show V _ _ _ (.code (.region 33 _ true) :: _) _; refine bo tk mok ⟨false,false,[]⟩ [0,1,2,3,4,5,6,7,8,9,10,11,12,13,14,15,16,17,18,19,20,21,22,23,24,25,26,27,28,29] rfl (by decide +kernel) rfl ?_)) | (show Do _ _ _ _ _ _ _; first | refine bt rfl ?_ | refine bn ?_ | refine aZ Tryz.call140 (gK.r) (nv _ _) ?_ | refine aZ Tryz.call141 (gK.r) (fM _ _ _) ?_ | ((fail_if_success refine mr rfl rfl ?_); refine mJ rfl rfl rfl rfl (fun h=>?_) (fun h=>?_))))
    all_goals refine fj tk (PLe.q ?_)
    all_goals simp_all [dU]
  ·simp only [de,List.mem_cons,List.mem_nil_iff,or_false,not_or] at hn
   simp [bW,hn] at ha
theorem pF (cols vars : List LCol) (e : LExpr) : dl cols vars e =
  if e.kind ≠ 5 ∧ 0 < e.args.length then gk 3
  else if e.kind == 1 then (if eO e.value && e.name == [] && e.index == 0 then (e.value.kind,e.value.kind == 0,0) else gk 3)
  else if e.kind == 3 then (if e.index < 0 ∨ e.index ≥ 8 ∨ e.name ≠ [] ∨ e.value.kind < 1 ∨ e.value.kind > 3 ∨ e.value ≠ ⟨e.value.kind,0,[]⟩ then gk 3 else (e.value.kind,true,0))
  else if e.kind == 2 || e.kind == 4 then
   (if dp e.name && e.index == 0 && decide (e.value = .nul) then
    (if (kE (if e.kind == 4 then vars else cols) e.name).2 then ((kE (if e.kind == 4 then vars else cols) e.name).1.kind,(kE (if e.kind == 4 then vars else cols) e.name).1.nullable,0) else gk 23)
    else gk 3)
  else if e.kind == 5 then jt e.name e.index e.value (e.args.map (dl cols vars))
  else gk 3 := by
 cases e
 rw [dl,kindsE_map]
 rfl
theorem valNul_iff (x : LVal) : x = .nul ↔ x.kind = 0 ∧ x.int = 0 ∧ x.text = [] := by
 cases x
 simp [LVal.nul]
theorem valK_iff (x : LVal) : x = ⟨x.kind,0,[]⟩ ↔ x.int = 0 ∧ x.text = [] := by
 cases x
 simp
theorem kindStep (cols vars : List LCol) (e : LExpr) (ih : ∀ a ∈ e.args,aL Tryz.prog 123 [jM cols,jM vars,jx a] (pkr (dl cols vars a))) :
  aL Tryz.prog 123 [jM cols,jM vars,jx e] (pkr (dl cols vars e)) := by
 refine PH.ax Tryz.func123 Tryz.ntmps123 ?_
 repeat' (first | (show Ao _ _ _ _ _; first | refine ah tk rfl ?_ | refine ac ?_ | refine aH ?_ | (refine fC tk rfl rfl rfl rfl rfl rfl ?_; intro bk) | refine ak tk ?_ | refine aj Tryz.call36 (gK.r) (rH _) ?_ | refine aj Tryz.call120 (gK.r) (mm _) ?_ | refine aj Tryz.call133 (gK.r) (find_spec _ _) ?_ | refine aj Tryz.call134 (gK.r) (opKind_spec cols vars e ih) ?_ | ((fail_if_success refine fO rfl ?_); refine gw rfl rfl rfl (fun h=>?_) (fun h=>?_))) | (show V _ _ _ _ _; first | refine ab ?_ | refine aa ?_ | refine ao ?_ | refine bU rfl ?_ | refine bB rfl ?_ | refine av ?_ | refine aG ?_ | (show V _ _ _ (.code (.region 7 _ true) :: _) _; refine bo tk mok ⟨true,false,[]⟩ [0,1,2,3,4,5,6,7,8,9] rfl (by decide +kernel) rfl ?_) | (show V _ _ _ (.code (.region 22 _ true) :: _) _; refine bo tk mok ⟨true,false,[]⟩ [0,1,2,3,4,5,6] rfl (by decide +kernel) rfl ?_) | refine bh rfl (fun h=>?_) (fun h=>?_)) | (show Do _ _ _ _ _ _ _; first | refine bt rfl ?_ | refine bn ?_ | refine bi ?_))
 all_goals refine fj tk (PLe.q ?_)
 all_goals rw [pF]
 all_goals (simp only [zl,Bool.not_eq_true',decide_eq_true_eq,decide_eq_false_iff_not,bne_iff_ne,beq_iff_eq,ne_eq,beq_eq_false_iff_ne,bne_eq_false_iff_eq] at *)
 all_goals try simp_all [gk,valNul_iff,valK_iff]
 all_goals (rw [zy (by first | omega | (rintro ⟨q1,q2,q3⟩; exact h q1 q2 q3))]; exact ⟨rfl,rfl,rfl⟩)
theorem kind_spec (cols vars : List LCol) : ∀ e : LExpr,aL Tryz.prog 123 [jM cols,jM vars,jx e] (pkr (dl cols vars e))
 | .mk k n i x args=>kindStep cols vars (.mk k n i x args) fun a ha=>by
  have ha' : a ∈ args := ha
  exact kind_spec cols vars a
def cW (cols vars : List LCol) (e : LExpr) : KR := if (iO e).1 > 60 ∨ (iO e).2 > 12 then gk 2 else dl cols vars e
theorem mO (cols vars : List LCol) (e : LExpr) : aL Tryz.prog 106 [jM cols,jM vars,jx e] (pkr (cW cols vars e)) := by
 refine PH.ax Tryz.func106 Tryz.ntmps106 ?_
 repeat' (first | (show Ao _ _ _ _ _; first | refine ah tk rfl ?_ | refine ac ?_ | refine aH ?_ | refine aj Tryz.call122 (gK.r) (size_spec _) ?_ | refine aj Tryz.call123 (gK.r) (kind_spec _ _ _) ?_ | ((fail_if_success refine fO rfl ?_); refine gw rfl rfl rfl (fun h=>?_) (fun h=>?_))) | (show V _ _ _ _ _; first | refine ab ?_ | refine aa ?_ | refine ao ?_ | refine bU rfl ?_ | refine bh rfl (fun h=>?_) (fun h=>?_)))
 all_goals refine fj tk (PLe.q ?_)
 all_goals simp_all [cW,gk]
 rw [zy (by omega)]
 exact ⟨rfl,rfl,rfl⟩
mutual
def jg : LExpr → Int → Int
 | .mk _ _ _ _ args,m=>lR args m
def lR : List LExpr → Int → Int
 | [],m=>m
 | a :: r,m=>if wr (m - 1) < 0 then -1 else if jg a (wr (m - 1)) < 0 then -1 else lR r (jg a (wr (m - 1)))
end
theorem nodesE_eq (e : LExpr) (m : Int) : jg e m = lR e.args m := by
 cases e
 rw [jg]
 rfl
theorem nodesStep (e : LExpr) (most : Int) (ih : ∀ a ∈ e.args,∀ m,aL Tryz.prog 41 [jx a,ai m] (ai (jg a m))) :
  aL Tryz.prog 41 [jx e,ai most] (ai (jg e most)) := by
 rw [nodesE_eq]
 refine PH.ax Tryz.func41 Tryz.ntmps41 ?_
 repeat (first | refine ah tk rfl ?_ | refine ac ?_ | refine ab ?_ | refine aa ?_ | refine av ?_ | refine aH ?_)
 refine gG tk 8 rfl rfl fun hl _=>?_
 rw [zl] at hl
 refine jT (X := Nat × Int) (fun X=>⟨25,upd (upd (upd (upd (fun _=>.any) 1 (ai X.2)) 8 (pi e.args)) 9 (ai (e.args.map aC).length)) 10 (ai X.1),fun _=>none,fun _=>none⟩)
  (fun X=>X.1 ≤ e.args.length ∧ lR (e.args.drop X.1) X.2 = lR e.args most) (fun X=>e.args.length - X.1) (0,most) ⟨Nat.zero_le _,rfl⟩ (Gh.le (ap (ap (ap (ap aT)))) aI aJ) ?_
 rintro ⟨j,m⟩ ⟨hj,hm⟩
 replace hj : j ≤ e.args.length := hj
 replace hm : lR (e.args.drop j) m = lR e.args most := hm
 rw [← hm]
 repeat (first | refine ah tk rfl ?_ | refine ac ?_ | refine ab ?_ | refine aa ?_)
 refine bh rfl (fun h=>?_) (fun h=>?_)
 ·have hlt : j < e.args.length := by simpa using h
  have hd : e.args.drop j = e.args[j] :: e.args.drop (j + 1) := List.drop_eq_getElem_cons hlt
  rw [hd,lR]
  repeat (first | refine ab ?_ | refine aa ?_ | refine ao ?_ | refine av ?_)
  refine aU tk (zn j) (qX hlt) ?_
  repeat (first | refine ah tk rfl ?_ | refine ac ?_ | refine ab ?_ | refine aa ?_ | (refine fC tk rfl rfl rfl rfl rfl rfl ?_; intro bk) | refine ak tk ?_)
  refine bh rfl (fun h1=>?_) (fun h1=>?_)
  ·repeat (first | refine ah tk rfl ?_ | refine ac ?_ | refine ab ?_ | refine aa ?_)
   refine cT tk (PLe.q ?_)
   rw [zp (by simpa [wr] using h1)]
  ·rw [zy (by simpa [wr] using h1)]
   repeat (first | refine ah tk rfl ?_ | refine ab ?_ | refine aa ?_ | refine ao ?_ | refine aq tk ?_)
   refine aj Tryz.call41 (gK.r) (ih _ (List.getElem_mem hlt) _) ?_
   repeat (first | refine ah tk rfl ?_ | refine ac ?_ | refine ab ?_ | refine aa ?_)
   refine bh rfl (fun h2=>?_) (fun h2=>?_)
   ·repeat (first | refine ah tk rfl ?_ | refine ac ?_ | refine ab ?_ | refine aa ?_)
    refine cT tk (PLe.q ?_)
    rw [zp (by simpa [wr] using h2)]
   ·repeat (first | refine ah tk rfl ?_ | refine ac ?_ | refine aa ?_ | refine ao ?_ | refine aG ?_)
    refine kx (j + 1,jg e.args[j] (wr (m - 1))) ?_ ⟨hlt,?_⟩ (Gh.le (bs (PLe.q (ft (by omega))) (ap (ap (ap aT)))) aI aJ)
    ·show e.args.length - (j + 1) < e.args.length - j
     omega
    ·rw [zy (by simpa [wr] using h2)]
 have hge : j = e.args.length := by have : ¬ j < e.args.length := by simpa using h
                                    omega
 repeat (first | refine ah tk rfl ?_ | refine ac ?_ | refine ab ?_ | refine aa ?_ | refine bm rfl ?_)
 refine cT tk (PLe.q ?_)
 rw [hge,List.drop_length,lR]
theorem pW : ∀ (e : LExpr) (m : Int),aL Tryz.prog 41 [jx e,ai m] (ai (jg e m))
 | .mk k n i x args,m=>nodesStep (.mk k n i x args) m fun a ha m=>by
  have ha' : a ∈ args := ha
  exact pW a m
end
end Go.Proofs.YtioonpnnfepffaaGreat

namespace Go.Proofs.YtioonpnnfepffaaGreat
noncomputable section
open Go Go.Ab
set_option maxRecDepth 4000
def fB (x : LVal) (k : Int) (nl : Bool) : Prop := eO x = true ∧ (x.kind = k ∨ x.kind = 0) ∧ (x.kind = 0 → nl = true)
theorem valid_kind {x : LVal} (h : eO x = true) : x.kind = 0 ∨ x.kind = 1 ∨ x.kind = 2 ∨ x.kind = 3 := by
 unfold eO at h
 by_cases h0 : x.kind = 0
 ·exact .inl h0
 ·by_cases h1 : x.kind = 1
  ·exact .inr (.inl h1)
  ·by_cases h2 : x.kind = 2
   ·exact .inr (.inr (.inl h2))
   ·by_cases h3 : x.kind = 3
    ·exact .inr (.inr (.inr h3))
    ·simp [h0,h1,h2,h3] at h
theorem il {k : Int} {nl : Bool} (h : nl = true) : fB .nul k nl := ⟨rfl,.inr rfl,fun _=>h⟩
theorem mW (b : Bool) (nl : Bool) : fB (lZ b) 2 nl := by
 cases b <;> exact ⟨rfl,.inl rfl,fun h=>by simp [lZ] at h⟩
theorem fits_int (n : Int) : fB (intV n) 1 true := by
 unfold intV
 split
 ·exact il rfl
 ·refine ⟨?_,.inl rfl,fun _=>rfl⟩
  simp [eO]
  omega
theorem fits_number (op : List UInt8) (a b : Int) : fB (nP op a b) 1 true := by
 unfold nP
 repeat' split
 all_goals first | exact fits_int _ | exact il rfl
structure EnvOk (cols vars : List LCol) (v : LEnv) : Prop where
 hcols : v.cols = cols
 len : v.row.length = cols.length
 row : ∀ (i : Nat) (c : LCol) (x : LVal),cols[i]? = some c → v.row[i]? = some x → fB x c.kind c.nullable
 params : ∀ x ∈ v.params,eO x = true
 names : v.vnames = vars.map LCol.name
 vlen : v.vvals.length = vars.length
 vals : ∀ (i : Nat) (c : LCol) (x : LVal),vars[i]? = some c → v.vvals[i]? = some x → fB x c.kind c.nullable
theorem idxOf_map {α β : Type} (g : α → β) (p : β → Bool) (q : α → Bool) (h : ∀ a,p (g a) = q a) (l : List α) : bf p (l.map g) = bf q l := by
 have : (l.map g).findIdx? p = l.findIdx? q := by
  induction l with
  | nil=>rfl
  | cons a l ih=>simp [List.findIdx?_cons,h,ih]
 simp [bf,this]
theorem nX {α : Type} {p : α → Bool} {l : List α} (h : 0 ≤ bf p l) : (bf p l).toNat < l.length := by
 have := idxOf_lt (p := p) (l := l)
 omega
theorem find_some {l : List LCol} {name : List UInt8} (h : (kE l name).2 = true) : 0 ≤ bf (fun c : LCol=>c.name == name) l ∧ l[(bf (fun c : LCol=>c.name == name) l).toNat]? = some (kE l name).1 := by
 unfold kE at h ⊢
 by_cases hi : bf (fun c : LCol=>c.name == name) l < 0
 ·simp [hi] at h
 ·have hlt := nX (p := fun c : LCol=>c.name == name) (l := l) (by omega)
  simp only [hi,if_false]
  refine ⟨by omega,?_⟩
  simp [hlt]
theorem rI {l : List LCol} {vals : Rq} {name : List UInt8} (hlen : vals.length = l.length) (hv : ∀ (i : Nat) (c : LCol) (x : LVal),l[i]? = some c → vals[i]? = some x → fB x c.kind c.nullable) (h : (kE l name).2 = true) :
  0 ≤ bf (fun c : LCol=>c.name == name) l ∧ bf (fun c : LCol=>c.name == name) l < vals.length ∧ fB (vals.getD (bf (fun c : LCol=>c.name == name) l).toNat .nul) (kE l name).1.kind (kE l name).1.nullable := by
 obtain ⟨h0,h1⟩ := find_some h
 have hlt := nX h0
 have hlt' : (bf (fun c : LCol=>c.name == name) l).toNat < vals.length := by omega
 refine ⟨h0,by omega,?_⟩
 have := hv _ _ vals[(bf (fun c : LCol=>c.name == name) l).toNat] h1 (ze hlt')
 simpa [hlt'] using this
theorem arity_name {name : List UInt8} {a : Nat} (h : bW name = some a) : name ∈ de := by
 unfold bW at h
 simp only [de,List.mem_cons,List.mem_nil_iff,or_false]
 split at h
 ·rename_i h1
  simp only [Bool.or_eq_true,beq_iff_eq] at h1
  rcases h1 with (((((((h1 | h1) | h1) | h1) | h1) | h1) | h1) | h1) | h1 <;> simp [h1]
 ·split at h
  ·rename_i h1
   simp only [Bool.or_eq_true,beq_iff_eq] at h1
   rcases h1 with (h1 | h1) | h1 <;> simp [h1]
  ·split at h
   ·rename_i h1
    simp only [beq_iff_eq] at h1
    simp [h1]
   ·cases h
theorem fits_both {a b : LVal} {ka kb : Int} {na nb : Bool} (d : Int) (hd : d = 0 ∨ d = 1) (ha : fB a ka na) (hb : fB b kb nb) (h1 : ka = 2 ∨ ka = 0) (h2 : kb = 2 ∨ kb = 0) : fB (bothV a b d) 2 (na || nb) := by
 obtain ⟨va,ka',na'⟩ := ha
 obtain ⟨vb,kb',nb'⟩ := hb
 have bool2 : ∀ {x : LVal},eO x = true → x.kind = 2 → x.int = 0 ∨ x.int = 1 := by
  intro x hx hk
  simp [eO,hk] at hx
  exact hx.2
 have w1 : wr (1 - d) = 1 - d := by rcases hd with rfl | rfl <;> rfl
 unfold bothV
 split
 ·exact mW _ _
 ·rename_i hn
  split
  ·exact mW _ _
  ·rename_i hm
   apply il
   by_cases ha0 : a.kind = 0
   ·simp [na' ha0]
   ·by_cases hb0 : b.kind = 0
    ·simp [nb' hb0]
    ·exfalso
     have a2 : a.kind = 2 := by omega
     have b2 : b.kind = 2 := by omega
     have ia := bool2 va a2
     have ib := bool2 vb b2
     simp [a2,b2,w1] at hn hm
     omega
theorem op_sound {name : List UInt8} {xs : Rq} {ks : List KR} (hlen : xs.length = ks.length) (hok : ∀ (i : Nat) (x : LVal) (r : KR),xs[i]? = some x → ks[i]? = some r → fB x r.1 r.2.1) (har : bW name = some ks.length)
  (ht : (dU name (ks.map (·.1)) (ks.any (·.2.1))).2.2 = 0) : fB (bJ name xs) (dU name (ks.map (·.1)) (ks.any (·.2.1))).1 (dU name (ks.map (·.1)) (ks.any (·.2.1))).2.1 := by
 have hn := arity_name har
 have ty0 : ∀ {k : Int} {nl ok : Bool},(kI k nl ok).2.2 = 0 → ok = true ∧ kI k nl ok = (k,nl,0) := by
  intro k nl ok h
  cases ok
  ·simp [kI] at h
  ·exact ⟨rfl,rfl⟩
 have all2 : ∀ {w : Int} {a b : Int},nG w [a,b] = true → (a = w ∨ a = 0) ∧ (b = w ∨ b = 0) := by
  intro w a b h
  simp [nG] at h
  omega
 have all1 : ∀ {w : Int} {a : Int},nG w [a] = true → (a = w ∨ a = 0) := by
  intro w a h
  simp [nG] at h
  omega
 simp only [de,List.mem_cons,List.mem_nil_iff,or_false] at hn
 rcases hn with rfl | rfl | rfl | rfl | rfl | rfl | rfl | rfl | rfl | rfl | rfl | rfl | rfl
 case inl | inr.inl | inr.inr.inl =>
  all_goals
   have h2 : ks.length = 2 := (Option.some.inj har).symm
   obtain ⟨r,s,rfl⟩ := it h2
   obtain ⟨a,b,rfl⟩ := it (hlen.trans h2)
   simp [dU] at ht ⊢
   obtain ⟨_,e⟩ := ty0 ht
   rw [e]
   simp [bJ,bW,je]
   repeat' split
   all_goals first | exact fits_number _ _ _ | exact il rfl
 case inr.inr.inr.inl | inr.inr.inr.inr.inl | inr.inr.inr.inr.inr.inl =>
  all_goals
   have h2 : ks.length = 2 := (Option.some.inj har).symm
   obtain ⟨r,s,rfl⟩ := it h2
   obtain ⟨a,b,rfl⟩ := it (hlen.trans h2)
   have fa := hok 0 a r rfl rfl
   have fb := hok 1 b s rfl rfl
   simp [dU] at ht ⊢
   obtain ⟨_,e⟩ := ty0 ht
   rw [e]
   simp [bJ,bW,je]
   split
   ·rename_i h0
    apply il
    rcases h0 with h0 | h0
    ·simp [fa.2.2 h0]
    ·simp [fb.2.2 h0]
   ·exact mW _ _
 case inr.inr.inr.inr.inr.inr.inl | inr.inr.inr.inr.inr.inr.inr.inl =>
  all_goals
   have h2 : ks.length = 2 := (Option.some.inj har).symm
   obtain ⟨r,s,rfl⟩ := it h2
   obtain ⟨a,b,rfl⟩ := it (hlen.trans h2)
   have fa := hok 0 a r rfl rfl
   have fb := hok 1 b s rfl rfl
   simp [dU] at ht ⊢
   obtain ⟨hal,e⟩ := ty0 ht
   rw [e]
   obtain ⟨h3,h4⟩ := all2 hal
   simp [bJ,bW]
   exact fits_both _ (by omega) fa fb h3 h4
 case inr.inr.inr.inr.inr.inr.inr.inr.inl =>
  have h2 : ks.length = 1 := (Option.some.inj har).symm
  obtain ⟨r,rfl⟩ := List.length_eq_one_iff.1 h2
  obtain ⟨a,rfl⟩ := List.length_eq_one_iff.1 (hlen.trans h2)
  have fa := hok 0 a r rfl rfl
  simp [dU] at ht ⊢
  obtain ⟨hal,e⟩ := ty0 ht
  rw [e]
  have h3 := all1 hal
  simp [bJ,bW,je,ja]
  split
  ·rename_i h0; exact il (fa.2.2 h0)
  ·rename_i h0
   have : a.kind = 2 := by have := fa.2.1; omega
   rw [zp this]
   exact mW _ _
 case inr.inr.inr.inr.inr.inr.inr.inr.inr.inl =>
  have h2 : ks.length = 2 := (Option.some.inj har).symm
  obtain ⟨r,s,rfl⟩ := it h2
  obtain ⟨a,b,rfl⟩ := it (hlen.trans h2)
  simp [dU] at ht ⊢
  obtain ⟨_,e⟩ := ty0 ht
  rw [e]
  simp [bJ,bW,je]
  repeat' split
  all_goals first | exact il rfl | skip
  rename_i h3
  refine ⟨?_,.inl rfl,fun h=>by simp at h⟩
  simp [eO]
  omega
 case inr.inr.inr.inr.inr.inr.inr.inr.inr.inr.inl =>
  have h2 : ks.length = 1 := (Option.some.inj har).symm
  obtain ⟨r,rfl⟩ := List.length_eq_one_iff.1 h2
  obtain ⟨a,rfl⟩ := List.length_eq_one_iff.1 (hlen.trans h2)
  simp [dU,bJ,bW]
  exact mW _ _
 case inr.inr.inr.inr.inr.inr.inr.inr.inr.inr.inr.inl =>
  have h2 : ks.length = 1 := (Option.some.inj har).symm
  obtain ⟨r,rfl⟩ := List.length_eq_one_iff.1 h2
  obtain ⟨a,rfl⟩ := List.length_eq_one_iff.1 (hlen.trans h2)
  have fa := hok 0 a r rfl rfl
  simp [dU] at ht ⊢
  obtain ⟨hal,e⟩ := ty0 ht
  rw [e]
  have h3 := all1 hal
  simp [bJ,bW,je,ja]
  split
  ·rename_i h0; exact il (fa.2.2 h0)
  ·rename_i h0
   have hk : a.kind = 3 := by have := fa.2.1; omega
   rw [zp hk]
   have hv := fa.1
   simp [eO,hk] at hv
   have hi : intV (a.text.length : Int) = ⟨1,a.text.length,[]⟩ := by unfold intV; rw [zy (by omega)]
   rw [hi]
   refine ⟨?_,.inl rfl,fun h=>by simp at h⟩
   simp [eO]
   omega
 case inr.inr.inr.inr.inr.inr.inr.inr.inr.inr.inr.inr =>
  have h2 : ks.length = 3 := (Option.some.inj har).symm
  obtain ⟨r,s,t,rfl⟩ := len3 h2
  obtain ⟨a,b,c,rfl⟩ := len3 (hlen.trans h2)
  have fb := hok 1 b s rfl rfl
  have fc := hok 2 c t rfl rfl
  simp [dU] at ht ⊢
  obtain ⟨hal,e⟩ := ty0 ht
  rw [e]
  simp [po] at hal
  have kb := valid_kind fb.1
  have kc := valid_kind fc.1
  have ob := fb.2.1
  have oc := fc.2.1
  simp [bJ,bW]
  split
  ·refine ⟨fb.1,?_,fun h=>by simp [fb.2.2 h]⟩
   by_cases hb0 : b.kind = 0
   ·exact .inr hb0
   ·left
    split <;> omega
  ·refine ⟨fc.1,?_,fun h=>by simp [fc.2.2 h]⟩
   by_cases hc0 : c.kind = 0
   ·exact .inr hc0
   ·left
    split <;> omega
theorem kind_sound {cols vars : List LCol} {v : LEnv} (hv : EnvOk cols vars v) : ∀ e : LExpr,(dl cols vars e).2.2 = 0 → fB (cM v e) (dl cols vars e).1 (dl cols vars e).2.1 := by
 intro e
 generalize hk : SizeOf.sizeOf e = k
 induction k using Nat.strongRecOn generalizing e with
 | _ k ih =>
  intro h0
  have harg : ∀ a ∈ e.args,(dl cols vars a).2.2 = 0 → fB (cM v a) (dl cols vars a).1 (dl cols vars a).2.1 := by
   intro a ha
   refine ih (SizeOf.sizeOf a) ?_ a rfl
   rw [← hk]
   cases e
   have := List.sizeOf_lt_of_mem (show a ∈ _ from ha)
   simp only [LExpr.mk.sizeOf_spec,LExpr.args] at *
   omega
  have hK := pF cols vars e
  have hE := pZ v e
  by_cases c0 : e.kind ≠ 5 ∧ 0 < e.args.length
  ·rw [zp c0] at hK; rw [hK] at h0; simp [gk] at h0
  rw [zy c0] at hK
  by_cases c1 : e.kind == 1
  ·rw [zp c1] at hK hE
   by_cases hc : (eO e.value && e.name == [] && e.index == 0) = true
   ·rw [zp hc] at hK
    rw [hK,hE]
    simp only [Bool.and_eq_true] at hc
    exact ⟨hc.1.1,.inl rfl,fun h=>by simp [h]⟩
   ·rw [zy hc] at hK; rw [hK] at h0; simp [gk] at h0
  rw [zy c1] at hK hE
  by_cases c3 : e.kind == 3
  ·have c2 : ¬ (e.kind == 2) = true := by simp at c3 ⊢; omega
   rw [zp c3] at hK
   rw [zy c2,zp c3] at hE
   split at hK
   ·rw [hK] at h0; simp [gk] at h0
   ·rw [hK,hE]
    split
    ·rename_i hp
     have hlt : e.index.toNat < v.params.length := by omega
     have hm : v.params.getD e.index.toNat .nul ∈ v.params := by
      simp [hlt]
     exact ⟨hv.params _ hm,.inl hp.2.2,fun _=>rfl⟩
    ·exact il rfl
  rw [zy c3] at hK
  by_cases c24 : (e.kind == 2 || e.kind == 4) = true
  ·rw [zp c24] at hK
   by_cases hs : (dp e.name && e.index == 0 && decide (e.value = .nul)) = true
   ·rw [zp hs] at hK
    by_cases hf : (kE (if e.kind == 4 then vars else cols) e.name).2 = true
    ·rw [zp hf] at hK
     rw [hK,hE]
     by_cases c2 : e.kind == 2
     ·have c4 : ¬ (e.kind == 4) = true := by simp at c2 ⊢; omega
      rw [zp c2]
      rw [zy c4] at hf ⊢
      obtain ⟨f1,f2,f3⟩ := rI hv.len hv.row hf
      rw [hv.hcols,zp ⟨f1,f2⟩]
      exact f3
     ·have c4 : (e.kind == 4) = true := by simpa [c2] using c24
      rw [zy c2,zy c3,zp c4]
      rw [zp c4] at hf ⊢
      obtain ⟨f1,f2,f3⟩ := rI hv.vlen hv.vals hf
      have e1 : bf (fun s : List UInt8=>e.name == s) v.vnames = bf (fun c : LCol=>c.name == e.name) vars := by
       rw [hv.names]
       exact idxOf_map LCol.name _ _ (fun c=>by rw [Bool.eq_iff_iff]; simp; exact eq_comm) vars
      rw [e1,zp ⟨f1,f2⟩]
      exact f3
    ·rw [zy hf] at hK; rw [hK] at h0; simp [gk] at h0
   ·rw [zy hs] at hK; rw [hK] at h0; simp [gk] at h0
  rw [zy c24] at hK
  have c2 : ¬ (e.kind == 2) = true := fun h=>c24 (by simp [h])
  have c4 : ¬ (e.kind == 4) = true := fun h=>c24 (by simp [h])
  rw [zy c2,zy c3,zy c4] at hE
  by_cases c5 : e.kind == 5
  ·rw [zp c5] at hK hE
   unfold jt at hK
   split at hK
   ·rw [hK] at h0; simp [gk] at h0
   ·rename_i hop
    split at hK
    ·rename_i r hr
     have := List.find?_some hr
     rw [hK] at h0
     simp [gk] at h0
     simp [h0] at this
    ·rename_i hr
     have hnone := List.find?_eq_none.1 hr
     rw [hK] at h0
     rw [hK,hE]
     refine op_sound (by simp) ?_ ?_ h0
     ·intro i x r hx hr'
      simp only [List.getElem?_map,Option.map_eq_some_iff] at hx hr'
      obtain ⟨a,ha,rfl⟩ := hx
      obtain ⟨b,hb,rfl⟩ := hr'
      rw [ha] at hb
      cases hb
      refine harg a (List.mem_of_getElem? ha) ?_
      have := hnone _ (List.mem_map.2 ⟨a,List.mem_of_getElem? ha,rfl⟩)
      simpa using this
     ·exact Classical.byContradiction fun hne=>hop (.inl hne)
  ·rw [zy c5] at hK; rw [hK] at h0; simp [gk] at h0
theorem type_sound {cols vars : List LCol} {v : LEnv} (hv : EnvOk cols vars v) (e : LExpr) (h : (cW cols vars e).2.2 = 0) : fB (cM v e) (cW cols vars e).1 (cW cols vars e).2.1 := by
 unfold cW at h ⊢
 split at h
 ·simp [gk] at h
 ·rename_i hc
  rw [zy hc]
  exact kind_sound hv e h
end
end Go.Proofs.YtioonpnnfepffaaGreat

namespace Go.Proofs.YtioonpnnfepffaaGreat
noncomputable section
open Go Go.Ab
structure LTable where
 name : List UInt8
 columns : List LCol
 primaryKey : List Int
 deriving DecidableEq
@[simp] def cP (x : LTable) : List PV := [(.str x.name),(.list 53 (x.columns.map aR)),(.list 3 (x.primaryKey.map bS))]
structure LForeignKey where
 table : List UInt8
 columns : List Int
 refTable : List UInt8
 deriving DecidableEq
@[simp] def jz (x : LForeignKey) : List PV := [(.str x.table),(.list 3 (x.columns.map bS)),(.str x.refTable)]
structure LConstraint where
 table : List UInt8
 left : Int
 op : List UInt8
 right : Int
 value : LVal
 deriving DecidableEq
@[simp] def kB (x : LConstraint) : List PV := [(.str x.table),(ai x.left),(.str x.op),(ai x.right),(ai x.value.kind),(ai x.value.int),(.str x.value.text)]
structure LSchema where
 tables : List LTable
 foreignKeys : List LForeignKey
 constraints : List LConstraint
 deriving DecidableEq
@[simp] def bG (x : LSchema) : List PV := [(.list 56 (x.tables.map cP)),(.list 101 (x.foreignKeys.map jz)),(.list 107 (x.constraints.map kB))]
structure LAggregateCall where
 name : List UInt8
 function : List UInt8
 args : List LExpr
@[simp] def bT (x : LAggregateCall) : List PV := [(.str x.name),(.str x.function),(.list 50 (x.args.map aC))]
inductive LQuery where
 | mk (kind : Int) (table : List UInt8) (names : List (List UInt8)) (exprs : List LExpr) (aggregates : List LAggregateCall) (descending : List Bool) (count : Int) (offset : Int) (inputs : List LQuery)
def LQuery.kind : LQuery → Int | .mk a _ _ _ _ _ _ _ _=>a
def LQuery.table : LQuery → List UInt8 | .mk _ a _ _ _ _ _ _ _=>a
def LQuery.names : LQuery → List (List UInt8) | .mk _ _ a _ _ _ _ _ _=>a
def LQuery.exprs : LQuery → List LExpr | .mk _ _ _ a _ _ _ _ _=>a
def LQuery.aggregates : LQuery → List LAggregateCall | .mk _ _ _ _ a _ _ _ _=>a
def LQuery.descending : LQuery → List Bool | .mk _ _ _ _ _ a _ _ _=>a
def LQuery.count : LQuery → Int | .mk _ _ _ _ _ _ a _ _=>a
def LQuery.offset : LQuery → Int | .mk _ _ _ _ _ _ _ a _=>a
def LQuery.inputs : LQuery → List LQuery | .mk _ _ _ _ _ _ _ _ a=>a
mutual
def aE : LQuery → List PV
 | .mk f0 f1 f2 f3 f4 f5 f6 f7 f8=>[(ai f0),(.str f1),(.list 9 (f2.map cj)),(.list 50 (f3.map aC)),(.list 70 (f4.map bT)),(.list 4 (f5.map cf)),(ai f6),(ai f7),.list 35 (oN f8)]
def oN : List LQuery → List (List PV)
 | []=>[]
 | e :: r=>aE e :: oN r
end
theorem qj : ∀ l,oN l = l.map aE
 | []=>rfl
 | e :: r=>by simp [oN,qj r]
def aw (x : LQuery) : List PV := [(ai x.kind),(.str x.table),(.list 9 (x.names.map cj)),(.list 50 (x.exprs.map aC)),(.list 70 (x.aggregates.map bT)),(.list 4 (x.descending.map cf)),(ai x.count),(ai x.offset),(.list 35 (x.inputs.map aE))]
theorem bA (x : LQuery) : aE x = aw x := by
 cases x
 simp [aE,aw,qj,LQuery.kind,LQuery.table,LQuery.names,LQuery.exprs,LQuery.aggregates,LQuery.descending,LQuery.count,LQuery.offset,LQuery.inputs]
structure LResult where
 columns : List LCol
 rows : Rz
 deriving DecidableEq
@[simp] def dw (x : LResult) : List PV := [(.list 53 (x.columns.map aR)),(.list 57 (x.rows.map (al 48 af)))]
structure LRelation where
 table : List UInt8
 rows : Rz
 deriving DecidableEq
@[simp] def bO (x : LRelation) : List PV := [(.str x.table),(.list 57 (x.rows.map (al 48 af)))]
structure LRun where
 s : LSchema
 st : List LRelation
 args : Rq
 vars : List LCol
 names : List (List UInt8)
 vals : Rq
 deriving DecidableEq
@[simp] def dL (x : LRun) : List PV := [(.list 56 (x.s.tables.map cP)),(.list 101 (x.s.foreignKeys.map jz)),(.list 107 (x.s.constraints.map kB)),(.list 59 (x.st.map bO)),(.list 48 (x.args.map af)),(.list 53 (x.vars.map aR)),(.list 9 (x.names.map cj)),(.list 48 (x.vals.map af))]
structure LChecker where
 s : LSchema
 vars : List LCol
 deriving DecidableEq
@[simp] def dW (x : LChecker) : List PV := [(.list 56 (x.s.tables.map cP)),(.list 101 (x.s.foreignKeys.map jz)),(.list 107 (x.s.constraints.map kB)),(.list 53 (x.vars.map aR))]
end
end Go.Proofs.YtioonpnnfepffaaGreat
