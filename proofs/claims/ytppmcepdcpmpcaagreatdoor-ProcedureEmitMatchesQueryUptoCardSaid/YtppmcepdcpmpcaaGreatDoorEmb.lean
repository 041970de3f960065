/- procedureEmitMatchesQueryUpto_holds, part 2: the layer, the plain functions and what they compute; conditions as in the statement. -/
import Derived.Test.YtppmcepdcpmpcaaGreatDoorEma
set_option maxHeartbeats 4000000
namespace Go.Ab
noncomputable section
open Go.ChangeShapes
def kN (W : World) : Mem := fun b o=>W.cell? ⟨b,o,none⟩
def laidFs (P : Program) : Nat → List Field → Bool
 | _,[]=>true
 | o,f :: fs=>Nat.beq f.offset o && laidFs P (o + P.cellsOf f.type) fs
def okT (P : Program) (S : List TypeId) (t : TypeId) : Bool :=
 match P.underlying t with
 | some .bool | some (.int _) | some .string=>true
 | some (.slice e)=>S.contains e && Nat.blt 0 (P.cellsOf e)
 | some (.struct fs)=>laidFs P 0 fs.toList && fs.toList.all (fun f=>S.contains f.type) && Nat.beq (fs.toList.map fun f=>P.cellsOf f.type).sum (P.cellsOf t)
 | _=>false
def hM (Sh : TypeId → List PV → Prop) : List TypeId → List PV → Prop
 | [],pvs=>pvs = []
 | t :: ts,pvs=>∃ a b,pvs = a ++ b ∧ Sh t a ∧ hM Sh ts b
def Sh (P : Program) : Nat → TypeId → List PV → Prop
 | 0,_,_=>False
 | n + 1,t,pvs=>match P.underlying t with
  | some .bool=>∃ b,pvs = [.val (.bool b)]
  | some (.int k)=>∃ m,pvs = [.val (.int k m)] ∧ (Lit.int k m).wf = true
  | some .string=>∃ l,pvs = [.str l] ∧ l.length ≤ 2 ^ 47
  | some (.slice e)=>∃ rows,pvs = [.list e rows] ∧ ∀ r ∈ rows,Sh P n e r
  | some (.struct fs)=>hM (Sh P n) (fs.toList.map (·.type)) pvs
  | _=>False
section
variable {H : Type} {enc : TypeId × Value → H} {P : Program} {W : World} {S : List TypeId}
theorem da.of_cells {b : Nat} : ∀ {o : Nat} {pvs : List PV} {cs : List Value},aB P (kN W) false pvs cs → (∀ x ∈ cs,x.oneCell' = true) → (∀ j,j < cs.length → W.cell? ⟨b,o + j,none⟩ = cs[j]?) → da P (kN W) b o pvs
 | _,[],_,_,_,_=>by simp [da]
 | o,p :: ps,cs,h,h1,hm=>by
  simp only [aB] at h
  obtain ⟨x,xs,rfl,h2,h3⟩ := h
  simp only [da]
  refine ⟨⟨x,?_,h1 x (by simp),h2⟩,da.of_cells h3 (fun y hy=>h1 y (by simp [hy])) fun j hj=>?_⟩
  ·simpa [kN] using hm 0 (by simp)
  ·have := hm (j + 1) (by simpa using hj)
   rw [show o + 1 + j = o + (j + 1) from by omega]
   simpa using this
theorem Sh.one : ∀ {n : Nat} {t : TypeId} {pvs : List PV},Sh P n t pvs → pvs.all PV.one = true := by
 intro n
 induction n with
 | zero=>intro t pvs h; simp [Sh] at h
 | succ n ih =>
  intro t pvs h
  simp only [Sh] at h
  split at h
  ·obtain ⟨b,rfl⟩ := h; rfl
  ·obtain ⟨m,rfl,_⟩ := h; rfl
  ·obtain ⟨l,rfl,_⟩ := h; rfl
  ·obtain ⟨rows,rfl,_⟩ := h; rfl
  ·rename_i fs _
   generalize fs.toList.map (·.type) = ts at h
   induction ts generalizing pvs with
   | nil=>simp only [hM] at h; subst h; rfl
   | cons t ts iht =>
    simp only [hM] at h
    obtain ⟨a,b,rfl,h1,h2⟩ := h
    rw [List.all_append,ih h1,iht h2]
    rfl
  ·cases h
theorem trod_int_some {n : Nat} {t : TypeId} {k : IntKind} {cs : List Value} {x : DataW H × List MemPlace} {sp : Nat → Bool} (hu : P.underlying t = some (.int k)) (h : DataW.trod enc P W 0 sp true (n + 1) t cs = some x) : ∃ m,cs = [.int k m] ∧ (Lit.int k m).wf = true := by
 unfold DataW.trod at h
 rw [hu] at h
 split at h <;> simp_all
theorem trod_bool_some {n : Nat} {t : TypeId} {cs : List Value} {x : DataW H × List MemPlace} {sp : Nat → Bool} (hu : P.underlying t = some .bool) (h : DataW.trod enc P W 0 sp true (n + 1) t cs = some x) : ∃ b,cs = [.bool b] := by
 unfold DataW.trod at h
 rw [hu] at h
 split at h <;> simp_all
theorem trod_str_some {n : Nat} {t : TypeId} {cs : List Value} {x : DataW H × List MemPlace} {sp : Nat → Bool} (hu : P.underlying t = some .string) (h : DataW.trod enc P W 0 sp true (n + 1) t cs = some x) : ∃ s : ByteArray,cs = [.string s] ∧ x.1 = .lit (.string s.data.toList) := by
 unfold DataW.trod at h
 rw [hu] at h
 split at h <;> simp_all
 rw [← h.2]
theorem ut {n : Nat} {t : TypeId} {fs : Array Field} {cs : List Value} {x : DataW H × List MemPlace} {sp : Nat → Bool} (hu : P.underlying t = some (.struct fs)) (h : DataW.trod enc P W 0 sp true (n + 1) t cs = some x) :
  cs.length = P.cellsOf t ∧ ∃ xs,(fs.toList.mapM fun f=>DataW.trod enc P W 0 sp true n f.type ((cs.drop f.offset).take (P.cellsOf f.type))) = some xs ∧ x = (.agg (xs.map (·.1)),xs.flatMap (·.2)) := by
 unfold DataW.trod at h
 rw [hu] at h
 split at h <;> simp_all
 obtain ⟨_,a,h2,h3⟩ := h
 exact ⟨a,h2,h3.symm⟩
theorem uF {n : Nat} {t e : TypeId} {cs : List Value} {x : DataW H × List MemPlace} (hu : P.underlying t = some (.slice e)) (h : DataW.trod enc P W 0 (fun _=>true) true (n + 1) t cs = some x) :
  (cs = [.slice none 0 0] ∧ x = (.nil,[])) ∨ ∃ a len cap elems rest,cs = [.slice (some a) len cap] ∧ len ≤ cap ∧ cap ≤ maxLen ∧
   ((List.range len).mapM fun i=>(W.cells? 0 (a.add (i * P.cellsOf e)) (P.cellsOf e)).bind (DataW.trod enc P W 0 (fun _=>true) true n e)) = some elems ∧
   ((List.range (cap - len)).mapM fun i=>(W.cells? 0 (a.add ((len + i) * P.cellsOf e)) (P.cellsOf e)).bind (DataW.trod enc P W 0 (fun _=>true) true n e)) = some rest ∧
   x.1 = .slice (elems.map (·.1)) (rest.map (·.1)) := by
 unfold DataW.trod at h
 rw [hu] at h
 split at h <;> simp_all
 rename_i e' a len cap _
 obtain ⟨⟨h1,h2⟩,h3⟩ := h
 cases hel : ((List.range len).mapM fun i=>(W.cells? 0 (a.add (i * P.cellsOf e')) (P.cellsOf e')).bind (DataW.trod enc P W 0 (fun _=>true) true n e')) with
 | none=>rw [hel] at h3; cases h3
 | some elems =>
  rw [hel,Option.bind_some] at h3
  cases hre : ((List.range (cap - len)).mapM fun i=>(W.cells? 0 (a.add ((len + i) * P.cellsOf e')) (P.cellsOf e')).bind (DataW.trod enc P W 0 (fun _=>true) true n e')) with
  | none=>rw [hre] at h3; cases h3
  | some rest =>
   rw [hre,Option.map_some,zo] at h3
   exact ⟨a,len,cap,⟨rfl,rfl,rfl⟩,h1,h2,elems,hel,rest,hre,by rw [← h3]⟩
end
def kM (P : Program) (t : TypeId) (pvs : List PV) : PV :=
 match P.underlying t with
 | some (.struct _)=>.agg pvs
 | _=>pvs.headD .any
def ArgsSh (P : Program) : List TypeId → List PV → Prop
 | [],av0=>av0 = []
 | t :: ts,av0=>∃ n pvs rest,av0 = kM P t pvs :: rest ∧ Sh P n t pvs ∧ ArgsSh P ts rest
section
variable {H : Type} {enc : TypeId × Value → H} {P : Program} {W : World} {S : List TypeId}
theorem rR (hl : laidOutB P = true) {W' : World} (hb : RowKit.Below W.heap.size W W') {sp : Nat → Bool} : ∀ {ts : List TypeId} {vs : List Value} {ds : List (DataW H)} {ps : List MemPlace},(∀ t ∈ ts,P.readableRec t = true ∧ t < P.types.size) →
  DataW.TrodAll enc P W 0 (fun _=>true) true ts vs ds ps → (∀ x ∈ ps,x.block < W.heap.size) → (∀ x ∈ ps,sp x.block = true) → DataW.TrodAll enc P W' 0 sp true ts vs ds ps
 | [],_,_,_,_,h,_,_=>by
  obtain ⟨rfl,rfl,rfl⟩ := trodAll_nil h
  exact trodAll_mk0
 | t :: ts,_,_,_,hr,h,hlt,hsp=>by
  obtain ⟨v,vs,d,ds,p,q,rfl,rfl,rfl,h1,h2⟩ := trodAll_cons h
  exact ⟨p,q,WideElems.Trod_stays hl (hr t (by simp)).1 (hr t (by simp)).2 h1 (fun x hx=>hb.same (hlt x (by simp [hx]))) (fun x hx=>hsp x (by simp [hx])),
   rR hl hb (fun t ht=>hr t (by simp [ht])) h2 (fun x hx=>hlt x (by simp [hx])) (fun x hx=>hsp x (by simp [hx])),rfl⟩
theorem tY {sp : Nat → Bool} {hd : Bool} : ∀ {ts : List TypeId} {vs : List Value} {ds : List (DataW H)} {ps : List MemPlace},DataW.TrodAll enc P W 0 sp hd ts vs ds ps → ds.length = ts.length
 | [],_,_,_,h=>by
  obtain ⟨_,rfl,_⟩ := trodAll_nil h
  rfl
 | t :: ts,_,_,_,h=>by
  obtain ⟨v,vs,d,ds,p,q,rfl,rfl,rfl,_,h2⟩ := trodAll_cons h
  simp [tY h2]
theorem InvH.start (W : World) (hg : Gl W []) : InvH P ⟨W,[],kN W,hg⟩ (kN W) Heap.empty W :=
 ⟨fun _ _ _ h=>h,Mem.le_refl _,fun _ _ _ h=>.inl h,rfl,rfl,rfl,Nat.le_refl _,fun _ _ _=>rfl,fun _ _ h=>by simp [Heap.empty] at h,fun _ _ h=>by simp [Heap.empty] at h,
  fun _ _ _ _ h=>by simp [Heap.empty] at h,fun _ _ _ _ _ h=>by simp [Heap.empty] at h,fun _ _ _ _ h=>by simp [Heap.empty] at h⟩
theorem InvH.below {hg : Gl W []} {M : Mem} {Hp : Heap} {W' : World} (h : InvH P ⟨W,[],kN W,hg⟩ M Hp W') : RowKit.Below W.heap.size W W' :=
 ⟨h.os,h.tape,h.output,h.size,fun k hk=>h.frame k hk (by simp)⟩
end
mutual
def PV.bulk : PV → Nat
 | .str l=>l.length + 1
 | .list _ rows=>gA rows + 1
 | .agg cs=>bN cs
 | .any=>1
 | .val _=>1
 | .tup _=>1
 | .ptr _=>1
 | .fn _ _=>1
 | .box _ _ _=>1
 | .own _ _ _=>1
 | .optr _ _ _ _ _=>1
 | .err _=>1
def bN : List PV → Nat
 | []=>0
 | p :: ps=>p.bulk + bN ps
def gA : List (List PV) → Nat
 | []=>0
 | r :: rs=>bN r + gA rs
end
theorem qE : ∀ a b : List PV,bN (a ++ b) = bN a + bN b
 | [],b=>by simp [bN]
 | p :: a,b=>by simp only [List.cons_append,bN,qE a b]; omega
structure IsBulk (B : (H : Type) → DataW H → Nat) : Prop where
 one : ∀ H d,1 ≤ B H d
 str : ∀ H l,l.length + 1 ≤ B H (.lit (.string l))
 slice : ∀ H (a b : List (DataW H)),(a.map (B H)).sum + 1 ≤ B H (.slice a b)
 agg : ∀ H (a : List (DataW H)),(a.map (B H)).sum ≤ B H (.agg a)
theorem Sh.up {P : Program} : ∀ {n : Nat} {t : TypeId} {pvs : List PV},Sh P n t pvs → Sh P (n + 1) t pvs := by
 intro n
 induction n with
 | zero=>intro t pvs h; simp [Sh] at h
 | succ n ih =>
  intro t pvs h
  rw [Sh] at h ⊢
  split at h
  ·exact h
  ·exact h
  ·exact h
  ·obtain ⟨rows,rfl,hr⟩ := h
   exact ⟨rows,rfl,fun r hq=>ih (hr r hq)⟩
  ·rename_i fs hu
   have key : ∀ (ts : List TypeId) (l : List PV),hM (Sh P n) ts l → hM (Sh P (n + 1)) ts l := by
    intro ts
    induction ts with
    | nil=>intro l h; simp only [hM] at h ⊢; exact h
    | cons t ts iht =>
     intro l h
     simp only [hM] at h ⊢
     obtain ⟨a,b,h1,h2,h3⟩ := h
     exact ⟨a,b,h1,ih h2,iht b h3⟩
   exact key _ _ h
  ·cases h
theorem Sh.cast {P : Program} {n : Nat} {t t' : TypeId} {pvs : List PV} (h : P.underlying t = P.underlying t') (hs : Sh P n t pvs) : Sh P n t' pvs := by
 cases n with
 | zero=>simp [Sh] at hs
 | succ n=>rw [Sh] at hs ⊢; rwa [h] at hs
theorem jF {α : Type} {f : α → List PV} : ∀ {rows : List (List PV)},(∀ r ∈ rows,∃ x,r = f x) → ∃ xs : List α,rows = xs.map f
 | [],_=>⟨[],rfl⟩
 | r :: rs,h=>by
  obtain ⟨x,rfl⟩ := h r (by simp)
  obtain ⟨xs,rfl⟩ := jF (rows := rs) fun q hq=>h q (by simp [hq])
  exact ⟨x :: xs,rfl⟩
theorem rowsUp {α : Type} {f : α → List PV} {P : Program} {n : Nat} {e t : TypeId} (he : P.underlying e = P.underlying t) (ih : ∀ {pvs},Sh P (n + 1) t pvs → ∃ v,pvs = f v) {rows : List (List PV)} (hr : ∀ r ∈ rows,Sh P n e r) : ∃ xs : List α,rows = xs.map f :=
 jF fun r hq=>ih (Sh.up (Sh.cast he (hr r hq)))
def infosB (P : Program) (S : List TypeId) : Bool := S.all fun t=>match P.info? t with
 | some i=>Nat.beq i.bytes (P.bytesOf t) && Nat.beq i.size (P.cellsOf t)
 | none=>false
theorem infos_of {P : Program} {S : List TypeId} (h : infosB P S = true) : ∀ t ∈ S,∃ i,P.info? t = some i ∧ i.bytes = P.bytesOf t ∧ i.size = P.cellsOf t := by
 intro t ht
 have := List.all_eq_true.1 h t ht
 cases hi : P.info? t with
 | none=>rw [hi] at this; cases this
 | some i =>
  rw [hi] at this
  simp only [Bool.and_eq_true] at this
  exact ⟨i,rfl,Nat.eq_of_beq_eq_true this.1,Nat.eq_of_beq_eq_true this.2⟩
section
variable {B : (H : Type) → DataW H → Nat} {H : Type} {enc : TypeId × Value → H} {P : Program} {W : World} {S : List TypeId}
theorem uj {n : Nat} (ih : ∀ t ∈ S,∀ (cs : List Value) x,DataW.trod enc P W 0 (fun _=>true) true n t cs = some x → (x.1.weights P t).all (· ≤ reachBytes) = true → ∃ pvs,Sh P n t pvs ∧ aB P (kN W) false pvs cs ∧ bN pvs ≤ B H x.1) :
  ∀ (fs : List Field) (o : Nat) (cs : List Value) (xs : List (DataW H × List MemPlace)),laidFs P o fs = true → fs.all (fun f=>S.contains f.type) = true → o + (fs.map fun f=>P.cellsOf f.type).sum = cs.length →
   (fs.mapM fun f=>DataW.trod enc P W 0 (fun _=>true) true n f.type ((cs.drop f.offset).take (P.cellsOf f.type))) = some xs →
   (DataW.weightsEach P (fs.map (·.type)) (xs.map (·.1))).all (· ≤ reachBytes) = true → ∃ pvs,hM (Sh P n) (fs.map (·.type)) pvs ∧ aB P (kN W) false pvs (cs.drop o) ∧ bN pvs ≤ ((xs.map (·.1)).map (B H)).sum
 | [],o,cs,xs,_,_,hlen,_,_=>by
  refine ⟨[],by simp [hM],?_,by simp [bN]⟩
  simp only [aB]
  exact List.drop_eq_nil_of_le (by simp at hlen; omega)
 | f :: fs,o,cs,xs,hl,hS,hlen,hm,hw=>by
  simp only [laidFs,Bool.and_eq_true] at hl
  simp only [List.all_cons,Bool.and_eq_true] at hS
  simp only [List.map_cons,List.sum_cons] at hlen
  have hoff : f.offset = o := Nat.eq_of_beq_eq_true hl.1
  rw [List.mapM_cons] at hm
  cases hx : DataW.trod enc P W 0 (fun _=>true) true n f.type ((cs.drop f.offset).take (P.cellsOf f.type)) with
  | none=>rw [hx] at hm; cases hm
  | some x =>
   rw [hx] at hm
   cases hr : (fs.mapM fun f=>DataW.trod enc P W 0 (fun _=>true) true n f.type ((cs.drop f.offset).take (P.cellsOf f.type))) with
   | none=>rw [hr] at hm; cases hm
   | some r =>
    rw [hr] at hm
    have hm' : x :: r = xs := Option.some.inj hm
    subst hm'
    simp only [List.map_cons,DataW.weightsEach,List.all_append,Bool.and_eq_true] at hw
    obtain ⟨pa,ha1,ha2,ha3⟩ := ih f.type (by simpa using hS.1) _ x hx hw.1
    obtain ⟨pb,hb1,hb2,hb3⟩ := uj ih fs (o + P.cellsOf f.type) cs r hl.2 hS.2 (by omega) hr hw.2
    refine ⟨pa ++ pb,⟨pa,pb,rfl,ha1,hb1⟩,?_,by rw [qE]; simp only [List.map_cons,List.sum_cons]; omega⟩
    have := ha2.append hb2
    rw [hoff] at this
    have e : (cs.drop o).take (P.cellsOf f.type) ++ cs.drop (o + P.cellsOf f.type) = cs.drop o := by
     rw [← List.drop_drop]; exact List.take_append_drop _ _
    rwa [e] at this
theorem absB_rows {n : Nat} {e : TypeId} (ih : ∀ (cs : List Value) x,DataW.trod enc P W 0 (fun _=>true) true n e cs = some x → (x.1.weights P e).all (· ≤ reachBytes) = true → ∃ pvs,Sh P n e pvs ∧ aB P (kN W) false pvs cs ∧ bN pvs ≤ B H x.1)
  {b o c : Nat} : ∀ (elems : List (DataW H × List MemPlace)) (k : Nat),(∀ j,j < elems.length → ((W.cells? 0 ((⟨b,o,none⟩ : Addr).add ((k + j) * c)) c).bind (DataW.trod enc P W 0 (fun _=>true) true n e)) = elems[j]?) →
   (DataW.weightsAll P e (elems.map (·.1))).all (· ≤ reachBytes) = true → ∃ rows : List (List PV),rows.length = elems.length ∧ (∀ r ∈ rows,Sh P n e r) ∧ dh P (kN W) c b (o + k * c) rows ∧ gA rows ≤ ((elems.map (·.1)).map (B H)).sum
 | [],k,_,_=>⟨[],rfl,by simp,by simp [dh],by simp [gA]⟩
 | x :: r,k,hj,hw=>by
  simp only [List.map_cons,DataW.weightsAll,List.all_append,Bool.and_eq_true] at hw
  have h0 := hj 0 (by simp)
  simp only [Nat.add_zero,List.getElem?_cons_zero] at h0
  cases hcs : W.cells? 0 ((⟨b,o,none⟩ : Addr).add (k * c)) c with
  | none=>rw [hcs] at h0; cases h0
  | some cs =>
   rw [hcs] at h0
   simp only [Option.bind_some] at h0
   obtain ⟨pv,hp1,hp2,hp3⟩ := ih cs x h0 hw.1
   obtain ⟨_,hlen,hcell⟩ := World.cells?_some hcs
   obtain ⟨rows,hr1,hr2,hr3,hr4⟩ := absB_rows ih r (k + 1) (fun j hj'=>by
    have := hj (j + 1) (by simpa using hj')
    rw [show k + (j + 1) = k + 1 + j from by omega] at this
    simpa using this) hw.2
   refine ⟨pv :: rows,by simp [hr1],?_,?_,by simp only [gA,List.map_cons,List.sum_cons]; omega⟩
   ·intro q hq
    rcases List.mem_cons.1 hq with rfl | hq
    ·exact hp1
    ·exact hr2 q hq
   ·simp only [dh]
    have hpl : pv.length = c := by rw [← hlen]; exact (hp2.length).symm
    have hone : ∀ y ∈ cs,y.oneCell' = true := aB.oneCell hp1.one hp2
    refine ⟨hpl,da.of_cells hp2 hone fun j hj'=>?_,?_⟩
    ·have := hcell j (by omega)
     rw [← this,eN,eN]
    ·rw [show o + (k + 1) * c = o + k * c + c from by rw [Nat.add_mul]; omega] at hr3
     exact hr3
theorem absB (hB : IsBulk B) (hS : S.all (okT P S) = true) (hinf : ∀ t ∈ S,∃ i,P.info? t = some i ∧ i.bytes = P.bytesOf t ∧ i.size = P.cellsOf t) : ∀ (n : Nat) (t : TypeId),t ∈ S → ∀ (cs : List Value) x,DataW.trod enc P W 0 (fun _=>true) true n t cs = some x →
  (x.1.weights P t).all (· ≤ reachBytes) = true → ∃ pvs,Sh P n t pvs ∧ aB P (kN W) false pvs cs ∧ bN pvs ≤ B H x.1 := by
 intro n
 induction n with
 | zero=>intro t _ cs x h; simp [DataW.trod] at h
 | succ n ih =>
  intro t ht cs x h hw
  have hok := List.all_eq_true.1 hS t ht
  unfold okT at hok
  simp only [Sh]
  split at hok
  ·rename_i hu
   obtain ⟨b,rfl⟩ := trod_bool_some hu h
   exact ⟨_,⟨b,rfl⟩,by simp [aB,Rep],by simp only [bN,PV.bulk]; exact hB.one _ _⟩
  ·rename_i k hu
   obtain ⟨m,rfl,hm⟩ := trod_int_some hu h
   exact ⟨_,⟨m,rfl,hm⟩,by simp [aB,Rep],by simp only [bN,PV.bulk]; exact hB.one _ _⟩
  ·rename_i hu
   obtain ⟨s,rfl,hx⟩ := trod_str_some hu h
   rw [hx] at hw
   simp only [DataW.weights,List.all_cons,List.all_nil,Bool.and_true,decide_eq_true_eq] at hw
   have hle : s.data.toList.length ≤ 2 ^ 47 := Nat.le_trans hw (by unfold reachBytes; omega)
   refine ⟨_,⟨s.data.toList,rfl,hle⟩,?_,by simp only [bN,PV.bulk]; rw [hx]; exact hB.str _ _⟩
   simp only [aB,Rep]
   exact ⟨_,[],rfl,⟨by simp,Nat.le_trans hle (by unfold iH; omega)⟩,rfl⟩
  ·rename_i e hu
   simp only [Bool.and_eq_true] at hok
   have he : e ∈ S := by simpa using hok.1
   obtain ⟨i,hi1,hi2,hi3⟩ := hinf e he
   rcases uF hu h with ⟨rfl,rfl⟩ | ⟨a,len,cap,elems,rest,rfl,hlc,hcm,hel,hre,hx⟩
   ·refine ⟨_,⟨[],rfl,by simp⟩,?_,by simp only [bN,PV.bulk,gA]; exact hB.one _ _⟩
    simp only [aB,Rep]
    exact ⟨_,[],rfl,⟨none,0,i,rfl,by simp,by simp,hi1,by simp,by simp⟩,rfl⟩
   ·have hlen : elems.length = len := by simpa using mapM_some_length hel
    have hrlen : rest.length = cap - len := by simpa using mapM_some_length hre
    rw [hx] at hw
    simp only [DataW.weights,hu,List.all_cons,List.all_append,zl,Bool.and_eq_true,decide_eq_true_eq] at hw
    have hpos : 0 < P.cellsOf e := by simpa [Nat.blt_eq] using hok.2
    have hget : ∀ j,j < elems.length → (W.cells? 0 (a.add (j * P.cellsOf e)) (P.cellsOf e)).bind (DataW.trod enc P W 0 (fun _=>true) true n e) = elems[j]? := fun j hj=>mapM_some_get hel j j (List.getElem?_range (by omega))
    have hsp : elems ≠ [] → a.spot = none := fun hne=>by
     have h0 := hget 0 (List.length_pos_iff.2 hne)
     rw [Nat.zero_mul] at h0
     cases hcs : W.cells? 0 (a.add 0) (P.cellsOf e) with
     | none=>rw [hcs] at h0; cases elems with
      | nil=>exact absurd rfl hne
      | cons _ _=>cases h0
     | some cs =>
      obtain ⟨_,hl,hc⟩ := World.cells?_some hcs
      have := hc 0 hpos
      cases hs : a.spot with
      | none=>rfl
      | some q =>
       have h1 : W.cell? ((a.add 0).add 0) = none := by
        simp only [World.cell?,Addr.add,hs,if_true]
        split <;> simp
       rw [h1] at this
       have := List.getElem?_eq_none_iff.1 this.symm
       omega
    have hby : len * i.bytes ≤ 2 ^ 47 := by
     have h1 := hw.1
     rw [hi2]
     have : len * P.bytesOf e ≤ (elems.length + rest.length) * P.bytesOf e := Nat.mul_le_mul_right _ (by omega)
     unfold reachBytes at h1
     omega
    by_cases hne : elems = []
    ·subst hne
     refine ⟨_,⟨[],rfl,by simp⟩,?_,by simp only [bN,PV.bulk,gA]; exact hB.one _ _⟩
     simp only [List.length_nil] at hlen
     subst hlen
     simp only [aB,Rep]
     exact ⟨_,[],rfl,⟨some a,cap,i,rfl,by simp,hcm,hi1,by simp,by simp⟩,rfl⟩
    ·obtain ⟨b,o,sp⟩ := a
     have := hsp hne
     simp only at this
     subst this
     obtain ⟨rows,hr1,hr2,hr3,hr4⟩ := absB_rows (B := B) (fun cs x hx hw=>ih e he cs x hx hw) elems 0 (fun j hj=>by rw [Nat.zero_add]; exact hget j hj) hw.2.1
     refine ⟨_,⟨rows,rfl,hr2⟩,?_,by simp only [bN,PV.bulk]; rw [hx]; exact Nat.le_trans (by omega) (hB.slice _ _ _)⟩
     simp only [aB,Rep]
     have hrl : rows.length = len := by omega
     rw [hrl]
     refine ⟨_,[],rfl,⟨some ⟨b,o,none⟩,cap,i,rfl,hlc,hcm,hi1,hby,fun _=>⟨b,o,rfl,?_⟩⟩,rfl⟩
     rw [hi3]
     simpa using hr3
  ·rename_i fs hu
   simp only [Bool.and_eq_true] at hok
   obtain ⟨hl,xs,hm,hx⟩ := ut hu h
   rw [hx] at hw
   simp only [DataW.weights,hu] at hw
   have hsum := Nat.eq_of_beq_eq_true hok.2
   obtain ⟨pvs,h1,h2,h3⟩ := uj (B := B) ih fs.toList 0 cs xs hok.1.1 hok.1.2 (by rw [hsum,hl]; omega) hm hw
   exact ⟨pvs,h1,by simpa using h2,by rw [hx]; exact Nat.le_trans h3 (hB.agg _ _)⟩
  ·cases hok
omit enc W S in
theorem argPV_bulk (hB : IsBulk B) (t : TypeId) (pvs : List PV) : (kM P t pvs).bulk ≤ max (bN pvs) 1 := by
 have _ := hB
 unfold kM
 split
 ·simp only [PV.bulk]; omega
 ·cases pvs with
  | nil=>simp [PV.bulk,bN]
  | cons p ps=>simp only [List.headD_cons,bN]; omega
theorem absB_val (hB : IsBulk B) (hS : S.all (okT P S) = true) (hinf : ∀ t ∈ S,∃ i,P.info? t = some i ∧ i.bytes = P.bytesOf t ∧ i.size = P.cellsOf t) {base : Nat} {t : TypeId} (ht : t ∈ S) {v : Value} {d : DataW H} {ps : List MemPlace}
  (hv : Value.okWide P W .any base t v) (h : DataW.Trod enc P W 0 (fun _=>true) true t v d ps) (hw : (d.weights P t).all (· ≤ reachBytes) = true) : ∃ n pvs,Sh P n t pvs ∧ Rep P (kN W) true (kM P t pvs) v ∧ (kM P t pvs).bulk ≤ B H d := by
 obtain ⟨n,hn⟩ := h
 obtain ⟨pvs,h1,h2,hb⟩ := absB hB hS hinf n t ht _ (d,ps) hn hw
 refine ⟨n,pvs,h1,?_,Nat.le_trans (argPV_bulk hB t pvs) (Nat.max_le.2 ⟨hb,hB.one _ _⟩)⟩
 have h2' := aB.slot h2
 have hok := List.all_eq_true.1 hS t ht
 unfold okT at hok
 unfold kM
 have one : v.cells = #[v] → Rep P (kN W) true (pvs.headD .any) v := by
  intro e
  rw [e] at h2'
  cases pvs with
  | nil=>simp [aB] at h2'
  | cons p ps =>
   simp only [aB] at h2'
   obtain ⟨x,xs,hx,hp,_⟩ := h2'
   simp only [List.cons.injEq] at hx
   rw [hx.1]
   exact hp
 cases hu : P.underlying t with
 | none=>rw [hu] at hok; cases hok
 | some td =>
  rw [hu] at hok
  cases td <;> first | (simp only [Bool.false_eq_true] at hok; done) | skip
  case bool=>obtain ⟨b,rfl⟩ := WideShapes.okWide_bool hu hv; exact one rfl
  case int k=>obtain ⟨m,rfl⟩ := WideShapes.okWide_int hu hv; exact one rfl
  case string=>obtain ⟨s,rfl⟩ := WideShapes.okWide_string hu hv; exact one rfl
  case slice e=>obtain ⟨a,len,cap,rfl⟩ := WideShapes.okWide_slice hu hv; exact one rfl
  case struct fs =>
   obtain ⟨cs,rfl,_⟩ := WideShapes.okWide_struct hu hv
   simp only [Rep]
   exact ⟨cs,rfl,h2'⟩
theorem absB_args (hB : IsBulk B) (hS : S.all (okT P S) = true) (hinf : ∀ t ∈ S,∃ i,P.info? t = some i ∧ i.bytes = P.bytesOf t ∧ i.size = P.cellsOf t) {base : Nat} : ∀ {ts : List TypeId} {vs : List Value} {ds : List (DataW H)} {ps : List MemPlace},(∀ t ∈ ts,t ∈ S) →
  (∀ (j : Nat) t v,ts[j]? = some t → vs[j]? = some v → Value.okWide P W .any base t v) → DataW.TrodAll enc P W 0 (fun _=>true) true ts vs ds ps → (DataW.weightsEach P ts ds).all (· ≤ reachBytes) = true →
  ∃ av0,ArgsSh P ts av0 ∧ aB P (kN W) true av0 vs ∧ bN av0 ≤ (ds.map (B H)).sum
 | [],_,_,_,_,_,h,_=>by
  obtain ⟨rfl,rfl,rfl⟩ := trodAll_nil h
  exact ⟨[],rfl,by simp [aB],by simp [bN]⟩
 | t :: ts,_,_,_,hm,hv,h,hw=>by
  obtain ⟨v,vs,d,ds,p,q,rfl,rfl,rfl,h1,h2⟩ := trodAll_cons h
  simp only [DataW.weightsEach,List.all_append,Bool.and_eq_true] at hw
  obtain ⟨n,pvs,a1,a2,a3⟩ := absB_val hB hS hinf (hm t (by simp)) (hv 0 t v rfl rfl) h1 hw.1
  obtain ⟨av0,b1,b2,b3⟩ := absB_args hB hS hinf (fun t ht=>hm t (by simp [ht])) (fun j t v ht hv'=>hv (j + 1) t v (by simpa using ht) (by simpa using hv')) h2 hw.2
  refine ⟨kM P t pvs :: av0,⟨n,pvs,av0,rfl,a1,b1⟩,?_,by simp only [bN,List.map_cons,List.sum_cons]; omega⟩
  simp only [aB]
  exact ⟨v,vs,rfl,a2,b2⟩
theorem law_callsB {N : Nat} (hB : IsBulk B) (hl : laidOutB P = true) {f : FuncId} {fn : Func} {s : ChangeSpec} {fresh handsOn again : Bool} {tb : TypeId} (hvars : s.vars = []) (hr : ∀ t ∈ fn.params.toList,P.readableRec t = true ∧ t < P.types.size) (hres : fn.resultTypes = #[tb]) (htb : P.underlying tb = some .bool)
  (hfn : ∀ ds : List (DataW H),ds.length = fn.params.toList.length → s.fn H ds = { results := [.lit (.bool true)],args := ds })
  (hS : S.all (okT P S) = true) (hinf : ∀ t ∈ S,∃ i,P.info? t = some i ∧ i.bytes = P.bytesOf t ∧ i.size = P.cellsOf t) (hm : ∀ t ∈ fn.params.toList,t ∈ S)
  (hspec : ∀ av0,ArgsSh P fn.params.toList av0 → bN av0 ≤ N → aK P f av0 (.val (.bool true)))
  {base : Nat} {args : Array Value} {ds gs : List (DataW H)} {before : List MemPlace} (hval : ∀ (j : Nat) t v,fn.params[j]? = some t → args[j]? = some v → Value.okWide P W .any base t v)
  (hW : DataW.Whole enc P fn.params.toList s.vars false W args.toList ds gs before) (hg : Gl W []) (hsz : (DataW.weightsEach P (fn.params.toList ++ s.plain.varTypes P) (ds ++ gs)).all (· ≤ reachBytes) = true) (hN : ((ds ++ gs).map (B H)).sum ≤ N) :
  Calls P f args W fun e W'=>∃ v,e = .returned v ∧ s.post enc P fn false fresh handsOn again W args v W' := by
 have hlt := hW.lt
 have hW' := hW
 obtain ⟨p,q,hA,hV,rfl,hz,hn⟩ := hW
 have hV' := hV
 rw [hvars] at hV
 obtain ⟨rfl,rfl⟩ := trodVars_none hV
 have hvt : s.plain.varTypes P = [] := by simp [DataSpec.varTypes,ChangeSpec.plain,hvars]
 rw [hvt,List.append_nil,List.append_nil] at hsz
 rw [List.append_nil] at hN
 have hlen : ds.length = fn.params.toList.length := tY hA
 obtain ⟨av0,h1,h2,h3⟩ := absB_args hB hS hinf hm (fun j t v ht hv=>hval j t v (by simpa using ht) (by simpa using hv)) hA hsz
 refine (hspec av0 h1 (Nat.le_trans h3 hN) W (kN W) [] hg args (InvH.start W hg) h2).mono ?_
 rintro e W' ⟨v,u,H',M',rfl,⟨rfl,rfl⟩,hi,hrep⟩
 simp only [Rep] at hrep
 subst hrep
 have hb := hi.below
 refine ⟨_,rfl,?_⟩
 have hfn' : s.fn H (ds ++ []) = { results := [.lit (.bool true)],args := ds } := by rw [List.append_nil]; exact hfn ds hlen
 have hargs : ∀ sp : Nat → Bool,(∀ x ∈ p ++ [],sp x.block = true) → DataW.TrodAll enc P W' 0 sp true fn.params.toList args.toList ds p := fun sp hsp =>
  rR hl hb hr hA (fun x hx=>hlt x (by simp [hx])) (fun x hx=>hsp x (by simp [hx]))
 have hres' : ∀ (b : Nat) (sp : Nat → Bool) (hd : Bool),DataW.TrodAll enc P W' b sp hd fn.resultTypes.toList ((Value.bool true).resultList fn.resultTypes.size) [.lit (.bool true)] [] := by
  intro b sp hd
  rw [hres]
  refine trodAll_mk1 ⟨1,?_⟩
  show DataW.trod enc P W' b sp hd 1 tb [.bool true] = _
  unfold DataW.trod
  rw [htb]
 have hvs : ∀ sp : Nat → Bool,DataW.TrodVars enc P W' sp s.vars ([] : List (DataW H)) [] := fun sp=>by rw [hvars]; simp [DataW.TrodVars]
 have hold : ∀ x ∈ p ++ [],(fun b=>decide (b < W.heap.size)) x.block = true := fun x hx=>by simpa using hlt x hx
 refine ⟨ds,[],p ++ [],[],p,[],hW',?_,?_,?_,hb.frame _,fun _=>⟨RowKit.ok_one hres rfl (RowKit.okWide_bool_mk htb true),[.lit (.bool true)] ++ ds,[],([] ++ p) ++ [],⟨[] ++ p,[],?_,hvs _,rfl,?_,fun h=>by cases h⟩,?_⟩⟩
 ·rw [hfn']; exact hres' _ _ _
 ·rw [hfn']; exact hargs _ hold
 ·rw [hfn']; exact hvs _
 ·exact trodAll_append (hargs _ fun _ _=>rfl) (hres' _ _ _)
 ·intro b off hx
  have hx' : MemPlace.cell b off ∈ p ++ [] := by simpa using hx
  rw [hb.frozen (hlt _ hx')]
  exact hz b off hx'
 ·intro x hx _
  simpa using hx
end
end
end Go.Ab

namespace Go.Ab
noncomputable section
open Go
theorem joined_of {P : Program} {f : FuncId} {fn : Func} {s : ChangeSpec} {c : OpenClaim}
  (h_wf : (c.wf (OpenSpec.ofChange s)) = true)
  (h_laid : (laidOutB P) = true)
  (h_mapsRowed : (mapsRowed P) = true)
  (h_rr : (fn.params.all (P.readableRec ·)) = true)
  (h_nt : (namedTie P c.named s.vars) = true)
  (h_st : ((c.stops == []) && (P.stops == []) && (c.knobs == []) && (P.stopKnobs == [])) = true)
  (h_inPlace : (c.inPlace == P.inPlace f) = true)
  (h_unf : (c.unfollowed == P.unfollowed f) = true)
  (h_rec : (c.recurses == P.recurses f) = true)
  (h_named : (c.named == P.varsNamed f) = true)
  (h_maps : ((c.maps == (fn.params.toList ++ s.plain.varTypes P).any (P.mapsRec ·)) && (c.ifaces == (fn.params.toList ++ s.plain.varTypes P).any (P.ifacesRec ·)) && (c.mapsOut == P.mapsAmong fn.resultTypes.toList)) = true)
  (h_loops : ((c.loops == (fn.params.toList ++ s.plain.varTypes P).any (P.loopsFrom ·))) = true)
  (h_wide : ((c.wideKeys == (fn.params.toList ++ s.plain.varTypes P ++ fn.resultTypes.toList).any (P.wideKeysFrom ·))) = true)
  (h_rest1 : (s.vars.all (P.varReadable ·) && fn.resultTypes.all (fun t=>P.readableRec t && decide (t < P.types.size)) && (c.ifacesOut == fn.resultTypes.toList.any (P.ifacesRec ·)) && (c.loopsOut == fn.resultTypes.toList.any (P.loopsFrom ·))) = true)
  (h_plainKeys : (c.plainKeys == P.plainKeys) = true)
  (h_rest2 : (c.shortTexts.isNone && P.stopsHeard && P.mayEnter && (c.lifted == P.liftsFinal) && (P.make == some c.make)) = true)
  (h_kinds : ((c.kinds == (if c.domain.isEmpty then [] else fn.params.toList.map fun t=>match P.underlying t with | some (.int k)=>some k | _=>none)) && (c.pinned == c.pinnedBy)) = true)
  (h_veil : ((c.veiled == (fn.params.toList ++ s.plain.varTypes P ++ fn.resultTypes.toList).any (P.veiledRec ·)) && c.veiledFits P fn.params.toList (fn.params.toList ++ s.plain.varTypes P ++ fn.resultTypes.toList)) = true)
  : joinedFacts P f fn s c = true := by
 simp only [Bool.and_eq_true] at h_st h_maps h_rest1 h_rest2 h_kinds h_veil
 simp only [joinedFacts,Bool.and_eq_true]
 exact ⟨⟨⟨⟨⟨⟨⟨⟨⟨⟨⟨⟨⟨⟨⟨⟨⟨⟨⟨⟨⟨⟨⟨⟨⟨⟨⟨⟨⟨⟨⟨h_wf,h_laid⟩,h_mapsRowed⟩,h_rr⟩,h_nt⟩,h_st.1.1.1⟩,h_st.1.1.2⟩,h_st.1.2⟩,h_st.2⟩,h_inPlace⟩,h_unf⟩,h_rec⟩,h_named⟩,h_maps.1.1⟩,h_maps.1.2⟩,h_maps.2⟩,h_loops⟩,h_wide⟩,h_rest1.1.1.1⟩,h_rest1.1.1.2⟩,h_rest1.1.2⟩,h_rest1.2⟩,h_plainKeys⟩,h_rest2.1.1.1.1⟩,h_rest2.1.1.1.2⟩,h_rest2.1.1.2⟩,h_rest2.1.2⟩,h_rest2.2⟩,h_kinds.1⟩,h_kinds.2⟩,h_veil.1⟩,h_veil.2⟩
end
end Go.Ab

namespace Go.Ab
noncomputable section
section
variable {P : Program} {ops : Array Oper} {rest : List Oper} {o : Oper} {n : Nat} {s s' : Nat → PV} {bx : Nat → Option Box} {ob : Nat → Option Obj} {K : PState → Prop} {T : TT}
abbrev lr (xs : List UInt8) : List (List PV) := xs.map fun c=>[.val (.int .u8 c.toNat)]
end
def af {α β : Type} (o : Option α) (k : α → Option β) : Option β := match o with
 | some a=>k a
 | none=>none
def bv {α β : Type} (a : α) (k : α → β) : β := k a
inductive Flow (σ ρ : Type) where
 | next (s : σ)
 | brk (s : σ)
 | ret (r : ρ)
def Flow.thenR {σ ρ : Type} (fl : Flow σ ρ) (k : σ → Option ρ) : Option ρ := match fl with
 | .next s=>k s
 | .brk s=>k s
 | .ret r=>some r
def Flow.thenF {σ τ ρ : Type} (fl : Flow σ ρ) (k : σ → Option (Flow τ ρ)) : Option (Flow τ ρ) := match fl with
 | .next s=>k s
 | .brk s=>k s
 | .ret r=>some (.ret r)
def aH {α σ ρ : Type} (step : Nat → α → σ → Option (Flow σ ρ)) : Nat → List α → σ → Option (Flow σ ρ)
 | _,[],s=>some (.next s)
 | j,x :: xs,s=>match step j x s with
  | none=>none
  | some (.next s')=>aH step (j + 1) xs s'
  | some (.brk s')=>some (.next s')
  | some (.ret r)=>some (.ret r)
def jO {σ ρ : Type} (step : σ → Option (Flow σ ρ)) : Nat → σ → Option (Flow σ ρ)
 | 0,_=>none
 | n + 1,s=>match step s with
  | none=>none
  | some (.next s')=>jO step n s'
  | some (.brk s')=>some (.next s')
  | some (.ret r)=>some (.ret r)
open Classical in
def fU {σ ρ : Type} (step : σ → Option (Flow σ ρ)) (s : σ) : Option (Flow σ ρ) :=
 if h : ∃ r,∃ n,jO step n s = some r then some h.choose else none
theorem iterM_le {σ ρ : Type} {step : σ → Option (Flow σ ρ)} : ∀ {n m : Nat} {s : σ} {r : Flow σ ρ},jO step n s = some r → n ≤ m → jO step m s = some r
 | 0,_,_,_,h,_=>by simp [jO] at h
 | n + 1,0,_,_,_,hm=>by omega
 | n + 1,m + 1,s,r,h,hm=>by
  simp only [jO] at h ⊢
  split at h
  ·cases h
  ·exact iterM_le h (by omega)
  ·exact h
  ·exact h
theorem whileM_iff {σ ρ : Type} {step : σ → Option (Flow σ ρ)} {s : σ} {r : Flow σ ρ} : fU step s = some r ↔ ∃ n,jO step n s = some r := by
 unfold fU
 constructor
 ·intro h
  split at h
  ·rename_i hx
   obtain ⟨n,hn⟩ := hx.choose_spec
   exact ⟨n,by rw [hn]; exact h⟩
  ·cases h
 ·rintro ⟨n,hn⟩
  have hx : ∃ r,∃ n,jO step n s = some r := ⟨r,n,hn⟩
  rw [dif_pos hx]
  obtain ⟨m,hm⟩ := hx.choose_spec
  have h1 := iterM_le hn (Nat.le_max_left n m)
  have h2 := iterM_le hm (Nat.le_max_right n m)
  rw [h1] at h2
  exact h2.symm
theorem lZ {σ ρ : Type} {step : σ → Option (Flow σ ρ)} {s : σ} {fl r : Flow σ ρ} (h : step s = some fl) (hr : match fl with | .next s'=>fU step s' = some r | .brk s'=>r = .next s' | .ret x=>r = .ret x) : fU step s = some r := by
 rw [whileM_iff]
 cases fl with
 | next s' =>
  obtain ⟨n,hn⟩ := whileM_iff.1 hr
  exact ⟨n + 1,by simp only [jO,h,hn]⟩
 | brk s'=>exact ⟨1,by simp only [jO,h,hr]⟩
 | ret x=>exact ⟨1,by simp only [jO,h,hr]⟩
theorem av {α β : Type} {o : Option α} {k : α → Option β} {r : β} (h : af o k = some r) : ∃ a,o = some a ∧ k a = some r := by
 cases o with
 | none=>cases h
 | some a=>exact ⟨a,rfl,h⟩
theorem cX {α β : Type} {a : α} {k : α → β} {r : β} (h : bv a k = r) : ∃ x,a = x ∧ k x = r := ⟨a,rfl,h⟩
theorem condT {α : Type} {c : Bool} {A B r : α} (h : c = true) (H : cond c A B = r) : A = r := by subst h; exact H
theorem condF {α : Type} {c : Bool} {A B r : α} (h : c = false) (H : cond c A B = r) : B = r := by subst h; exact H
theorem aF {P : Program} {fn : Func} {R : PV → Heap → Prop} {k : List KI} {st : PState} {c : Operand} {x y : Code} {b : Bool} (hc : evS st.s c = .val (.bool b)) {α : Type} {A B r : α} (H : (bif b then A else B) = r) (ht : A = r → V P fn R (.code x :: k) st) (hf : B = r → V P fn R (.code y :: k) st) : V P fn R (.code (.cond c x y) :: k) st := br hc (fun h=>ht (Go.Ab.condT h H)) (fun h=>hf (Go.Ab.condF h H))
theorem bh {P : Program} {ops : Array Oper} {o : Oper} {rest : List Oper} {n : Nat} {s : Nat → PV} {bx : Nat → Option Box} {ob : Nat → Option Obj} {K : PState → Prop} {j : Nat} {want b : Bool} {d : Nat} (hg : o.guard = some (j,want)) (hd : (ops[j]?).bind (·.dst) = some d) (hs : s d = .val (.bool b)) {α : Type} {A B r : α} (H : cond b A B = r)
  (ht : A = r → Ao P ops (o :: rest) ⟨n,upd s d (.val (.bool true)),bx,ob⟩ K) (hf : B = r → Ao P ops (o :: rest) ⟨n,upd s d (.val (.bool false)),bx,ob⟩ K) : Ao P ops (o :: rest) ⟨n,s,bx,ob⟩ K := gY hg hd hs (fun h=>ht (condT h H)) (fun h=>hf (condF h H))
theorem Do.sH {P : Program} {T : TT} {rb : RB} {ops : Array Oper} {o : Oper} {k : Nat} {L : List Nat} {n : Nat} {s : Nat → PV} {bx : Nat → Option Box} {ob : Nat → Option Obj} {K : PState → Prop} {j : Nat} {want b : Bool} {d : Nat} (ho : ops[k]? = some o) (hg : o.guard = some (j,want)) (hd : (ops[j]?).bind (·.dst) = some d) (hs : s d = .val (.bool b)) {α : Type} {A B r : α} (H : cond b A B = r)
  (ht : A = r → Do P T rb ops (k :: L) ⟨n,upd s d (.val (.bool true)),bx,ob⟩ K) (hf : B = r → Do P T rb ops (k :: L) ⟨n,upd s d (.val (.bool false)),bx,ob⟩ K) : Do P T rb ops (k :: L) ⟨n,s,bx,ob⟩ K := nE ho hg hd hs (fun h=>ht (condT h H)) (fun h=>hf (condF h H))
theorem jK {P : Program} {T : TT} {rb : RB} {ops : Array Oper} {o : Oper} {k : Nat} {L : List Nat} {n : Nat} {s : Nat → PV} {bx : Nat → Option Box} {ob : Nat → Option Obj} {K : PState → Prop} {j : Nat} {want b : Bool} {d : Nat} {α : Type} {A B r : α} (H : cond b A B = r) (ht : A = r → Do P T rb ops (k :: L) ⟨n,upd s d (.val (.bool true)),bx,ob⟩ K) (hf : B = r → Do P T rb ops (k :: L) ⟨n,upd s d (.val (.bool false)),bx,ob⟩ K) (ho : ops[k]? = some o := by exact rfl) (hg : o.guard = some (j,want) := by exact rfl) (hd : (ops[j]?).bind (·.dst) = some d := by exact rfl) (hs : s d = .val (.bool b) := by exact rfl) : Do P T rb ops (k :: L) ⟨n,s,bx,ob⟩ K := Do.sH ho hg hd hs H ht hf
theorem sK {σ τ ρ : Type} {r : ρ} {k : σ → Option (Flow τ ρ)} {x : Flow τ ρ} (h : Flow.thenF (.ret r) k = some x) : x = .ret r := (Option.some.inj h).symm
theorem aS {σ ρ : Type} {r x : ρ} {k : σ → Option ρ} (h : Flow.thenR (.ret r) k = some x) : r = x := Option.some.inj h
theorem az {α : Type} {a b : α} (h : some a = some b) : a = b := Option.some.inj h
def nJ {α σ ρ : Type} (step : Nat → α → σ → Option (Flow σ ρ)) (xs : List α) (j : Nat) (res : Flow σ ρ) : Flow σ ρ → Prop
 | .next s'=>aH step (j + 1) (xs.drop (j + 1)) s' = some res
 | .brk s'=>res = .next s'
 | .ret r=>res = .ret r
theorem rMc {α σ ρ : Type} {step : Nat → α → σ → Option (Flow σ ρ)} {xs : List α} {j : Nat} {s : σ} {res : Flow σ ρ} (hj : j < xs.length) (h : aH step j (xs.drop j) s = some res) :
  ∃ x fl,xs[j]? = some x ∧ step j x s = some fl ∧ nJ step xs j res fl := by
 rw [List.drop_eq_getElem_cons hj,aH] at h
 refine ⟨xs[j],?_⟩
 split at h
 ·cases h
 ·rename_i s' hs; exact ⟨_,ze hj,hs,h⟩
 ·rename_i s' hs; exact ⟨_,ze hj,hs,(Option.some.inj h).symm⟩
 ·rename_i s' hs; exact ⟨_,ze hj,hs,(Option.some.inj h).symm⟩
theorem rMd {α σ ρ : Type} {step : Nat → α → σ → Option (Flow σ ρ)} {xs : List α} {j : Nat} {s : σ} {res : Flow σ ρ} (hj : xs.length ≤ j) (h : aH step j (xs.drop j) s = some res) : res = .next s := by
 rw [List.drop_eq_nil_of_le hj,aH] at h
 exact (Option.some.inj h).symm
def iterGo {σ ρ : Type} (step : σ → Option (Flow σ ρ)) (n : Nat) (res : Flow σ ρ) : Flow σ ρ → Prop
 | .next s'=>jO step n s' = some res
 | .brk s'=>res = .next s'
 | .ret r=>res = .ret r
theorem fE {σ ρ : Type} {step : σ → Option (Flow σ ρ)} {n : Nat} {s : σ} {res : Flow σ ρ} (h : jO step (n + 1) s = some res) : ∃ fl,step s = some fl ∧ iterGo step n res fl := by
 rw [jO] at h
 split at h
 ·cases h
 ·rename_i s' hs; exact ⟨_,hs,h⟩
 ·rename_i s' hs; exact ⟨_,hs,(Option.some.inj h).symm⟩
 ·rename_i s' hs; exact ⟨_,hs,(Option.some.inj h).symm⟩
section
variable {P : Program} {fn : Func} {R : PV → Heap → Prop} {k : List KI} {n : Nat} {s : Nat → PV} {bx : Nat → Option Box} {ob : Nat → Option Obj} {T : TT} {st : PState}
theorem fY {τ γ : Type} (J : τ → γ → PState) (Gd : τ → Prop) {c : Code} (h : V P fn R (.code c :: .stop (fun st'=>∃ t g,Gd t ∧ st' = J t g) :: k) st) (hk : ∀ t g,Gd t → V P fn R k (J t g)) :
  V P fn R (.code c :: k) st := by
 intro C M a w hi
 have := h C M a w hi
 simp only [after] at this ⊢
 refine wp_mono this ?_
 intro e a w he
 cases e with
 | normal =>
  obtain ⟨st',M',⟨t,g,hG,rfl⟩,hi'⟩ := he
  exact hk t g hG C M' a w hi'
 | _=>exact he
theorem aT {τ γ : Type} {J : τ → γ → PState} {Gd : τ → Prop} (t : τ) (g : γ) (hG : Gd t) (h : Gh P st (J t g)) : V P fn R (.stop (fun st'=>∃ t g,Gd t ∧ st' = J t g) :: k) st :=
 fI h (uP ⟨t,g,hG,rfl⟩)
theorem eO {τ γ β : Type} {x : Option τ} {f : τ → Option β} {r : β} (J : τ → γ → PState) {c : Code} (H : af x f = some r) (h : ∀ u,x = some u → V P fn R (.code c :: .stop (fun st'=>∃ t g,t = u ∧ st' = J t g) :: k) st)
  (hk : ∀ t g,f t = some r → V P fn R k (J t g)) : V P fn R (.code c :: k) st := by
 obtain ⟨u,h1,h2⟩ := av H
 exact fY J (fun t=>t = u) (h u h1) (fun t g e=>hk t g (e ▸ h2))
theorem gp {τ γ β : Type} {x : τ} {f : τ → β} {r : β} (J : τ → γ → PState) {c : Code} (H : bv x f = r) (h : ∀ u,x = u → V P fn R (.code c :: .stop (fun st'=>∃ t g,t = u ∧ st' = J t g) :: k) st)
  (hk : ∀ t g,f t = r → V P fn R k (J t g)) : V P fn R (.code c :: k) st := by
 obtain ⟨u,h1,h2⟩ := cX H
 exact fY J (fun t=>t = u) (h u h1) (fun t g e=>hk t g (e ▸ h2))
theorem jC {α σ ρ γ : Type} {step : Nat → α → σ → Option (Flow σ ρ)} {xs : List α} {res : Flow σ ρ} (F : Nat → σ → γ → PState) {s₀ : σ} (g₀ : γ) {c : Code}
  (hres : aH step 0 xs s₀ = some res) (h₀ : Gh P st (F 0 s₀ g₀))
  (round : ∀ j s g,j ≤ xs.length → aH step j (xs.drop j) s = some res →
   V P fn R (.code c :: .stop (fun st'=>∃ s' g',(j + 1 ≤ xs.length ∧ aH step (j + 1) (xs.drop (j + 1)) s' = some res) ∧ st' = F (j + 1) s' g') :: k) (F j s g)) :
  V P fn R (.code (.loop c) :: k) st := by
 refine kE (X := Nat × σ × γ) (fun X=>F X.1 X.2.1 X.2.2) (fun X=>X.1 ≤ xs.length ∧ aH step X.1 (xs.drop X.1) X.2.1 = some res) (fun X=>xs.length - X.1) (0,s₀,g₀) ⟨Nat.zero_le _,by simpa using hres⟩ h₀ ?_
 rintro ⟨j,s,g⟩ ⟨h1,h2⟩
 have := round j s g h1 h2
 intro C M a w hi
 have h3 := this C M a w hi
 simp only [after] at h3 ⊢
 refine wp_mono h3 ?_
 intro e a w he
 cases e with
 | normal =>
  obtain ⟨st',M',⟨s',g',⟨h4,h5⟩,rfl⟩,hi'⟩ := he
  exact ⟨_,M',⟨(j + 1,s',g'),by show xs.length - (j + 1) < xs.length - j; omega,⟨h4,h5⟩,rfl⟩,hi'⟩
 | _=>exact he
theorem eg {σ γ : Type} {Q : σ → Prop} {F : σ → γ → PState} (s' : σ) (g' : γ) (hQ : Q s') (h : Gh P st (F s' g')) : V P fn R (.stop (fun st'=>∃ s' g',Q s' ∧ st' = F s' g') :: k) st :=
 fI h (uP ⟨s',g',hQ,rfl⟩)
theorem gX {σ ρ γ : Type} {step : σ → Option (Flow σ ρ)} {res : Flow σ ρ} (F : σ → γ → PState) {s₀ : σ} (g₀ : γ) {c : Code}
  (hres : fU step s₀ = some res) (h₀ : Gh P st (F s₀ g₀))
  (round : ∀ m s g,jO step (m + 1) s = some res → V P fn R (.code c :: .stop (fun st'=>∃ s' g',jO step m s' = some res ∧ st' = F s' g') :: k) (F s g)) :
  V P fn R (.code (.loop c) :: k) st := by
 obtain ⟨m,hm⟩ := whileM_iff.1 hres
 refine kE (X := Nat × σ × γ) (fun X=>F X.2.1 X.2.2) (fun X=>jO step X.1 X.2.1 = some res) (fun X=>X.1) (m,s₀,g₀) hm h₀ ?_
 rintro ⟨j,s,g⟩ h2
 cases j with
 | zero=>simp [jO] at h2
 | succ j =>
 have := round j s g h2
 intro C M a w hi
 have h3 := this C M a w hi
 simp only [after] at h3 ⊢
 refine wp_mono h3 ?_
 intro e a w he
 cases e with
 | normal =>
  obtain ⟨st',M',⟨s',g',h5,rfl⟩,hi'⟩ := he
  exact ⟨_,M',⟨(j,s',g'),Nat.lt_succ_self j,h5,rfl⟩,hi'⟩
 | _=>exact he
theorem Gh.cast (d : Nat) {p q : PV} (hs : s d = p) (h : PLe P p q) : Gh P ⟨n,s,bx,ob⟩ ⟨n,upd s d q,bx,ob⟩ := fun _ M _ _ hi =>
 ⟨M,⟨hi.1.1,hi.1.2.1,fun t=>by
  show Rep P M true (upd s d q t) _
  rw [eX]
  split
  ·rename_i e; subst e; have := hi.1.2.2 t; exact h M _ (hs ▸ this)
  ·exact hi.1.2.2 t⟩,hi.2⟩
end
section
variable {α : Type} {f f' : α → List PV}
theorem bn (hE : ∀ x,f' x = f x) {xs : List α} {j : Nat} {x : α} (h : xs[j]? = some x) : (xs.map f')[((j : Nat) : Int).toNat]? = some (f x) := by
 simp [h,hE]
theorem aP (hE : ∀ x,f' x = f x) {xs : List α} {i : Int} {x : α} (h : xs[i.toNat]? = some x) : (xs.map f')[i.toNat]? = some (f x) := by
 simp [h,hE]
theorem qM (hE : ∀ x,f' x = f x) (xs : List α) : xs.map f = xs.map f' := by
 apply List.map_congr_left
 intro x _
 exact (hE x).symm
theorem pM {xs ys : List α} {a b : Nat} (h : ys = (xs.take b).drop a) : ((xs.map f).take b).drop a = ys.map f := by rw [h]; simp
theorem qH {xs : List α} {j : Nat} (h : decide ((j : Int) < ((xs.length : Nat) : Int)) = true) : j < xs.length := by simpa using h
theorem qJ {xs : List α} {j : Nat} (h : decide ((j : Int) < ((xs.length : Nat) : Int)) = false) : xs.length ≤ j := by simpa using h
end
theorem gD.of_eq {P : Program} {a b : List (List PV)} (h : a = b) : gD P a b := h ▸ gD.refl a
theorem gD.trans {P : Program} {a b c : List (List PV)} (h : gD P a b) (h' : gD P b c) : gD P a c := ⟨h.1.trans h'.1,fun M k x o hx=>h'.2 M k x o (h.2 M k x o hx)⟩
def aJ {α : Type} (xs : List α) (i : Int) : Option α := if 0 ≤ i then xs[i.toNat]? else none
theorem gIs {α : Type} {xs : List α} {i : Int} {x : α} (h : aJ xs i = some x) : 0 ≤ i ∧ xs[i.toNat]? = some x := by
 unfold aJ at h
 split at h
 ·rename_i h0; exact ⟨h0,h⟩
 ·cases h
theorem bs {α β : Type} {xs : List α} {i : Int} {k : α → Option β} {r : β} (h : af (aJ xs i) k = some r) : ∃ a,(0 ≤ i ∧ xs[i.toNat]? = some a) ∧ k a = some r := by
 obtain ⟨a,h1,h2⟩ := av h
 exact ⟨a,gIs h1,h2⟩
def nu {α : Type} (xs : List α) (a b : Int) : Option (List α) := if 0 ≤ a ∧ a ≤ b ∧ b ≤ xs.length then some ((xs.take b.toNat).drop a.toNat) else none
theorem oq {α : Type} {xs ys : List α} {a b : Int} (h : nu xs a b = some ys) : (0 ≤ a ∧ a ≤ b ∧ b ≤ xs.length) ∧ ys = (xs.take b.toNat).drop a.toNat := by
 unfold nu at h
 split at h
 ·rename_i h0; exact ⟨h0,(Option.some.inj h).symm⟩
 ·cases h
def dg {α : Type} (bytes : Nat) (xs ys : List α) : Option (List α) := if (xs.length + ys.length) * bytes ≤ 2 ^ 47 ∧ xs.length + ys.length ≤ maxLen then some (xs ++ ys) else none
theorem cu {α : Type} {bytes : Nat} {xs ys zs : List α} (h : dg bytes xs ys = some zs) : (xs.length + ys.length) * bytes ≤ 2 ^ 47 ∧ xs.length + ys.length ≤ maxLen ∧ zs = xs ++ ys := by
 unfold dg at h
 split at h
 ·rename_i h0; exact ⟨h0.1,h0.2,(Option.some.inj h).symm⟩
 ·cases h
theorem dT {α β : Type} {f : α → β} {bytes : Nat} {xs ys : List α} (h : (xs.length + ys.length) * bytes ≤ 2 ^ 47) : ((xs.map f).length + (ys.map f).length) * bytes ≤ 2 ^ 47 := by simpa using h
theorem dU {α β : Type} {f : α → β} {xs ys : List α} (h : xs.length + ys.length ≤ maxLen) : (xs.map f).length + (ys.map f).length ≤ maxLen := by simpa using h
theorem dS {α β : Type} {f : α → β} {xs ys zs : List α} (h : zs = xs ++ ys) : xs.map f ++ ys.map f = zs.map f := by rw [h,List.map_append]
def Flow.thenP {σ β : Type} (fl : Flow σ Empty) (k : σ → Option β) : Option β := match fl with
 | .next s=>k s
 | .brk s=>k s
 | .ret r=>r.elim
theorem dG {σ β : Type} {fl : Flow σ Empty} {t : σ} {k : σ → Option β} {r : β} (h : fl = .next t) (H : fl.thenP k = some r) : k t = some r := by subst h; exact H
theorem oP {σ ρ : Type} {fl : Flow σ ρ} {t : σ} {k : σ → Option ρ} {r : ρ} (h : fl = .next t) (H : fl.thenR k = some r) : k t = some r := by subst h; exact H
theorem thenF_next {σ τ ρ : Type} {fl : Flow σ ρ} {t : σ} {k : σ → Option (Flow τ ρ)} {r : Flow τ ρ} (h : fl = .next t) (H : fl.thenF k = some r) : k t = some r := by subst h; exact H
section
variable {P : Program} {fn : Func} {R : PV → Heap → Prop} {k : List KI} {n : Nat} {s : Nat → PV} {bx : Nat → Option Box} {ob : Nat → Option Obj} {T : TT}
def nB {σ γ : Type} : σ → γ → Nat → Option Box := fun _ _ _=>none
def nO {σ γ : Type} : σ → γ → Nat → Option Obj := fun _ _ _=>none
theorem uQ {α σ ρ γ β : Type} {step : Nat → α → σ → Option (Flow σ ρ)} {xs : List α} {s₀ : σ} {th : Flow σ ρ → Option β} {r : β} {rw : α → List PV}
  (hT : T.Ok P) (d : Nat) {e : TypeId} {ei : TInfo} (hei : T.get e = some ei) (hs : s d = .list e (xs.map rw))
  (S : σ → γ → Nat → PV) (B : σ → γ → Nat → Option Box) (O : σ → γ → Nat → Option Obj) (E : (Nat → PV) → Nat → σ → γ → Nat → PV) (g₀ : γ)
  {id rid : Nat} {ops : Array Oper} {o : Oper} {tst : Operand} {rest : Code} {S' : Nat → σ → γ → Nat → PV}
  (H : af (aH step 0 xs s₀) th = some r)
  (h₀ : Gh P ⟨n,s,bx,ob⟩ ⟨n,E (S s₀ g₀) 0 s₀ g₀,B s₀ g₀,O s₀ g₀⟩)
  (ho : ops.toList = [o])
  (hq : ∀ j s g,oQ T ops n (E (S s g) j s g) (B s g) o = some (S' j s g))
  (ht : ∀ j s g,evS (S' j s g) tst = .val (.bool (decide ((j : Int) < ((xs.length : Nat) : Int)))))
  (hx : ∀ j s g,Gh P ⟨n,S' j s g,B s g,O s g⟩ ⟨n,S s g,B s g,O s g⟩)
  (round : ∀ fl,th fl = some r → ∀ j s g,xs.length ≤ maxLen → j < xs.length → ∀ x fb,xs[j]? = some x → step j x s = some fb → nJ step xs j fl fb →
   V P fn R (.code rest :: .stop (fun st'=>∃ s' g',(j + 1 ≤ xs.length ∧ aH step (j + 1) (xs.drop (j + 1)) s' = some fl) ∧ st' = ⟨n,E (S s' g') (j + 1) s' g',B s' g',O s' g'⟩) :: .blk id :: .stop (fun st'=>∃ t g,fl = .next t ∧ st' = ⟨n,S t g,B t g,O t g⟩) :: k) ⟨n,S' j s g,B s g,O s g⟩)
  (hk : ∀ t g,th (.next t) = some r → V P fn R k ⟨n,S t g,B t g,O t g⟩) :
  V P fn R (.code (.block id (.loop (.seq (.region rid ops false) (.seq (.cond tst .skip (.exit id)) rest)))) :: k) ⟨n,s,bx,ob⟩ := by
 refine iq hT d hei hs (fun hz _=>?_)
 rw [zl] at hz
 obtain ⟨fl,h1,h2⟩ := av H
 refine fY (fun t g=>⟨n,S t g,B t g,O t g⟩) (fun t=>fl = .next t) ?_ (fun t g e=>hk t g (by subst e; exact h2))
 refine aw (jC (fun j s g=>⟨n,E (S s g) j s g,B s g,O s g⟩) g₀ h1 h₀ (fun j s g hj hr=>?_))
 refine ab (aa ?_)
 rw [ho]
 refine ah hT (hq j s g) (ac ?_)
 refine ab (br (ht j s g) (fun h=>?_) (fun h=>?_))
 ·have hl : j < xs.length := by simpa using h
  obtain ⟨x,fb,hx1,H,hg⟩ := rMc hl hr
  exact ap (round fl h2 j s g hz hl x fb hx1 H hg)
 ·have hn := rMd (by simpa using h) hr
  refine bq (k' := .stop (fun st'=>∃ t g,fl = .next t ∧ st' = ⟨n,S t g,B t g,O t g⟩) :: k) ?_ (aT s g hn (hx j s g))
  simp [nN,Nat.beq_refl]
theorem uR {α σ γ β : Type} {step : Nat → α → σ → Option (Flow σ Empty)} {xs : List α} {s₀ : σ} {kk : σ → Option (β)} {r : β} {rw : α → List PV}
  (hT : T.Ok P) (d : Nat) {e : TypeId} {ei : TInfo} (hei : T.get e = some ei) (hs : s d = .list e (xs.map rw))
  (S : σ → γ → Nat → PV) (B : σ → γ → Nat → Option Box) (O : σ → γ → Nat → Option Obj) (E : (Nat → PV) → Nat → σ → γ → Nat → PV) (g₀ : γ)
  {id rid : Nat} {ops : Array Oper} {o : Oper} {tst : Operand} {rest : Code} {S' : Nat → σ → γ → Nat → PV}
  (H : af (aH step 0 xs s₀) (fun fl=>fl.thenP kk) = some r)
  (ho : ops.toList = [o])
  (h₀ : Gh P ⟨n,s,bx,ob⟩ ⟨n,E (S s₀ g₀) 0 s₀ g₀,B s₀ g₀,O s₀ g₀⟩)
  (hq : ∀ j s g,oQ T ops n (E (S s g) j s g) (B s g) o = some (S' j s g))
  (ht : ∀ j s g,evS (S' j s g) tst = .val (.bool (decide ((j : Int) < ((xs.length : Nat) : Int)))))
  (hx : ∀ j s g,Gh P ⟨n,S' j s g,B s g,O s g⟩ ⟨n,S s g,B s g,O s g⟩)
  (round : ∀ fl,fl.thenP kk = some r → ∀ j s g,xs.length ≤ maxLen → j < xs.length → ∀ x fb,xs[j]? = some x → step j x s = some fb → nJ step xs j fl fb →
   V P fn R (.code rest :: .stop (fun st'=>∃ s' g',(j + 1 ≤ xs.length ∧ aH step (j + 1) (xs.drop (j + 1)) s' = some fl) ∧ st' = ⟨n,E (S s' g') (j + 1) s' g',B s' g',O s' g'⟩) :: .blk id :: .stop (fun st'=>∃ t g,fl = .next t ∧ st' = ⟨n,S t g,B t g,O t g⟩) :: k) ⟨n,S' j s g,B s g,O s g⟩)
  (hk : ∀ t g,kk t = some r → V P fn R k ⟨n,S t g,B t g,O t g⟩) :
  V P fn R (.code (.block id (.loop (.seq (.region rid ops false) (.seq (.cond tst .skip (.exit id)) rest)))) :: k) ⟨n,s,bx,ob⟩ :=
 uQ hT d hei hs S B O E g₀ H h₀ ho hq ht hx round (fun t g e=>hk t g e)
theorem vu {α σ γ β : Type} {step : Nat → α → σ → Option (Flow σ β)} {xs : List α} {s₀ : σ} {kk : σ → Option (β)} {r : β} {rw : α → List PV}
  (hT : T.Ok P) (d : Nat) {e : TypeId} {ei : TInfo} (hei : T.get e = some ei) (hs : s d = .list e (xs.map rw))
  (S : σ → γ → Nat → PV) (B : σ → γ → Nat → Option Box) (O : σ → γ → Nat → Option Obj) (E : (Nat → PV) → Nat → σ → γ → Nat → PV) (g₀ : γ)
  {id rid : Nat} {ops : Array Oper} {o : Oper} {tst : Operand} {rest : Code} {S' : Nat → σ → γ → Nat → PV}
  (H : af (aH step 0 xs s₀) (fun fl=>fl.thenR kk) = some r)
  (ho : ops.toList = [o])
  (h₀ : Gh P ⟨n,s,bx,ob⟩ ⟨n,E (S s₀ g₀) 0 s₀ g₀,B s₀ g₀,O s₀ g₀⟩)
  (hq : ∀ j s g,oQ T ops n (E (S s g) j s g) (B s g) o = some (S' j s g))
  (ht : ∀ j s g,evS (S' j s g) tst = .val (.bool (decide ((j : Int) < ((xs.length : Nat) : Int)))))
  (hx : ∀ j s g,Gh P ⟨n,S' j s g,B s g,O s g⟩ ⟨n,S s g,B s g,O s g⟩)
  (round : ∀ fl,fl.thenR kk = some r → ∀ j s g,xs.length ≤ maxLen → j < xs.length → ∀ x fb,xs[j]? = some x → step j x s = some fb → nJ step xs j fl fb →
   V P fn R (.code rest :: .stop (fun st'=>∃ s' g',(j + 1 ≤ xs.length ∧ aH step (j + 1) (xs.drop (j + 1)) s' = some fl) ∧ st' = ⟨n,E (S s' g') (j + 1) s' g',B s' g',O s' g'⟩) :: .blk id :: .stop (fun st'=>∃ t g,fl = .next t ∧ st' = ⟨n,S t g,B t g,O t g⟩) :: k) ⟨n,S' j s g,B s g,O s g⟩)
  (hk : ∀ t g,kk t = some r → V P fn R k ⟨n,S t g,B t g,O t g⟩) :
  V P fn R (.code (.block id (.loop (.seq (.region rid ops false) (.seq (.cond tst .skip (.exit id)) rest)))) :: k) ⟨n,s,bx,ob⟩ :=
 uQ hT d hei hs S B O E g₀ H h₀ ho hq ht hx round (fun t g e=>hk t g e)
def eL {α : Type} (i m d : Nat) (ety : TypeId) (xs : List α) (rw : α → List PV) (e : Nat → PV) (j : Nat) : Nat → PV := upd (upd (upd e i (.val (.int .i64 (j : Int)))) m (.val (.int .i64 (xs.length : Int)))) d (.list ety (xs.map rw))
theorem hZ {α σ γ β : Type} {step : Nat → α → σ → Option (Flow σ Empty)} {xs : List α} {s₀ : σ} {kk : σ → Option (β)} {r : β} {rw : α → List PV}
  (hT : T.Ok P) (i m d : Nat) {e : TypeId} {ei : TInfo}
  (S : σ → γ → Nat → PV) (B : σ → γ → Nat → Option Box) (O : σ → γ → Nat → Option Obj) (g₀ : γ)
  {id rid : Nat} {ops : Array Oper} {o : Oper} {tst : Operand} {rest : Code} {S' : Nat → σ → γ → Nat → PV}
  (H : af (aH step 0 xs s₀) (fun fl=>fl.thenP kk) = some r)
  (round : ∀ fl,fl.thenP kk = some r → ∀ j s g,xs.length ≤ maxLen → j < xs.length → ∀ x fb,xs[j]? = some x → step j x s = some fb → nJ step xs j fl fb →
   V P fn R (.code rest :: .stop (fun st'=>∃ s' g',(j + 1 ≤ xs.length ∧ aH step (j + 1) (xs.drop (j + 1)) s' = some fl) ∧ st' = ⟨n,eL i m d e xs rw (S s' g') (j + 1),B s' g',O s' g'⟩) :: .blk id :: .stop (fun st'=>∃ t g,fl = .next t ∧ st' = ⟨n,S t g,B t g,O t g⟩) :: k) ⟨n,S' j s g,B s g,O s g⟩)
  (hk : ∀ t g,kk t = some r → V P fn R k ⟨n,S t g,B t g,O t g⟩)
  (hs : s d = .list e (xs.map rw) := by exact rfl) (hei : T.get e = some ei := by exact rfl) (ho : ops.toList = [o] := by exact rfl)
  (h₀ : Gh P ⟨n,s,bx,ob⟩ ⟨n,eL i m d e xs rw (S s₀ g₀) 0,B s₀ g₀,O s₀ g₀⟩ := by exact Gh.d)
  (hq : ∀ j s g,oQ T ops n (eL i m d e xs rw (S s g) j) (B s g) o = some (S' j s g) := by exact fun _ _ _=>rfl)
  (ht : ∀ j s g,evS (S' j s g) tst = .val (.bool (decide ((j : Int) < ((xs.length : Nat) : Int)))) := by exact fun _ _ _=>rfl)
  (hx : ∀ j s g,Gh P ⟨n,S' j s g,B s g,O s g⟩ ⟨n,S s g,B s g,O s g⟩ := by exact fun _ _ _=>Gh.d) :
  V P fn R (.code (.block id (.loop (.seq (.region rid ops false) (.seq (.cond tst .skip (.exit id)) rest)))) :: k) ⟨n,s,bx,ob⟩ :=
 uR hT d hei hs S B O (fun e j _ _=>eL i m d _ xs rw e j) g₀ H ho h₀ hq ht hx round hk
theorem eM {α σ γ β : Type} {step : Nat → α → σ → Option (Flow σ β)} {xs : List α} {s₀ : σ} {kk : σ → Option (β)} {r : β} {rw : α → List PV}
  (hT : T.Ok P) (i m d : Nat) {e : TypeId} {ei : TInfo}
  (S : σ → γ → Nat → PV) (B : σ → γ → Nat → Option Box) (O : σ → γ → Nat → Option Obj) (g₀ : γ)
  {id rid : Nat} {ops : Array Oper} {o : Oper} {tst : Operand} {rest : Code} {S' : Nat → σ → γ → Nat → PV}
  (H : af (aH step 0 xs s₀) (fun fl=>fl.thenR kk) = some r)
  (round : ∀ fl,fl.thenR kk = some r → ∀ j s g,xs.length ≤ maxLen → j < xs.length → ∀ x fb,xs[j]? = some x → step j x s = some fb → nJ step xs j fl fb →
   V P fn R (.code rest :: .stop (fun st'=>∃ s' g',(j + 1 ≤ xs.length ∧ aH step (j + 1) (xs.drop (j + 1)) s' = some fl) ∧ st' = ⟨n,eL i m d e xs rw (S s' g') (j + 1),B s' g',O s' g'⟩) :: .blk id :: .stop (fun st'=>∃ t g,fl = .next t ∧ st' = ⟨n,S t g,B t g,O t g⟩) :: k) ⟨n,S' j s g,B s g,O s g⟩)
  (hk : ∀ t g,kk t = some r → V P fn R k ⟨n,S t g,B t g,O t g⟩)
  (hs : s d = .list e (xs.map rw) := by exact rfl) (hei : T.get e = some ei := by exact rfl) (ho : ops.toList = [o] := by exact rfl)
  (h₀ : Gh P ⟨n,s,bx,ob⟩ ⟨n,eL i m d e xs rw (S s₀ g₀) 0,B s₀ g₀,O s₀ g₀⟩ := by exact Gh.d)
  (hq : ∀ j s g,oQ T ops n (eL i m d e xs rw (S s g) j) (B s g) o = some (S' j s g) := by exact fun _ _ _=>rfl)
  (ht : ∀ j s g,evS (S' j s g) tst = .val (.bool (decide ((j : Int) < ((xs.length : Nat) : Int)))) := by exact fun _ _ _=>rfl)
  (hx : ∀ j s g,Gh P ⟨n,S' j s g,B s g,O s g⟩ ⟨n,S s g,B s g,O s g⟩ := by exact fun _ _ _=>Gh.d) :
  V P fn R (.code (.block id (.loop (.seq (.region rid ops false) (.seq (.cond tst .skip (.exit id)) rest)))) :: k) ⟨n,s,bx,ob⟩ :=
 vu hT d hei hs S B O (fun e j _ _=>eL i m d _ xs rw e j) g₀ H ho h₀ hq ht hx round hk
end
def resT (s : Nat → PV) : List ResultVar → Option (List PV)
 | []=>some []
 | .tmp t :: l=>match resT s l with | some ps=>some (s t :: ps) | none=>none
 | .cell _ _ :: _=>none
section
variable {P : Program} {fn : Func} {R : PV → Heap → Prop} {k : List KI} {n : Nat} {s : Nat → PV} {bx : Nat → Option Box} {ob : Nat → Option Obj} {T : TT} {st : PState}
theorem resT_all : ∀ {l : List ResultVar} {ps : List PV},resT s l = some ps → mQ T ⟨n,s,bx,ob⟩ l ps
 | [],ps,h=>by simp only [resT,zo] at h; exact h.symm
 | .tmp t :: l,ps,h=>by
  simp only [resT] at h
  split at h
  ·rename_i qs hq; cases h; exact ⟨_,_,rfl,rfl,resT_all hq⟩
  ·cases h
 | .cell _ _ :: _,ps,h=>by simp [resT] at h
theorem eK {α : Type} {x y : α} {ps : List PV} {r : PV} (hT : T.Ok P) (H : x = y) (h : resT s fn.results.toList = some ps) (he : x = y → nR ps = r := by intro e; subst e; rfl) :
  V P fn (fun u H=>u = r ∧ H = Heap.empty) (.code .ret :: k) ⟨n,s,bx,ob⟩ := ba hT rfl (resT_all h) (PLe.q (he H))
theorem aY {α : Type} {x y : α} {ps : List PV} {r : PV} (hT : T.Ok P) (H : some x = some y) (h : resT s fn.results.toList = some ps) (he : x = y → nR ps = r := by intro e; subst e; rfl) :
  V P fn (fun u H=>u = r ∧ H = Heap.empty) (.code .ret :: k) ⟨n,s,bx,ob⟩ := eK hT (az H) h he
theorem uw {α : Type} {x y : α} {r p : PV} {a t tag b off : Nat} {ti : TInfo} {cells : List PV} (hT : T.Ok P) (H : x = y) (hr : fn.results = #[.cell a t]) (hti : T.get t = some ti) (hs : s a = .box tag b off) (hb : bx tag = some ⟨b,cells⟩) (hc : eW ti off cells = some p) (he : x = y → p = r := by intro e; subst e; rfl) :
  V P fn (fun u H=>u = r ∧ H = Heap.empty) (.code .ret :: k) ⟨n,s,bx,ob⟩ := ba hT hr (ps := [p]) ⟨_,_,rfl,⟨_,_,_,_,_,hti,hs,hb,hc⟩,rfl⟩ (PLe.q (he H))
theorem uJ {α : Type} {x y : α} {r p : PV} {a t tag b off : Nat} {ti : TInfo} {cells : List PV} (hT : T.Ok P) (H : some x = some y) (hr : fn.results = #[.cell a t]) (hti : T.get t = some ti) (hs : s a = .box tag b off) (hb : bx tag = some ⟨b,cells⟩) (hc : eW ti off cells = some p) (he : x = y → p = r := by intro e; subst e; rfl) :
  V P fn (fun u H=>u = r ∧ H = Heap.empty) (.code .ret :: k) ⟨n,s,bx,ob⟩ := uw hT (az H) hr hti hs hb hc he
theorem bl {α σ ρ γ : Type} {step : Nat → α → σ → Option (Flow σ ρ)} {xs : List α} {j : Nat} {res fb : Flow σ ρ} {v : σ} {F : σ → γ → PState} (g' : γ) (H : some (Flow.next v) = some fb) (hl : j < xs.length) (hg : nJ step xs j res fb) (h : Gh P st (F v g') := by exact Gh.d) :
  V P fn R (.stop (fun st'=>∃ s' g',(j + 1 ≤ xs.length ∧ aH step (j + 1) (xs.drop (j + 1)) s' = some res) ∧ st' = F s' g') :: k) st := by
 cases H
 exact eg v g' ⟨hl,hg⟩ h
end
def nZ (n : Int) : Option Nat := if n ≤ 2 ^ 62 then some n.toNat else none
theorem nP {n : Int} {m : Nat} (h : nZ n = some m) : n ≤ 2 ^ 62 ∧ m = n.toNat := by
 unfold nZ at h
 split at h
 ·rename_i h0; exact ⟨h0,(Option.some.inj h).symm⟩
 ·cases h
section
variable {P : Program} {ops : Array Oper} {rest : List Oper} {o : Oper} {n : Nat} {s s' : Nat → PV} {bx : Nat → Option Box} {ob : Nat → Option Obj} {K : PState → Prop} {T : TT} {rb : RB} {k : Nat} {L : List Nat}
theorem lP (d : Nat) {p q : PV} (hs : s d = p) (h : PLe P p q) (hV : Ao P ops rest ⟨n,upd s d q,bx,ob⟩ K) : Ao P ops rest ⟨n,s,bx,ob⟩ K := dc (Gh.cast d hs h) hV
theorem Ao.lenL (hT : T.Ok P) (hg : aQ ops s o = some true) {x : Operand} {t : TypeId} {ts : List TypeId} (ho : o.op = .call { callee := .builtin .len,args := #[x],argTypes := (t :: ts).toArray }) {ti : TInfo} {e' : TypeId} (hti : T.get t = some ti) (hd : ti.desc = .slice e')
  {e : TypeId} {rows : List (List PV)} (hx : evS s x = .list e rows) {m : Nat} (hm : rows.length = m) (hp : putD n s o.dst (.val (.int .i64 m)) = some s') (h : Ao P ops rest ⟨n,s',bx,ob⟩ K) : Ao P ops (o :: rest) ⟨n,s,bx,ob⟩ K := by
 refine ot hT hg (r := .val (.int .i64 m)) ?_ hp h
 rw [ho]
 simp [ji,pF,hti,hd,hx,lenPV,hm]
theorem aA {x : Operand} {t : TypeId} {ts : List TypeId} {ti : TInfo} {e' : TypeId} {e : TypeId} {rows : List (List PV)} {m : Nat} (hT : T.Ok P) (hm : rows.length = m) (h : Ao P ops rest ⟨n,s',bx,ob⟩ K) (hg : aQ ops s o = some true := by exact rfl) (ho : o.op = .call { callee := .builtin .len,args := #[x],argTypes := (t :: ts).toArray } := by exact rfl) (hti : T.get t = some ti := by exact rfl) (hd : ti.desc = .slice e' := by exact rfl) (hx : evS s x = .list e rows := by exact rfl) (hp : putD n s o.dst (.val (.int .i64 m)) = some s' := by exact rfl) : Ao P ops (o :: rest) ⟨n,s,bx,ob⟩ K := Ao.lenL hT hg ho hti hd hx hm hp h
theorem Ao.lenO (hT : T.Ok P) (hg : aQ ops s o = some true) {x : Operand} {t : TypeId} {ts : List TypeId} (ho : o.op = .call { callee := .builtin .len,args := #[x],argTypes := (t :: ts).toArray }) {ti : TInfo} {e' : TypeId} (hti : T.get t = some ti) (hd : ti.desc = .slice e')
  {tg l : Nat} {g : OwnRef} (hx : evS s x = .own tg g l) {m : Nat} (hm : l = m) (hp : putD n s o.dst (.val (.int .i64 m)) = some s') (h : Ao P ops rest ⟨n,s',bx,ob⟩ K) : Ao P ops (o :: rest) ⟨n,s,bx,ob⟩ K := by
 refine ot hT hg (r := .val (.int .i64 m)) ?_ hp h
 rw [ho]
 simp [ji,pF,hti,hd,hx,lenPV,hm]
theorem jf {x : Operand} {t : TypeId} {ts : List TypeId} {ti : TInfo} {e' : TypeId} {tg l : Nat} {g : OwnRef} {m : Nat} (hT : T.Ok P) (hm : l = m) (h : Ao P ops rest ⟨n,s',bx,ob⟩ K) (hg : aQ ops s o = some true := by exact rfl) (ho : o.op = .call { callee := .builtin .len,args := #[x],argTypes := (t :: ts).toArray } := by exact rfl) (hti : T.get t = some ti := by exact rfl) (hd : ti.desc = .slice e' := by exact rfl) (hx : evS s x = .own tg g l := by exact rfl) (hp : putD n s o.dst (.val (.int .i64 m)) = some s' := by exact rfl) : Ao P ops (o :: rest) ⟨n,s,bx,ob⟩ K := Ao.lenO hT hg ho hti hd hx hm hp h
theorem Do.lenL (ho : ops[k]? = some o) (hg : aQ ops s o = some true) {x : Operand} {t : TypeId} {ts : List TypeId} (hop : o.op = .call { callee := .builtin .len,args := #[x],argTypes := (t :: ts).toArray }) {ti : TInfo} {e' : TypeId} (hti : T.get t = some ti) (hd : ti.desc = .slice e')
  {e : TypeId} {rows : List (List PV)} (hx : evS s x = .list e rows) {m : Nat} (hm : rows.length = m) (hp : putD n s o.dst (.val (.int .i64 m)) = some s') (h : Do P T rb ops L ⟨n,s',bx,ob⟩ K) : Do P T rb ops (k :: L) ⟨n,s,bx,ob⟩ K := by
 refine uz ho hg (by rw [hop]; rfl) (r := .val (.int .i64 m)) ?_ hp h
 rw [hop]
 simp [iM,ji,pF,hti,hd,hx,lenPV,hm]
theorem kH {x : Operand} {t : TypeId} {ts : List TypeId} {ti : TInfo} {e' : TypeId} {e : TypeId} {rows : List (List PV)} {m : Nat} (hm : rows.length = m) (h : Do P T rb ops L ⟨n,s',bx,ob⟩ K) (ho : ops[k]? = some o := by exact rfl) (hg : aQ ops s o = some true := by exact rfl) (hop : o.op = .call { callee := .builtin .len,args := #[x],argTypes := (t :: ts).toArray } := by exact rfl) (hti : T.get t = some ti := by exact rfl) (hd : ti.desc = .slice e' := by exact rfl) (hx : evS s x = .list e rows := by exact rfl) (hp : putD n s o.dst (.val (.int .i64 m)) = some s' := by exact rfl) : Do P T rb ops (k :: L) ⟨n,s,bx,ob⟩ K := Do.lenL ho hg hop hti hd hx hm hp h
theorem uK (hT : T.Ok P) (hg : aQ ops s o = some true) {t : TypeId} {x : Operand} {lo hi : Option Operand} (ho : o.op = .slice t x lo hi none) {ti : TInfo} {e : TypeId} (hti : T.get t = some ti) (hd : ti.desc = .slice e)
  {rows : List (List PV)} (hx : evS s x = .list e rows) {m : Nat} (hm : rows.length = m) {a b : Int} (ha : lA (lo.map (evS s)) 0 = some a) (hb : lA (hi.map (evS s)) m = some b) (hab : 0 ≤ a ∧ a ≤ b ∧ b ≤ m)
  {rows' : List (List PV)} (hr : (rows.take b.toNat).drop a.toNat = rows') (hp : putD n s o.dst (.list e rows') = some s') (h : Ao P ops rest ⟨n,s',bx,ob⟩ K) : Ao P ops (o :: rest) ⟨n,s,bx,ob⟩ K := by
 subst hm
 refine ot hT hg (r := .list e rows') ?_ hp h
 rw [ho]
 simp only [ji,hti,hd,hx,qW,Nat.beq_refl,zc,ha,hb]
 rw [zp hab,hr]
theorem uX (ho : ops[k]? = some o) (hg : aQ ops s o = some true) {t : TypeId} {x : Operand} {lo hi : Option Operand} (hop : o.op = .slice t x lo hi none) {ti : TInfo} {e : TypeId} (hti : T.get t = some ti) (hd : ti.desc = .slice e)
  {rows : List (List PV)} (hx : evS s x = .list e rows) {m : Nat} (hm : rows.length = m) {a b : Int} (ha : lA (lo.map (evS s)) 0 = some a) (hb : lA (hi.map (evS s)) m = some b) (hab : 0 ≤ a ∧ a ≤ b ∧ b ≤ m)
  {rows' : List (List PV)} (hr : (rows.take b.toNat).drop a.toNat = rows') (hp : putD n s o.dst (.list e rows') = some s') (h : Do P T rb ops L ⟨n,s',bx,ob⟩ K) : Do P T rb ops (k :: L) ⟨n,s,bx,ob⟩ K := by
 subst hm
 refine uz ho hg (by rw [hop]; rfl) (r := .list e rows') ?_ hp h
 rw [hop]
 simp only [iM,ji,hti,hd,hx,qW,Nat.beq_refl,zc,ha,hb]
 rw [zp hab,hr]
theorem Rep.rowsLe {M : Mem} {b : Bool} {e : TypeId} {rows rows' : List (List PV)} (h : gD P rows rows') {x : Value} (hx : Rep P M b (.list e rows) x) : Rep P M b (.list e rows') x := oB.list h M b x hx
theorem ug (hT : T.Ok P) {o : Oper} {ev : Operand → PV} {H : Heap} {x y : Operand} {t : TypeId} (ho : o.op = .call { callee := .builtin .append,args := #[x,y],argTypes := #[t,t] }) {ti ei : TInfo} {e : TypeId} (hti : T.get t = some ti) (hd : ti.desc = .slice e) (hei : T.get e = some ei)
  (hz : Nat.beq ei.zero.cells.size ei.size = true) (hsz : Nat.blt 0 ei.size = true) {tag : Nat} {g : OwnRef} {len : Nat} {rows rows2 rows2' rows' : List (List PV)} {wr : Bool} (hx : ev x = .own tag g len) (hob : H.ob tag = some ⟨g,e,rows,wr⟩) (hlen : len = rows.length) (hy : ev y = .list e rows2)
  (hle : gD P rows2 rows2') (hby : (rows.length + rows2'.length) * ei.bytes ≤ 2 ^ 47) (hmx : rows.length + rows2'.length ≤ maxLen) (heq : rows ++ rows2' = rows') {K : PV → Heap → Prop} (hk : ∀ g',K (.own tag g' rows'.length) ⟨H.bx,upd H.ob tag (some ⟨g',e,rows',wr⟩)⟩) : Eff P o ev H K := by
 subst heq
 classical
 have hxy : x ≠ y := fun e=>by subst e; rw [hx] at hy; cases hy
 intro C M a w next Q hi he hn
 have key := ua (P := P) (o := o) (ev := fun z=>if z = y then PV.list e rows2' else ev z) (H := H) hT ho hti hd hei hz hsz (rows2 := rows2') (by simp [hxy,hx]) hob hlen (by simp) hby hmx (K := K) hk
 refine key C M a w next Q hi (fun z hz=>?_) hn
 by_cases hzy : z = y
 ·subst hzy
  simp only [if_true]
  have := he z hz
  rw [hy] at this
  exact Rep.rowsLe hle this
 ·simp only [hzy,if_false]
  exact he z hz
theorem cp (hT : T.Ok P) (hg : aQ ops s o = some true) {x y : Operand} {t : TypeId} (ho : o.op = .call { callee := .builtin .append,args := #[x,y],argTypes := #[t,t] }) {d : Nat} (hdst : o.dst = some d) (hlt : Nat.blt d n = true) {ti ei : TInfo} {e : TypeId} (hti : T.get t = some ti) (hd : ti.desc = .slice e) (hei : T.get e = some ei)
  (hz : Nat.beq ei.zero.cells.size ei.size = true) (hsz : Nat.blt 0 ei.size = true) {tag : Nat} {g : OwnRef} {len : Nat} {rows rows2 rows2' rows' : List (List PV)} {wr : Bool} (hx : evS s x = .own tag g len) (hob : ob tag = some ⟨g,e,rows,wr⟩) (hlen : len = rows.length) (hy : evS s y = .list e rows2)
  (hle : gD P rows2 rows2') (hby : (rows.length + rows2'.length) * ei.bytes ≤ 2 ^ 47) (hmx : rows.length + rows2'.length ≤ maxLen) (heq : rows ++ rows2' = rows') (h : ∀ g',Ao P ops rest ⟨n,upd s d (.own tag g' rows'.length),bx,upd ob tag (some ⟨g',e,rows',wr⟩)⟩ K) : Ao P ops (o :: rest) ⟨n,s,bx,ob⟩ K :=
 fp hg (ug hT ho hti hd hei hz hsz hx hob hlen hy hle hby hmx heq fun g'=>⟨_,by simp [hdst,putD,hlt],h g'⟩)
theorem Ao.appendCQ {x y : Operand} {t : TypeId} {d : Nat} {ti ei : TInfo} {e : TypeId} {tag : Nat} {g : OwnRef} {len : Nat} {rows rows2 rows2' rows' : List (List PV)} {wr : Bool} (hT : T.Ok P) (hle : gD P rows2 rows2') (hby : (rows.length + rows2'.length) * ei.bytes ≤ 2 ^ 47) (hmx : rows.length + rows2'.length ≤ maxLen) (heq : rows ++ rows2' = rows') (h : ∀ g',Ao P ops rest ⟨n,upd s d (.own tag g' rows'.length),bx,upd ob tag (some ⟨g',e,rows',wr⟩)⟩ K) (hg : aQ ops s o = some true := by exact rfl) (ho : o.op = .call { callee := .builtin .append,args := #[x,y],argTypes := #[t,t] } := by exact rfl) (hdst : o.dst = some d := by exact rfl) (hlt : Nat.blt d n = true := by exact rfl) (hti : T.get t = some ti := by exact rfl) (hd : ti.desc = .slice e := by exact rfl) (hei : T.get e = some ei := by exact rfl) (hz : Nat.beq ei.zero.cells.size ei.size = true := by exact rfl) (hsz : Nat.blt 0 ei.size = true := by exact rfl) (hx : evS s x = .own tag g len := by exact rfl) (hob : ob tag = some ⟨g,e,rows,wr⟩ := by exact rfl) (hlen : len = rows.length := by exact rfl) (hy : evS s y = .list e rows2 := by exact rfl) : Ao P ops (o :: rest) ⟨n,s,bx,ob⟩ K := cp hT hg ho hdst hlt hti hd hei hz hsz hx hob hlen hy hle hby hmx heq h
theorem lN (hT : T.Ok P) (ho : ops[k]? = some o) (hg : aQ ops s o = some true) {x y : Operand} {t : TypeId} (hop : o.op = .call { callee := .builtin .append,args := #[x,y],argTypes := #[t,t] }) {d : Nat} (hdst : o.dst = some d) (hlt : Nat.blt d n = true) {ti ei : TInfo} {e : TypeId} (hti : T.get t = some ti) (hd : ti.desc = .slice e) (hei : T.get e = some ei)
  (hz : Nat.beq ei.zero.cells.size ei.size = true) (hsz : Nat.blt 0 ei.size = true) {tag : Nat} {g : OwnRef} {len : Nat} {rows rows2 rows2' rows' : List (List PV)} {wr : Bool} (hx : evS s x = .own tag g len) (hob : ob tag = some ⟨g,e,rows,wr⟩) (hlen : len = rows.length) (hy : evS s y = .list e rows2)
  (hle : gD P rows2 rows2') (hby : (rows.length + rows2'.length) * ei.bytes ≤ 2 ^ 47) (hmx : rows.length + rows2'.length ≤ maxLen) (heq : rows ++ rows2' = rows') (h : ∀ g',Do P T rb ops L ⟨n,upd s d (.own tag g' rows'.length),bx,upd ob tag (some ⟨g',e,rows',wr⟩)⟩ K) : Do P T rb ops (k :: L) ⟨n,s,bx,ob⟩ K := by
 refine ⟨o,ho,true,hg,?_⟩
 simp only [if_true,hop,ek]
 exact fun bx'=>ug hT hop hti hd hei hz hsz hx hob hlen hy hle hby hmx heq fun g'=>⟨rfl,fun hx=>by simp [pq] at hx,_,by simp [hdst,putD,hlt],h g'⟩
theorem vm (hT : T.Ok P) (hg : aQ ops s o = some true) {t e : TypeId} {m : Nat} {ps : Array (Nat × Operand)} (ho : o.op = .buildSlice t m ps) {ti : TInfo} (hti : T.get t = some ti) (hd : ti.desc = .slice e) {rows rows' : List (List PV)}
  (hr : kU T e m (hO (evS s) ps) = some rows) (hle : gD P rows rows') {d : Nat} (hdst : o.dst = some d) (hlt : Nat.blt d n = true) (h : Ao P ops rest ⟨n,upd s d (.list e rows'),bx,ob⟩ K) : Ao P ops (o :: rest) ⟨n,s,bx,ob⟩ K := by
 refine sx hT hg ho hti hd hr (s' := upd s d (.list e rows)) (by simp [hdst,putD,hlt]) (lP d (gd _ _ _) (PLe.of2 (oB.list hle)) ?_)
 have : upd (upd s d (PV.list e rows)) d (.list e rows') = upd s d (.list e rows') := by
  funext t
  simp only [eX]
  split <;> rfl
 rw [this]
 exact h
theorem cn {t e : TypeId} {m : Nat} {ps : Array (Nat × Operand)} {ti : TInfo} {rows rows' : List (List PV)} {d : Nat} (hT : T.Ok P) (hle : gD P rows rows') (h : Ao P ops rest ⟨n,upd s d (.list e rows'),bx,ob⟩ K) (hg : aQ ops s o = some true := by exact rfl) (ho : o.op = .buildSlice t m ps := by exact rfl) (hti : T.get t = some ti := by exact rfl) (hd : ti.desc = .slice e := by exact rfl) (hr : kU T e m (hO (evS s) ps) = some rows := by exact rfl) (hdst : o.dst = some d := by exact rfl) (hlt : Nat.blt d n = true := by exact rfl) : Ao P ops (o :: rest) ⟨n,s,bx,ob⟩ K := vm hT hg ho hti hd hr hle hdst hlt h
end
section
variable {P : Program} {fn : Func} {R : PV → Heap → Prop} {ks : List KI} {n : Nat} {s : Nat → PV} {bx : Nat → Option Box} {ob : Nat → Option Obj} {T : TT}
end
section
variable {P : Program} {C : Ctx} {M : Mem} {H : Heap} {w : World}
theorem InvH.reobj (h : InvH P C M H w) {tag : Nat} {g : OwnRef} {e : TypeId} {rows rows' : List (List PV)} {wr : Bool} (hx : H.ob tag = some ⟨g,e,rows,wr⟩) (hl : rows'.map List.length = rows.map List.length) (hle : iZ P rows.flatten rows'.flatten) :
  InvH P C M ⟨H.bx,upd H.ob tag (some ⟨g,e,rows',wr⟩)⟩ w := by
 have hlen : rows'.length = rows.length := by simpa using congrArg List.length hl
 have key : ∀ t y,upd H.ob tag (some ⟨g,e,rows',wr⟩) t = some y → (t = tag ∧ y = ⟨g,e,rows',wr⟩) ∨ H.ob t = some y := by
  intro t y hy
  rw [eX] at hy
  split at hy
  ·rename_i e; exact .inl ⟨e,(Option.some.inj hy).symm⟩
  ·exact .inr hy
 have same : ∀ t y,upd H.ob tag (some ⟨g,e,rows',wr⟩) t = some y → ∃ z,H.ob t = some z ∧ z.g = y.g := by
  intro t y hy
  rcases key t y hy with ⟨rfl,rfl⟩ | hy
  ·exact ⟨_,hx,rfl⟩
  ·exact ⟨y,hy,rfl⟩
 refine ⟨h.mem,h.ext,h.new,h.os,h.tape,h.output,h.size,h.frame,h.boxes,?_,h.dbox,?_,?_⟩
 ·intro t y hy
  rcases key t y hy with ⟨rfl,rfl⟩ | hy
  ·obtain ⟨i,h1,h2,h3,h4⟩ := h.objs _ _ hx
   simp only at h1 h2 h3 h4
   refine ⟨i,h1,?_,?_,?_⟩
   ·simpa only [hlen] using h2
   ·intro r hr
    have : r.length ∈ rows'.map List.length := List.mem_map.2 ⟨r,hr,rfl⟩
    rw [hl] at this
    obtain ⟨q,hq,e1⟩ := List.mem_map.1 this
    rw [← e1]
    exact h3 q hq
   ·rcases h4 with ⟨a,b,c⟩ | ⟨b,cur,h5,h6,h7,h8,h9,h10,h11,h12,h13,h14⟩
    ·refine .inl ⟨a,?_,c⟩
     rw [b] at hlen
     exact List.length_eq_zero_iff.1 hlen
    ·refine .inr ⟨b,cur,h5,h6,h7,h8,?_,h10,?_,?_,h13,?_⟩
     ·simpa only [hlen] using h9
     ·simp only [hlen]; exact hle M false _ h11
     ·simpa only [hlen] using h12
     ·simpa only [hlen] using h14
  ·exact h.objs t y hy
 ·intro t t' y y' b hy hy' hb hb'
  obtain ⟨z,hz,e1⟩ := same t y hy
  obtain ⟨z',hz',e1'⟩ := same t' y' hy'
  exact h.dobj t t' z z' b hz hz' (e1 ▸ hb) (e1' ▸ hb')
 ·intro t t' y y' hy hy' hb
  obtain ⟨z',hz',e1'⟩ := same t' y' hy'
  exact h.dmix t t' y z' hy hz' (e1' ▸ hb)
theorem InvH.cutO (h : InvH P C M H w) {tag : Nat} {g : OwnRef} {e : TypeId} {rows : List (List PV)} (hx : H.ob tag = some ⟨g,e,rows,true⟩) (k : Nat) :
  InvH P C M ⟨H.bx,upd H.ob tag (some ⟨g,e,rows.take k,true⟩)⟩ w := by
 have key : ∀ t y,upd H.ob tag (some ⟨g,e,rows.take k,true⟩) t = some y → (t = tag ∧ y = ⟨g,e,rows.take k,true⟩) ∨ H.ob t = some y := by
  intro t y hy
  rw [eX] at hy
  split at hy
  ·rename_i e; exact .inl ⟨e,(Option.some.inj hy).symm⟩
  ·exact .inr hy
 have same : ∀ t y,upd H.ob tag (some ⟨g,e,rows.take k,true⟩) t = some y → ∃ z,H.ob t = some z ∧ z.g = y.g := by
  intro t y hy
  rcases key t y hy with ⟨rfl,rfl⟩ | hy
  ·exact ⟨_,hx,rfl⟩
  ·exact ⟨y,hy,rfl⟩
 refine ⟨h.mem,h.ext,h.new,h.os,h.tape,h.output,h.size,h.frame,h.boxes,?_,h.dbox,?_,?_⟩
 ·intro t y hy
  rcases key t y hy with ⟨rfl,rfl⟩ | hy
  ·obtain ⟨i,h1,h2,h3,h4⟩ := h.objs _ _ hx
   simp only at h1 h2 h3 h4
   have hle : (rows.take k).length ≤ rows.length := by simp; omega
   refine ⟨i,h1,Nat.le_trans (Nat.mul_le_mul_right _ hle) h2,fun r hr=>h3 r (List.mem_of_mem_take hr),?_⟩
   rcases h4 with ⟨a,b,c⟩ | ⟨b,cur,h5,h6,h7,h8,h9,h10,h11,h12,h13,h14⟩
   ·exact .inl ⟨a,by simp [b],c⟩
   ·refine .inr ⟨b,cur,h5,h6,h7,h8,Nat.le_trans hle h9,h10,?_,?_,fun _=>h13 trivial,?_⟩
    ·have hflat : (rows.take k).flatten = rows.flatten.take ((rows.take k).length * i.size) := by
      have aux : ∀ (l : List (List PV)) (m : Nat),(∀ r ∈ l,r.length = i.size) → (l.take m).flatten = l.flatten.take ((l.take m).length * i.size) := by
       intro l
       induction l with
       | nil=>intro m _; simp
       | cons r l ih =>
        intro m hr
        cases m with
        | zero=>simp
        | succ m =>
         have h1 := hr r (by simp)
         have := ih m fun r hr'=>hr r (by simp [hr'])
         simp only [List.take_succ_cons,List.flatten_cons,List.length_cons]
         have e1 : ((l.take m).length + 1) * i.size = r.length + (l.take m).length * i.size := by rw [Nat.add_mul,h1]; omega
         rw [e1,List.take_length_add_append,this]
      exact aux rows k h3
     rw [hflat]
     have := h11.take ((rows.take k).length * i.size)
     rw [List.take_take,Nat.min_eq_left (Nat.mul_le_mul_right _ hle)] at this
     exact this
    ·intro v hv
     refine h12 v ?_
     have e1 : cur.toList.take ((rows.take k).length * i.size) = (cur.toList.take (rows.length * i.size)).take ((rows.take k).length * i.size) := by
      rw [List.take_take,Nat.min_eq_left (Nat.mul_le_mul_right _ hle)]
     rw [e1] at hv
     exact List.mem_of_mem_take hv
    ·intro o _
     exact h13 trivial o
  ·exact h.objs t y hy
 ·intro t t' y y' b hy hy' hb hb'
  obtain ⟨z,hz,e1⟩ := same t y hy
  obtain ⟨z',hz',e1'⟩ := same t' y' hy'
  exact h.dobj t t' z z' b hz hz' (e1 ▸ hb) (e1' ▸ hb')
 ·intro t t' y y' hy hy' hb
  obtain ⟨z',hz',e1'⟩ := same t' y' hy'
  exact h.dmix t t' y z' hy hz' (e1' ▸ hb)
end
theorem iZ.of_eq {P : Program} {a b : List PV} (h : a = b) : iZ P a b := h ▸ iZ.refl a
theorem iZ.trans {P : Program} {a b c : List PV} (h : iZ P a b) (h' : iZ P b c) : iZ P a c := fun M s xs hx=>h' M s xs (h M s xs hx)
def qp (bytes : Nat) (n : Int) : Option Unit := if 0 ≤ n ∧ n.toNat * bytes ≤ 2 ^ 47 ∧ n.toNat ≤ maxLen then some () else none
theorem growI_some {bytes : Nat} {n : Int} {u : Unit} (h : qp bytes n = some u) : 0 ≤ n ∧ n.toNat * bytes ≤ 2 ^ 47 ∧ n.toNat ≤ maxLen := by
 unfold qp at h
 split at h
 ·assumption
 ·cases h
section
variable {P : Program} {ops : Array Oper} {rest : List Oper} {o : Oper} {n : Nat} {s s' : Nat → PV} {bx : Nat → Option Box} {ob : Nat → Option Obj} {K : PState → Prop} {T : TT} {rb : RB} {k : Nat} {L : List Nat}
theorem rr (hT : T.Ok P) (hg : aQ ops s o = some true) {t t' : TypeId} {x : Operand} (ho : o.op = .binOp .eql t x (.const (.slice none 0 0)) t') {ti : TInfo} {e : TypeId} (hti : T.get t = some ti) (hd : ti.desc = .slice e) {e' : TypeId} {rows : List (List PV)} (hx : evS s x = .list e' rows) {d : Nat} (hdst : o.dst = some d) (hlt : Nat.blt d n = true)
  (h : ∀ b : Bool,(b = true → rows = []) → Ao P ops rest ⟨n,upd s d (.val (.bool b)),bx,ob⟩ K) : Ao P ops (o :: rest) ⟨n,s,bx,ob⟩ K := by
 refine fp hg (fun C M a w next Q hi he hn=>?_)
 have hxr := he x (by rw [ho]; simp [Op.operands])
 rw [show (⟨n,s,bx,ob⟩ : PState).s = s from rfl,hx] at hxr
 simp only [Rep] at hxr
 obtain ⟨ad,c,i,hv,_,_,_,_,hr⟩ := hxr
 have hu := (hT.get hti).und
 rw [hd] at hu
 have hrun : (execOp a.eval o).run P w = .ok (.value (.bool ad.isNone)) w := by
  have h1 := run_equal_slice_nil (P := P) w t e ad rows.length c hu
  have h2 : (eqGuard .eql t x (.const (.slice none 0 0)) (.slice ad rows.length c) (.slice none 0 0)).run P w = .ok () w := by unfold eqGuard; split <;> simp
  simp only [execOp,ho,hv,show a.eval (.const (.slice none 0 0)) = .slice none 0 0 from rfl,Sem.run_bind,h2,Result.andThen_ok,binOp,h1]
  rfl
 unfold Oper.wp
 rw [hrun]
 refine hn _ (.val (.bool ad.isNone)) ⟨bx,ob⟩ M w ⟨_,by simp [hdst,putD,hlt],h ad.isNone fun hb=>?_⟩ (Mem.le_refl M) hi (by simp only [Rep])
 cases rows with
 | nil=>rfl
 | cons r rows =>
  obtain ⟨b,o,e1,_⟩ := hr (by simp)
  rw [e1] at hb
  cases hb
theorem po (hT : T.Ok P) (hg : aQ ops s o = some true) {t e : TypeId} {m : Nat} {ps : Array (Nat × Operand)} (ho : o.op = .buildSlice t m ps) {d : Nat} (hdst : o.dst = some d) (hlt : Nat.blt d n = true) {ti : TInfo} (hti : T.get t = some ti) (hd : ti.desc = .slice e) {rows rows' : List (List PV)}
  (hr : kU T e m (hO (evS s) ps) = some rows) (hl : rows'.map List.length = rows.map List.length) (hm : rows.length = m) (hle : iZ P rows.flatten rows'.flatten) (h : ∀ g,Ao P ops rest ⟨n,upd s d (.own d g rows'.length),bx,upd ob d (some ⟨g,e,rows',true⟩)⟩ K) : Ao P ops (o :: rest) ⟨n,s,bx,ob⟩ K := by
 refine Ao.bsO hT hg ho hdst hlt hti hd hr fun g=>?_
 have hlen : rows'.length = m := by rw [← hm]; simpa using congrArg List.length hl
 have h' := h g
 rw [hlen] at h'
 refine dc (st' := ⟨n,upd s d (.own d g m),bx,upd ob d (some ⟨g,e,rows',true⟩)⟩) ?_ h'
 intro C M a w hi
 refine ⟨M,hi.1,?_⟩
 have := hi.2.reobj (tag := d) (rows' := rows') (gd _ _ _) hl hle
 simp only [PState.heap] at this ⊢
 have e2 : upd (upd ob d (some ⟨g,e,rows,true⟩)) d (some ⟨g,e,rows',true⟩) = upd ob d (some ⟨g,e,rows',true⟩) := by
  funext t
  simp only [eX]
  split <;> rfl
 rwa [e2] at this
theorem uU (hT : T.Ok P) (hg : aQ ops s o = some true) {x : Operand} {t : TypeId} {ts : List TypeId} (ho : o.op = .call { callee := .builtin .cap,args := #[x],argTypes := (t :: ts).toArray }) {ti : TInfo} {e : TypeId} (hti : T.get t = some ti) (hd : ti.desc = .slice e)
  (hx : evS s x = .val (.slice none 0 0)) (hp : putD n s o.dst (.val (.int .i64 0)) = some s') (h : Ao P ops rest ⟨n,s',bx,ob⟩ K) : Ao P ops (o :: rest) ⟨n,s,bx,ob⟩ K := by
 refine fp hg (fun C M a w next Q hi he hn=>?_)
 have hxr := he x (by rw [ho]; simp [Op.operands,Call.operands])
 rw [show (⟨n,s,bx,ob⟩ : PState).s = s from rfl,hx] at hxr
 simp only [Rep] at hxr
 have hu := (hT.get hti).und
 rw [hd] at hu
 have hrun : (execOp a.eval o).run P w = .ok (.value (.int .i64 0)) w := by
  simp only [execOp,ho,resolve,Sem.run_bind,Sem.run_pure,Result.andThen_ok,invoke,builtin,List.map_toArray,List.map_cons,List.map_nil,hxr]
  simp [Builtin.cap_,run_underlying hu,goInt]
 unfold Oper.wp
 rw [hrun]
 exact hn _ _ ⟨bx,ob⟩ M w ⟨s',hp,h⟩ (Mem.le_refl M) hi (by simp only [Rep])
theorem Ao.subN (hT : T.Ok P) (hg : aQ ops s o = some true) {t : TypeId} {x y : Operand} (ho : o.op = .slice t x none (some y) none) {ti : TInfo} {e : TypeId} (hti : T.get t = some ti) (hd : ti.desc = .slice e) {ei : TInfo} (hei : T.get e = some ei)
  (hx : evS s x = .val (.slice none 0 0)) {kk : IntKind} (hy : evS s y = .val (.int kk 0)) (hp : putD n s o.dst (.val (.slice none 0 0)) = some s') (h : Ao P ops rest ⟨n,s',bx,ob⟩ K) : Ao P ops (o :: rest) ⟨n,s,bx,ob⟩ K := by
 refine fp hg (fun C M a w next Q hi he hn=>?_)
 have hxr := he x (by rw [ho]; simp [Op.operands])
 have hyr := he y (by rw [ho]; simp [Op.operands])
 rw [show (⟨n,s,bx,ob⟩ : PState).s = s from rfl,hx] at hxr
 rw [show (⟨n,s,bx,ob⟩ : PState).s = s from rfl,hy] at hyr
 simp only [Rep] at hxr hyr
 have hu := (hT.get hti).und
 rw [hd] at hu
 have hrun : (execOp a.eval o).run P w = .ok (.value (.slice none 0 0)) w := by
  simp only [execOp,ho,Sem.run_bind,Sem.run_pure,Option.map_some,Option.map_none,hxr,hyr]
  simp [Instr.sliceAt,Instr.slice,run_underlying hu,Instr.sliceBounds,Instr.sliceBound,asIntOf,(hT.get hei).rsize w]
 unfold Oper.wp
 rw [hrun]
 exact hn _ _ ⟨bx,ob⟩ M w ⟨s',hp,h⟩ (Mem.le_refl M) hi (by simp only [Rep])
theorem Ao.cutO (hT : T.Ok P) (hg : aQ ops s o = some true) {t : TypeId} {x y : Operand} (ho : o.op = .slice t x none (some y) none) {ti : TInfo} {e : TypeId} (hti : T.get t = some ti) (hd : ti.desc = .slice e) {ei : TInfo} (hei : T.get e = some ei)
  {tag : Nat} {g : OwnRef} {len : Nat} {rows rows' : List (List PV)} (hx : evS s x = .own tag g len) (hob : ob tag = some ⟨g,e,rows,true⟩) (hlen : len = rows.length) {kk : IntKind} {m : Int} (hy : evS s y = .val (.int kk m)) (hm : 0 ≤ m ∧ m.toNat ≤ rows.length) (hr : rows.take m.toNat = rows') {d : Nat} (hdst : o.dst = some d) (hlt : Nat.blt d n = true)
  (h : Ao P ops rest ⟨n,upd s d (.own tag g rows'.length),bx,upd ob tag (some ⟨g,e,rows',true⟩)⟩ K) : Ao P ops (o :: rest) ⟨n,s,bx,ob⟩ K := by
 subst hlen
 subst hr
 refine fp hg (fun C M a w next Q hi he hn=>?_)
 have hxr := he x (by rw [ho]; simp [Op.operands])
 have hyr := he y (by rw [ho]; simp [Op.operands])
 rw [show (⟨n,s,bx,ob⟩ : PState).s = s from rfl,hx] at hxr
 rw [show (⟨n,s,bx,ob⟩ : PState).s = s from rfl,hy] at hyr
 simp only [Rep] at hxr hyr
 have hu := (hT.get hti).und
 rw [hd] at hu
 have hcap : rows.length ≤ g.cap := by
  obtain ⟨i,_,_,_,h4⟩ := hi.objs tag _ hob
  rcases h4 with ⟨_,b,_⟩ | ⟨_,_,_,_,_,_,h9,_⟩
  ·simp only at b; rw [b]; simp
  ·exact h9
 have hmc : m ≤ (g.cap : Int) := by omega
 have hl2 : (rows.take m.toNat).length = m.toNat := by simp; omega
 have hrun : (execOp a.eval o).run P w = .ok (.value (g.val (rows.take m.toNat).length)) w := by
  rw [hl2]
  simp only [execOp,ho,Sem.run_bind,Sem.run_pure,Option.map_some,Option.map_none,hxr.2,hyr,OwnRef.val]
  cases hb : g.blk with
  | none=>simp [Instr.sliceAt,Instr.slice,run_underlying hu,Instr.sliceBounds,Instr.sliceBound,asIntOf,(hT.get hei).rsize w,hm.1,hmc]
  | some b =>
   have e0 : (⟨b,0,none⟩ : Addr).add 0 = ⟨b,0,none⟩ := by rw [eN]
   simp [Instr.sliceAt,Instr.slice,run_underlying hu,Instr.sliceBounds,Instr.sliceBound,asIntOf,(hT.get hei).rsize w,hm.1,hmc,e0]
 unfold Oper.wp
 rw [hrun]
 exact hn _ (.own tag g (rows.take m.toNat).length) ⟨bx,upd ob tag (some ⟨g,e,rows.take m.toNat,true⟩)⟩ M w ⟨_,by simp [hdst,putD,hlt],h⟩ (Mem.le_refl M) (hi.cutO hob m.toNat) (by simp [Rep])
theorem uI (hT : T.Ok P) (hg : aQ ops s o = some true) {x y : Operand} {t u : TypeId} (ho : o.op = .call { callee := .builtin .append,args := #[x,y],argTypes := #[t,u] }) {d : Nat} (hdst : o.dst = some d) (hlt : Nat.blt d n = true) {ti ui ei : TInfo} {e : TypeId} (hti : T.get t = some ti) (hd : ti.desc = .slice e) (hui : T.get u = some ui) (hud : ui.desc = .int .i64) (hei : T.get e = some ei)
  (hz : Nat.beq ei.zero.cells.size ei.size = true) (hsz : Nat.blt 0 ei.size = true) (_hf : PV.frozL (dl ei) = true) (h1 : (dl ei).all PV.one = true) (hx : evS s x = .val (.slice none 0 0)) {m : Int} (hy : evS s y = .val (.int .i64 m)) (hm : 0 < m) (hby : m.toNat * ei.bytes ≤ 2 ^ 47) (hmx : m.toNat ≤ maxLen)
  (h : ∀ g,Ao P ops rest ⟨n,upd s d (.own d g (List.replicate m.toNat (dl ei)).length),bx,upd ob d (some ⟨g,e,List.replicate m.toNat (dl ei),true⟩)⟩ K) : Ao P ops (o :: rest) ⟨n,s,bx,ob⟩ K := by
 refine fp hg (fun C M a w next Q hi he hn=>?_)
 have hxr := he x (by rw [ho]; simp [Op.operands,Call.operands])
 have hyr := he y (by rw [ho]; simp [Op.operands,Call.operands])
 rw [show (⟨n,s,bx,ob⟩ : PState).s = s from rfl,hx] at hxr
 rw [show (⟨n,s,bx,ob⟩ : PState).s = s from rfl,hy] at hyr
 simp only [Rep] at hxr hyr
 have hu := (hT.get hti).und
 rw [hd] at hu
 have hu2 := (hT.get hui).und
 rw [hud] at hu2
 have hu3 := (hT.get hei).und
 obtain ⟨i,hinf,hs,hbs,hzero⟩ := (hT.get hei).info
 have hz1 := Nat.eq_of_beq_eq_true hz
 have hsz' : 0 < i.size := by have : 0 < ei.size := by simpa [Nat.blt_eq] using hsz
                              omega
 obtain ⟨k,hk⟩ : ∃ k : Nat,k = m.toNat := ⟨_,rfl⟩
 rw [← hk] at hby hmx h
 have hkm : m = (k : Int) := by omega
 subst hkm
 have hk0 : 0 < k := by omega
 have hwrap : IntKind.i64.wrap (k : Int) = k := by
  simp only [IntKind.wrap,IntKind.bits,IntKind.signed]
  simp
  unfold maxLen at hmx
  omega
 have h63 : ¬ (9223372036854775807 < (k : Int)) := by unfold maxLen at hmx; omega
 have hby2 : k * i.bytes ≤ 140737488355328 := by rw [hbs]; exact hby
 have h48 : ¬ (281474976710656 < Builtin.nextslicecap k 0 * i.bytes) := by rw [nextslicecap_zero hk0]; omega
 have h48' : ¬ (281474976710656 < (k : Int) * (i.bytes : Int)) := by
  have : ((k * i.bytes : Nat) : Int) ≤ 140737488355328 := Int.ofNat_le.2 hby2
  rw [Int.natCast_mul] at this
  omega
 have hne : ¬ (k * i.size = 0) := by
  have := Nat.mul_pos hk0 hsz'
  omega
 have hrun : (Builtin.append_ #[t,u] o.type #[.slice none 0 0,.int .i64 k]).run P w = .ok (.slice (some ⟨w.heap.size,0,none⟩) k (grownCap w k 0 e)) (w.drew.alloc (.cells (Builtin.zeroCells ei.zero.cells k ++ Builtin.zeroCells ei.zero.cells (grownCap w k 0 e - k)) e)) := by
  have hk1 : k ≠ 0 := by omega
  have hk3 : ¬ ((k : Int) < 0) := by omega
  simp [Builtin.append_,run_underlying hu,run_underlying hu2,sizeOf,typeInfo,zeroValue,hinf,hzero,asInt,asIntOf,hwrap,hk1,hk3,h63,h48,h48',Question.forced,run_firstCells_none,newRow,grownCap]
  exact fun h0=>absurd h0 hne
 have hrun' : (execOp a.eval o).run P w = .ok (.value (.slice (some ⟨w.heap.size,0,none⟩) k (grownCap w k 0 e))) (w.drew.alloc (.cells (Builtin.zeroCells ei.zero.cells k ++ Builtin.zeroCells ei.zero.cells (grownCap w k 0 e - k)) e)) := by
  simp only [execOp,ho,resolve,Sem.run_bind,Sem.run_pure,Result.andThen_ok,invoke,builtin,List.map_toArray,List.map_cons,List.map_nil,hxr,hyr]
  rw [hrun]
  rfl
 unfold Oper.wp
 rw [hrun']
 have hge := grownCap_ge w k 0 e
 have hgm : grownCap w k 0 e ≤ maxLen := grownCap_le_maxLen w k 0 e hmx
 have hzl : (dl ei).length = i.size := by simp [dl,hz1,hs]
 have hzc : (Builtin.zeroCells ei.zero.cells k).toList = (List.replicate k ei.zero.cells.toList).flatten := by
  unfold Builtin.zeroCells
  exact mp ei.zero.cells k
 have hzs : (Builtin.zeroCells ei.zero.cells k).toList.length = k * i.size := by
  rw [hzc]; simp [hz1,hs]
 have hrep : aB P M false (List.replicate k (dl ei)).flatten (List.replicate k ei.zero.cells.toList).flatten := lX (lJ _) k
 have htake : ((Builtin.zeroCells ei.zero.cells k ++ Builtin.zeroCells ei.zero.cells (grownCap w k 0 e - k)).toList.take ((List.replicate k (dl ei)).length * i.size)) = (List.replicate k ei.zero.cells.toList).flatten := by
  rw [List.length_replicate,Array.toList_append,← hzc]
  rw [← hzs]
  exact List.take_left
 refine hn _ (.own d ⟨some w.heap.size,grownCap w k 0 e⟩ (List.replicate k (dl ei)).length) _ M _ ⟨_,by simp [hdst,putD,hlt],h ⟨some w.heap.size,grownCap w k 0 e⟩⟩ (Mem.le_refl M)
  ((show InvH P C M ⟨bx,ob⟩ w.drew from hi.drew).alloc_obj d e (List.replicate k (dl ei)) true _ _ i hinf ?_ ?_ ?_ ?_ hgm ?_ ?_) ?_
 ·rw [List.length_replicate]; exact hby2
 ·intro r hr
  rw [List.eq_of_mem_replicate hr]
  exact hzl
 ·simp only [Array.size_append,size_zeroCells,hz1,← hs,← Nat.add_mul]
  congr 1
  omega
 ·rw [List.length_replicate]; exact hge
 ·rw [htake]; exact hrep
 ·rw [htake]
  refine aB.oneCell ?_ hrep
  rw [List.all_flatten]
  rw [List.all_eq_true]
  intro r hr
  rw [List.eq_of_mem_replicate hr]
  exact h1
 ·simp [Rep,OwnRef.val]
end
@[simp] theorem bPs {α β : Type} (a : α) (k : α → Option β) : af (some a) k = k a := rfl
@[simp] theorem bindP_none {α β : Type} (k : α → Option β) : af none k = none := rfl
@[simp] theorem bF {α β : Type} (a : α) (k : α → β) : bv a k = k a := rfl
@[simp] theorem cf {σ β : Type} (s : σ) (k : σ → Option β) : Flow.thenP (.next s) k = k s := rfl
@[simp] theorem gQ {σ ρ : Type} (s : σ) (k : σ → Option ρ) : Flow.thenR (.next s) k = k s := rfl
@[simp] theorem mK {σ ρ : Type} (r : ρ) (k : σ → Option ρ) : Flow.thenR (.ret r) k = some r := rfl
@[simp] theorem thenF_nextS {σ τ ρ : Type} (s : σ) (k : σ → Option (Flow τ ρ)) : Flow.thenF (.next s) k = k s := rfl
@[simp] theorem thenF_retS {σ τ ρ : Type} (r : ρ) (k : σ → Option (Flow τ ρ)) : Flow.thenF (.ret r) k = some (.ret r) := rfl
theorem appI_ok {α : Type} {bytes : Nat} {xs ys : List α} (h1 : (xs.length + ys.length) * bytes ≤ 2 ^ 47) (h2 : xs.length + ys.length ≤ maxLen) : dg bytes xs ys = some (xs ++ ys) := by
 unfold dg; rw [zp ⟨h1,h2⟩]
theorem mz {α : Type} {xs : List α} {i : Int} {x : α} (h0 : 0 ≤ i) (h : xs[i.toNat]? = some x) : aJ xs i = some x := by unfold aJ; rw [zp h0,h]
theorem kO {α : Type} {xs : List α} {j : Nat} {x : α} (h : xs[j]? = some x) : aJ xs (j : Int) = some x := mz (by omega) (by simpa using h)
theorem pn {α : Type} {xs : List α} {a b : Int} (h : 0 ≤ a ∧ a ≤ b ∧ b ≤ xs.length) : nu xs a b = some ((xs.take b.toNat).drop a.toNat) := by unfold nu; rw [zp h]
theorem growI_ok {bytes : Nat} {n : Int} (h : 0 ≤ n ∧ n.toNat * bytes ≤ 2 ^ 47 ∧ n.toNat ≤ maxLen) : qp bytes n = some () := by unfold qp; rw [zp h]
theorem qh {n : Int} (h : n ≤ 2 ^ 62) : nZ n = some n.toNat := by unfold nZ; rw [zp h]
theorem eQ {α σ ρ : Type} {step : Nat → α → σ → Option (Flow σ ρ)} (I : Nat → σ → Prop) (Q : ρ → Prop) :
  ∀ (xs : List α) (j : Nat) (s : σ),I j s → (∀ k x s,xs[k]? = some x → I (j + k) s → ∃ fl,step (j + k) x s = some fl ∧ (match fl with | .next s'=>I (j + k + 1) s' | .brk _=>False | .ret r=>Q r)) →
   ∃ fl,aH step j xs s = some fl ∧ (match fl with | .next s'=>I (j + xs.length) s' | .brk _=>False | .ret r=>Q r)
 | [],j,s,h,_=>⟨.next s,rfl,by simpa using h⟩
 | x :: xs,j,s,h,hs=>by
  obtain ⟨fl,h1,h2⟩ := hs 0 x s rfl (by simpa using h)
  rw [Nat.add_zero] at h1
  cases fl with
  | next s' =>
   obtain ⟨fl,h3,h4⟩ := eQ I Q xs (j + 1) s' (by simpa using h2) (fun k y t hk hI=>by
    obtain ⟨fl,h5,h6⟩ := hs (k + 1) y t (by simpa using hk) (by rw [show j + (k + 1) = j + 1 + k from by omega]; exact hI)
    rw [show j + (k + 1) = j + 1 + k from by omega] at h5 h6
    exact ⟨fl,h5,h6⟩)
   refine ⟨fl,by rw [aH,h1]; exact h3,?_⟩
   rw [show j + (x :: xs).length = j + 1 + xs.length from by simp; omega]
   exact h4
  | brk s'=>exact absurd h2 (by simp)
  | ret r=>exact ⟨.ret r,by rw [aH,h1],h2⟩
theorem rMa {α σ ρ : Type} {step : Nat → α → σ → Option (Flow σ ρ)} {xs : List α} {s : σ} (S : Nat → σ) (h0 : S 0 = s) (hs : ∀ k x,xs[k]? = some x → step k x (S k) = some (.next (S (k + 1)))) : aH step 0 xs s = some (.next (S xs.length)) := by
 subst h0
 obtain ⟨fl,h1,h2⟩ := eQ (step := step) (fun j s=>s = S j) (fun _=>False) xs 0 (S 0) rfl (fun k x s hk hI=>by
  simp only [Nat.zero_add] at hI
  subst hI
  exact ⟨_,by rw [Nat.zero_add]; exact hs k x hk,by simp⟩)
 cases fl with
 | next s'=>simp only [Nat.zero_add] at h2; rw [h1,h2]
 | brk s'=>exact absurd h2 (by simp)
 | ret r=>exact absurd h2 (by simp)
theorem oG {α β ρ : Type} {step : Nat → α → List β → Option (Flow (List β) ρ)} {xs : List α} (f : α → β) (hs : ∀ k x,xs[k]? = some x → step k x ((xs.take k).map f) = some (.next ((xs.take k).map f ++ [f x]))) :
  aH step 0 xs [] = some (.next (xs.map f)) := by
 have := rMa (step := step) (xs := xs) (fun k=>(xs.take k).map f) rfl (fun k x hk=>by
  rw [hs k x hk,List.take_add_one,hk]
  simp)
 simpa using this
theorem nL {α σ ρ : Type} {step : Nat → α → σ → Option (Flow σ ρ)} {xs : List α} {s : σ} (g : σ → α → σ) (hs : ∀ k x,xs[k]? = some x → step k x ((xs.take k).foldl g s) = some (.next (g ((xs.take k).foldl g s) x))) :
  aH step 0 xs s = some (.next (xs.foldl g s)) := by
 have := rMa (step := step) (xs := xs) (fun k=>(xs.take k).foldl g s) rfl (fun k x hk=>by
  rw [hs k x hk,List.take_add_one,hk,List.foldl_append]
  rfl)
 simpa using this
theorem qu {α ρ : Type} {step : Nat → α → Unit → Option (Flow Unit ρ)} (p : α → Bool) (out : Nat → α → ρ) : ∀ (xs : List α) (j : Nat),(∀ k x,xs[k]? = some x → step (j + k) x () = some (if p x then .ret (out (j + k) x) else .next ())) →
  aH step j xs () = some (match xs.findIdx? p with | some i=>(match xs[i]? with | some x=>.ret (out (j + i) x) | none=>.next ()) | none=>.next ())
 | [],j,_=>rfl
 | x :: xs,j,hs=>by
  have h0 := hs 0 x rfl
  rw [Nat.add_zero] at h0
  rw [aH,h0,List.findIdx?_cons]
  cases hp : p x with
  | true=>simp
  | false =>
   simp only [Bool.false_eq_true,if_false]
   rw [qu p out xs (j + 1) (fun k y hk=>by
    have := hs (k + 1) y (by simpa using hk)
    rw [show j + (k + 1) = j + 1 + k from by omega] at this
    exact this)]
   cases xs.findIdx? p with
   | none=>simp
   | some i =>
    simp only [Option.map_some,List.getElem?_cons_succ]
    rw [show j + 1 + i = j + (i + 1) from by omega]
section
variable {P : Program} {T : TT} {M : Mem}
end
def fo {α : Type} (p : Prop) [Decidable p] (a : α) : Option α := if p then some a else none
theorem dJ {α : Type} {p : Prop} [Decidable p] {a b : α} (h : fo p a = some b) : p ∧ a = b := by
 unfold fo at h
 split at h
 ·rename_i hp; exact ⟨hp,Option.some.inj h⟩
 ·cases h
@[simp] theorem eo {α : Type} {p : Prop} [Decidable p] {a : α} (h : p) : fo p a = some a := by unfold fo; rw [zp h]
end
end Go.Ab

namespace Go.Ab
noncomputable section
open Go.Proofs
def tS (d : TypeDesc) : TInfo := ⟨d,1,24,.slice none 0 0,[]⟩
def tP (d : TypeDesc) : TInfo := ⟨d,1,8,.pointer none,[]⟩
def tF (d : TypeDesc) : TInfo := ⟨d,1,8,.nilFunc,[]⟩
theorem tO {P : Program} {k : Nat} {v : TInfo} (i : TypeInfo) (h : P.info? k = some i) (e : (i.size,i.bytes,i.zero,v.eqf) = (v.size,v.bytes,some v.zero,[])) (u : P.underlying k = some v.desc) : v.Ok P k := by
 simp only [Prod.mk.injEq] at e
 exact ⟨⟨i,h,e.1,e.2.1,e.2.2.1⟩,u,fun hn=>absurd e.2.2.2 hn⟩
def ti68 : TInfo := ⟨Tryz.t67.desc,3,32,.agg #[.string ⟨#[]⟩,.int .i64 0,.bool false],[(9,0),(3,1),(4,2)]⟩
def ti73 : TInfo := ⟨Tryz.t72.desc,3,32,.agg #[.int .i64 0,.int .i64 0,.string ⟨#[]⟩],[(3,0),(3,1),(9,2)]⟩
def ti168 : TInfo := ⟨Tryz.t167.desc,1,8,.agg #[.int .i64 0],[(3,0)]⟩
def ti216 : TInfo := ⟨Tryz.t215.desc,4,40,.agg #[.int .i64 0,.string ⟨#[]⟩,.int .i64 0,.int .i64 0],[(3,0),(9,1),(3,2),(3,3)]⟩
def ti363 : TInfo := ⟨Tryz.t362.desc,1,16,.agg #[.string ⟨#[]⟩],[(9,0)]⟩
theorem ti68_ok : ti68.Ok Tryz.prog 68 := ⟨⟨Tryz.t68,by kernel_rfl,rfl,rfl,rfl⟩,Tryz.underlying68,fun _=>⟨Tryz.stoodInHeld68,Tryz.eqGuardType68,by simp [cZ,Program.fieldsOf,Tryz.underlying68,ti68],by kernel_rfl⟩⟩
theorem ti73_ok : ti73.Ok Tryz.prog 73 := ⟨⟨Tryz.t73,by kernel_rfl,rfl,rfl,rfl⟩,Tryz.underlying73,fun _=>⟨Tryz.stoodInHeld73,Tryz.eqGuardType73,by simp [cZ,Program.fieldsOf,Tryz.underlying73,ti73],by kernel_rfl⟩⟩
theorem ti168_ok : ti168.Ok Tryz.prog 168 := ⟨⟨Tryz.t168,by kernel_rfl,rfl,rfl,rfl⟩,Tryz.underlying168,fun _=>⟨Tryz.stoodInHeld168,Tryz.eqGuardType168,by simp [cZ,Program.fieldsOf,Tryz.underlying168,ti168],by kernel_rfl⟩⟩
theorem ti216_ok : ti216.Ok Tryz.prog 216 := ⟨⟨Tryz.t216,by kernel_rfl,rfl,rfl,rfl⟩,Tryz.underlying216,fun _=>⟨Tryz.stoodInHeld216,Tryz.eqGuardType216,by simp [cZ,Program.fieldsOf,Tryz.underlying216,ti216],by kernel_rfl⟩⟩
theorem ti363_ok : ti363.Ok Tryz.prog 363 := ⟨⟨Tryz.t363,by kernel_rfl,rfl,rfl,rfl⟩,Tryz.underlying363,fun _=>⟨Tryz.stoodInHeld363,Tryz.eqGuardType363,by simp [cZ,Program.fieldsOf,Tryz.underlying363,ti363],by kernel_rfl⟩⟩
def tt : TT := (.node 139 (tF Tryz.t139.desc) (.node 53 ⟨Tryz.t52.desc,2,48,.agg #[.slice none 0 0,.slice none 0 0],[]⟩ (.node 26 ⟨Tryz.t25.desc,3,72,.agg #[.slice none 0 0,.slice none 0 0,.slice none 0 0],[]⟩ (.node 20 ⟨Tryz.t20.desc,1,16,.nilIface,[]⟩ (.node 4 ⟨Tryz.t4.desc,1,1,.bool false,[]⟩ (.node 2 ⟨Tryz.t2.desc,1,8,.int .i64 0,[]⟩ (.node 1 (tF Tryz.t1.desc) .leaf .leaf) (.node 3 ⟨Tryz.t3.desc,1,8,.int .i64 0,[]⟩ .leaf .leaf)) (.node 9 ⟨Tryz.t9.desc,1,16,.string ⟨#[]⟩,[]⟩ (.node 5 ⟨Tryz.t5.desc,1,1,.int .u8 0,[]⟩ .leaf .leaf) .leaf)) (.node 23 (tS Tryz.t23.desc) (.node 22 (tS Tryz.t22.desc) (.node 21 ⟨Tryz.t21.desc,1,4,.int .i32 0,[]⟩ .leaf .leaf) .leaf) (.node 25 ⟨Tryz.t25.desc,3,72,.agg #[.slice none 0 0,.slice none 0 0,.slice none 0 0],[]⟩ (.node 24 (tS Tryz.t24.desc) .leaf .leaf) .leaf))) (.node 42 (tS Tryz.t41.desc) (.node 30 (tS Tryz.t30.desc) (.node 28 (tS Tryz.t28.desc) (.node 27 (tS Tryz.t27.desc) .leaf .leaf) (.node 29 (tS Tryz.t29.desc) .leaf .leaf)) (.node 33 ⟨Tryz.t32.desc,9,160,.agg #[.int .i64 0,.string ⟨#[]⟩,.slice none 0 0,.slice none 0 0,.slice none 0 0,.slice none 0 0,.int .i64 0,.int .i64 0,.slice none 0 0],[]⟩ (.node 31 (tS Tryz.t31.desc) .leaf .leaf) .leaf)) (.node 45 ⟨Tryz.t3.desc,1,8,.int .i64 0,[]⟩ (.node 44 (tS Tryz.t44.desc) (.node 43 (tS Tryz.t43.desc) .leaf .leaf) .leaf) (.node 51 ⟨Tryz.t50.desc,10,192,.agg #[.int .i64 0,.int .i64 0,.string ⟨#[]⟩,.string ⟨#[]⟩,.slice none 0 0,.slice none 0 0,.slice none 0 0,.slice none 0 0,.slice none 0 0,.slice none 0 0],[]⟩ (.node 49 (tS Tryz.t49.desc) .leaf .leaf) .leaf)))) (.node 88 ⟨Tryz.t87.desc,3,56,.agg #[.string ⟨#[]⟩,.string ⟨#[]⟩,.slice none 0 0],[]⟩ (.node 68 ti68 (.node 61 (tS Tryz.t61.desc) (.node 57 (tS Tryz.t57.desc) (.node 56 (tS Tryz.t56.desc) .leaf .leaf) (.node 60 (tS Tryz.t60.desc) .leaf .leaf)) (.node 66 (tF Tryz.t66.desc) (.node 63 ⟨Tryz.t62.desc,2,48,.agg #[.slice none 0 0,.slice none 0 0],[]⟩ .leaf .leaf) .leaf)) (.node 74 (tF Tryz.t74.desc) (.node 73 ti73 (.node 71 ⟨Tryz.t70.desc,3,64,.agg #[.string ⟨#[]⟩,.slice none 0 0,.slice none 0 0],[]⟩ .leaf .leaf) .leaf) (.node 77 ⟨Tryz.t76.desc,2,40,.agg #[.string ⟨#[]⟩,.slice none 0 0],[]⟩ (.node 75 (tS Tryz.t43.desc) .leaf .leaf) .leaf))) (.node 117 (tF Tryz.t117.desc) (.node 106 ⟨Tryz.t106.desc,8,8,.agg #[.bool false,.bool false,.bool false,.bool false,.bool false,.bool false,.bool false,.bool false],[]⟩ (.node 94 (tF Tryz.t94.desc) (.node 91 ⟨Tryz.t90.desc,7,88,.agg #[.int .i64 0,.string ⟨#[]⟩,.int .i64 0,.int .i64 0,.int .i64 0,.string ⟨#[]⟩,.slice none 0 0],[]⟩ .leaf .leaf) .leaf) (.node 115 ⟨Tryz.t114.desc,4,96,.agg #[.slice none 0 0,.slice none 0 0,.slice none 0 0,.slice none 0 0],[]⟩ (.node 107 (tF Tryz.t107.desc) .leaf .leaf) .leaf)) (.node 124 (tF Tryz.t124.desc) (.node 121 ⟨Tryz.t120.desc,11,232,.agg #[.slice none 0 0,.slice none 0 0,.slice none 0 0,.slice none 0 0,.slice none 0 0,.slice none 0 0,.slice none 0 0,.slice none 0 0,.slice none 0 0,.int .i64 0,.bool false],[]⟩ (.node 118 (tP Tryz.t118.desc) .leaf .leaf) .leaf) (.node 135 ⟨Tryz.t134.desc,3,56,.agg #[.string ⟨#[]⟩,.slice none 0 0,.string ⟨#[]⟩],[]⟩ (.node 125 (tP Tryz.t125.desc) .leaf .leaf) .leaf))))) (.node 238 (tF Tryz.t238.desc) (.node 202 (tF Tryz.t202.desc) (.node 168 ti168 (.node 162 (tS Tryz.t162.desc) (.node 150 (tF Tryz.t150.desc) (.node 141 ⟨Tryz.t140.desc,7,80,.agg #[.string ⟨#[]⟩,.int .i64 0,.string ⟨#[]⟩,.int .i64 0,.int .i64 0,.int .i64 0,.string ⟨#[]⟩],[]⟩ .leaf .leaf) (.node 157 (tF Tryz.t157.desc) .leaf .leaf)) (.node 166 ⟨Tryz.t165.desc,3,40,.agg #[.slice none 0 0,.int .i64 0,.int .i64 0],[]⟩ (.node 164 (tF Tryz.t164.desc) .leaf .leaf) .leaf)) (.node 187 ⟨Tryz.t186.desc,4,96,.agg #[.slice none 0 0,.slice none 0 0,.slice none 0 0,.slice none 0 0],[]⟩ (.node 173 ⟨Tryz.t172.desc,8,192,.agg #[.slice none 0 0,.slice none 0 0,.slice none 0 0,.slice none 0 0,.slice none 0 0,.slice none 0 0,.slice none 0 0,.slice none 0 0],[]⟩ (.node 171 (tF Tryz.t171.desc) .leaf .leaf) .leaf) (.node 199 ⟨Tryz.t199.desc,1,8,.int .u64 0,[]⟩ (.node 196 (tF Tryz.t196.desc) .leaf .leaf) .leaf))) (.node 227 (tF Tryz.t227.desc) (.node 222 (tF Tryz.t222.desc) (.node 216 ti216 (.node 213 ⟨Tryz.t212.desc,4,72,.agg #[.int .i64 0,.string ⟨#[]⟩,.slice none 0 0,.slice none 0 0],[]⟩ .leaf .leaf) (.node 220 (tF Tryz.t220.desc) .leaf .leaf)) (.node 224 (tF Tryz.t224.desc) (.node 223 (tP Tryz.t223.desc) .leaf .leaf) .leaf)) (.node 231 ⟨Tryz.t230.desc,5,120,.agg #[.slice none 0 0,.slice none 0 0,.slice none 0 0,.slice none 0 0,.slice none 0 0],[]⟩ (.node 230 ⟨Tryz.t230.desc,5,120,.agg #[.slice none 0 0,.slice none 0 0,.slice none 0 0,.slice none 0 0,.slice none 0 0],[]⟩ (.node 229 (tF Tryz.t229.desc) .leaf .leaf) .leaf) (.node 236 (tS Tryz.t236.desc) (.node 233 (tF Tryz.t233.desc) .leaf .leaf) .leaf)))) (.node 326 (tF Tryz.t326.desc) (.node 283 (tS Tryz.t283.desc) (.node 265 ⟨Tryz.t265.desc,1,8,.int .u64 0,[]⟩ (.node 244 (tS Tryz.t244.desc) (.node 240 (tF Tryz.t240.desc) .leaf .leaf) (.node 263 ⟨Tryz.t263.desc,1,4,.int .u32 0,[]⟩ .leaf .leaf)) (.node 273 (tF Tryz.t273.desc) (.node 271 (tF Tryz.t271.desc) .leaf .leaf) .leaf)) (.node 307 ⟨Tryz.t306.desc,1,16,.nilIface,[]⟩ (.node 290 (tF Tryz.t290.desc) (.node 289 (tF Tryz.t289.desc) .leaf .leaf) .leaf) (.node 325 (tF Tryz.t325.desc) (.node 312 (tF Tryz.t312.desc) .leaf .leaf) .leaf))) (.node 360 (tP Tryz.t360.desc) (.node 342 (tP Tryz.t342.desc) (.node 339 ⟨Tryz.t3.desc,1,8,.int .i64 0,[]⟩ (.node 332 (tF Tryz.t332.desc) .leaf .leaf) .leaf) (.node 354 ⟨Tryz.t354.desc,24,24,.agg #[.int .u8 0,.int .u8 0,.int .u8 0,.int .u8 0,.int .u8 0,.int .u8 0,.int .u8 0,.int .u8 0,.int .u8 0,.int .u8 0,.int .u8 0,.int .u8 0,.int .u8 0,.int .u8 0,.int .u8 0,.int .u8 0,.int .u8 0,.int .u8 0,.int .u8 0,.int .u8 0,.int .u8 0,.int .u8 0,.int .u8 0,.int .u8 0],[]⟩ (.node 352 ⟨Tryz.t351.desc,3,48,.agg #[.string ⟨#[]⟩,.string ⟨#[]⟩,.nilIface],[]⟩ .leaf .leaf) .leaf)) (.node 365 ⟨Tryz.t365.desc,20,160,.agg #[.int .u64 0,.int .u64 0,.int .u64 0,.int .u64 0,.int .u64 0,.int .u64 0,.int .u64 0,.int .u64 0,.int .u64 0,.int .u64 0,.int .u64 0,.int .u64 0,.int .u64 0,.int .u64 0,.int .u64 0,.int .u64 0,.int .u64 0,.int .u64 0,.int .u64 0,.int .u64 0],[]⟩ (.node 363 ti363 (.node 361 (tP Tryz.t361.desc) .leaf .leaf) .leaf) (.node 368 ⟨Tryz.t368.desc,64,64,.agg #[.int .u8 0,.int .u8 0,.int .u8 0,.int .u8 0,.int .u8 0,.int .u8 0,.int .u8 0,.int .u8 0,.int .u8 0,.int .u8 0,.int .u8 0,.int .u8 0,.int .u8 0,.int .u8 0,.int .u8 0,.int .u8 0,.int .u8 0,.int .u8 0,.int .u8 0,.int .u8 0,.int .u8 0,.int .u8 0,.int .u8 0,.int .u8 0,.int .u8 0,.int .u8 0,.int .u8 0,.int .u8 0,.int .u8 0,.int .u8 0,.int .u8 0,.int .u8 0,.int .u8 0,.int .u8 0,.int .u8 0,.int .u8 0,.int .u8 0,.int .u8 0,.int .u8 0,.int .u8 0,.int .u8 0,.int .u8 0,.int .u8 0,.int .u8 0,.int .u8 0,.int .u8 0,.int .u8 0,.int .u8 0,.int .u8 0,.int .u8 0,.int .u8 0,.int .u8 0,.int .u8 0,.int .u8 0,.int .u8 0,.int .u8 0,.int .u8 0,.int .u8 0,.int .u8 0,.int .u8 0,.int .u8 0,.int .u8 0,.int .u8 0,.int .u8 0],[]⟩ (.node 367 ⟨Tryz.t367.desc,32,32,.agg #[.int .u8 0,.int .u8 0,.int .u8 0,.int .u8 0,.int .u8 0,.int .u8 0,.int .u8 0,.int .u8 0,.int .u8 0,.int .u8 0,.int .u8 0,.int .u8 0,.int .u8 0,.int .u8 0,.int .u8 0,.int .u8 0,.int .u8 0,.int .u8 0,.int .u8 0,.int .u8 0,.int .u8 0,.int .u8 0,.int .u8 0,.int .u8 0,.int .u8 0,.int .u8 0,.int .u8 0,.int .u8 0,.int .u8 0,.int .u8 0,.int .u8 0,.int .u8 0],[]⟩ .leaf .leaf) .leaf))))))
theorem tk : tt.Ok Tryz.prog := ⟨tO Tryz.t139 (by kernel_rfl) rfl Tryz.underlying139,⟨tO Tryz.t53 (by kernel_rfl) rfl Tryz.underlying53,⟨tO Tryz.t26 (by kernel_rfl) rfl Tryz.underlying26,⟨tO Tryz.t20 (by kernel_rfl) rfl Tryz.underlying20,⟨tO Tryz.t4 (by kernel_rfl) rfl Tryz.underlying4,⟨tO Tryz.t2 (by kernel_rfl) rfl Tryz.underlying2,⟨tO Tryz.t1 (by kernel_rfl) rfl Tryz.underlying1,trivial,trivial⟩,⟨tO Tryz.t3 (by kernel_rfl) rfl Tryz.underlying3,trivial,trivial⟩⟩,⟨tO Tryz.t9 (by kernel_rfl) rfl Tryz.underlying9,⟨tO Tryz.t5 (by kernel_rfl) rfl Tryz.underlying5,trivial,trivial⟩,trivial⟩⟩,⟨tO Tryz.t23 (by kernel_rfl) rfl Tryz.underlying23,⟨tO Tryz.t22 (by kernel_rfl) rfl Tryz.underlying22,⟨tO Tryz.t21 (by kernel_rfl) rfl Tryz.underlying21,trivial,trivial⟩,trivial⟩,⟨tO Tryz.t25 (by kernel_rfl) rfl Tryz.underlying25,⟨tO Tryz.t24 (by kernel_rfl) rfl Tryz.underlying24,trivial,trivial⟩,trivial⟩⟩⟩,⟨tO Tryz.t42 (by kernel_rfl) rfl Tryz.underlying42,⟨tO Tryz.t30 (by kernel_rfl) rfl Tryz.underlying30,⟨tO Tryz.t28 (by kernel_rfl) rfl Tryz.underlying28,⟨tO Tryz.t27 (by kernel_rfl) rfl Tryz.underlying27,trivial,trivial⟩,⟨tO Tryz.t29 (by kernel_rfl) rfl Tryz.underlying29,trivial,trivial⟩⟩,⟨tO Tryz.t33 (by kernel_rfl) rfl Tryz.underlying33,⟨tO Tryz.t31 (by kernel_rfl) rfl Tryz.underlying31,trivial,trivial⟩,trivial⟩⟩,⟨tO Tryz.t45 (by kernel_rfl) rfl Tryz.underlying45,⟨tO Tryz.t44 (by kernel_rfl) rfl Tryz.underlying44,⟨tO Tryz.t43 (by kernel_rfl) rfl Tryz.underlying43,trivial,trivial⟩,trivial⟩,⟨tO Tryz.t51 (by kernel_rfl) rfl Tryz.underlying51,⟨tO Tryz.t49 (by kernel_rfl) rfl Tryz.underlying49,trivial,trivial⟩,trivial⟩⟩⟩⟩,⟨tO Tryz.t88 (by kernel_rfl) rfl Tryz.underlying88,⟨ti68_ok,⟨tO Tryz.t61 (by kernel_rfl) rfl Tryz.underlying61,⟨tO Tryz.t57 (by kernel_rfl) rfl Tryz.underlying57,⟨tO Tryz.t56 (by kernel_rfl) rfl Tryz.underlying56,trivial,trivial⟩,⟨tO Tryz.t60 (by kernel_rfl) rfl Tryz.underlying60,trivial,trivial⟩⟩,⟨tO Tryz.t66 (by kernel_rfl) rfl Tryz.underlying66,⟨tO Tryz.t63 (by kernel_rfl) rfl Tryz.underlying63,trivial,trivial⟩,trivial⟩⟩,⟨tO Tryz.t74 (by kernel_rfl) rfl Tryz.underlying74,⟨ti73_ok,⟨tO Tryz.t71 (by kernel_rfl) rfl Tryz.underlying71,trivial,trivial⟩,trivial⟩,⟨tO Tryz.t77 (by kernel_rfl) rfl Tryz.underlying77,⟨tO Tryz.t75 (by kernel_rfl) rfl Tryz.underlying75,trivial,trivial⟩,trivial⟩⟩⟩,⟨tO Tryz.t117 (by kernel_rfl) rfl Tryz.underlying117,⟨tO Tryz.t106 (by kernel_rfl) rfl Tryz.underlying106,⟨tO Tryz.t94 (by kernel_rfl) rfl Tryz.underlying94,⟨tO Tryz.t91 (by kernel_rfl) rfl Tryz.underlying91,trivial,trivial⟩,trivial⟩,⟨tO Tryz.t115 (by kernel_rfl) rfl Tryz.underlying115,⟨tO Tryz.t107 (by kernel_rfl) rfl Tryz.underlying107,trivial,trivial⟩,trivial⟩⟩,⟨tO Tryz.t124 (by kernel_rfl) rfl Tryz.underlying124,⟨tO Tryz.t121 (by kernel_rfl) rfl Tryz.underlying121,⟨tO Tryz.t118 (by kernel_rfl) rfl Tryz.underlying118,trivial,trivial⟩,trivial⟩,⟨tO Tryz.t135 (by kernel_rfl) rfl Tryz.underlying135,⟨tO Tryz.t125 (by kernel_rfl) rfl Tryz.underlying125,trivial,trivial⟩,trivial⟩⟩⟩⟩⟩,⟨tO Tryz.t238 (by kernel_rfl) rfl Tryz.underlying238,⟨tO Tryz.t202 (by kernel_rfl) rfl Tryz.underlying202,⟨ti168_ok,⟨tO Tryz.t162 (by kernel_rfl) rfl Tryz.underlying162,⟨tO Tryz.t150 (by kernel_rfl) rfl Tryz.underlying150,⟨tO Tryz.t141 (by kernel_rfl) rfl Tryz.underlying141,trivial,trivial⟩,⟨tO Tryz.t157 (by kernel_rfl) rfl Tryz.underlying157,trivial,trivial⟩⟩,⟨tO Tryz.t166 (by kernel_rfl) rfl Tryz.underlying166,⟨tO Tryz.t164 (by kernel_rfl) rfl Tryz.underlying164,trivial,trivial⟩,trivial⟩⟩,⟨tO Tryz.t187 (by kernel_rfl) rfl Tryz.underlying187,⟨tO Tryz.t173 (by kernel_rfl) rfl Tryz.underlying173,⟨tO Tryz.t171 (by kernel_rfl) rfl Tryz.underlying171,trivial,trivial⟩,trivial⟩,⟨tO Tryz.t199 (by kernel_rfl) rfl Tryz.underlying199,⟨tO Tryz.t196 (by kernel_rfl) rfl Tryz.underlying196,trivial,trivial⟩,trivial⟩⟩⟩,⟨tO Tryz.t227 (by kernel_rfl) rfl Tryz.underlying227,⟨tO Tryz.t222 (by kernel_rfl) rfl Tryz.underlying222,⟨ti216_ok,⟨tO Tryz.t213 (by kernel_rfl) rfl Tryz.underlying213,trivial,trivial⟩,⟨tO Tryz.t220 (by kernel_rfl) rfl Tryz.underlying220,trivial,trivial⟩⟩,⟨tO Tryz.t224 (by kernel_rfl) rfl Tryz.underlying224,⟨tO Tryz.t223 (by kernel_rfl) rfl Tryz.underlying223,trivial,trivial⟩,trivial⟩⟩,⟨tO Tryz.t231 (by kernel_rfl) rfl Tryz.underlying231,⟨tO Tryz.t230 (by kernel_rfl) rfl Tryz.underlying230,⟨tO Tryz.t229 (by kernel_rfl) rfl Tryz.underlying229,trivial,trivial⟩,trivial⟩,⟨tO Tryz.t236 (by kernel_rfl) rfl Tryz.underlying236,⟨tO Tryz.t233 (by kernel_rfl) rfl Tryz.underlying233,trivial,trivial⟩,trivial⟩⟩⟩⟩,⟨tO Tryz.t326 (by kernel_rfl) rfl Tryz.underlying326,⟨tO Tryz.t283 (by kernel_rfl) rfl Tryz.underlying283,⟨tO Tryz.t265 (by kernel_rfl) rfl Tryz.underlying265,⟨tO Tryz.t244 (by kernel_rfl) rfl Tryz.underlying244,⟨tO Tryz.t240 (by kernel_rfl) rfl Tryz.underlying240,trivial,trivial⟩,⟨tO Tryz.t263 (by kernel_rfl) rfl Tryz.underlying263,trivial,trivial⟩⟩,⟨tO Tryz.t273 (by kernel_rfl) rfl Tryz.underlying273,⟨tO Tryz.t271 (by kernel_rfl) rfl Tryz.underlying271,trivial,trivial⟩,trivial⟩⟩,⟨tO Tryz.t307 (by kernel_rfl) rfl Tryz.underlying307,⟨tO Tryz.t290 (by kernel_rfl) rfl Tryz.underlying290,⟨tO Tryz.t289 (by kernel_rfl) rfl Tryz.underlying289,trivial,trivial⟩,trivial⟩,⟨tO Tryz.t325 (by kernel_rfl) rfl Tryz.underlying325,⟨tO Tryz.t312 (by kernel_rfl) rfl Tryz.underlying312,trivial,trivial⟩,trivial⟩⟩⟩,⟨tO Tryz.t360 (by kernel_rfl) rfl Tryz.underlying360,⟨tO Tryz.t342 (by kernel_rfl) rfl Tryz.underlying342,⟨tO Tryz.t339 (by kernel_rfl) rfl Tryz.underlying339,⟨tO Tryz.t332 (by kernel_rfl) rfl Tryz.underlying332,trivial,trivial⟩,trivial⟩,⟨tO Tryz.t354 (by kernel_rfl) rfl Tryz.underlying354,⟨tO Tryz.t352 (by kernel_rfl) rfl Tryz.underlying352,trivial,trivial⟩,trivial⟩⟩,⟨tO Tryz.t365 (by kernel_rfl) rfl Tryz.underlying365,⟨ti363_ok,⟨tO Tryz.t361 (by kernel_rfl) rfl Tryz.underlying361,trivial,trivial⟩,trivial⟩,⟨tO Tryz.t368 (by kernel_rfl) rfl Tryz.underlying368,⟨tO Tryz.t367 (by kernel_rfl) rfl Tryz.underlying367,trivial,trivial⟩,trivial⟩⟩⟩⟩⟩⟩
end
end Go.Ab


namespace Go.Proofs.YtppmcepdcpmpcaaGreatDoor
noncomputable section
open Go Go.Ab
theorem mok : Tryz.prog.follows .mixedOrders = true := by kernel_rfl
abbrev al (n : Int) : PV := .val (.int .i64 n)
abbrev aC (b : Bool) : PV := .val (.bool b)
structure LVal where
 kind : Int
 int : Int
 text : List UInt8
 deriving DecidableEq
structure LCol where
 name : List UInt8
 kind : Int
 nullable : Bool
 deriving DecidableEq
inductive LExpr where
 | mk (kind : Int) (name : List UInt8) (index : Int) (value : LVal) (args : List LExpr)
def LExpr.kind : LExpr → Int | .mk k _ _ _ _=>k
def LExpr.name : LExpr → List UInt8 | .mk _ n _ _ _=>n
def LExpr.index : LExpr → Int | .mk _ _ i _ _=>i
def LExpr.value : LExpr → LVal | .mk _ _ _ v _=>v
def LExpr.args : LExpr → List LExpr | .mk _ _ _ _ a=>a
structure LEnv where
 cols : List LCol
 row : List LVal
 params : List LVal
 vnames : List (List UInt8)
 vvals : List LVal
def LVal.nul : LVal := ⟨0,0,[]⟩
@[simp] def ae (v : LVal) : List PV := [al v.kind,al v.int,.str v.text]
@[simp] def ay (c : LCol) : List PV := [.str c.name,al c.kind,aC c.nullable]
mutual
def ez : LExpr → List PV
 | .mk k n i v a=>[al k,.str n,al i,al v.kind,al v.int,.str v.text,.list 91 (rP a)]
def rP : List LExpr → List (List PV)
 | []=>[]
 | e :: r=>ez e :: rP r
end
theorem sy : ∀ l,rP l = l.map ez
 | []=>rfl
 | e :: r=>by simp [rP,sy r]
def jB (e : LExpr) : List PV := [al e.kind,.str e.name,al e.index,al e.value.kind,al e.value.int,.str e.value.text,.list 91 (e.args.map ez)]
theorem eS (e : LExpr) : ez e = jB e := by
 cases e
 simp [ez,jB,sy,LExpr.kind,LExpr.name,LExpr.index,LExpr.value,LExpr.args]
abbrev kB (v : LVal) : PV := .agg (ae v)
abbrev pcol (c : LCol) : PV := .agg (ay c)
abbrev ke (e : LExpr) : PV := .agg (jB e)
abbrev pvals (l : List LVal) : PV := .list 73 (l.map ae)
abbrev kw (l : List LCol) : PV := .list 68 (l.map ay)
abbrev qL (l : List LExpr) : PV := .list 91 (l.map ez)
abbrev pstrs (l : List (List UInt8)) : PV := .list 9 (l.map fun s=>[.str s])
abbrev pints (l : List Int) : PV := .list 3 (l.map fun n=>[al n])
@[simp] def encEnv (v : LEnv) : List PV := [kw v.cols,pvals v.row,pvals v.params,pstrs v.vnames,pvals v.vvals]
abbrev penv (v : LEnv) : PV := .agg (encEnv v)
theorem tz {l : List LExpr} {j : Nat} (h : j < l.length) : (l.map ez)[((j : Nat) : Int).toNat]? = some (jB l[j]) := by
 simp [h,eS]
def aX {α : Type} (p : α → Bool) (l : List α) : Int := match l.findIdx? p with
 | some i=>i
 | none=>-1
theorem nw {α : Type} {p : α → Bool} {l : List α} {j : Nat} (hlt : j < l.length) (hpre : ∀ x ∈ l.take j,p x = false) (h : p l[j] = true) : aX p l = (j : Int) := by
 have : l.findIdx? p = some j := by
  rw [List.findIdx?_eq_some_iff_getElem]
  refine ⟨hlt,h,fun i hi=>?_⟩
  have := hpre l[i] (List.mem_take_iff_getElem.2 ⟨i,by omega,rfl⟩)
  simp [this]
 simp [aX,this]
theorem jY {α : Type} {p : α → Bool} {l : List α} (hpre : ∀ x ∈ l,p x = false) : aX p l = -1 := by
 have : l.findIdx? p = none := by
  rw [List.findIdx?_eq_none_iff]
  exact hpre
 simp [aX,this]
theorem pH {α : Type} {p : α → Bool} {l : List α} {j : Nat} (hlt : j < l.length) (hpre : ∀ x ∈ l.take j,p x = false) (h : p l[j] = false) : ∀ x ∈ l.take (j + 1),p x = false := by
 intro x hx
 rw [List.take_add_one,ze hlt] at hx
 simp only [Option.toList,List.mem_append,List.mem_singleton] at hx
 rcases hx with hx | rfl
 ·exact hpre x hx
 ·exact h
theorem bw {n : Int} (h1 : -9223372036854775808 ≤ n) (h2 : n ≤ 9223372036854775807) : IntKind.i64.wrap n = n := by
 simp only [IntKind.wrap,IntKind.bits,IntKind.signed]
 simp
 omega
theorem fO {j : Nat} (h : j < maxLen) : al (IntKind.i64.wrap ((j : Int) + 1)) = al ((j + 1 : Nat) : Int) := by
 rw [bw (by omega) (by simp [maxLen] at h; omega)]
 simp
theorem iU {α : Type} {p : α → Bool} {l : List α} : (decide (aX p l ≥ 0)) = l.any p := by
 rw [Bool.eq_iff_iff]
 simp only [decide_eq_true_eq,List.any_eq_true]
 cases h : l.findIdx? p with
 | none =>
  have e : aX p l = -1 := by simp [aX,h]
  rw [List.findIdx?_eq_none_iff] at h
  rw [e]
  constructor
  ·intro h'; omega
  ·rintro ⟨x,hx,hp⟩; rw [h x hx] at hp; cases hp
 | some i =>
  have e : aX p l = (i : Int) := by simp [aX,h]
  rw [List.findIdx?_eq_some_iff_getElem] at h
  rw [e]
  exact ⟨fun _=>⟨_,List.getElem_mem h.1,h.2.1⟩,fun _=>by omega⟩
abbrev Rq := List LVal
abbrev Rz := List (List LVal)
abbrev bG : Int → List PV := fun n=>[al n]
abbrev rBool : Bool → List PV := fun b=>[aC b]
abbrev mi : List UInt8 → List PV := fun s=>[.str s]
abbrev am {α : Type} (e : TypeId) (f : α → List PV) : List α → List PV := fun l=>[.list e (l.map f)]
theorem natLt {n : Int} {m j : Nat} (hm : n ≤ 2 ^ 62 ∧ m = n.toNat) (h : decide ((j : Int) < n) = true) : j < (List.range m).length := by
 have := of_decide_eq_true h
 simp
 omega
theorem natGe {n : Int} {m j : Nat} (hm : n ≤ 2 ^ 62 ∧ m = n.toNat) (h : decide ((j : Int) < n) = false) : (List.range m).length ≤ j := by
 have := of_decide_eq_false h
 simp
 omega
theorem natX {m j x : Nat} (h : (List.range m)[j]? = some x) : j = x := by
 have := zg.1 h
 obtain ⟨h1,h2⟩ := this
 simpa using h2
theorem pe {n : Int} {m j : Nat} (hm : n ≤ 2 ^ 62 ∧ m = n.toNat) (h : j < (List.range m).length) : al (IntKind.i64.wrap ((j : Int) + 1)) = al ((j + 1 : Nat) : Int) := by
 rw [bw (by omega) (by simp at h; omega)]
 simp
end
end Go.Proofs.YtppmcepdcpmpcaaGreatDoor

namespace Go.Proofs.YtppmcepdcpmpcaaGreatDoor
noncomputable section
open Go Go.Ab
attribute [local irreducible] V Ao Gh Eff PH
set_option maxRecDepth 4000
theorem indexCol {g : FuncId} {caps : List PV} {p : LCol → Bool} (xs : List LCol) (hg : ∀ (vs : Array Value) (w : World),(callFunc g vs).run Tryz.prog w = .ok (.enter g vs) w) (hp : ∀ x ∈ xs,aK Tryz.prog g (.agg (ay x) :: caps) (aC (p x))) :
  aK Tryz.prog 163 [.list 68 (xs.map ay),.fn g caps] (al (aX p xs)) := by
 refine PH.au Tryz.func163 Tryz.ntmps163 ?_
 repeat (first | refine ah tk rfl ?_ | refine ac ?_ | refine ab ?_ | refine aa ?_ | refine aw ?_)
 refine iq tk 0 rfl rfl fun hl _=>?_
 refine kE (X := Nat) (fun j=>⟨19,upd (upd (upd (upd (fun _=>.any) 0 (.list 68 (xs.map ay))) 1 (.fn g caps)) 7 (al (xs.map ay).length)) 8 (al j),fun _=>none,fun _=>none⟩)
  (fun j=>j ≤ xs.length ∧ ∀ x ∈ xs.take j,p x = false) (fun j=>xs.length - j) 0 ⟨Nat.zero_le _,by simp⟩ (Gh.le (ax (ax (ax (ax aW)))) aM aL) ?_
 rintro j ⟨hj,hpre⟩
 repeat (first | refine ah tk rfl ?_ | refine ac ?_ | refine ab ?_ | refine aa ?_)
 refine br rfl (fun h=>?_) (fun h=>?_)
 ·have hlt : j < xs.length := by simpa using h
  have hget : xs[j]? = some xs[j] := ze hlt
  repeat (first | refine ah tk rfl ?_ | refine ac ?_ | refine ab ?_ | refine aa ?_ | refine ap ?_ | refine aw ?_)
  refine pL tk rfl rfl rfl rfl rfl rfl (zn j) (r := ay xs[j]) (by simp [hget]) rfl ?_
  repeat (refine ah tk rfl ?_)
  refine ak hg (jn.r) (hp xs[j] (List.getElem_mem hlt)) ?_
  repeat (refine ac ?_)
  refine br rfl (fun h=>?_) (fun h=>?_)
  ·repeat (first | refine ah tk rfl ?_ | refine ac ?_ | refine ab ?_ | refine aa ?_)
   refine cY tk (PLe.q ?_)
   rw [nw hlt hpre h]
  ·repeat (first | refine ah tk rfl ?_ | refine ac ?_ | refine aa ?_ | refine ap ?_ | refine aG ?_)
   refine kY (j + 1) (by omega) ⟨hlt,?_⟩ (Gh.le (bJ (PLe.q ?_) (ax (ax (ax aW)))) aM aL)
   ·exact pH hlt hpre h
   ·exact fO (by simp at hl; omega)
 ·have hge : j = xs.length := by have : ¬ j < xs.length := by simpa using h
                                 omega
  repeat (first | refine ah tk rfl ?_ | refine ac ?_ | refine ab ?_ | refine aa ?_ | refine bq rfl ?_)
  refine cY tk (PLe.q ?_)
  rw [jY (by rw [hge] at hpre; simpa using hpre)]
theorem indexVal {g : FuncId} {caps : List PV} {p : LVal → Bool} (xs : Rq) (hg : ∀ (vs : Array Value) (w : World),(callFunc g vs).run Tryz.prog w = .ok (.enter g vs) w) (hp : ∀ x ∈ xs,aK Tryz.prog g (.agg (ae x) :: caps) (aC (p x))) :
  aK Tryz.prog 288 [.list 73 (xs.map ae),.fn g caps] (al (aX p xs)) := by
 refine PH.au Tryz.func288 Tryz.ntmps288 ?_
 repeat (first | refine ah tk rfl ?_ | refine ac ?_ | refine ab ?_ | refine aa ?_ | refine aw ?_)
 refine iq tk 0 rfl rfl fun hl _=>?_
 refine kE (X := Nat) (fun j=>⟨19,upd (upd (upd (upd (fun _=>.any) 0 (.list 73 (xs.map ae))) 1 (.fn g caps)) 7 (al (xs.map ae).length)) 8 (al j),fun _=>none,fun _=>none⟩)
  (fun j=>j ≤ xs.length ∧ ∀ x ∈ xs.take j,p x = false) (fun j=>xs.length - j) 0 ⟨Nat.zero_le _,by simp⟩ (Gh.le (ax (ax (ax (ax aW)))) aM aL) ?_
 rintro j ⟨hj,hpre⟩
 repeat (first | refine ah tk rfl ?_ | refine ac ?_ | refine ab ?_ | refine aa ?_)
 refine br rfl (fun h=>?_) (fun h=>?_)
 ·have hlt : j < xs.length := by simpa using h
  have hget : xs[j]? = some xs[j] := ze hlt
  repeat (first | refine ah tk rfl ?_ | refine ac ?_ | refine ab ?_ | refine aa ?_ | refine ap ?_ | refine aw ?_)
  refine pL tk rfl rfl rfl rfl rfl rfl (zn j) (r := ae xs[j]) (by simp [hget]) rfl ?_
  repeat (refine ah tk rfl ?_)
  refine ak hg (jn.r) (hp xs[j] (List.getElem_mem hlt)) ?_
  repeat (refine ac ?_)
  refine br rfl (fun h=>?_) (fun h=>?_)
  ·repeat (first | refine ah tk rfl ?_ | refine ac ?_ | refine ab ?_ | refine aa ?_)
   refine cY tk (PLe.q ?_)
   rw [nw hlt hpre h]
  ·repeat (first | refine ah tk rfl ?_ | refine ac ?_ | refine aa ?_ | refine ap ?_ | refine aG ?_)
   refine kY (j + 1) (by omega) ⟨hlt,?_⟩ (Gh.le (bJ (PLe.q ?_) (ax (ax (ax aW)))) aM aL)
   ·exact pH hlt hpre h
   ·exact fO (by simp at hl; omega)
 ·have hge : j = xs.length := by have : ¬ j < xs.length := by simpa using h
                                 omega
  repeat (first | refine ah tk rfl ?_ | refine ac ?_ | refine ab ?_ | refine aa ?_ | refine bq rfl ?_)
  refine cY tk (PLe.q ?_)
  rw [jY (by rw [hge] at hpre; simpa using hpre)]
theorem dt {g : FuncId} {caps : List PV} {p : LVal → Bool} (xs : Rq) (hg : ∀ (vs : Array Value) (w : World),(callFunc g vs).run Tryz.prog w = .ok (.enter g vs) w) (hp : ∀ x ∈ xs,aK Tryz.prog g (.agg (ae x) :: caps) (aC (p x))) :
  aK Tryz.prog 261 [.list 73 (xs.map ae),.fn g caps] (aC (xs.any p)) := by
 refine PH.au Tryz.func261 Tryz.ntmps261 ?_
 repeat (first | refine ah tk rfl ?_ | refine ac ?_ | refine ab ?_ | refine aa ?_)
 refine ak Tryz.call288 (jn.r) (indexVal xs hg hp) ?_
 repeat (first | refine ah tk rfl ?_ | refine ac ?_)
 refine cY tk (PLe.q ?_)
 rw [iU]
theorem indexInt {g : FuncId} {caps : List PV} {p : Int → Bool} (xs : List Int) (hg : ∀ (vs : Array Value) (w : World),(callFunc g vs).run Tryz.prog w = .ok (.enter g vs) w) (hp : ∀ x ∈ xs,aK Tryz.prog g (al x :: caps) (aC (p x))) :
  aK Tryz.prog 294 [.list 3 (xs.map fun x=>[al x]),.fn g caps] (al (aX p xs)) := by
 refine PH.au Tryz.func294 Tryz.ntmps294 ?_
 repeat (first | refine ah tk rfl ?_ | refine ac ?_ | refine ab ?_ | refine aa ?_ | refine aw ?_)
 refine iq tk 0 rfl rfl fun hl _=>?_
 refine kE (X := Nat) (fun j=>⟨19,upd (upd (upd (upd (fun _=>.any) 0 (.list 3 (xs.map fun x=>[al x]))) 1 (.fn g caps)) 7 (al (xs.map fun x=>[al x]).length)) 8 (al j),fun _=>none,fun _=>none⟩)
  (fun j=>j ≤ xs.length ∧ ∀ x ∈ xs.take j,p x = false) (fun j=>xs.length - j) 0 ⟨Nat.zero_le _,by simp⟩ (Gh.le (ax (ax (ax (ax aW)))) aM aL) ?_
 rintro j ⟨hj,hpre⟩
 repeat (first | refine ah tk rfl ?_ | refine ac ?_ | refine ab ?_ | refine aa ?_)
 refine br rfl (fun h=>?_) (fun h=>?_)
 ·have hlt : j < xs.length := by simpa using h
  have hget : xs[j]? = some xs[j] := ze hlt
  repeat (first | refine ah tk rfl ?_ | refine ac ?_ | refine ab ?_ | refine aa ?_ | refine ap ?_ | refine aw ?_)
  refine pL tk rfl rfl rfl rfl rfl rfl (zn j) (r := [al xs[j]]) (by simp [hget]) rfl ?_
  repeat (refine ah tk rfl ?_)
  refine ak hg (jn.r) (hp xs[j] (List.getElem_mem hlt)) ?_
  repeat (refine ac ?_)
  refine br rfl (fun h=>?_) (fun h=>?_)
  ·repeat (first | refine ah tk rfl ?_ | refine ac ?_ | refine ab ?_ | refine aa ?_)
   refine cY tk (PLe.q ?_)
   rw [nw hlt hpre h]
  ·repeat (first | refine ah tk rfl ?_ | refine ac ?_ | refine aa ?_ | refine ap ?_ | refine aG ?_)
   refine kY (j + 1) (by omega) ⟨hlt,?_⟩ (Gh.le (bJ (PLe.q ?_) (ax (ax (ax aW)))) aM aL)
   ·exact pH hlt hpre h
   ·exact fO (by simp at hl; omega)
 ·have hge : j = xs.length := by have : ¬ j < xs.length := by simpa using h
                                 omega
  repeat (first | refine ah tk rfl ?_ | refine ac ?_ | refine ab ?_ | refine aa ?_ | refine bq rfl ?_)
  refine cY tk (PLe.q ?_)
  rw [jY (by rw [hge] at hpre; simpa using hpre)]
theorem containsInt {g : FuncId} {caps : List PV} {p : Int → Bool} (xs : List Int) (hg : ∀ (vs : Array Value) (w : World),(callFunc g vs).run Tryz.prog w = .ok (.enter g vs) w) (hp : ∀ x ∈ xs,aK Tryz.prog g (al x :: caps) (aC (p x))) :
  aK Tryz.prog 272 [.list 3 (xs.map fun x=>[al x]),.fn g caps] (aC (xs.any p)) := by
 refine PH.au Tryz.func272 Tryz.ntmps272 ?_
 repeat (first | refine ah tk rfl ?_ | refine ac ?_ | refine ab ?_ | refine aa ?_)
 refine ak Tryz.call294 (jn.r) (indexInt xs hg hp) ?_
 repeat (first | refine ah tk rfl ?_ | refine ac ?_)
 refine cY tk (PLe.q ?_)
 rw [iU]
theorem cM (s : List UInt8) (xs : List (List UInt8)) :
  aK Tryz.prog 77 [pstrs xs,.str s] (al (aX (fun x=>s == x) xs)) := by
 refine PH.au Tryz.func77 Tryz.ntmps77 ?_
 repeat (first | refine ah tk rfl ?_ | refine ac ?_ | refine ab ?_ | refine aa ?_ | refine aw ?_)
 refine iq tk 0 rfl rfl fun hl _=>?_
 refine kE (X := Nat) (fun j=>⟨19,upd (upd (upd (upd (fun _=>.any) 0 (pstrs xs)) 1 (.str s)) 7 (al (xs.map fun s=>[PV.str s]).length)) 8 (al j),fun _=>none,fun _=>none⟩)
  (fun j=>j ≤ xs.length ∧ ∀ x ∈ xs.take j,(s == x) = false) (fun j=>xs.length - j) 0 ⟨Nat.zero_le _,by simp⟩ (Gh.le (ax (ax (ax (ax aW)))) aM aL) ?_
 rintro j ⟨hj,hpre⟩
 repeat (first | refine ah tk rfl ?_ | refine ac ?_ | refine ab ?_ | refine aa ?_)
 refine br rfl (fun h=>?_) (fun h=>?_)
 ·have hlt : j < xs.length := by simpa using h
  have hget : xs[j]? = some xs[j] := ze hlt
  repeat (first | refine ah tk rfl ?_ | refine ac ?_ | refine ab ?_ | refine aa ?_ | refine ap ?_ | refine aw ?_)
  refine pL tk rfl rfl rfl rfl rfl rfl (zn j) (r := [.str xs[j]]) (by simp [hget]) rfl ?_
  repeat (first | refine ah tk rfl ?_ | refine ac ?_)
  refine br rfl (fun h=>?_) (fun h=>?_)
  ·repeat (first | refine ah tk rfl ?_ | refine ac ?_ | refine ab ?_ | refine aa ?_)
   refine cY tk (PLe.q ?_)
   rw [nw hlt hpre h]
  ·repeat (first | refine ah tk rfl ?_ | refine ac ?_ | refine aa ?_ | refine ap ?_ | refine aG ?_)
   refine kY (j + 1) (by omega) ⟨hlt,?_⟩ (Gh.le (bJ (PLe.q ?_) (ax (ax (ax aW)))) aM aL)
   ·exact pH (p := fun x=>s == x) hlt hpre h
   ·exact fO (by simp at hl; omega)
 ·have hge : j = xs.length := by have : ¬ j < xs.length := by simpa using h
                                 omega
  repeat (first | refine ah tk rfl ?_ | refine ac ?_ | refine ab ?_ | refine aa ?_ | refine bq rfl ?_)
  refine cY tk (PLe.q ?_)
  rw [jY (by rw [hge] at hpre; simpa using hpre)]
def eU (v : LVal) : Bool :=
 if v.kind = 0 then decide (v = ⟨0,0,[]⟩) else if v.kind = 1 then v.text == [] && decide (v.int ≥ -1000000000000) && decide (v.int ≤ 1000000000000)
 else if v.kind = 2 then v.text == [] && (v.int == 0 || v.int == 1) else if v.kind = 3 then v.int == 0 && decide (v.text.length ≤ 24) else false
theorem qt (v : LVal) : aK Tryz.prog 50 [kB v] (aC (eU v)) := by
 refine PH.au Tryz.func50 Tryz.ntmps50 ?_
 repeat' (first | refine ah tk rfl ?_ | refine ac ?_ | refine ab ?_ | refine aa ?_ | refine ap ?_ | refine aw ?_ | refine aG ?_ | refine aE ?_ | refine br rfl (fun h=>?_) (fun h=>?_) | ((fail_if_success refine gv rfl ?_); refine gY rfl rfl rfl (fun h=>?_) (fun h=>?_)))
 all_goals refine cY tk (PLe.q ?_)
 all_goals cases v
 all_goals simp_all [eU]
 ·rename_i x _
  rw [Bool.eq_iff_iff]
  cases x <;> simp
 ·omega
 ·omega
def me (a b : LVal) : Bool :=
 if a.kind ≠ b.kind then decide (a.kind < b.kind) else if a.int ≠ b.int then decide (a.int < b.int) else Op.bytesLess a.text b.text
theorem mX (a b : LVal) : aK Tryz.prog 266 [kB a,kB b] (aC (me a b)) := by
 refine PH.au Tryz.func266 Tryz.ntmps266 ?_
 repeat' (first | refine ah tk rfl ?_ | refine ac ?_ | refine ab ?_ | refine aa ?_ | refine ap ?_ | refine aw ?_ | refine aG ?_ | refine aE ?_ | refine br rfl (fun h=>?_) (fun h=>?_))
 all_goals refine cY tk (PLe.q ?_)
 all_goals simp_all [me]
def lG (v : LVal) : Bool := v.kind == 2 && v.int == 1
theorem isTS (v : LVal) : aK Tryz.prog 135 [kB v] (aC (lG v)) := by
 refine PH.au Tryz.func135 Tryz.ntmps135 ?_
 repeat' (first | refine ah tk rfl ?_ | refine ac ?_ | refine ab ?_ | refine aa ?_ | refine aE ?_ | ((fail_if_success refine gv rfl ?_); refine gY rfl rfl rfl (fun h=>?_) (fun h=>?_)))
 all_goals refine cY tk (PLe.q ?_)
 all_goals simp_all [lG]
def mI (b : Bool) : LVal := ⟨2,if b then 1 else 0,[]⟩
theorem mD (b : Bool) : aK Tryz.prog 234 [aC b] (kB (mI b)) := by
 refine PH.au Tryz.func234 Tryz.ntmps234 ?_
 repeat' (first | refine ah tk rfl ?_ | refine ac ?_ | refine ab ?_ | refine aa ?_ | refine ap ?_ | (refine gg tk rfl rfl rfl rfl rfl rfl ?_; intro bk) | refine aq tk ?_ | refine br rfl (fun h=>?_) (fun h=>?_))
 all_goals refine cv tk (PLe.q ?_)
 all_goals simp_all [mI]
def intV (n : Int) : LVal := if n < -1000000000000 ∨ n > 1000000000000 then .nul else ⟨1,n,[]⟩
theorem sq (n : Int) : aK Tryz.prog 257 [al n] (kB (intV n)) := by
 refine PH.au Tryz.func257 Tryz.ntmps257 ?_
 repeat' (first | refine ah tk rfl ?_ | refine ac ?_ | refine ab ?_ | refine aa ?_ | refine ap ?_ | refine bP rfl ?_ | (refine gg tk rfl rfl rfl rfl rfl rfl ?_; intro bk) | refine aq tk ?_ | refine br rfl (fun h=>?_) (fun h=>?_) | ((fail_if_success refine gv rfl ?_); refine gY rfl rfl rfl (fun h=>?_) (fun h=>?_)))
 all_goals refine cv tk (PLe.q ?_)
 all_goals simp_all [intV,LVal.nul]
 all_goals (rw [zy (by omega)]; try simp)
def wr (n : Int) : Int := IntKind.i64.wrap n
def pp (op : List UInt8) (a b : Int) : LVal :=
 if op = [43] then intV (wr (a + b)) else if op = [45] then intV (wr (a - b)) else if a = 0 ∨ b = 0 then intV 0
 else if wr ((wr (a * b)).tdiv b) = a then intV (wr (a * b)) else .nul
theorem numberV_spec (op : List UInt8) (a b : Int) : aK Tryz.prog 291 [.str op,al a,al b] (kB (pp op a b)) := by
 refine PH.au Tryz.func291 Tryz.ntmps291 ?_
 repeat' (first | refine ah tk rfl ?_ | refine ac ?_ | refine ab ?_ | refine aa ?_ | refine ap ?_ | refine bP rfl ?_ | refine aw ?_ | refine aG ?_ | (refine gg tk rfl rfl rfl rfl rfl rfl ?_; intro bk) | refine aq tk ?_ | refine br rfl (fun h=>?_) (fun h=>?_) | ((fail_if_success refine gv rfl ?_); refine gY rfl rfl rfl (fun h=>?_) (fun h=>?_)) | (show Ao _ _ _ _ _; first | refine ak Tryz.call257 (jn.r) (sq _) ?_))
 case refine_2.refine_2.refine_2.refine_2 =>
  refine Ao.quo tk rfl rfl rfl rfl (by simpa using h) rfl ?_
  repeat' (first | refine ah tk rfl ?_ | refine ac ?_ | refine ab ?_ | refine aa ?_ | refine ap ?_ | refine aq tk ?_ | refine br rfl (fun h=>?_) (fun h=>?_) | (show Ao _ _ _ _ _; first | refine ak Tryz.call257 (jn.r) (sq _) ?_))
  all_goals refine cv tk (PLe.q ?_)
  all_goals simp_all [pp,wr,LVal.nul]
 all_goals refine cv tk (PLe.q ?_)
 all_goals simp_all [pp,wr]
end
end Go.Proofs.YtppmcepdcpmpcaaGreatDoor

namespace Go.Proofs.YtppmcepdcpmpcaaGreatDoor
noncomputable section
open Go Go.Ab
attribute [local irreducible] V Ao Do Gh Eff PH IntKind.wrap
set_option maxRecDepth 4000
theorem el (v : LVal) : aK Tryz.prog 262 [kB v] (aC (v.kind == 0)) := by
 refine PH.au Tryz.func262 Tryz.ntmps262 ?_
 repeat' (first | refine ah tk rfl ?_ | refine ac ?_ | refine ab ?_ | refine aa ?_ | refine aE ?_)
 all_goals refine cY tk (PLe.q rfl)
theorem bothIs_spec (v : LVal) (n : Int) : aK Tryz.prog 287 [kB v,al n] (aC (v.kind == 2 && v.int == n)) := by
 refine PH.au Tryz.func287 Tryz.ntmps287 ?_
 repeat' (first | refine ah tk rfl ?_ | refine ac ?_ | refine ab ?_ | refine aa ?_ | refine aE ?_ | ((fail_if_success refine gv rfl ?_); refine gY rfl rfl rfl (fun h=>?_) (fun h=>?_)))
 all_goals refine cY tk (PLe.q ?_)
 all_goals simp_all
theorem uG (v : LVal) (n : Int) : aK Tryz.prog 290 [kB v,.ptr [al n]] (aC (v.kind != n)) := by
 refine PH.au Tryz.func290 Tryz.ntmps290 ?_
 repeat' (first | refine ah tk rfl ?_ | refine ac ?_ | refine ab ?_ | refine aa ?_ | refine aE ?_)
 all_goals refine cY tk (PLe.q rfl)
theorem lH (n : Int) (l : Rq) : aK Tryz.prog 289 [al n,.ptr [pvals l]] (aC (!(l.any fun v=>v.kind != n))) := by
 refine PH.au Tryz.func289 Tryz.ntmps289 ?_
 repeat' (first | refine ah tk rfl ?_ | refine ac ?_ | refine ab ?_ | refine aa ?_ | refine aE ?_ | (show Ao _ _ _ _ _; first | refine ak Tryz.call261 (jn.r) (dt (p := fun v=>v.kind != n) l Tryz.call290 fun v _=>uG v n) ?_))
 all_goals refine cY tk (PLe.q rfl)
def dy : List (List UInt8) := [[43],[45],[42],[61],[60],[60,61],[97,110,100],[111,114],[110,111,116],[124,124],[105,115,32,110,117,108,108],[108,101,110,103,116,104],[105,102]]
def opArity : List Int := [2,2,2,2,2,2,2,2,1,2,1,1,3]
theorem iu : aK Tryz.prog 259 [] (.tup [pstrs dy,pints opArity]) := by
 refine PH.au Tryz.func259 Tryz.ntmps259 ?_
 repeat (first | refine ah tk rfl ?_ | refine ac ?_ | refine ab ?_ | refine aa ?_ | refine sx tk rfl rfl rfl rfl rfl rfl ?_)
 refine vf tk rfl rfl rfl (PLe.q ?_)
 rfl
def bothV (a b : LVal) (d : Int) : LVal :=
 if (a.kind == 2 && a.int == d) || (b.kind == 2 && b.int == d) then mI (d == 1)
 else if (a.kind == 2 && a.int == wr (1 - d)) && (b.kind == 2 && b.int == wr (1 - d)) then mI (d == 0) else .nul
theorem bothV_spec (a b : LVal) (d : Int) : aK Tryz.prog 260 [kB a,kB b,al d] (kB (bothV a b d)) := by
 refine PH.au Tryz.func260 Tryz.ntmps260 ?_
 repeat' (first | refine ah tk rfl ?_ | refine ac ?_ | refine ab ?_ | refine aa ?_ | refine ap ?_ | refine bP rfl ?_ | refine bC rfl ?_ | refine aw ?_ | refine aG ?_ | refine aE ?_ | (refine gg tk rfl rfl rfl rfl rfl rfl ?_; intro bk) | refine aq tk ?_ | refine br rfl (fun h=>?_) (fun h=>?_) | ((fail_if_success refine gv rfl ?_); refine gY rfl rfl rfl (fun h=>?_) (fun h=>?_)) | (show Ao _ _ _ _ _; first | refine ak Tryz.call287 (jn.r) (bothIs_spec _ _) ?_ | refine ak Tryz.call234 (jn.r) (mD _) ?_))
 all_goals refine cv tk (PLe.q ?_)
 all_goals (simp only [bothV,wr, *,Bool.or_true,Bool.true_or,Bool.or_self,Bool.and_self,Bool.and_false,Bool.false_and,Bool.false_eq_true,if_true,if_false]; try rfl)
def jv (n : Int) (l : Rq) : Bool := !(l.any fun v=>v.kind != n)
def jA (op : List UInt8) (l : Rq) : LVal :=
 let a := l.getD 0 .nul
 let b := l.getD 1 .nul
 if op == [61] then mI (decide (a = b)) else if op == [60] then mI (me a b) else if op == [60,61] then mI (!me b a)
 else if op == [110,111,116] then (if jv 2 l then mI (a.int == 0) else .nul)
 else if op == [108,101,110,103,116,104] then (if jv 3 l then intV a.text.length else .nul)
 else if op == [124,124] then (if jv 3 l && decide (a.text.length + b.text.length ≤ 24) then ⟨3,0,a.text ++ b.text⟩ else .nul)
 else if jv 1 l then pp op a.int b.int else .nul
theorem valEq (a b : LVal) : (a.kind == b.kind && (a.int == b.int && (a.text == b.text && true))) = decide (a = b) := by
 cases a; cases b
 rw [Bool.eq_iff_iff]
 simp
theorem uk (op : List UInt8) (a : LVal) (hop : op = [110,111,116] ∨ op = [108,101,110,103,116,104]) : aK Tryz.prog 263 [.str op,pvals [a]] (kB (jA op [a])) := by
 rcases hop with rfl | rfl
 ·refine PH.au Tryz.func263 Tryz.ntmps263 ?_
  repeat' (first | refine ah tk rfl ?_ | refine ac ?_ | refine ab ?_ | refine aa ?_ | refine ap ?_ | refine bP rfl ?_ | refine bC rfl ?_ | refine aw ?_ | refine aG ?_ | refine aE ?_ | (refine gg tk rfl rfl rfl rfl rfl rfl ?_; intro bk) | refine aq tk ?_ | refine br rfl (fun h=>?_) (fun h=>?_) | (show Ao _ _ _ _ _; first | refine ak Tryz.call289 (jn.r) (lH _ _) ?_ | refine ak Tryz.call234 (jn.r) (mD _) ?_))
  all_goals refine cv tk (PLe.q ?_)
  all_goals simp_all [jA,LVal.nul,jv]
 ·refine PH.au Tryz.func263 Tryz.ntmps263 ?_
  repeat' (first | refine ah tk rfl ?_ | refine ac ?_ | refine ab ?_ | refine aa ?_ | refine ap ?_ | refine bP rfl ?_ | refine bC rfl ?_ | refine aw ?_ | refine aG ?_ | refine aE ?_ | (refine gg tk rfl rfl rfl rfl rfl rfl ?_; intro bk) | refine aq tk ?_ | refine br rfl (fun h=>?_) (fun h=>?_) | (show Ao _ _ _ _ _; first | refine ak Tryz.call289 (jn.r) (lH _ _) ?_ | refine ak Tryz.call257 (jn.r) (sq _) ?_))
  all_goals refine cv tk (PLe.q ?_)
  all_goals simp_all [jA,LVal.nul,jv]
theorem kq (op : List UInt8) (a b : LVal) (h1 : (op == [110,111,116]) = false) (h2 : (op == [108,101,110,103,116,104]) = false) : aK Tryz.prog 263 [.str op,pvals [a,b]] (kB (jA op [a,b])) := by
 refine PH.au Tryz.func263 Tryz.ntmps263 ?_
 refine V.textF 1 rfl fun hq=>?_
 have ha : a.text.length ≤ iH := hq (ae a) (by simp) _ (by simp)
 have hb : b.text.length ≤ iH := hq (ae b) (by simp) _ (by simp)
 clear hq
 repeat' (first | (show Ao _ _ _ _ _; first | refine ah tk rfl ?_ | refine ac ?_ | refine aE ?_ | (refine gg tk rfl rfl rfl rfl rfl rfl ?_; intro bk) | refine aq tk ?_ | refine ak Tryz.call289 (jn.r) (lH _ _) ?_ | refine ak Tryz.call234 (jn.r) (mD _) ?_) | (show V _ _ _ _ _; first | refine ab ?_ | refine aa ?_ | refine ap ?_ | refine bC rfl ?_ | refine aw ?_ | refine aG ?_ | (show V _ _ _ (.code (.region 6 _ true) :: _) _; refine bm tk mok ⟨false,false,[]⟩ [0,1,2,3,4,5,6,7,8] rfl (by decide +kernel) rfl ?_) | (show V _ _ _ (.code (.region 8 _ true) :: _) _; refine bm tk mok ⟨false,false,[]⟩ [0,1,2,3,4,5,6,7,8] rfl (by decide +kernel) rfl ?_) | (show V _ _ _ (.code (.region 10 _ true) :: _) _; refine bm tk mok ⟨false,false,[]⟩ [0,1,2,3,4,5,6,7,8,9] rfl (by decide +kernel) rfl ?_) | (show V _ _ _ (.code (.region 18 _ true) :: _) _; refine bm tk mok ⟨false,false,[]⟩ [0,1,2,3,4,5,6,7,8,9,10,11,12,13,14,15] rfl (by decide +kernel) rfl ?_) | (show V _ _ _ (.code (.region 19 _ true) :: _) _; refine bm tk mok ⟨false,false,[]⟩ [0,1,2,3,4,5,6,7,8,9,10] rfl (by decide +kernel) rfl ?_) | (show V _ _ _ (.code (.region 4 _ true) :: _) _; refine bm tk mok ⟨false,false,[]⟩ [0,1,2,3,4,5,6,7,8,9,10] rfl (by decide +kernel) rfl ?_) | refine br rfl (fun h=>?_) (fun h=>?_)) | (show Do _ _ _ _ _ _ _; first | refine bV rfl ?_ | refine be ?_ | refine eD ?_ | refine aV Tryz.call289 (jn.r) (lH _ _) ?_ | refine aV Tryz.call234 (jn.r) (mD _) ?_ | refine aV Tryz.call266 (jn.r) (mX _ _) ?_ | refine aV Tryz.call291 (jn.r) (numberV_spec _ _ _) ?_ | ((fail_if_success refine mP rfl rfl ?_); refine nE rfl rfl rfl rfl (fun h=>?_) (fun h=>?_))))
 all_goals have hw : IntKind.i64.wrap ((a.text.length : Int) + (b.text.length : Int)) = (a.text.length : Int) + (b.text.length : Int) := bw (by omega) (by unfold iH at ha hb; omega)
 all_goals try (exfalso; simp_all; done)
 case refine_2.refine_2.refine_2.refine_2.refine_2.refine_1.refine_1.refine_1 =>
  have hc : a.text.length + b.text.length ≤ 24 := by
   simp only [decide_eq_true_eq] at h
   have : IntKind.i64.wrap ((a.text.length : Int) + (b.text.length : Int)) ≤ 24 := h
   omega
  refine Do.cat rfl rfl rfl rfl rfl (by unfold iH; omega) rfl ?_
  repeat (first | refine bV rfl ?_ | refine be ?_ | refine eD ?_)
  refine cv tk (PLe.q ?_)
  simp_all [jA,jv]
 all_goals refine cv tk (PLe.q ?_)
 all_goals try simp only [valEq]
 case refine_2.refine_2.refine_2.refine_2.refine_2.refine_1.refine_1.refine_2 =>
  rw [hw] at h
  have hc : ¬ a.text.length + b.text.length ≤ 24 := by
   simp only [decide_eq_false_iff_not] at h
   omega
  simp_all [jA,jv,LVal.nul]
  rw [zy (by omega)]
  exact ⟨rfl,rfl,rfl⟩
 case refine_2.refine_2.refine_2.refine_2.refine_2.refine_1.refine_2 =>
  simp_all [jA,jv,LVal.nul]
  rw [zy (fun hh=>h hh.1.1 hh.1.2)]
  exact ⟨rfl,rfl,rfl⟩
 case refine_2.refine_2.refine_2.refine_2.refine_2.refine_2.refine_2 =>
  simp_all [jA,jv,LVal.nul]
  rw [zy (fun hh=>h hh.1 hh.2)]
  exact ⟨rfl,rfl,rfl⟩
 all_goals simp_all [jA,jv,LVal.nul]
def bU (name : List UInt8) : Option Nat :=
 if name == [43] || name == [45] || name == [42] || name == [61] || name == [60] || name == [60,61] || name == [97,110,100] || name == [111,114] || name == [124,124] then some 2
 else if name == [110,111,116] || name == [105,115,32,110,117,108,108] || name == [108,101,110,103,116,104] then some 1
 else if name == [105,102] then some 3 else none
def bK (name : List UInt8) (l : Rq) : LVal :=
 let a := l.getD 0 .nul
 let b := l.getD 1 .nul
 let c := l.getD 2 .nul
 if bU name ≠ some l.length then .nul
 else if name == [105,115,32,110,117,108,108] then mI (a.kind == 0)
 else if name == [105,102] then (if lG a then b else c)
 else if name == [97,110,100] then bothV a b 0
 else if name == [111,114] then bothV a b 1
 else if l.any (fun v=>v.kind == 0) then .nul else jA name l
mutual
def cg (v : LEnv) : LExpr → LVal
 | .mk k n i x args =>
  if k == 1 then x
  else if k == 2 then (let j := aX (fun c : LCol=>c.name == n) v.cols
   if 0 ≤ j ∧ j < v.row.length then v.row.getD j.toNat .nul else .nul)
  else if k == 3 then (if 0 ≤ i ∧ i < v.params.length ∧ (v.params.getD i.toNat .nul).kind = x.kind then v.params.getD i.toNat .nul else .nul)
  else if k == 4 then (let j := aX (fun s : List UInt8=>n == s) v.vnames
   if 0 ≤ j ∧ j < v.vvals.length then v.vvals.getD j.toNat .nul else .nul)
  else if k == 5 then bK n (evalEs v args)
  else .nul
def evalEs (v : LEnv) : List LExpr → Rq
 | []=>[]
 | e :: r=>cg v e :: evalEs v r
end
theorem rp (v : LEnv) : ∀ l,evalEs v l = l.map (cg v)
 | []=>rfl
 | e :: r=>by simp [evalEs,rp v r]
theorem iX {α : Type} : ∀ {l : List α},l.length = 2 → ∃ a b,l = [a,b]
 | [a,b],_=>⟨a,b,rfl⟩
theorem len3 {α : Type} : ∀ {l : List α},l.length = 3 → ∃ a b c,l = [a,b,c]
 | [a,b,c],_=>⟨a,b,c,rfl⟩
theorem evalRows {v : LEnv} {args : List LExpr} {j : Nat} (h : j < args.length) : ((args.take j).map (cg v)).map ae ++ [ae (cg v args[j])] = ((args.take (j + 1)).map (cg v)).map ae := by
 rw [List.take_add_one,ze h]
 simp only [List.map_append,Option.toList,List.map_cons,List.map_nil]
theorem reckon_spec (v : LEnv) (e : LExpr)
  (ih : ∀ a ∈ e.args,aK Tryz.prog 158 [penv v,ke a] (kB (cg v a))) :
  aK Tryz.prog 223 [penv v,ke e] (kB (bK e.name (e.args.map (cg v)))) := by
 refine PH.au Tryz.func223 Tryz.ntmps223 ?_
 repeat (first | refine ah tk rfl ?_ | refine ac ?_ | refine ab ?_ | refine aa ?_ | refine aw ?_ | refine aE ?_ | (refine gg tk rfl rfl rfl rfl rfl rfl ?_; intro bk))
 refine iq tk 12 rfl rfl fun hl hby=>?_
 rw [zl] at hl hby
 have hby' : e.args.length * 88 ≤ 2 ^ 47 := hby
 refine iR tk 5 5 (e := 73) rfl rfl ?_
 refine kE (X := Nat × OwnRef) (fun X=>⟨92,upd (upd (upd (upd (upd (upd (upd (fun _=>.any) 5 (.own 5 X.2 (((e.args.take X.1).map (cg v)).map ae).length)) 4 (.box 4 bk 0)) 3 (.ptr (jB e))) 2 (.ptr (encEnv v))) 12 (qL e.args)) 13 (al (e.args.map ez).length)) 14 (al X.1),upd (fun _=>none) 4 (some ⟨bk,ae .nul⟩),upd (fun _=>none) 5 (some ⟨X.2,73,((e.args.take X.1).map (cg v)).map ae,true⟩)⟩)
  (fun X=>X.1 ≤ e.args.length) (fun X=>e.args.length - X.1) (0,⟨none,0⟩) (Nat.zero_le _) (Gh.le (ax (ax (ax (ax (ax (ax (ax aW))))))) (bi rfl (jn.r) aM) (aZ aL)) ?_
 rintro ⟨j,g⟩ hj
 replace hj : j ≤ e.args.length := hj
 repeat (first | refine ah tk rfl ?_ | refine ac ?_ | refine ab ?_ | refine aa ?_)
 refine br rfl (fun h=>?_) (fun h=>?_)
 ·have hlt : j < e.args.length := by simpa using h
  repeat (first | refine ab ?_ | refine aa ?_ | refine ap ?_ | refine aw ?_)
  refine aU tk (zn j) (tz hlt) ?_
  repeat (first | refine ah tk rfl ?_ | refine ac ?_ | refine aa ?_ | refine aD tk ?_ | (refine gg tk rfl rfl rfl rfl rfl rfl ?_; intro bk) | refine aq tk ?_)
  refine ak Tryz.call158 (jn.r) (ih _ (List.getElem_mem hlt)) ?_
  repeat (refine sx tk rfl rfl rfl rfl rfl rfl ?_)
  refine uD (rows2 := [ae (cg v e.args[j])]) tk rfl rfl rfl rfl rfl rfl rfl rfl rfl rfl rfl rfl rfl ?_ ?_ fun g'=>?_
  ·simp only [zl,List.length_take,List.length_cons,List.length_nil]
   rw [Nat.min_eq_left hj]
   show (j + 1) * 32 ≤ 2 ^ 47
   omega
  ·simp only [zl,List.length_take,List.length_cons,List.length_nil]
   omega
  repeat (first | refine ah tk rfl ?_ | refine ac ?_ | refine aa ?_ | refine aG ?_)
  rw [evalRows hlt]
  refine kY (j + 1,g') ?_ ?_ (Gh.le (bJ (PLe.q (fO (by omega))) (ax (ax (ax (ax (ax (ax aW))))))) (bi rfl (jn.r) aM) (aZ aL))
  ·show e.args.length - (j + 1) < e.args.length - j
   omega
  ·exact hlt
 have hge : j = e.args.length := by have : ¬ j < e.args.length := by simpa using h
                                    omega
 subst hge
 refine dP 5 rfl rfl rfl ?_
 simp only [List.take_length]
 generalize e.args.map (cg v) = L
 refine fI (st' := ⟨92,upd (upd (upd (fun _=>.any) 5 (pvals L)) 4 (.box 4 bk 0)) 3 (.ptr [al e.kind,.str e.name,al e.index,al e.value.kind,al e.value.int,.str e.value.text,qL e.args]),upd (fun _=>none) 4 (some ⟨bk,ae .nul⟩),fun _=>none⟩) (Gh.le (ax (ax (ax aW))) (bi rfl (jn.r) aM) aL) ?_
 generalize e.name = name
 by_cases hn : name ∈ dy
 ·simp only [dy,List.mem_cons,List.mem_nil_iff,or_false] at hn
  rcases hn with rfl | rfl | rfl | rfl | rfl | rfl | rfl | rfl | rfl | rfl | rfl | rfl | rfl
  ·have hi : aX (fun x=>[43] == x) dy = 0 := by rfl
   by_cases hl : L.length = 2
   ·obtain ⟨a,b,rfl⟩ := iX hl
    repeat' (first | (show Ao _ _ _ _ _; first | refine ah tk rfl ?_ | refine ac ?_ | refine aq tk ?_ | refine ak Tryz.call259 (jn.r) (iu) ?_ | refine ak Tryz.call77 (jn.r) (hi ▸ cM _ _) ?_ | refine ak Tryz.call261 (jn.r) (dt (p := fun v=>v.kind == 0) _ Tryz.call262 fun v _=>el v) ?_ | refine ak Tryz.call263 (jn.r) (kq _ _ _ rfl rfl) ?_) | (show V _ _ _ _ _; first | refine ab ?_ | refine aa ?_ | refine ap ?_ | refine bC rfl ?_ | refine aw ?_ | refine aG ?_ | refine bq rfl ?_ | refine br rfl (fun h=>?_) (fun h=>?_)))
    all_goals refine cv tk (PLe.q ?_)
    all_goals simp_all [bK,bU,LVal.nul]
   ·repeat' (first | (show Ao _ _ _ _ _; first | refine ah tk rfl ?_ | refine ac ?_ | refine aq tk ?_ | refine ak Tryz.call259 (jn.r) (iu) ?_ | refine ak Tryz.call77 (jn.r) (hi ▸ cM _ _) ?_ | refine ak Tryz.call261 (jn.r) (dt (p := fun v=>v.kind == 0) _ Tryz.call262 fun v _=>el v) ?_) | (show V _ _ _ _ _; first | refine ab ?_ | refine aa ?_ | refine ap ?_ | refine bC rfl ?_ | refine aw ?_ | refine aG ?_ | refine bq rfl ?_ | refine br rfl (fun h=>?_) (fun h=>?_)))
    all_goals try (exfalso; simp_all; omega)
    all_goals refine cv tk (PLe.q ?_)
    all_goals (have : bK [43] L = .nul := by simp [bK,bU]; omega)
    all_goals (rw [this]; rfl)
  ·have hi : aX (fun x=>[45] == x) dy = 1 := by rfl
   by_cases hl : L.length = 2
   ·obtain ⟨a,b,rfl⟩ := iX hl
    repeat' (first | (show Ao _ _ _ _ _; first | refine ah tk rfl ?_ | refine ac ?_ | refine aq tk ?_ | refine ak Tryz.call259 (jn.r) (iu) ?_ | refine ak Tryz.call77 (jn.r) (hi ▸ cM _ _) ?_ | refine ak Tryz.call261 (jn.r) (dt (p := fun v=>v.kind == 0) _ Tryz.call262 fun v _=>el v) ?_ | refine ak Tryz.call263 (jn.r) (kq _ _ _ rfl rfl) ?_) | (show V _ _ _ _ _; first | refine ab ?_ | refine aa ?_ | refine ap ?_ | refine bC rfl ?_ | refine aw ?_ | refine aG ?_ | refine bq rfl ?_ | refine br rfl (fun h=>?_) (fun h=>?_)))
    all_goals refine cv tk (PLe.q ?_)
    all_goals simp_all [bK,bU,LVal.nul]
   ·repeat' (first | (show Ao _ _ _ _ _; first | refine ah tk rfl ?_ | refine ac ?_ | refine aq tk ?_ | refine ak Tryz.call259 (jn.r) (iu) ?_ | refine ak Tryz.call77 (jn.r) (hi ▸ cM _ _) ?_ | refine ak Tryz.call261 (jn.r) (dt (p := fun v=>v.kind == 0) _ Tryz.call262 fun v _=>el v) ?_) | (show V _ _ _ _ _; first | refine ab ?_ | refine aa ?_ | refine ap ?_ | refine bC rfl ?_ | refine aw ?_ | refine aG ?_ | refine bq rfl ?_ | refine br rfl (fun h=>?_) (fun h=>?_)))
    all_goals try (exfalso; simp_all; omega)
    all_goals refine cv tk (PLe.q ?_)
    all_goals (have : bK [45] L = .nul := by simp [bK,bU]; omega)
    all_goals (rw [this]; rfl)
  ·have hi : aX (fun x=>[42] == x) dy = 2 := by rfl
   by_cases hl : L.length = 2
   ·obtain ⟨a,b,rfl⟩ := iX hl
    repeat' (first | (show Ao _ _ _ _ _; first | refine ah tk rfl ?_ | refine ac ?_ | refine aq tk ?_ | refine ak Tryz.call259 (jn.r) (iu) ?_ | refine ak Tryz.call77 (jn.r) (hi ▸ cM _ _) ?_ | refine ak Tryz.call261 (jn.r) (dt (p := fun v=>v.kind == 0) _ Tryz.call262 fun v _=>el v) ?_ | refine ak Tryz.call263 (jn.r) (kq _ _ _ rfl rfl) ?_) | (show V _ _ _ _ _; first | refine ab ?_ | refine aa ?_ | refine ap ?_ | refine bC rfl ?_ | refine aw ?_ | refine aG ?_ | refine bq rfl ?_ | refine br rfl (fun h=>?_) (fun h=>?_)))
    all_goals refine cv tk (PLe.q ?_)
    all_goals simp_all [bK,bU,LVal.nul]
   ·repeat' (first | (show Ao _ _ _ _ _; first | refine ah tk rfl ?_ | refine ac ?_ | refine aq tk ?_ | refine ak Tryz.call259 (jn.r) (iu) ?_ | refine ak Tryz.call77 (jn.r) (hi ▸ cM _ _) ?_ | refine ak Tryz.call261 (jn.r) (dt (p := fun v=>v.kind == 0) _ Tryz.call262 fun v _=>el v) ?_) | (show V _ _ _ _ _; first | refine ab ?_ | refine aa ?_ | refine ap ?_ | refine bC rfl ?_ | refine aw ?_ | refine aG ?_ | refine bq rfl ?_ | refine br rfl (fun h=>?_) (fun h=>?_)))
    all_goals try (exfalso; simp_all; omega)
    all_goals refine cv tk (PLe.q ?_)
    all_goals (have : bK [42] L = .nul := by simp [bK,bU]; omega)
    all_goals (rw [this]; rfl)
  ·have hi : aX (fun x=>[61] == x) dy = 3 := by rfl
   by_cases hl : L.length = 2
   ·obtain ⟨a,b,rfl⟩ := iX hl
    repeat' (first | (show Ao _ _ _ _ _; first | refine ah tk rfl ?_ | refine ac ?_ | refine aq tk ?_ | refine ak Tryz.call259 (jn.r) (iu) ?_ | refine ak Tryz.call77 (jn.r) (hi ▸ cM _ _) ?_ | refine ak Tryz.call261 (jn.r) (dt (p := fun v=>v.kind == 0) _ Tryz.call262 fun v _=>el v) ?_ | refine ak Tryz.call263 (jn.r) (kq _ _ _ rfl rfl) ?_) | (show V _ _ _ _ _; first | refine ab ?_ | refine aa ?_ | refine ap ?_ | refine bC rfl ?_ | refine aw ?_ | refine aG ?_ | refine bq rfl ?_ | refine br rfl (fun h=>?_) (fun h=>?_)))
    all_goals refine cv tk (PLe.q ?_)
    all_goals simp_all [bK,bU,LVal.nul]
   ·repeat' (first | (show Ao _ _ _ _ _; first | refine ah tk rfl ?_ | refine ac ?_ | refine aq tk ?_ | refine ak Tryz.call259 (jn.r) (iu) ?_ | refine ak Tryz.call77 (jn.r) (hi ▸ cM _ _) ?_ | refine ak Tryz.call261 (jn.r) (dt (p := fun v=>v.kind == 0) _ Tryz.call262 fun v _=>el v) ?_) | (show V _ _ _ _ _; first | refine ab ?_ | refine aa ?_ | refine ap ?_ | refine bC rfl ?_ | refine aw ?_ | refine aG ?_ | refine bq rfl ?_ | refine br rfl (fun h=>?_) (fun h=>?_)))
    all_goals try (exfalso; simp_all; omega)
    all_goals refine cv tk (PLe.q ?_)
    all_goals (have : bK [61] L = .nul := by simp [bK,bU]; omega)
    all_goals (rw [this]; rfl)
  ·have hi : aX (fun x=>[60] == x) dy = 4 := by rfl
   by_cases hl : L.length = 2
   ·obtain ⟨a,b,rfl⟩ := iX hl
    repeat' (first | (show Ao _ _ _ _ _; first | refine ah tk rfl ?_ | refine ac ?_ | refine aq tk ?_ | refine ak Tryz.call259 (jn.r) (iu) ?_ | refine ak Tryz.call77 (jn.r) (hi ▸ cM _ _) ?_ | refine ak Tryz.call261 (jn.r) (dt (p := fun v=>v.kind == 0) _ Tryz.call262 fun v _=>el v) ?_ | refine ak Tryz.call263 (jn.r) (kq _ _ _ rfl rfl) ?_) | (show V _ _ _ _ _; first | refine ab ?_ | refine aa ?_ | refine ap ?_ | refine bC rfl ?_ | refine aw ?_ | refine aG ?_ | refine bq rfl ?_ | refine br rfl (fun h=>?_) (fun h=>?_)))
    all_goals refine cv tk (PLe.q ?_)
    all_goals simp_all [bK,bU,LVal.nul]
   ·repeat' (first | (show Ao _ _ _ _ _; first | refine ah tk rfl ?_ | refine ac ?_ | refine aq tk ?_ | refine ak Tryz.call259 (jn.r) (iu) ?_ | refine ak Tryz.call77 (jn.r) (hi ▸ cM _ _) ?_ | refine ak Tryz.call261 (jn.r) (dt (p := fun v=>v.kind == 0) _ Tryz.call262 fun v _=>el v) ?_) | (show V _ _ _ _ _; first | refine ab ?_ | refine aa ?_ | refine ap ?_ | refine bC rfl ?_ | refine aw ?_ | refine aG ?_ | refine bq rfl ?_ | refine br rfl (fun h=>?_) (fun h=>?_)))
    all_goals try (exfalso; simp_all; omega)
    all_goals refine cv tk (PLe.q ?_)
    all_goals (have : bK [60] L = .nul := by simp [bK,bU]; omega)
    all_goals (rw [this]; rfl)
  ·have hi : aX (fun x=>[60,61] == x) dy = 5 := by rfl
   by_cases hl : L.length = 2
   ·obtain ⟨a,b,rfl⟩ := iX hl
    repeat' (first | (show Ao _ _ _ _ _; first | refine ah tk rfl ?_ | refine ac ?_ | refine aq tk ?_ | refine ak Tryz.call259 (jn.r) (iu) ?_ | refine ak Tryz.call77 (jn.r) (hi ▸ cM _ _) ?_ | refine ak Tryz.call261 (jn.r) (dt (p := fun v=>v.kind == 0) _ Tryz.call262 fun v _=>el v) ?_ | refine ak Tryz.call263 (jn.r) (kq _ _ _ rfl rfl) ?_) | (show V _ _ _ _ _; first | refine ab ?_ | refine aa ?_ | refine ap ?_ | refine bC rfl ?_ | refine aw ?_ | refine aG ?_ | refine bq rfl ?_ | refine br rfl (fun h=>?_) (fun h=>?_)))
    all_goals refine cv tk (PLe.q ?_)
    all_goals simp_all [bK,bU,LVal.nul]
   ·repeat' (first | (show Ao _ _ _ _ _; first | refine ah tk rfl ?_ | refine ac ?_ | refine aq tk ?_ | refine ak Tryz.call259 (jn.r) (iu) ?_ | refine ak Tryz.call77 (jn.r) (hi ▸ cM _ _) ?_ | refine ak Tryz.call261 (jn.r) (dt (p := fun v=>v.kind == 0) _ Tryz.call262 fun v _=>el v) ?_) | (show V _ _ _ _ _; first | refine ab ?_ | refine aa ?_ | refine ap ?_ | refine bC rfl ?_ | refine aw ?_ | refine aG ?_ | refine bq rfl ?_ | refine br rfl (fun h=>?_) (fun h=>?_)))
    all_goals try (exfalso; simp_all; omega)
    all_goals refine cv tk (PLe.q ?_)
    all_goals (have : bK [60,61] L = .nul := by simp [bK,bU]; omega)
    all_goals (rw [this]; rfl)
  ·have hi : aX (fun x=>[97,110,100] == x) dy = 6 := by rfl
   by_cases hl : L.length = 2
   ·obtain ⟨a,b,rfl⟩ := iX hl
    repeat' (first | (show Ao _ _ _ _ _; first | refine ah tk rfl ?_ | refine ac ?_ | refine ak Tryz.call259 (jn.r) (iu) ?_ | refine ak Tryz.call77 (jn.r) (hi ▸ cM _ _) ?_) | (show V _ _ _ _ _; first | refine ab ?_ | refine aa ?_ | refine ap ?_ | refine bP rfl ?_ | refine bC rfl ?_ | refine aw ?_ | refine bq rfl ?_ | (show V _ _ _ (.code (.region 19 _ true) :: _) _; refine bm tk mok ⟨false,false,[]⟩ [0,1,2,3,4,5,6,7] rfl (by decide +kernel) rfl ?_)) | (show Do _ _ _ _ _ _ _; first | refine bV rfl ?_ | refine be ?_ | refine eD ?_ | refine aV Tryz.call260 (jn.r) (bothV_spec _ _ _) ?_))
    all_goals refine cv tk (PLe.q ?_)
    all_goals simp_all [bK,bU,LVal.nul]
   ·repeat' (first | (show Ao _ _ _ _ _; first | refine ah tk rfl ?_ | refine ac ?_ | refine aq tk ?_ | refine ak Tryz.call259 (jn.r) (iu) ?_ | refine ak Tryz.call77 (jn.r) (hi ▸ cM _ _) ?_) | (show V _ _ _ _ _; first | refine ab ?_ | refine aa ?_ | refine ap ?_ | refine bP rfl ?_ | refine bC rfl ?_ | refine aw ?_ | refine bq rfl ?_ | (show V _ _ _ (.code (.region 19 _ true) :: _) _; refine bm tk mok ⟨false,false,[]⟩ [0,1,2,3,4,5,6,7] rfl (by decide +kernel) rfl ?_) | refine br rfl (fun h=>?_) (fun h=>?_)) | (show Do _ _ _ _ _ _ _; first | refine bV rfl ?_))
    all_goals try (exfalso; simp_all; omega)
    all_goals refine cv tk (PLe.q ?_)
    all_goals (have : bK [97,110,100] L = .nul := by simp [bK,bU]; omega)
    all_goals (rw [this]; rfl)
  ·have hi : aX (fun x=>[111,114] == x) dy = 7 := by rfl
   by_cases hl : L.length = 2
   ·obtain ⟨a,b,rfl⟩ := iX hl
    repeat' (first | (show Ao _ _ _ _ _; first | refine ah tk rfl ?_ | refine ac ?_ | refine ak Tryz.call259 (jn.r) (iu) ?_ | refine ak Tryz.call77 (jn.r) (hi ▸ cM _ _) ?_) | (show V _ _ _ _ _; first | refine ab ?_ | refine aa ?_ | refine ap ?_ | refine bP rfl ?_ | refine bC rfl ?_ | refine aw ?_ | refine bq rfl ?_ | (show V _ _ _ (.code (.region 21 _ true) :: _) _; refine bm tk mok ⟨false,false,[]⟩ [0,1,2,3,4,5,6,7] rfl (by decide +kernel) rfl ?_)) | (show Do _ _ _ _ _ _ _; first | refine bV rfl ?_ | refine be ?_ | refine eD ?_ | refine aV Tryz.call260 (jn.r) (bothV_spec _ _ _) ?_))
    all_goals refine cv tk (PLe.q ?_)
    all_goals simp_all [bK,bU,LVal.nul]
   ·repeat' (first | (show Ao _ _ _ _ _; first | refine ah tk rfl ?_ | refine ac ?_ | refine aq tk ?_ | refine ak Tryz.call259 (jn.r) (iu) ?_ | refine ak Tryz.call77 (jn.r) (hi ▸ cM _ _) ?_) | (show V _ _ _ _ _; first | refine ab ?_ | refine aa ?_ | refine ap ?_ | refine bP rfl ?_ | refine bC rfl ?_ | refine aw ?_ | refine bq rfl ?_ | (show V _ _ _ (.code (.region 21 _ true) :: _) _; refine bm tk mok ⟨false,false,[]⟩ [0,1,2,3,4,5,6,7] rfl (by decide +kernel) rfl ?_) | refine br rfl (fun h=>?_) (fun h=>?_)) | (show Do _ _ _ _ _ _ _; first | refine bV rfl ?_))
    all_goals try (exfalso; simp_all; omega)
    all_goals refine cv tk (PLe.q ?_)
    all_goals (have : bK [111,114] L = .nul := by simp [bK,bU]; omega)
    all_goals (rw [this]; rfl)
  ·have hi : aX (fun x=>[110,111,116] == x) dy = 8 := by rfl
   by_cases hl : L.length = 1
   ·obtain ⟨a,rfl⟩ := List.length_eq_one_iff.1 hl
    repeat' (first | (show Ao _ _ _ _ _; first | refine ah tk rfl ?_ | refine ac ?_ | refine aq tk ?_ | refine ak Tryz.call259 (jn.r) (iu) ?_ | refine ak Tryz.call77 (jn.r) (hi ▸ cM _ _) ?_ | refine ak Tryz.call261 (jn.r) (dt (p := fun v=>v.kind == 0) _ Tryz.call262 fun v _=>el v) ?_ | refine uq (g := 263) rfl rfl rfl Tryz.call263 (jn.r) (uk _ _ (by simp)) rfl ?_) | (show V _ _ _ _ _; first | refine ab ?_ | refine aa ?_ | refine ap ?_ | refine bC rfl ?_ | refine aw ?_ | refine aG ?_ | refine bq rfl ?_ | refine br rfl (fun h=>?_) (fun h=>?_)))
    all_goals refine cv tk (PLe.q ?_)
    all_goals simp_all [bK,bU,LVal.nul]
   ·repeat' (first | (show Ao _ _ _ _ _; first | refine ah tk rfl ?_ | refine ac ?_ | refine aq tk ?_ | refine ak Tryz.call259 (jn.r) (iu) ?_ | refine ak Tryz.call77 (jn.r) (hi ▸ cM _ _) ?_ | refine ak Tryz.call261 (jn.r) (dt (p := fun v=>v.kind == 0) _ Tryz.call262 fun v _=>el v) ?_) | (show V _ _ _ _ _; first | refine ab ?_ | refine aa ?_ | refine ap ?_ | refine bC rfl ?_ | refine aw ?_ | refine aG ?_ | refine bq rfl ?_ | refine br rfl (fun h=>?_) (fun h=>?_)))
    all_goals try (exfalso; simp_all; omega)
    all_goals refine cv tk (PLe.q ?_)
    all_goals (have : bK [110,111,116] L = .nul := by simp [bK,bU]; omega)
    all_goals (rw [this]; rfl)
  ·have hi : aX (fun x=>[124,124] == x) dy = 9 := by rfl
   by_cases hl : L.length = 2
   ·obtain ⟨a,b,rfl⟩ := iX hl
    repeat' (first | (show Ao _ _ _ _ _; first | refine ah tk rfl ?_ | refine ac ?_ | refine aq tk ?_ | refine ak Tryz.call259 (jn.r) (iu) ?_ | refine ak Tryz.call77 (jn.r) (hi ▸ cM _ _) ?_ | refine ak Tryz.call261 (jn.r) (dt (p := fun v=>v.kind == 0) _ Tryz.call262 fun v _=>el v) ?_ | refine ak Tryz.call263 (jn.r) (kq _ _ _ rfl rfl) ?_) | (show V _ _ _ _ _; first | refine ab ?_ | refine aa ?_ | refine ap ?_ | refine bC rfl ?_ | refine aw ?_ | refine aG ?_ | refine bq rfl ?_ | refine br rfl (fun h=>?_) (fun h=>?_)))
    all_goals refine cv tk (PLe.q ?_)
    all_goals simp_all [bK,bU,LVal.nul]
   ·repeat' (first | (show Ao _ _ _ _ _; first | refine ah tk rfl ?_ | refine ac ?_ | refine aq tk ?_ | refine ak Tryz.call259 (jn.r) (iu) ?_ | refine ak Tryz.call77 (jn.r) (hi ▸ cM _ _) ?_ | refine ak Tryz.call261 (jn.r) (dt (p := fun v=>v.kind == 0) _ Tryz.call262 fun v _=>el v) ?_) | (show V _ _ _ _ _; first | refine ab ?_ | refine aa ?_ | refine ap ?_ | refine bC rfl ?_ | refine aw ?_ | refine aG ?_ | refine bq rfl ?_ | refine br rfl (fun h=>?_) (fun h=>?_)))
    all_goals try (exfalso; simp_all; omega)
    all_goals refine cv tk (PLe.q ?_)
    all_goals (have : bK [124,124] L = .nul := by simp [bK,bU]; omega)
    all_goals (rw [this]; rfl)
  ·have hi : aX (fun x=>[105,115,32,110,117,108,108] == x) dy = 10 := by rfl
   by_cases hl : L.length = 1
   ·obtain ⟨a,rfl⟩ := List.length_eq_one_iff.1 hl
    repeat' (first | (show Ao _ _ _ _ _; first | refine ah tk rfl ?_ | refine ac ?_ | refine aq tk ?_ | refine ak Tryz.call259 (jn.r) (iu) ?_ | refine ak Tryz.call77 (jn.r) (hi ▸ cM _ _) ?_ | refine ak Tryz.call234 (jn.r) (mD _) ?_) | (show V _ _ _ _ _; first | refine ab ?_ | refine aa ?_ | refine ap ?_ | refine bP rfl ?_ | refine bC rfl ?_ | refine aw ?_ | refine bq rfl ?_))
    all_goals refine cv tk (PLe.q ?_)
    all_goals simp_all [bK,bU,LVal.nul]
   ·repeat' (first | (show Ao _ _ _ _ _; first | refine ah tk rfl ?_ | refine ac ?_ | refine aq tk ?_ | refine ak Tryz.call259 (jn.r) (iu) ?_ | refine ak Tryz.call77 (jn.r) (hi ▸ cM _ _) ?_) | (show V _ _ _ _ _; first | refine ab ?_ | refine aa ?_ | refine ap ?_ | refine bP rfl ?_ | refine aw ?_ | refine bq rfl ?_ | refine br rfl (fun h=>?_) (fun h=>?_)))
    all_goals try (exfalso; simp_all; omega)
    all_goals refine cv tk (PLe.q ?_)
    all_goals (have : bK [105,115,32,110,117,108,108] L = .nul := by simp [bK,bU]; omega)
    all_goals (rw [this]; rfl)
  ·have hi : aX (fun x=>[108,101,110,103,116,104] == x) dy = 11 := by rfl
   by_cases hl : L.length = 1
   ·obtain ⟨a,rfl⟩ := List.length_eq_one_iff.1 hl
    repeat' (first | (show Ao _ _ _ _ _; first | refine ah tk rfl ?_ | refine ac ?_ | refine aq tk ?_ | refine ak Tryz.call259 (jn.r) (iu) ?_ | refine ak Tryz.call77 (jn.r) (hi ▸ cM _ _) ?_ | refine ak Tryz.call261 (jn.r) (dt (p := fun v=>v.kind == 0) _ Tryz.call262 fun v _=>el v) ?_ | refine uq (g := 263) rfl rfl rfl Tryz.call263 (jn.r) (uk _ _ (by simp)) rfl ?_) | (show V _ _ _ _ _; first | refine ab ?_ | refine aa ?_ | refine ap ?_ | refine bC rfl ?_ | refine aw ?_ | refine aG ?_ | refine bq rfl ?_ | refine br rfl (fun h=>?_) (fun h=>?_)))
    all_goals refine cv tk (PLe.q ?_)
    all_goals simp_all [bK,bU,LVal.nul]
   ·repeat' (first | (show Ao _ _ _ _ _; first | refine ah tk rfl ?_ | refine ac ?_ | refine aq tk ?_ | refine ak Tryz.call259 (jn.r) (iu) ?_ | refine ak Tryz.call77 (jn.r) (hi ▸ cM _ _) ?_ | refine ak Tryz.call261 (jn.r) (dt (p := fun v=>v.kind == 0) _ Tryz.call262 fun v _=>el v) ?_) | (show V _ _ _ _ _; first | refine ab ?_ | refine aa ?_ | refine ap ?_ | refine bC rfl ?_ | refine aw ?_ | refine aG ?_ | refine bq rfl ?_ | refine br rfl (fun h=>?_) (fun h=>?_)))
    all_goals try (exfalso; simp_all; omega)
    all_goals refine cv tk (PLe.q ?_)
    all_goals (have : bK [108,101,110,103,116,104] L = .nul := by simp [bK,bU]; omega)
    all_goals (rw [this]; rfl)
  ·have hi : aX (fun x=>[105,102] == x) dy = 12 := by rfl
   by_cases hl : L.length = 3
   ·obtain ⟨a,b,c,rfl⟩ := len3 hl
    repeat' (first | (show Ao _ _ _ _ _; first | refine ah tk rfl ?_ | refine ac ?_ | refine aq tk ?_ | refine ak Tryz.call259 (jn.r) (iu) ?_ | refine ak Tryz.call77 (jn.r) (hi ▸ cM _ _) ?_ | refine ak Tryz.call135 (jn.r) (isTS _) ?_) | (show V _ _ _ _ _; first | refine ab ?_ | refine aa ?_ | refine ap ?_ | refine bP rfl ?_ | refine bC rfl ?_ | refine aw ?_ | refine bq rfl ?_ | refine br rfl (fun h=>?_) (fun h=>?_)))
    all_goals refine cv tk (PLe.q ?_)
    all_goals simp_all [bK,bU,LVal.nul]
   ·repeat' (first | (show Ao _ _ _ _ _; first | refine ah tk rfl ?_ | refine ac ?_ | refine aq tk ?_ | refine ak Tryz.call259 (jn.r) (iu) ?_ | refine ak Tryz.call77 (jn.r) (hi ▸ cM _ _) ?_) | (show V _ _ _ _ _; first | refine ab ?_ | refine aa ?_ | refine ap ?_ | refine bP rfl ?_ | refine bC rfl ?_ | refine aw ?_ | refine bq rfl ?_ | refine br rfl (fun h=>?_) (fun h=>?_)))
    all_goals try (exfalso; simp_all; omega)
    all_goals refine cv tk (PLe.q ?_)
    all_goals (have : bK [105,102] L = .nul := by simp [bK,bU]; omega)
    all_goals (rw [this]; rfl)
 have hi : aX (fun x=>name == x) dy = -1 := jY fun x hx=>by
  cases hb : name == x with
  | false=>rfl
  | true=>exact absurd (by rw [eq_of_beq hb]; exact hx) hn
 repeat' (first | (show Ao _ _ _ _ _; first | refine ah tk rfl ?_ | refine ac ?_ | refine aq tk ?_ | refine ak Tryz.call259 (jn.r) (iu) ?_ | refine ak Tryz.call77 (jn.r) (hi ▸ cM _ _) ?_) | (show V _ _ _ _ _; first | refine ab ?_ | refine aa ?_ | refine bP rfl ?_ | refine bq rfl ?_))
 all_goals refine cv tk (PLe.q ?_)
 have : bU name = none := by
  simp only [dy,List.mem_cons,List.mem_nil_iff,or_false,not_or] at hn
  simp [bU,hn]
 have : bK name L = .nul := by simp [bK,this]
 rw [this]
 rfl
theorem colName_spec (c : LCol) (e : LExpr) : aK Tryz.prog 222 [pcol c,.ptr (jB e)] (aC (c.name == e.name)) := by
 refine PH.au Tryz.func222 Tryz.ntmps222 ?_
 repeat' (first | (show Ao _ _ _ _ _; first | refine ah tk rfl ?_ | refine ac ?_ | refine aE ?_) | (show V _ _ _ _ _; first | refine ab ?_ | refine aa ?_))
 all_goals refine cY tk (PLe.q rfl)
theorem getVal {l : Rq} {j : Int} (h0 : 0 ≤ j) (h : j < ((l.map ae).length : Int)) : (l.map ae)[j.toNat]? = some (ae (l.getD j.toNat .nul)) := by
 simp at h
 have : j.toNat < l.length := by omega
 simp [this]
theorem rG (v : LEnv) (e : LExpr) : cg v e =
  if e.kind == 1 then e.value
  else if e.kind == 2 then (if 0 ≤ aX (fun c : LCol=>c.name == e.name) v.cols ∧ aX (fun c : LCol=>c.name == e.name) v.cols < v.row.length then v.row.getD (aX (fun c : LCol=>c.name == e.name) v.cols).toNat .nul else .nul)
  else if e.kind == 3 then (if 0 ≤ e.index ∧ e.index < v.params.length ∧ (v.params.getD e.index.toNat .nul).kind = e.value.kind then v.params.getD e.index.toNat .nul else .nul)
  else if e.kind == 4 then (if 0 ≤ aX (fun s : List UInt8=>e.name == s) v.vnames ∧ aX (fun s : List UInt8=>e.name == s) v.vnames < v.vvals.length then v.vvals.getD (aX (fun s : List UInt8=>e.name == s) v.vnames).toNat .nul else .nul)
  else if e.kind == 5 then bK e.name (e.args.map (cg v))
  else .nul := by
 cases e
 rw [cg,rp]
 rfl
theorem evalStep (v : LEnv) (e : LExpr) (ih : ∀ a ∈ e.args,aK Tryz.prog 158 [penv v,ke a] (kB (cg v a))) :
  aK Tryz.prog 158 [penv v,ke e] (kB (cg v e)) := by
 refine PH.au Tryz.func158 Tryz.ntmps158 ?_
 repeat' (first | (show Ao _ _ _ _ _; first | refine ah tk rfl ?_ | refine ac ?_ | refine aE ?_ | (refine gg tk rfl rfl rfl rfl rfl rfl ?_; intro bk) | refine aq tk ?_ | refine ak Tryz.call163 (jn.r) (indexCol (p := fun c=>c.name == e.name) _ Tryz.call222 fun c _=>colName_spec c e) ?_ | refine ak Tryz.call77 (jn.r) (cM _ _) ?_ | refine ak Tryz.call223 (jn.r) (reckon_spec v e ih) ?_ | refine pL tk rfl rfl rfl rfl rfl rfl (of_decide_eq_true (by assumption)) (getVal (of_decide_eq_true (by assumption)) (of_decide_eq_true (by assumption))) rfl ?_ | ((fail_if_success refine gv rfl ?_); refine gY rfl rfl rfl (fun h=>?_) (fun h=>?_))) | (show V _ _ _ _ _; first | refine ab ?_ | refine aa ?_ | refine ap ?_ | refine bC rfl ?_ | refine aw ?_ | refine aG ?_ | (show V _ _ _ (.code (.region 9 _ true) :: _) _; refine bm tk mok ⟨false,false,[]⟩ [0,1,2,3,4,5,6,7,8,9,10,11,12,13,14,15,16,17,18,19,20,21,22,23] rfl (by decide +kernel) rfl ?_) | refine br rfl (fun h=>?_) (fun h=>?_)) | (show Do _ _ _ _ _ _ _; first | refine bV rfl ?_ | refine be ?_ | refine ve rfl rfl rfl rfl rfl rfl rfl (of_decide_eq_true (by assumption)) (getVal (of_decide_eq_true (by assumption)) (of_decide_eq_true (by assumption))) rfl ?_ | ((fail_if_success refine mP rfl rfl ?_); refine nE rfl rfl rfl rfl (fun h=>?_) (fun h=>?_))))
 all_goals refine cv tk (PLe.q ?_)
 all_goals rw [rG]
 all_goals simp_all [LVal.nul]
 all_goals rw [zy (by omega)]
 all_goals exact ⟨rfl,rfl,rfl⟩
theorem nV (v : LEnv) : ∀ e : LExpr,aK Tryz.prog 158 [penv v,ke e] (kB (cg v e))
 | .mk k n i x args=>evalStep v (.mk k n i x args) fun a ha=>by
  have ha' : a ∈ args := ha
  exact nV v a
def lit (v : LVal) : LExpr := .mk 1 [] 0 v []
def nv (acc r : Int × Int) : Int × Int := (wr (acc.1 + r.1),if r.2 > acc.2 then r.2 else acc.2)
mutual
def jp : LExpr → Int × Int
 | .mk _ _ _ _ args=>let r := (sizesE args).foldl nv (1,0); (r.1,wr (r.2 + 1))
def sizesE : List LExpr → List (Int × Int)
 | []=>[]
 | e :: r=>jp e :: sizesE r
end
theorem sizesE_map : ∀ l,sizesE l = l.map jp
 | []=>rfl
 | e :: r=>by simp [sizesE,sizesE_map r]
theorem sizeE_eq (e : LExpr) : jp e = (((e.args.map jp).foldl nv (1,0)).1,wr (((e.args.map jp).foldl nv (1,0)).2 + 1)) := by
 cases e
 rw [jp,sizesE_map]
 rfl
theorem foldl_take {α β : Type} (g : β → α → β) (z : β) {l : List α} {j : Nat} (h : j < l.length) : (l.take (j + 1)).foldl g z = g ((l.take j).foldl g z) l[j] := by
 rw [List.take_add_one,ze h,List.foldl_append]
 rfl
theorem sizeStep_spec (e : LExpr) (ih : ∀ a ∈ e.args,aK Tryz.prog 199 [ke a] (.tup [al (jp a).1,al (jp a).2])) :
  aK Tryz.prog 199 [ke e] (.tup [al (jp e).1,al (jp e).2]) := by
 refine PH.au Tryz.func199 Tryz.ntmps199 ?_
 repeat (first | refine ah tk rfl ?_ | refine ac ?_ | refine ab ?_ | refine aa ?_ | refine aw ?_ | refine aE ?_)
 refine iq tk 11 rfl rfl fun hl _=>?_
 rw [zl] at hl
 refine kE (X := Nat) (fun j=>⟨32,upd (upd (upd (upd (upd (fun _=>.any) 5 (al (((e.args.map jp).take j).foldl nv (1,0)).2)) 4 (al (((e.args.map jp).take j).foldl nv (1,0)).1)) 11 (qL e.args)) 12 (al (e.args.map ez).length)) 13 (al j),fun _=>none,fun _=>none⟩)
  (fun j=>j ≤ e.args.length) (fun j=>e.args.length - j) 0 (Nat.zero_le _) (Gh.le (ax (ax (ax (ax (ax aW))))) aM aL) ?_
 intro j hj
 repeat (first | refine ah tk rfl ?_ | refine ac ?_ | refine ab ?_ | refine aa ?_)
 refine br rfl (fun h=>?_) (fun h=>?_)
 ·have hlt : j < e.args.length := by simpa using h
  repeat (first | refine ab ?_ | refine aa ?_ | refine ap ?_ | refine aw ?_)
  refine aU tk (zn j) (tz hlt) ?_
  repeat (first | refine ah tk rfl ?_ | refine ac ?_ | refine ab ?_ | refine aa ?_ | refine aD tk ?_ | (refine gg tk rfl rfl rfl rfl rfl rfl ?_; intro bk) | refine aq tk ?_)
  refine ak Tryz.call199 (jn.r) (ih _ (List.getElem_mem hlt)) ?_
  repeat (first | refine ah tk rfl ?_ | refine ac ?_ | refine aa ?_ | refine aG ?_)
  have e1 := foldl_take nv (1,0) (l := e.args.map jp) (j := j) (by simpa using hlt)
  rw [List.getElem_map] at e1
  refine kY (j + 1) (by omega) hlt (Gh.le (bJ (PLe.q (fO (by omega))) (ax (ax (bJ (PLe.q (by rw [e1]; rfl)) (bJ (PLe.q (by rw [e1]; rfl)) aW))))) aM aL)
 have hge : j = e.args.length := by have : ¬ j < e.args.length := by simpa using h
                                    omega
 subst hge
 rw [show (e.args.map jp).take e.args.length = e.args.map jp from by rw [List.take_of_length_le]; simp]
 repeat (first | refine ah tk rfl ?_ | refine ac ?_ | refine ab ?_ | refine aa ?_ | refine bq rfl ?_)
 refine vf tk rfl rfl rfl (PLe.q ?_)
 rw [sizeE_eq]
 rfl
theorem size_spec : ∀ e : LExpr,aK Tryz.prog 199 [ke e] (.tup [al (jp e).1,al (jp e).2])
 | .mk k n i x args=>sizeStep_spec (.mk k n i x args) fun a ha=>by
  have ha' : a ∈ args := ha
  exact size_spec a
def pA (c : UInt8) : Bool := (decide ((c.toNat : Int) ≥ 97) && decide ((c.toNat : Int) ≤ 122)) || (decide ((c.toNat : Int) ≥ 48) && decide ((c.toNat : Int) ≤ 57))
theorem inner_spec (c : UInt8) : aK Tryz.prog 193 [.val (.int .u8 c.toNat)] (aC (pA c)) := by
 refine PH.au Tryz.func193 Tryz.ntmps193 ?_
 repeat' (first | (show Ao _ _ _ _ _; first | refine ah tk rfl ?_ | refine ac ?_ | ((fail_if_success refine gv rfl ?_); refine gY rfl rfl rfl (fun h=>?_) (fun h=>?_))) | (show V _ _ _ _ _; first | refine ab ?_ | refine aa ?_))
 all_goals refine cY tk (PLe.q ?_)
 all_goals simp_all [pA]
 all_goals omega
theorem colIs_spec (c : LCol) (name : List UInt8) : aK Tryz.prog 270 [pcol c,.ptr [.str name]] (aC (c.name == name)) := by
 refine PH.au Tryz.func270 Tryz.ntmps270 ?_
 repeat' (first | (show Ao _ _ _ _ _; first | refine ah tk rfl ?_ | refine ac ?_ | refine aE ?_) | (show V _ _ _ _ _; first | refine ab ?_ | refine aa ?_))
 all_goals refine cY tk (PLe.q rfl)
def lk (l : List LCol) (name : List UInt8) : LCol × Bool :=
 let i := aX (fun c : LCol=>c.name == name) l
 if i < 0 then (⟨[],0,false⟩,false) else (l.getD i.toNat ⟨[],0,false⟩,true)
theorem getCol {l : List LCol} {j : Int} (h0 : 0 ≤ j) (h : j < l.length) : (l.map ay)[j.toNat]? = some (ay (l.getD j.toNat ⟨[],0,false⟩)) := by
 have : j.toNat < l.length := by omega
 simp [this]
theorem idxOf_lt {α : Type} {p : α → Bool} {l : List α} : aX p l < l.length := by
 simp only [aX]
 split
 ·rename_i i h
  have := (List.findIdx?_eq_some_iff_getElem.1 h).1
  omega
 ·omega
theorem find_spec (l : List LCol) (name : List UInt8) : aK Tryz.prog 245 [kw l,.str name] (.tup [pcol (lk l name).1,aC (lk l name).2]) := by
 refine PH.au Tryz.func245 Tryz.ntmps245 ?_
 repeat' (first | (show Ao _ _ _ _ _; first | refine ah tk rfl ?_ | refine ac ?_ | refine aE ?_ | (refine gg tk rfl rfl rfl rfl rfl rfl ?_; intro bk) | refine aq tk ?_ | refine ak Tryz.call163 (jn.r) (indexCol (p := fun c=>c.name == name) _ Tryz.call270 fun c _=>colIs_spec c name) ?_ | refine pL tk rfl rfl rfl rfl rfl rfl (Int.not_lt.1 (of_decide_eq_false (by assumption))) (getCol (Int.not_lt.1 (of_decide_eq_false (by assumption))) idxOf_lt) rfl ?_) | (show V _ _ _ _ _; first | refine ab ?_ | refine aa ?_ | refine ap ?_ | refine br rfl (fun h=>?_) (fun h=>?_)))
 all_goals refine V.retCT tk rfl rfl rfl rfl rfl rfl (PLe.q ?_)
 all_goals simp_all [lk]
 all_goals rw [zy (by omega)]
 all_goals exact ⟨⟨rfl,rfl,rfl⟩,rfl⟩
def dD (s : List UInt8) : Bool := decide (1 ≤ s.length) && decide (s.length ≤ 12) && (match s with | []=>false | c :: _=>decide (c.toNat ≥ 97) && decide (c.toNat ≤ 122)) && s.all pA
theorem idxStrAt {l : List UInt8} {j : Nat} (h : j < l.length) : l[((j : Nat) : Int).toNat]? = some l[j] := by simp [h]
theorem mU (s : List UInt8) : aK Tryz.prog 127 [.str s] (aC (dD s)) := by
 cases s with
 | nil =>
  refine PH.au Tryz.func127 Tryz.ntmps127 ?_
  repeat' (first | (show Ao _ _ _ _ _; first | refine ah tk rfl ?_ | refine ac ?_) | (show V _ _ _ _ _; first | refine ab ?_ | refine aa ?_ | refine bP rfl ?_))
  all_goals refine cY tk (PLe.q rfl)
 | cons c s =>
  refine PH.au Tryz.func127 Tryz.ntmps127 ?_
  refine V.strF 0 rfl fun hl=>?_
  repeat' (first | (show Ao _ _ _ _ _; first | refine ah tk rfl ?_ | refine ac ?_ | ((fail_if_success refine gv rfl ?_); refine gY rfl rfl rfl (fun h=>?_) (fun h=>?_))) | (show V _ _ _ _ _; first | refine ab ?_ | refine aa ?_ | refine ap ?_ | refine bP rfl ?_ | refine aw ?_ | refine br rfl (fun h=>?_) (fun h=>?_)))
  case cons.refine_1 =>
   refine cY tk (PLe.q ?_)
   have : ¬ (c :: s).length ≤ 12 := by simp only [decide_eq_true_eq] at h; omega
   have : dD (c :: s) = false := by simp only [dD,this]; simp
   rw [this]
  case cons.refine_2.refine_1 =>
   refine cY tk (PLe.q ?_)
   have : ¬ c.toNat ≥ 97 := by simp only [decide_eq_true_eq] at h; omega
   simp [dD,this]
  case cons.refine_2.refine_2.refine_1 =>
   refine cY tk (PLe.q ?_)
   have : ¬ c.toNat ≤ 122 := by simp only [decide_eq_true_eq] at h; omega
   simp [dD,this]
  rename_i h1 h2
  have hs : dD (c :: s) = (c :: s).all pA := by
   simp only [decide_eq_false_iff_not] at h1 h2 h
   have e1 : (c :: s).length ≤ 12 := by omega
   have e2 : c.toNat ≥ 97 := by omega
   have e3 : c.toNat ≤ 122 := by omega
   simp only [dD,e1,e2,e3]
   simp
  rw [hs]
  clear hs h h1 h2
  generalize hL : c :: s = L at *
  refine kE (X := Nat) (fun j=>⟨33,upd (upd (upd (fun _=>.any) 0 (.str L)) 23 (al L.length)) 24 (al j),fun _=>none,fun _=>none⟩)
   (fun j=>j ≤ L.length ∧ ∀ x ∈ L.take j,pA x = true) (fun j=>L.length - j) 0 ⟨Nat.zero_le _,by simp⟩ (Gh.le (ax (ax (ax aW))) aM aL) ?_
  rintro j ⟨hj,hpre⟩
  repeat (first | refine ah tk rfl ?_ | refine ac ?_ | refine ab ?_ | refine aa ?_)
  refine br rfl (fun h=>?_) (fun h=>?_)
  ·have hlt : j < L.length := by simpa using h
   repeat (first | refine ah tk rfl ?_ | refine ac ?_ | refine ab ?_ | refine aa ?_ | refine ap ?_ | refine aw ?_)
   refine uH tk rfl rfl rfl rfl rfl rfl (zn j) (idxStrAt hlt) rfl ?_
   skip
   refine ak Tryz.call193 (jn.r) (inner_spec _) ?_
   repeat (first | refine ah tk rfl ?_ | refine ac ?_)
   refine br rfl (fun h=>?_) (fun h=>?_)
   ·repeat (first | refine ah tk rfl ?_ | refine ac ?_ | refine ab ?_ | refine aa ?_)
    refine cY tk (PLe.q ?_)
    have : L.all pA = false := by
     rw [List.all_eq_false]
     exact ⟨L[j],List.getElem_mem hlt,by simpa using h⟩
    rw [this]
   ·repeat (first | refine ah tk rfl ?_ | refine ac ?_ | refine aa ?_ | refine ap ?_ | refine aG ?_)
    refine kY (j + 1) (by omega) ⟨hlt,?_⟩ (Gh.le (bJ (PLe.q (fO (by unfold maxLen; unfold iH at hl; omega))) (ax (ax aW))) aM aL)
    intro x hx
    rw [List.take_add_one,ze hlt] at hx
    simp only [Option.toList,List.mem_append,List.mem_singleton] at hx
    rcases hx with hx | rfl
    ·exact hpre x hx
    ·simpa using h
  have hge : j = L.length := by have : ¬ j < L.length := by simpa using h
                                omega
  repeat (first | refine ah tk rfl ?_ | refine ac ?_ | refine ab ?_ | refine aa ?_ | refine bq rfl ?_)
  refine cY tk (PLe.q ?_)
  have : L.all pA = true := by
   rw [List.all_eq_true]
   rw [hge] at hpre
   simpa using hpre
  rw [this]
abbrev KR := Int × Bool × Int
abbrev pkr (r : KR) : PV := .tup [al r.1,aC r.2.1,al r.2.2]
def ly (kind : Int) (nullable ok : Bool) : KR := if ok then (kind,nullable,0) else (0,false,7)
theorem gq (kind : Int) (nullable ok : Bool) : aK Tryz.prog 275 [al kind,aC nullable,aC ok] (pkr (ly kind nullable ok)) := by
 refine PH.au Tryz.func275 Tryz.ntmps275 ?_
 repeat' (first | (show Ao _ _ _ _ _; first | refine ah tk rfl ?_ | refine ac ?_) | (show V _ _ _ _ _; first | refine ab ?_ | refine aa ?_ | refine ap ?_ | refine br rfl (fun h=>?_) (fun h=>?_)))
 all_goals refine fK tk (PLe.q ?_)
 all_goals simp_all [ly]
def qU (a b : Int) : Bool := a == b || a == 0 || b == 0
theorem oU (a b : Int) : aK Tryz.prog 274 [al a,al b] (aC (qU a b)) := by
 refine PH.au Tryz.func274 Tryz.ntmps274 ?_
 repeat' (first | (show Ao _ _ _ _ _; first | refine ah tk rfl ?_ | refine ac ?_ | ((fail_if_success refine gv rfl ?_); refine gY rfl rfl rfl (fun h=>?_) (fun h=>?_))) | (show V _ _ _ _ _; first | refine ab ?_ | refine aa ?_))
 all_goals refine cY tk (PLe.q ?_)
 all_goals simp_all [qU]
theorem allOf1_spec (n want : Int) : aK Tryz.prog 273 [al n,.ptr [al want]] (aC (n != want && n != 0)) := by
 refine PH.au Tryz.func273 Tryz.ntmps273 ?_
 repeat' (first | (show Ao _ _ _ _ _; first | refine ah tk rfl ?_ | refine ac ?_ | ((fail_if_success refine gv rfl ?_); refine gY rfl rfl rfl (fun h=>?_) (fun h=>?_))) | (show V _ _ _ _ _; first | refine ab ?_ | refine aa ?_))
 all_goals refine cY tk (PLe.q ?_)
 all_goals simp_all
def oH (want : Int) (l : List Int) : Bool := !(l.any fun n=>n != want && n != 0)
theorem kg (want : Int) (l : List Int) : aK Tryz.prog 271 [al want,.ptr [pints l]] (aC (oH want l)) := by
 refine PH.au Tryz.func271 Tryz.ntmps271 ?_
 repeat' (first | (show Ao _ _ _ _ _; first | refine ah tk rfl ?_ | refine ac ?_ | refine aE ?_ | refine ak Tryz.call272 (jn.r) (containsInt (p := fun n=>n != want && n != 0) l Tryz.call273 fun n _=>allOf1_spec n want) ?_) | (show V _ _ _ _ _; first | refine ab ?_ | refine aa ?_))
 all_goals refine cY tk (PLe.q rfl)
def fV (x : Int) : KR := (0,false,x)
def eA (name : List UInt8) (kinds : List Int) (nullable : Bool) : KR :=
 if name == [43] || name == [45] || name == [42] then ly 1 true (oH 1 kinds)
 else if name == [124,124] then ly 3 true (oH 3 kinds)
 else if name == [108,101,110,103,116,104] then ly 1 nullable (oH 3 kinds)
 else if name == [97,110,100] || name == [111,114] || name == [110,111,116] then ly 2 nullable (oH 2 kinds)
 else if name == [105,115,32,110,117,108,108] then (2,false,0)
 else if name == [105,102] then ly (if kinds.getD 2 0 > kinds.getD 1 0 then kinds.getD 2 0 else kinds.getD 1 0) nullable (qU (kinds.getD 0 0) 2 && qU (kinds.getD 1 0) (kinds.getD 2 0))
 else ly 2 nullable (qU (kinds.getD 0 0) (kinds.getD 1 0))
def jy (name : List UInt8) (i : Int) (x : LVal) (ks : List KR) : KR :=
 if bU name ≠ some ks.length ∨ i ≠ 0 ∨ x ≠ .nul then fV 3
 else match ks.find? fun r=>r.2.2 != 0 with
  | some r=>fV r.2.2
  | none=>eA name (ks.map (·.1)) (ks.any (·.2.1))
mutual
def db (cols vars : List LCol) : LExpr → KR
 | .mk k n i x args =>
  if k ≠ 5 ∧ 0 < args.length then fV 3
  else if k == 1 then (if eU x && n == [] && i == 0 then (x.kind,x.kind == 0,0) else fV 3)
  else if k == 3 then (if i < 0 ∨ i ≥ 8 ∨ n ≠ [] ∨ x.kind < 1 ∨ x.kind > 3 ∨ x ≠ ⟨x.kind,0,[]⟩ then fV 3 else (x.kind,true,0))
  else if k == 2 || k == 4 then
   (if dD n && i == 0 && decide (x = .nul) then
    (let r := lk (if k == 4 then vars else cols) n
     if r.2 then (r.1.kind,r.1.nullable,0) else fV 23)
    else fV 3)
  else if k == 5 then jy n i x (kindsE cols vars args)
  else fV 3
def kindsE (cols vars : List LCol) : List LExpr → List KR
 | []=>[]
 | e :: r=>db cols vars e :: kindsE cols vars r
end
theorem rB (cols vars : List LCol) : ∀ l,kindsE cols vars l = l.map (db cols vars)
 | []=>rfl
 | e :: r=>by simp [kindsE,rB cols vars r]
theorem arity_of_idx (name : List UInt8) : (aX (fun x=>name == x) dy < 0 ∧ bU name = none) ∨
  ∃ a : Nat,0 ≤ aX (fun x=>name == x) dy ∧ (opArity.map fun n=>[al n])[(aX (fun x=>name == x) dy).toNat]? = some [al a] ∧ bU name = some a := by
 by_cases hn : name ∈ dy
 ·refine .inr ?_
  simp only [dy,List.mem_cons,List.mem_nil_iff,or_false] at hn
  rcases hn with rfl | rfl | rfl | rfl | rfl | rfl | rfl | rfl | rfl | rfl | rfl | rfl | rfl <;> exact ⟨_,by decide,rfl,rfl⟩
 ·refine .inl ⟨?_,?_⟩
  ·rw [jY fun x hx=>by
    cases hb : name == x with
    | false=>rfl
    | true=>exact absurd (by rw [eq_of_beq hb]; exact hx) hn]
   decide
  ·simp only [dy,List.mem_cons,List.mem_nil_iff,or_false,not_or] at hn
   simp [bU,hn]
theorem find_at {α : Type} {p : α → Bool} {l : List α} {j : Nat} (hlt : j < l.length) (hpre : ∀ x ∈ l.take j,p x = false) (h : p l[j] = true) : l.find? p = some l[j] := by
 rw [List.find?_eq_some_iff_getElem]
 refine ⟨h,j,hlt,rfl,fun i hi=>?_⟩
 have := hpre l[i] (List.mem_take_iff_getElem.2 ⟨i,by omega,rfl⟩)
 simp [this]
theorem kindRows {cols vars : List LCol} {args : List LExpr} {j : Nat} (h : j < args.length) : ((args.take j).map (db cols vars)).map (fun r=>[al r.1]) ++ [[al (db cols vars args[j]).1]] = ((args.take (j + 1)).map (db cols vars)).map fun r=>[al r.1] := by
 rw [List.take_add_one,ze h]
 simp only [List.map_append,Option.toList,List.map_cons,List.map_nil]
theorem kindAny {cols vars : List LCol} {args : List LExpr} {j : Nat} (h : j < args.length) : ((args.take (j + 1)).map (db cols vars)).any (·.2.1) = (((args.take j).map (db cols vars)).any (·.2.1) || (db cols vars args[j]).2.1) := by
 rw [List.take_add_one,ze h]
 simp only [List.map_append,List.any_append,Option.toList,List.map_cons,List.map_nil,List.any_cons,List.any_nil,Bool.or_false]
theorem opKind_spec (cols vars : List LCol) (e : LExpr) (ih : ∀ a ∈ e.args,aK Tryz.prog 200 [kw cols,kw vars,ke a] (pkr (db cols vars a))) :
  aK Tryz.prog 246 [kw cols,kw vars,ke e] (pkr (jy e.name e.index e.value (e.args.map (db cols vars)))) := by
 rcases arity_of_idx e.name with ⟨hK,ha⟩ | ⟨ar,hK,hr,ha⟩
 ·refine PH.au Tryz.func246 Tryz.ntmps246 ?_
  repeat' (first | (show Ao _ _ _ _ _; first | refine ah tk rfl ?_ | refine ac ?_ | refine aE ?_ | refine ak Tryz.call259 (jn.r) (iu) ?_ | refine ak Tryz.call77 (jn.r) (cM _ _) ?_) | (show V _ _ _ _ _; first | refine ab ?_ | refine aa ?_ | refine bP rfl ?_ | (show V _ _ _ (.code (.region 3 _ true) :: _) _; refine bm tk mok ⟨false,false,[]⟩ [0,1,2,3,4,5,6,7,8,9,10,11,12,13,14,15,16,17,18,19,20,21,22] rfl (by decide +kernel) rfl ?_)) | (show Do _ _ _ _ _ _ _; first | refine bV rfl ?_ | refine be ?_ | ((fail_if_success refine mP rfl rfl ?_); refine nE rfl rfl rfl rfl (fun h=>?_) (fun h=>?_))))
  all_goals try (exfalso; simp_all <;> omega; done)
  all_goals refine fK tk (PLe.q ?_)
  all_goals (have : jy e.name e.index e.value (e.args.map (db cols vars)) = fV 3 := by simp [jy,ha])
  all_goals (rw [this]; rfl)
 ·refine PH.au Tryz.func246 Tryz.ntmps246 ?_
  repeat' (first | (show Ao _ _ _ _ _; first | refine ah tk rfl ?_ | refine ac ?_ | refine aE ?_ | (refine gg tk rfl rfl rfl rfl rfl rfl ?_; intro bk) | refine ak Tryz.call259 (jn.r) (iu) ?_ | refine ak Tryz.call77 (jn.r) (cM _ _) ?_) | (show V _ _ _ _ _; first | refine ab ?_ | refine aa ?_ | refine ap ?_ | refine bP rfl ?_ | refine aw ?_ | (show V _ _ _ (.code (.region 3 _ true) :: _) _; refine bm tk mok ⟨false,false,[]⟩ [0,1,2,3,4,5,6,7,8,9,10,11,12,13,14,15,16,17,18,19,20,21,22] rfl (by decide +kernel) rfl ?_) | refine br rfl (fun h=>?_) (fun h=>?_)) | (show Do _ _ _ _ _ _ _; first | refine bV rfl ?_ | refine be ?_ | refine bE hK hr ?_ | ((fail_if_success refine mP rfl rfl ?_); refine nE rfl rfl rfl rfl (fun h=>?_) (fun h=>?_))))
  all_goals try (exfalso; simp_all <;> omega; done)
  case inr.refine_2.refine_1 =>
   refine fK tk (PLe.q ?_)
   rw [jy,zp (.inl (by rw [ha]; simp at h ⊢; omega))]
   rfl
  case inr.refine_2.refine_2.refine_1 =>
   refine fK tk (PLe.q ?_)
   rw [jy,zp (.inr (.inl (by simpa using h)))]
   rfl
  case inr.refine_2.refine_2.refine_2.refine_1 =>
   refine fK tk (PLe.q ?_)
   rw [jy,zp (.inr (.inr (by intro hh; rw [hh] at h; simp [LVal.nul] at h)))]
   rfl
  rename_i h0 h1 h2
  have hlen : e.args.length = ar := by
   simp at h1
   omega
  have hgood : ¬ (bU e.name ≠ some (e.args.map (db cols vars)).length ∨ e.index ≠ 0 ∨ e.value ≠ .nul) := by
   rw [ha]
   rintro (h3 | h3 | h3)
   ·simp [hlen] at h3
   ·exact h3 (by simpa using h2)
   ·apply h3
    cases hv : e.value
    rw [hv] at h
    simp at h
    simp [LVal.nul,h]
  rw [jy,zy hgood]
  refine iq tk 53 rfl rfl fun hl hby=>?_
  rw [zl] at hl hby
  have hby' : e.args.length * 88 ≤ 2 ^ 47 := hby
  refine tB tk 12 0 12 (e := 3) rfl rfl rfl rfl ?_
  refine kE (X := Nat × OwnRef) (fun X=>⟨164,upd (upd (upd (upd (upd (upd (upd (upd (fun _=>.any) 13 (aC (((e.args.take X.1).map (db cols vars)).any (·.2.1)))) 12 (.box 12 bk 0)) 5 (.ptr (jB e))) 1 (kw vars)) 0 (kw cols)) 53 (qL e.args)) 54 (al (e.args.map ez).length)) 55 (al X.1),upd (fun _=>none) 12 (some ⟨bk,[.own 12 X.2 (((e.args.take X.1).map (db cols vars)).map fun r=>[al r.1]).length]⟩),upd (fun _=>none) 12 (some ⟨X.2,3,((e.args.take X.1).map (db cols vars)).map fun r=>[al r.1],true⟩)⟩)
   (fun X=>X.1 ≤ e.args.length ∧ ∀ x ∈ (e.args.map (db cols vars)).take X.1,(x.2.2 != 0) = false) (fun X=>e.args.length - X.1) (0,⟨none,0⟩) ⟨Nat.zero_le _,by simp⟩ (Gh.le (ax (ax (ax (ax (ax (ax (ax (ax aW)))))))) (bi rfl (jn.r) aM) (aZ aL)) ?_
  rintro ⟨j,g⟩ ⟨hj,hpre⟩
  replace hj : j ≤ e.args.length := hj
  replace hpre : ∀ x ∈ (e.args.map (db cols vars)).take j,(x.2.2 != 0) = false := hpre
  repeat (first | refine ah tk rfl ?_ | refine ac ?_ | refine ab ?_ | refine aa ?_)
  refine br rfl (fun h=>?_) (fun h=>?_)
  ·have hlt : j < e.args.length := by simpa using h
   have hlt' : j < (e.args.map (db cols vars)).length := by simpa using hlt
   repeat (first | refine ab ?_ | refine aa ?_ | refine ap ?_ | refine aw ?_)
   refine aU tk (zn j) (tz hlt) ?_
   repeat (first | refine ah tk rfl ?_ | refine ac ?_ | refine ab ?_ | refine aa ?_ | refine aD tk ?_ | (refine gg tk rfl rfl rfl rfl rfl rfl ?_; intro bk) | refine aq tk ?_)
   refine ak Tryz.call200 (jn.r) (ih _ (List.getElem_mem hlt)) ?_
   repeat (first | refine ah tk rfl ?_ | refine ac ?_ | refine ab ?_ | refine aa ?_)
   refine br rfl (fun h=>?_) (fun h=>?_)
   ·repeat (first | refine ah tk rfl ?_ | refine ac ?_ | refine ab ?_ | refine aa ?_)
    refine fK tk (PLe.q ?_)
    rw [find_at hlt' hpre (by simpa using h),List.getElem_map]
    rfl
   ·repeat (first | refine ah tk rfl ?_ | refine aa ?_ | refine ap ?_ | refine aD tk ?_ | refine sx tk rfl rfl rfl rfl rfl rfl ?_)
    refine uD (rows2 := [[al (db cols vars e.args[j]).1]]) tk rfl rfl rfl rfl rfl rfl rfl rfl rfl rfl rfl rfl rfl ?_ ?_ fun g'=>?_
    ·simp only [zl,List.length_take,List.length_cons,List.length_nil]
     rw [Nat.min_eq_left hj]
     show (j + 1) * 8 ≤ 2 ^ 47
     omega
    ·simp only [zl,List.length_take,List.length_cons,List.length_nil]
     omega
    repeat (refine ah tk rfl ?_)
    have hpre' : ∀ x ∈ (e.args.map (db cols vars)).take (j + 1),(x.2.2 != 0) = false := pH (p := fun x : KR=>x.2.2 != 0) hlt' hpre (by rw [List.getElem_map]; exact h)
    have hany := kindAny (cols := cols) (vars := vars) hlt
    refine gY rfl rfl rfl (fun hn=>?_) (fun hn=>?_)
    ·repeat (first | refine ah tk rfl ?_ | refine ac ?_ | refine aa ?_ | refine aG ?_ | refine aq tk ?_)
     rw [kindRows hlt]
     refine kY (j + 1,g') ?_ ⟨hlt,hpre'⟩ (Gh.le (bJ (PLe.q (fO (by omega))) (ax (ax (ax (ax (ax (ax (bJ (PLe.q (by rw [hany,hn]; rfl)) aW)))))))) (bi rfl (jn.r) aM) (aZ aL))
     show e.args.length - (j + 1) < e.args.length - j
     omega
    ·repeat (first | refine ah tk rfl ?_ | refine ac ?_ | refine aa ?_ | refine aG ?_ | refine aq tk ?_)
     rw [kindRows hlt]
     refine kY (j + 1,g') ?_ ⟨hlt,hpre'⟩ (Gh.le (bJ (PLe.q (fO (by omega))) (ax (ax (ax (ax (ax (ax (bJ (PLe.q (by rw [hany,hn]; rfl)) aW)))))))) (bi rfl (jn.r) aM) (aZ aL))
     show e.args.length - (j + 1) < e.args.length - j
     omega
  have hge : j = e.args.length := by have : ¬ j < e.args.length := by simpa using h
                                     omega
  subst hge
  refine rd 12 0 rfl rfl rfl rfl rfl (uM 12 rfl rfl rfl rfl ?_)
  have hks : (e.args.map (db cols vars)).find? (fun r=>r.2.2 != 0) = none := by
   rw [List.find?_eq_none]
   intro x hx
   have := hpre x (by rw [List.take_of_length_le (by simp)]; exact hx)
   simp [this]
  rw [hks]
  simp only [List.take_length]
  have hlk : (e.args.map (db cols vars)).length = ar := by simp [hlen]
  generalize e.args.map (db cols vars) = KS at hlk
  refine fI (st' := ⟨164,upd (upd (upd (fun _=>.any) 13 (aC (KS.any (·.2.1)))) 12 (.ptr [pints (KS.map (·.1))])) 5 (.ptr [al e.kind,.str e.name,al e.index,al e.value.kind,al e.value.int,.str e.value.text,qL e.args]),fun _=>none,fun _=>none⟩) (Gh.le (ax (bJ (PLe.q (show PV.ptr [.list 3 (KS.map fun r=>[al r.1])] = _ from by simp)) (ax aW))) aM aL) ?_
  replace hlk : (KS.map (·.1)).length = ar := by simpa using hlk
  generalize KS.map (·.1) = kinds at hlk
  generalize KS.any (·.2.1) = nl
  generalize e.name = name at ha
  clear hpre hks hgood h0 h1 h2 h hr hK ih hlen
  by_cases hn : name ∈ dy
  ·simp only [dy,List.mem_cons,List.mem_nil_iff,or_false] at hn
   rcases hn with rfl | rfl | rfl | rfl | rfl | rfl | rfl | rfl | rfl | rfl | rfl | rfl | rfl
   ·have har : ar = 2 := by have : some 2 = some ar := ha; exact (Option.some.inj this).symm
    subst har
    obtain ⟨a,b,rfl⟩ := iX hlk
    repeat' (first | (show Ao _ _ _ _ _; first | refine ah tk rfl ?_ | refine ac ?_ | refine ak Tryz.call271 (jn.r) (kg _ _) ?_ | refine ak Tryz.call275 (jn.r) (gq _ _ _) ?_) | (show V _ _ _ _ _; first | refine ab ?_ | refine aa ?_ | refine ap ?_ | refine bP rfl ?_ | refine aw ?_ | refine bq rfl ?_))
    all_goals refine fK tk (PLe.q ?_)
    all_goals simp_all [eA]
   ·have har : ar = 2 := by have : some 2 = some ar := ha; exact (Option.some.inj this).symm
    subst har
    obtain ⟨a,b,rfl⟩ := iX hlk
    repeat' (first | (show Ao _ _ _ _ _; first | refine ah tk rfl ?_ | refine ac ?_ | refine ak Tryz.call271 (jn.r) (kg _ _) ?_ | refine ak Tryz.call275 (jn.r) (gq _ _ _) ?_) | (show V _ _ _ _ _; first | refine ab ?_ | refine aa ?_ | refine ap ?_ | refine bP rfl ?_ | refine bC rfl ?_ | refine aw ?_ | refine bq rfl ?_))
    all_goals refine fK tk (PLe.q ?_)
    all_goals simp_all [eA]
   ·have har : ar = 2 := by have : some 2 = some ar := ha; exact (Option.some.inj this).symm
    subst har
    obtain ⟨a,b,rfl⟩ := iX hlk
    repeat' (first | (show Ao _ _ _ _ _; first | refine ah tk rfl ?_ | refine ac ?_ | refine ak Tryz.call271 (jn.r) (kg _ _) ?_ | refine ak Tryz.call275 (jn.r) (gq _ _ _) ?_) | (show V _ _ _ _ _; first | refine ab ?_ | refine aa ?_ | refine bP rfl ?_ | refine bC rfl ?_ | refine aw ?_ | refine bq rfl ?_))
    all_goals refine fK tk (PLe.q ?_)
    all_goals simp_all [eA]
   ·have har : ar = 2 := by have : some 2 = some ar := ha; exact (Option.some.inj this).symm
    subst har
    obtain ⟨a,b,rfl⟩ := iX hlk
    repeat' (first | (show Ao _ _ _ _ _; first | refine ah tk rfl ?_ | refine ac ?_) | (show V _ _ _ _ _; first | refine ab ?_ | refine aa ?_ | refine ap ?_ | refine bC rfl ?_ | refine aw ?_ | refine aG ?_ | refine bq rfl ?_ | (show V _ _ _ (.code (.region 34 _ true) :: _) _; refine bm tk mok ⟨false,false,[]⟩ [0,1,2,3,4,5,6,7,8,9,10,11,12,13,14,15] rfl (by decide +kernel) rfl ?_)) | (show Do _ _ _ _ _ _ _; first | refine bV rfl ?_ | refine be ?_ | refine aV Tryz.call274 (jn.r) (oU _ _) ?_ | refine aV Tryz.call275 (jn.r) (gq _ _ _) ?_))
    all_goals refine fK tk (PLe.q ?_)
    all_goals simp_all [eA]
   ·have har : ar = 2 := by have : some 2 = some ar := ha; exact (Option.some.inj this).symm
    subst har
    obtain ⟨a,b,rfl⟩ := iX hlk
    repeat' (first | (show Ao _ _ _ _ _; first | refine ah tk rfl ?_ | refine ac ?_) | (show V _ _ _ _ _; first | refine ab ?_ | refine aa ?_ | refine ap ?_ | refine bC rfl ?_ | refine aw ?_ | refine aG ?_ | refine bq rfl ?_ | (show V _ _ _ (.code (.region 34 _ true) :: _) _; refine bm tk mok ⟨false,false,[]⟩ [0,1,2,3,4,5,6,7,8,9,10,11,12,13,14,15] rfl (by decide +kernel) rfl ?_)) | (show Do _ _ _ _ _ _ _; first | refine bV rfl ?_ | refine be ?_ | refine aV Tryz.call274 (jn.r) (oU _ _) ?_ | refine aV Tryz.call275 (jn.r) (gq _ _ _) ?_))
    all_goals refine fK tk (PLe.q ?_)
    all_goals simp_all [eA]
   ·have har : ar = 2 := by have : some 2 = some ar := ha; exact (Option.some.inj this).symm
    subst har
    obtain ⟨a,b,rfl⟩ := iX hlk
    repeat' (first | (show Ao _ _ _ _ _; first | refine ah tk rfl ?_ | refine ac ?_) | (show V _ _ _ _ _; first | refine ab ?_ | refine aa ?_ | refine ap ?_ | refine bC rfl ?_ | refine aw ?_ | refine aG ?_ | refine bq rfl ?_ | (show V _ _ _ (.code (.region 34 _ true) :: _) _; refine bm tk mok ⟨false,false,[]⟩ [0,1,2,3,4,5,6,7,8,9,10,11,12,13,14,15] rfl (by decide +kernel) rfl ?_)) | (show Do _ _ _ _ _ _ _; first | refine bV rfl ?_ | refine be ?_ | refine aV Tryz.call274 (jn.r) (oU _ _) ?_ | refine aV Tryz.call275 (jn.r) (gq _ _ _) ?_))
    all_goals refine fK tk (PLe.q ?_)
    all_goals simp_all [eA]
   ·have har : ar = 2 := by have : some 2 = some ar := ha; exact (Option.some.inj this).symm
    subst har
    obtain ⟨a,b,rfl⟩ := iX hlk
    repeat' (first | (show Ao _ _ _ _ _; first | refine ah tk rfl ?_ | refine ac ?_ | refine ak Tryz.call271 (jn.r) (kg _ _) ?_ | refine ak Tryz.call275 (jn.r) (gq _ _ _) ?_) | (show V _ _ _ _ _; first | refine ab ?_ | refine aa ?_ | refine ap ?_ | refine bP rfl ?_ | refine bC rfl ?_ | refine aw ?_ | refine bq rfl ?_))
    all_goals refine fK tk (PLe.q ?_)
    all_goals simp_all [eA]
   ·have har : ar = 2 := by have : some 2 = some ar := ha; exact (Option.some.inj this).symm
    subst har
    obtain ⟨a,b,rfl⟩ := iX hlk
    repeat' (first | (show Ao _ _ _ _ _; first | refine ah tk rfl ?_ | refine ac ?_ | refine ak Tryz.call271 (jn.r) (kg _ _) ?_ | refine ak Tryz.call275 (jn.r) (gq _ _ _) ?_) | (show V _ _ _ _ _; first | refine ab ?_ | refine aa ?_ | refine ap ?_ | refine bP rfl ?_ | refine bC rfl ?_ | refine aw ?_ | refine bq rfl ?_))
    all_goals refine fK tk (PLe.q ?_)
    all_goals simp_all [eA]
   ·have har : ar = 1 := by have : some 1 = some ar := ha; exact (Option.some.inj this).symm
    subst har
    obtain ⟨a,rfl⟩ := List.length_eq_one_iff.1 hlk
    repeat' (first | (show Ao _ _ _ _ _; first | refine ah tk rfl ?_ | refine ac ?_ | refine ak Tryz.call271 (jn.r) (kg _ _) ?_ | refine ak Tryz.call275 (jn.r) (gq _ _ _) ?_) | (show V _ _ _ _ _; first | refine ab ?_ | refine aa ?_ | refine bP rfl ?_ | refine bC rfl ?_ | refine aw ?_ | refine bq rfl ?_))
    all_goals refine fK tk (PLe.q ?_)
    all_goals simp_all [eA]
   ·have har : ar = 2 := by have : some 2 = some ar := ha; exact (Option.some.inj this).symm
    subst har
    obtain ⟨a,b,rfl⟩ := iX hlk
    repeat' (first | (show Ao _ _ _ _ _; first | refine ah tk rfl ?_ | refine ac ?_ | refine ak Tryz.call271 (jn.r) (kg _ _) ?_ | refine ak Tryz.call275 (jn.r) (gq _ _ _) ?_) | (show V _ _ _ _ _; first | refine ab ?_ | refine aa ?_ | refine bP rfl ?_ | refine bC rfl ?_ | refine aw ?_ | refine bq rfl ?_))
    all_goals refine fK tk (PLe.q ?_)
    all_goals simp_all [eA]
   ·have har : ar = 1 := by have : some 1 = some ar := ha; exact (Option.some.inj this).symm
    subst har
    obtain ⟨a,rfl⟩ := List.length_eq_one_iff.1 hlk
    repeat' (first | (show Ao _ _ _ _ _; first | refine ah tk rfl ?_ | refine ac ?_) | (show V _ _ _ _ _; first | refine ab ?_ | refine aa ?_ | refine bP rfl ?_ | refine bC rfl ?_ | refine aw ?_ | refine bq rfl ?_))
    all_goals refine fK tk (PLe.q ?_)
    all_goals simp_all [eA]
   ·have har : ar = 1 := by have : some 1 = some ar := ha; exact (Option.some.inj this).symm
    subst har
    obtain ⟨a,rfl⟩ := List.length_eq_one_iff.1 hlk
    repeat' (first | (show Ao _ _ _ _ _; first | refine ah tk rfl ?_ | refine ac ?_ | refine ak Tryz.call271 (jn.r) (kg _ _) ?_ | refine ak Tryz.call275 (jn.r) (gq _ _ _) ?_) | (show V _ _ _ _ _; first | refine ab ?_ | refine aa ?_ | refine bP rfl ?_ | refine bC rfl ?_ | refine aw ?_ | refine bq rfl ?_))
    all_goals refine fK tk (PLe.q ?_)
    all_goals simp_all [eA]
   ·have har : ar = 3 := by have : some 3 = some ar := ha; exact (Option.some.inj this).symm
    subst har
    obtain ⟨a,b,c,rfl⟩ := len3 hlk
    repeat' (first | (show Ao _ _ _ _ _; first | refine ah tk rfl ?_ | refine ac ?_) | (show V _ _ _ _ _; first | refine ab ?_ | refine aa ?_ | refine bP rfl ?_ | refine bC rfl ?_ | refine aw ?_ | refine bq rfl ?_ | (show V _ _ _ (.code (.region 33 _ true) :: _) _; refine bm tk mok ⟨false,false,[]⟩ [0,1,2,3,4,5,6,7,8,9,10,11,12,13,14,15,16,17,18,19,20,21,22,23,24,25,26,27,28,29] rfl (by decide +kernel) rfl ?_)) | (show Do _ _ _ _ _ _ _; first | refine bV rfl ?_ | refine be ?_ | refine aV Tryz.call274 (jn.r) (oU _ _) ?_ | refine aV Tryz.call275 (jn.r) (gq _ _ _) ?_ | ((fail_if_success refine mP rfl rfl ?_); refine nE rfl rfl rfl rfl (fun h=>?_) (fun h=>?_))))
    all_goals refine fK tk (PLe.q ?_)
    all_goals simp_all [eA]
  ·simp only [dy,List.mem_cons,List.mem_nil_iff,or_false,not_or] at hn
   simp [bU,hn] at ha
theorem rI (cols vars : List LCol) (e : LExpr) : db cols vars e =
  if e.kind ≠ 5 ∧ 0 < e.args.length then fV 3
  else if e.kind == 1 then (if eU e.value && e.name == [] && e.index == 0 then (e.value.kind,e.value.kind == 0,0) else fV 3)
  else if e.kind == 3 then (if e.index < 0 ∨ e.index ≥ 8 ∨ e.name ≠ [] ∨ e.value.kind < 1 ∨ e.value.kind > 3 ∨ e.value ≠ ⟨e.value.kind,0,[]⟩ then fV 3 else (e.value.kind,true,0))
  else if e.kind == 2 || e.kind == 4 then
   (if dD e.name && e.index == 0 && decide (e.value = .nul) then
    (if (lk (if e.kind == 4 then vars else cols) e.name).2 then ((lk (if e.kind == 4 then vars else cols) e.name).1.kind,(lk (if e.kind == 4 then vars else cols) e.name).1.nullable,0) else fV 23)
    else fV 3)
  else if e.kind == 5 then jy e.name e.index e.value (e.args.map (db cols vars))
  else fV 3 := by
 cases e
 rw [db,rB]
 rfl
theorem valNul_iff (x : LVal) : x = .nul ↔ x.kind = 0 ∧ x.int = 0 ∧ x.text = [] := by
 cases x
 simp [LVal.nul]
theorem valK_iff (x : LVal) : x = ⟨x.kind,0,[]⟩ ↔ x.int = 0 ∧ x.text = [] := by
 cases x
 simp
theorem kindStep (cols vars : List LCol) (e : LExpr) (ih : ∀ a ∈ e.args,aK Tryz.prog 200 [kw cols,kw vars,ke a] (pkr (db cols vars a))) :
  aK Tryz.prog 200 [kw cols,kw vars,ke e] (pkr (db cols vars e)) := by
 refine PH.au Tryz.func200 Tryz.ntmps200 ?_
 repeat' (first | (show Ao _ _ _ _ _; first | refine ah tk rfl ?_ | refine ac ?_ | refine aE ?_ | (refine gg tk rfl rfl rfl rfl rfl rfl ?_; intro bk) | refine aq tk ?_ | refine ak Tryz.call50 (jn.r) (qt _) ?_ | refine ak Tryz.call127 (jn.r) (mU _) ?_ | refine ak Tryz.call245 (jn.r) (find_spec _ _) ?_ | refine ak Tryz.call246 (jn.r) (opKind_spec cols vars e ih) ?_ | ((fail_if_success refine gv rfl ?_); refine gY rfl rfl rfl (fun h=>?_) (fun h=>?_))) | (show V _ _ _ _ _; first | refine ab ?_ | refine aa ?_ | refine ap ?_ | refine bP rfl ?_ | refine bC rfl ?_ | refine aw ?_ | refine aG ?_ | (show V _ _ _ (.code (.region 7 _ true) :: _) _; refine bm tk mok ⟨true,false,[]⟩ [0,1,2,3,4,5,6,7,8,9] rfl (by decide +kernel) rfl ?_) | (show V _ _ _ (.code (.region 22 _ true) :: _) _; refine bm tk mok ⟨true,false,[]⟩ [0,1,2,3,4,5,6] rfl (by decide +kernel) rfl ?_) | refine br rfl (fun h=>?_) (fun h=>?_)) | (show Do _ _ _ _ _ _ _; first | refine bV rfl ?_ | refine be ?_ | refine bO ?_))
 all_goals refine fK tk (PLe.q ?_)
 all_goals rw [rI]
 all_goals (simp only [zl,Bool.not_eq_true',decide_eq_true_eq,decide_eq_false_iff_not,bne_iff_ne,beq_iff_eq,ne_eq,beq_eq_false_iff_ne,bne_eq_false_iff_eq] at *)
 all_goals try simp_all [fV,valNul_iff,valK_iff]
 all_goals (rw [zy (by first | omega | (rintro ⟨q1,q2,q3⟩; exact h q1 q2 q3))]; exact ⟨rfl,rfl,rfl⟩)
theorem kind_spec (cols vars : List LCol) : ∀ e : LExpr,aK Tryz.prog 200 [kw cols,kw vars,ke e] (pkr (db cols vars e))
 | .mk k n i x args=>kindStep cols vars (.mk k n i x args) fun a ha=>by
  have ha' : a ∈ args := ha
  exact kind_spec cols vars a
def cK (cols vars : List LCol) (e : LExpr) : KR := if (jp e).1 > 60 ∨ (jp e).2 > 12 then fV 2 else db cols vars e
theorem nQ (cols vars : List LCol) (e : LExpr) : aK Tryz.prog 132 [kw cols,kw vars,ke e] (pkr (cK cols vars e)) := by
 refine PH.au Tryz.func132 Tryz.ntmps132 ?_
 repeat' (first | (show Ao _ _ _ _ _; first | refine ah tk rfl ?_ | refine ac ?_ | refine aE ?_ | refine ak Tryz.call199 (jn.r) (size_spec _) ?_ | refine ak Tryz.call200 (jn.r) (kind_spec _ _ _) ?_ | ((fail_if_success refine gv rfl ?_); refine gY rfl rfl rfl (fun h=>?_) (fun h=>?_))) | (show V _ _ _ _ _; first | refine ab ?_ | refine aa ?_ | refine ap ?_ | refine bP rfl ?_ | refine br rfl (fun h=>?_) (fun h=>?_)))
 all_goals refine fK tk (PLe.q ?_)
 all_goals simp_all [cK,fV]
 rw [zy (by omega)]
 exact ⟨rfl,rfl,rfl⟩
mutual
def jD : LExpr → Int → Int
 | .mk _ _ _ _ args,m=>mN args m
def mN : List LExpr → Int → Int
 | [],m=>m
 | a :: r,m=>if wr (m - 1) < 0 then -1 else if jD a (wr (m - 1)) < 0 then -1 else mN r (jD a (wr (m - 1)))
end
theorem nodesE_eq (e : LExpr) (m : Int) : jD e m = mN e.args m := by
 cases e
 rw [jD]
 rfl
theorem nodesStep (e : LExpr) (most : Int) (ih : ∀ a ∈ e.args,∀ m,aK Tryz.prog 62 [ke a,al m] (al (jD a m))) :
  aK Tryz.prog 62 [ke e,al most] (al (jD e most)) := by
 rw [nodesE_eq]
 refine PH.au Tryz.func62 Tryz.ntmps62 ?_
 repeat (first | refine ah tk rfl ?_ | refine ac ?_ | refine ab ?_ | refine aa ?_ | refine aw ?_ | refine aE ?_)
 refine iq tk 8 rfl rfl fun hl _=>?_
 rw [zl] at hl
 refine kE (X := Nat × Int) (fun X=>⟨25,upd (upd (upd (upd (fun _=>.any) 1 (al X.2)) 8 (qL e.args)) 9 (al (e.args.map ez).length)) 10 (al X.1),fun _=>none,fun _=>none⟩)
  (fun X=>X.1 ≤ e.args.length ∧ mN (e.args.drop X.1) X.2 = mN e.args most) (fun X=>e.args.length - X.1) (0,most) ⟨Nat.zero_le _,rfl⟩ (Gh.le (ax (ax (ax (ax aW)))) aM aL) ?_
 rintro ⟨j,m⟩ ⟨hj,hm⟩
 replace hj : j ≤ e.args.length := hj
 replace hm : mN (e.args.drop j) m = mN e.args most := hm
 rw [← hm]
 repeat (first | refine ah tk rfl ?_ | refine ac ?_ | refine ab ?_ | refine aa ?_)
 refine br rfl (fun h=>?_) (fun h=>?_)
 ·have hlt : j < e.args.length := by simpa using h
  have hd : e.args.drop j = e.args[j] :: e.args.drop (j + 1) := List.drop_eq_getElem_cons hlt
  rw [hd,mN]
  repeat (first | refine ab ?_ | refine aa ?_ | refine ap ?_ | refine aw ?_)
  refine aU tk (zn j) (tz hlt) ?_
  repeat (first | refine ah tk rfl ?_ | refine ac ?_ | refine ab ?_ | refine aa ?_ | (refine gg tk rfl rfl rfl rfl rfl rfl ?_; intro bk) | refine aq tk ?_)
  refine br rfl (fun h1=>?_) (fun h1=>?_)
  ·repeat (first | refine ah tk rfl ?_ | refine ac ?_ | refine ab ?_ | refine aa ?_)
   refine cY tk (PLe.q ?_)
   rw [zp (by simpa [wr] using h1)]
  ·rw [zy (by simpa [wr] using h1)]
   repeat (first | refine ah tk rfl ?_ | refine ab ?_ | refine aa ?_ | refine ap ?_ | refine aD tk ?_)
   refine ak Tryz.call62 (jn.r) (ih _ (List.getElem_mem hlt) _) ?_
   repeat (first | refine ah tk rfl ?_ | refine ac ?_ | refine ab ?_ | refine aa ?_)
   refine br rfl (fun h2=>?_) (fun h2=>?_)
   ·repeat (first | refine ah tk rfl ?_ | refine ac ?_ | refine ab ?_ | refine aa ?_)
    refine cY tk (PLe.q ?_)
    rw [zp (by simpa [wr] using h2)]
   ·repeat (first | refine ah tk rfl ?_ | refine ac ?_ | refine aa ?_ | refine ap ?_ | refine aG ?_)
    refine kY (j + 1,jD e.args[j] (wr (m - 1))) ?_ ⟨hlt,?_⟩ (Gh.le (bJ (PLe.q (fO (by omega))) (ax (ax (ax aW)))) aM aL)
    ·show e.args.length - (j + 1) < e.args.length - j
     omega
    ·rw [zy (by simpa [wr] using h2)]
 have hge : j = e.args.length := by have : ¬ j < e.args.length := by simpa using h
                                    omega
 repeat (first | refine ah tk rfl ?_ | refine ac ?_ | refine ab ?_ | refine aa ?_ | refine bq rfl ?_)
 refine cY tk (PLe.q ?_)
 rw [hge,List.drop_length,mN]
theorem rF : ∀ (e : LExpr) (m : Int),aK Tryz.prog 62 [ke e,al m] (al (jD e m))
 | .mk k n i x args,m=>nodesStep (.mk k n i x args) m fun a ha m=>by
  have ha' : a ∈ args := ha
  exact rF a m
end
end Go.Proofs.YtppmcepdcpmpcaaGreatDoor

namespace Go.Proofs.YtppmcepdcpmpcaaGreatDoor
noncomputable section
open Go Go.Ab
set_option maxRecDepth 4000
def fZ (x : LVal) (k : Int) (nl : Bool) : Prop := eU x = true ∧ (x.kind = k ∨ x.kind = 0) ∧ (x.kind = 0 → nl = true)
theorem valid_kind {x : LVal} (h : eU x = true) : x.kind = 0 ∨ x.kind = 1 ∨ x.kind = 2 ∨ x.kind = 3 := by
 unfold eU at h
 by_cases h0 : x.kind = 0
 ·exact .inl h0
 ·by_cases h1 : x.kind = 1
  ·exact .inr (.inl h1)
  ·by_cases h2 : x.kind = 2
   ·exact .inr (.inr (.inl h2))
   ·by_cases h3 : x.kind = 3
    ·exact .inr (.inr (.inr h3))
    ·simp [h0,h1,h2,h3] at h
theorem iN {k : Int} {nl : Bool} (h : nl = true) : fZ .nul k nl := ⟨rfl,.inr rfl,fun _=>h⟩
theorem ou (b : Bool) (nl : Bool) : fZ (mI b) 2 nl := by
 cases b <;> exact ⟨rfl,.inl rfl,fun h=>by simp [mI] at h⟩
theorem fits_int (n : Int) : fZ (intV n) 1 true := by
 unfold intV
 split
 ·exact iN rfl
 ·refine ⟨?_,.inl rfl,fun _=>rfl⟩
  simp [eU]
  omega
theorem fits_number (op : List UInt8) (a b : Int) : fZ (pp op a b) 1 true := by
 unfold pp
 repeat' split
 all_goals first | exact fits_int _ | exact iN rfl
structure EnvOk (cols vars : List LCol) (v : LEnv) : Prop where
 hcols : v.cols = cols
 len : v.row.length = cols.length
 row : ∀ (i : Nat) (c : LCol) (x : LVal),cols[i]? = some c → v.row[i]? = some x → fZ x c.kind c.nullable
 params : ∀ x ∈ v.params,eU x = true
 names : v.vnames = vars.map LCol.name
 vlen : v.vvals.length = vars.length
 vals : ∀ (i : Nat) (c : LCol) (x : LVal),vars[i]? = some c → v.vvals[i]? = some x → fZ x c.kind c.nullable
theorem idxOf_map {α β : Type} (g : α → β) (p : β → Bool) (q : α → Bool) (h : ∀ a,p (g a) = q a) (l : List α) : aX p (l.map g) = aX q l := by
 have : (l.map g).findIdx? p = l.findIdx? q := by
  induction l with
  | nil=>rfl
  | cons a l ih=>simp [List.findIdx?_cons,h,ih]
 simp [aX,this]
theorem mW {α : Type} {p : α → Bool} {l : List α} (h : 0 ≤ aX p l) : (aX p l).toNat < l.length := by
 have := idxOf_lt (p := p) (l := l)
 omega
theorem find_some {l : List LCol} {name : List UInt8} (h : (lk l name).2 = true) : 0 ≤ aX (fun c : LCol=>c.name == name) l ∧ l[(aX (fun c : LCol=>c.name == name) l).toNat]? = some (lk l name).1 := by
 unfold lk at h ⊢
 by_cases hi : aX (fun c : LCol=>c.name == name) l < 0
 ·simp [hi] at h
 ·have hlt := mW (p := fun c : LCol=>c.name == name) (l := l) (by omega)
  simp only [hi,if_false]
  refine ⟨by omega,?_⟩
  simp [hlt]
theorem un {l : List LCol} {vals : Rq} {name : List UInt8} (hlen : vals.length = l.length) (hv : ∀ (i : Nat) (c : LCol) (x : LVal),l[i]? = some c → vals[i]? = some x → fZ x c.kind c.nullable) (h : (lk l name).2 = true) :
  0 ≤ aX (fun c : LCol=>c.name == name) l ∧ aX (fun c : LCol=>c.name == name) l < vals.length ∧ fZ (vals.getD (aX (fun c : LCol=>c.name == name) l).toNat .nul) (lk l name).1.kind (lk l name).1.nullable := by
 obtain ⟨h0,h1⟩ := find_some h
 have hlt := mW h0
 have hlt' : (aX (fun c : LCol=>c.name == name) l).toNat < vals.length := by omega
 refine ⟨h0,by omega,?_⟩
 have := hv _ _ vals[(aX (fun c : LCol=>c.name == name) l).toNat] h1 (ze hlt')
 simpa [hlt'] using this
theorem arity_name {name : List UInt8} {a : Nat} (h : bU name = some a) : name ∈ dy := by
 unfold bU at h
 simp only [dy,List.mem_cons,List.mem_nil_iff,or_false]
 split at h
 ·rename_i h1
  simp only [Bool.or_eq_true,beq_iff_eq] at h1
  rcases h1 with (((((((h1 | h1) | h1) | h1) | h1) | h1) | h1) | h1) | h1 <;> simp [h1]
 ·split at h
  ·rename_i h1
   simp only [Bool.or_eq_true,beq_iff_eq] at h1
   rcases h1 with (h1 | h1) | h1 <;> simp [h1]
  ·split at h
   ·rename_i h1
    simp only [beq_iff_eq] at h1
    simp [h1]
   ·cases h
theorem fits_both {a b : LVal} {ka kb : Int} {na nb : Bool} (d : Int) (hd : d = 0 ∨ d = 1) (ha : fZ a ka na) (hb : fZ b kb nb) (h1 : ka = 2 ∨ ka = 0) (h2 : kb = 2 ∨ kb = 0) : fZ (bothV a b d) 2 (na || nb) := by
 obtain ⟨va,ka',na'⟩ := ha
 obtain ⟨vb,kb',nb'⟩ := hb
 have bool2 : ∀ {x : LVal},eU x = true → x.kind = 2 → x.int = 0 ∨ x.int = 1 := by
  intro x hx hk
  simp [eU,hk] at hx
  exact hx.2
 have w1 : wr (1 - d) = 1 - d := by rcases hd with rfl | rfl <;> rfl
 unfold bothV
 split
 ·exact ou _ _
 ·rename_i hn
  split
  ·exact ou _ _
  ·rename_i hm
   apply iN
   by_cases ha0 : a.kind = 0
   ·simp [na' ha0]
   ·by_cases hb0 : b.kind = 0
    ·simp [nb' hb0]
    ·exfalso
     have a2 : a.kind = 2 := by omega
     have b2 : b.kind = 2 := by omega
     have ia := bool2 va a2
     have ib := bool2 vb b2
     simp [a2,b2,w1] at hn hm
     omega
theorem op_sound {name : List UInt8} {xs : Rq} {ks : List KR} (hlen : xs.length = ks.length) (hok : ∀ (i : Nat) (x : LVal) (r : KR),xs[i]? = some x → ks[i]? = some r → fZ x r.1 r.2.1) (har : bU name = some ks.length)
  (ht : (eA name (ks.map (·.1)) (ks.any (·.2.1))).2.2 = 0) : fZ (bK name xs) (eA name (ks.map (·.1)) (ks.any (·.2.1))).1 (eA name (ks.map (·.1)) (ks.any (·.2.1))).2.1 := by
 have hn := arity_name har
 have ty0 : ∀ {k : Int} {nl ok : Bool},(ly k nl ok).2.2 = 0 → ok = true ∧ ly k nl ok = (k,nl,0) := by
  intro k nl ok h
  cases ok
  ·simp [ly] at h
  ·exact ⟨rfl,rfl⟩
 have all2 : ∀ {w : Int} {a b : Int},oH w [a,b] = true → (a = w ∨ a = 0) ∧ (b = w ∨ b = 0) := by
  intro w a b h
  simp [oH] at h
  omega
 have all1 : ∀ {w : Int} {a : Int},oH w [a] = true → (a = w ∨ a = 0) := by
  intro w a h
  simp [oH] at h
  omega
 simp only [dy,List.mem_cons,List.mem_nil_iff,or_false] at hn
 rcases hn with rfl | rfl | rfl | rfl | rfl | rfl | rfl | rfl | rfl | rfl | rfl | rfl | rfl
 case inl | inr.inl | inr.inr.inl =>
  all_goals
   have h2 : ks.length = 2 := (Option.some.inj har).symm
   obtain ⟨r,s,rfl⟩ := iX h2
   obtain ⟨a,b,rfl⟩ := iX (hlen.trans h2)
   simp [eA] at ht ⊢
   obtain ⟨_,e⟩ := ty0 ht
   rw [e]
   simp [bK,bU,jA]
   repeat' split
   all_goals first | exact fits_number _ _ _ | exact iN rfl
 case inr.inr.inr.inl | inr.inr.inr.inr.inl | inr.inr.inr.inr.inr.inl =>
  all_goals
   have h2 : ks.length = 2 := (Option.some.inj har).symm
   obtain ⟨r,s,rfl⟩ := iX h2
   obtain ⟨a,b,rfl⟩ := iX (hlen.trans h2)
   have fa := hok 0 a r rfl rfl
   have fb := hok 1 b s rfl rfl
   simp [eA] at ht ⊢
   obtain ⟨_,e⟩ := ty0 ht
   rw [e]
   simp [bK,bU,jA]
   split
   ·rename_i h0
    apply iN
    rcases h0 with h0 | h0
    ·simp [fa.2.2 h0]
    ·simp [fb.2.2 h0]
   ·exact ou _ _
 case inr.inr.inr.inr.inr.inr.inl | inr.inr.inr.inr.inr.inr.inr.inl =>
  all_goals
   have h2 : ks.length = 2 := (Option.some.inj har).symm
   obtain ⟨r,s,rfl⟩ := iX h2
   obtain ⟨a,b,rfl⟩ := iX (hlen.trans h2)
   have fa := hok 0 a r rfl rfl
   have fb := hok 1 b s rfl rfl
   simp [eA] at ht ⊢
   obtain ⟨hal,e⟩ := ty0 ht
   rw [e]
   obtain ⟨h3,h4⟩ := all2 hal
   simp [bK,bU]
   exact fits_both _ (by omega) fa fb h3 h4
 case inr.inr.inr.inr.inr.inr.inr.inr.inl =>
  have h2 : ks.length = 1 := (Option.some.inj har).symm
  obtain ⟨r,rfl⟩ := List.length_eq_one_iff.1 h2
  obtain ⟨a,rfl⟩ := List.length_eq_one_iff.1 (hlen.trans h2)
  have fa := hok 0 a r rfl rfl
  simp [eA] at ht ⊢
  obtain ⟨hal,e⟩ := ty0 ht
  rw [e]
  have h3 := all1 hal
  simp [bK,bU,jA,jv]
  split
  ·rename_i h0; exact iN (fa.2.2 h0)
  ·rename_i h0
   have : a.kind = 2 := by have := fa.2.1; omega
   rw [zp this]
   exact ou _ _
 case inr.inr.inr.inr.inr.inr.inr.inr.inr.inl =>
  have h2 : ks.length = 2 := (Option.some.inj har).symm
  obtain ⟨r,s,rfl⟩ := iX h2
  obtain ⟨a,b,rfl⟩ := iX (hlen.trans h2)
  simp [eA] at ht ⊢
  obtain ⟨_,e⟩ := ty0 ht
  rw [e]
  simp [bK,bU,jA]
  repeat' split
  all_goals first | exact iN rfl | skip
  rename_i h3
  refine ⟨?_,.inl rfl,fun h=>by simp at h⟩
  simp [eU]
  omega
 case inr.inr.inr.inr.inr.inr.inr.inr.inr.inr.inl =>
  have h2 : ks.length = 1 := (Option.some.inj har).symm
  obtain ⟨r,rfl⟩ := List.length_eq_one_iff.1 h2
  obtain ⟨a,rfl⟩ := List.length_eq_one_iff.1 (hlen.trans h2)
  simp [eA,bK,bU]
  exact ou _ _
 case inr.inr.inr.inr.inr.inr.inr.inr.inr.inr.inr.inl =>
  have h2 : ks.length = 1 := (Option.some.inj har).symm
  obtain ⟨r,rfl⟩ := List.length_eq_one_iff.1 h2
  obtain ⟨a,rfl⟩ := List.length_eq_one_iff.1 (hlen.trans h2)
  have fa := hok 0 a r rfl rfl
  simp [eA] at ht ⊢
  obtain ⟨hal,e⟩ := ty0 ht
  rw [e]
  have h3 := all1 hal
  simp [bK,bU,jA,jv]
  split
  ·rename_i h0; exact iN (fa.2.2 h0)
  ·rename_i h0
   have hk : a.kind = 3 := by have := fa.2.1; omega
   rw [zp hk]
   have hv := fa.1
   simp [eU,hk] at hv
   have hi : intV (a.text.length : Int) = ⟨1,a.text.length,[]⟩ := by unfold intV; rw [zy (by omega)]
   rw [hi]
   refine ⟨?_,.inl rfl,fun h=>by simp at h⟩
   simp [eU]
   omega
 case inr.inr.inr.inr.inr.inr.inr.inr.inr.inr.inr.inr =>
  have h2 : ks.length = 3 := (Option.some.inj har).symm
  obtain ⟨r,s,t,rfl⟩ := len3 h2
  obtain ⟨a,b,c,rfl⟩ := len3 (hlen.trans h2)
  have fb := hok 1 b s rfl rfl
  have fc := hok 2 c t rfl rfl
  simp [eA] at ht ⊢
  obtain ⟨hal,e⟩ := ty0 ht
  rw [e]
  simp [qU] at hal
  have kb := valid_kind fb.1
  have kc := valid_kind fc.1
  have ob := fb.2.1
  have oc := fc.2.1
  simp [bK,bU]
  split
  ·refine ⟨fb.1,?_,fun h=>by simp [fb.2.2 h]⟩
   by_cases hb0 : b.kind = 0
   ·exact .inr hb0
   ·left
    split <;> omega
  ·refine ⟨fc.1,?_,fun h=>by simp [fc.2.2 h]⟩
   by_cases hc0 : c.kind = 0
   ·exact .inr hc0
   ·left
    split <;> omega
theorem kind_sound {cols vars : List LCol} {v : LEnv} (hv : EnvOk cols vars v) : ∀ e : LExpr,(db cols vars e).2.2 = 0 → fZ (cg v e) (db cols vars e).1 (db cols vars e).2.1 := by
 intro e
 generalize hk : SizeOf.sizeOf e = k
 induction k using Nat.strongRecOn generalizing e with
 | _ k ih =>
  intro h0
  have harg : ∀ a ∈ e.args,(db cols vars a).2.2 = 0 → fZ (cg v a) (db cols vars a).1 (db cols vars a).2.1 := by
   intro a ha
   refine ih (SizeOf.sizeOf a) ?_ a rfl
   rw [← hk]
   cases e
   have := List.sizeOf_lt_of_mem (show a ∈ _ from ha)
   simp only [LExpr.mk.sizeOf_spec,LExpr.args] at *
   omega
  have hK := rI cols vars e
  have hE := rG v e
  by_cases c0 : e.kind ≠ 5 ∧ 0 < e.args.length
  ·rw [zp c0] at hK; rw [hK] at h0; simp [fV] at h0
  rw [zy c0] at hK
  by_cases c1 : e.kind == 1
  ·rw [zp c1] at hK hE
   by_cases hc : (eU e.value && e.name == [] && e.index == 0) = true
   ·rw [zp hc] at hK
    rw [hK,hE]
    simp only [Bool.and_eq_true] at hc
    exact ⟨hc.1.1,.inl rfl,fun h=>by simp [h]⟩
   ·rw [zy hc] at hK; rw [hK] at h0; simp [fV] at h0
  rw [zy c1] at hK hE
  by_cases c3 : e.kind == 3
  ·have c2 : ¬ (e.kind == 2) = true := by simp at c3 ⊢; omega
   rw [zp c3] at hK
   rw [zy c2,zp c3] at hE
   split at hK
   ·rw [hK] at h0; simp [fV] at h0
   ·rw [hK,hE]
    split
    ·rename_i hp
     have hlt : e.index.toNat < v.params.length := by omega
     have hm : v.params.getD e.index.toNat .nul ∈ v.params := by
      simp [hlt]
     exact ⟨hv.params _ hm,.inl hp.2.2,fun _=>rfl⟩
    ·exact iN rfl
  rw [zy c3] at hK
  by_cases c24 : (e.kind == 2 || e.kind == 4) = true
  ·rw [zp c24] at hK
   by_cases hs : (dD e.name && e.index == 0 && decide (e.value = .nul)) = true
   ·rw [zp hs] at hK
    by_cases hf : (lk (if e.kind == 4 then vars else cols) e.name).2 = true
    ·rw [zp hf] at hK
     rw [hK,hE]
     by_cases c2 : e.kind == 2
     ·have c4 : ¬ (e.kind == 4) = true := by simp at c2 ⊢; omega
      rw [zp c2]
      rw [zy c4] at hf ⊢
      obtain ⟨f1,f2,f3⟩ := un hv.len hv.row hf
      rw [hv.hcols,zp ⟨f1,f2⟩]
      exact f3
     ·have c4 : (e.kind == 4) = true := by simpa [c2] using c24
      rw [zy c2,zy c3,zp c4]
      rw [zp c4] at hf ⊢
      obtain ⟨f1,f2,f3⟩ := un hv.vlen hv.vals hf
      have e1 : aX (fun s : List UInt8=>e.name == s) v.vnames = aX (fun c : LCol=>c.name == e.name) vars := by
       rw [hv.names]
       exact idxOf_map LCol.name _ _ (fun c=>by rw [Bool.eq_iff_iff]; simp; exact eq_comm) vars
      rw [e1,zp ⟨f1,f2⟩]
      exact f3
    ·rw [zy hf] at hK; rw [hK] at h0; simp [fV] at h0
   ·rw [zy hs] at hK; rw [hK] at h0; simp [fV] at h0
  rw [zy c24] at hK
  have c2 : ¬ (e.kind == 2) = true := fun h=>c24 (by simp [h])
  have c4 : ¬ (e.kind == 4) = true := fun h=>c24 (by simp [h])
  rw [zy c2,zy c3,zy c4] at hE
  by_cases c5 : e.kind == 5
  ·rw [zp c5] at hK hE
   unfold jy at hK
   split at hK
   ·rw [hK] at h0; simp [fV] at h0
   ·rename_i hop
    split at hK
    ·rename_i r hr
     have := List.find?_some hr
     rw [hK] at h0
     simp [fV] at h0
     simp [h0] at this
    ·rename_i hr
     have hnone := List.find?_eq_none.1 hr
     rw [hK] at h0
     rw [hK,hE]
     refine op_sound (by simp) ?_ ?_ h0
     ·intro i x r hx hr'
      simp only [List.getElem?_map,Option.map_eq_some_iff] at hx hr'
      obtain ⟨a,ha,rfl⟩ := hx
      obtain ⟨b,hb,rfl⟩ := hr'
      rw [ha] at hb
      cases hb
      refine harg a (List.mem_of_getElem? ha) ?_
      have := hnone _ (List.mem_map.2 ⟨a,List.mem_of_getElem? ha,rfl⟩)
      simpa using this
     ·exact Classical.byContradiction fun hne=>hop (.inl hne)
  ·rw [zy c5] at hK; rw [hK] at h0; simp [fV] at h0
theorem type_sound {cols vars : List LCol} {v : LEnv} (hv : EnvOk cols vars v) (e : LExpr) (h : (cK cols vars e).2.2 = 0) : fZ (cg v e) (cK cols vars e).1 (cK cols vars e).2.1 := by
 unfold cK at h ⊢
 split at h
 ·simp [fV] at h
 ·rename_i hc
  rw [zy hc]
  exact kind_sound hv e h
end
end Go.Proofs.YtppmcepdcpmpcaaGreatDoor

namespace Go.Proofs.YtppmcepdcpmpcaaGreatDoor
noncomputable section
open Go Go.Ab
structure LTable where
 name : List UInt8
 columns : List LCol
 primaryKey : List Int
 deriving DecidableEq
@[simp] def bA (x : LTable) : List PV := [(.str x.name),(.list 68 (x.columns.map ay)),(.list 3 (x.primaryKey.map bG))]
structure LForeignKey where
 table : List UInt8
 columns : List Int
 refTable : List UInt8
 deriving DecidableEq
@[simp] def dC (x : LForeignKey) : List PV := [(.str x.table),(.list 3 (x.columns.map bG)),(.str x.refTable)]
structure LConstraint where
 table : List UInt8
 left : Int
 op : List UInt8
 right : Int
 value : LVal
 deriving DecidableEq
@[simp] def ed (x : LConstraint) : List PV := [(.str x.table),(al x.left),(.str x.op),(al x.right),(al x.value.kind),(al x.value.int),(.str x.value.text)]
structure LSchema where
 tables : List LTable
 foreignKeys : List LForeignKey
 constraints : List LConstraint
 deriving DecidableEq
@[simp] def bR (x : LSchema) : List PV := [(.list 71 (x.tables.map bA)),(.list 135 (x.foreignKeys.map dC)),(.list 141 (x.constraints.map ed))]
structure LAggregateCall where
 name : List UInt8
 function : List UInt8
 args : List LExpr
@[simp] def li (x : LAggregateCall) : List PV := [(.str x.name),(.str x.function),(.list 91 (x.args.map ez))]
inductive LQuery where
 | mk (kind : Int) (table : List UInt8) (names : List (List UInt8)) (exprs : List LExpr) (aggregates : List LAggregateCall) (descending : List Bool) (count : Int) (offset : Int) (inputs : List LQuery)
def LQuery.kind : LQuery → Int | .mk a _ _ _ _ _ _ _ _=>a
def LQuery.table : LQuery → List UInt8 | .mk _ a _ _ _ _ _ _ _=>a
def LQuery.names : LQuery → List (List UInt8) | .mk _ _ a _ _ _ _ _ _=>a
def LQuery.exprs : LQuery → List LExpr | .mk _ _ _ a _ _ _ _ _=>a
def LQuery.aggregates : LQuery → List LAggregateCall | .mk _ _ _ _ a _ _ _ _=>a
def LQuery.descending : LQuery → List Bool | .mk _ _ _ _ _ a _ _ _=>a
def LQuery.count : LQuery → Int | .mk _ _ _ _ _ _ a _ _=>a
def LQuery.offset : LQuery → Int | .mk _ _ _ _ _ _ _ a _=>a
def LQuery.inputs : LQuery → List LQuery | .mk _ _ _ _ _ _ _ _ a=>a
mutual
def cr : LQuery → List PV
 | .mk f0 f1 f2 f3 f4 f5 f6 f7 f8=>[(al f0),(.str f1),(.list 9 (f2.map mi)),(.list 91 (f3.map ez)),(.list 88 (f4.map li)),(.list 4 (f5.map rBool)),(al f6),(al f7),.list 33 (qm f8)]
def qm : List LQuery → List (List PV)
 | []=>[]
 | e :: r=>cr e :: qm r
end
theorem rX : ∀ l,qm l = l.map cr
 | []=>rfl
 | e :: r=>by simp [qm,rX r]
def aI (x : LQuery) : List PV := [(al x.kind),(.str x.table),(.list 9 (x.names.map mi)),(.list 91 (x.exprs.map ez)),(.list 88 (x.aggregates.map li)),(.list 4 (x.descending.map rBool)),(al x.count),(al x.offset),(.list 33 (x.inputs.map cr))]
theorem ce (x : LQuery) : cr x = aI x := by
 cases x
 simp [cr,aI,rX,LQuery.kind,LQuery.table,LQuery.names,LQuery.exprs,LQuery.aggregates,LQuery.descending,LQuery.count,LQuery.offset,LQuery.inputs]
inductive LProcedureStatement where
 | mk (kind : Int) (code : Int) (name : List UInt8) (table : List UInt8) (names : List (List UInt8)) (exprs : List LExpr) (whereF : List LExpr) (query : List LQuery) (body : List LProcedureStatement) (elseF : List LProcedureStatement)
def LProcedureStatement.kind : LProcedureStatement → Int | .mk a _ _ _ _ _ _ _ _ _=>a
def LProcedureStatement.code : LProcedureStatement → Int | .mk _ a _ _ _ _ _ _ _ _=>a
def LProcedureStatement.name : LProcedureStatement → List UInt8 | .mk _ _ a _ _ _ _ _ _ _=>a
def LProcedureStatement.table : LProcedureStatement → List UInt8 | .mk _ _ _ a _ _ _ _ _ _=>a
def LProcedureStatement.names : LProcedureStatement → List (List UInt8) | .mk _ _ _ _ a _ _ _ _ _=>a
def LProcedureStatement.exprs : LProcedureStatement → List LExpr | .mk _ _ _ _ _ a _ _ _ _=>a
def LProcedureStatement.whereF : LProcedureStatement → List LExpr | .mk _ _ _ _ _ _ a _ _ _=>a
def LProcedureStatement.query : LProcedureStatement → List LQuery | .mk _ _ _ _ _ _ _ a _ _=>a
def LProcedureStatement.body : LProcedureStatement → List LProcedureStatement | .mk _ _ _ _ _ _ _ _ a _=>a
def LProcedureStatement.elseF : LProcedureStatement → List LProcedureStatement | .mk _ _ _ _ _ _ _ _ _ a=>a
mutual
def aO : LProcedureStatement → List PV
 | .mk f0 f1 f2 f3 f4 f5 f6 f7 f8 f9=>[(al f0),(al f1),(.str f2),(.str f3),(.list 9 (f4.map mi)),(.list 91 (f5.map ez)),(.list 91 (f6.map ez)),(.list 33 (f7.map cr)),.list 51 (gO f8),.list 51 (gO f9)]
def gO : List LProcedureStatement → List (List PV)
 | []=>[]
 | e :: r=>aO e :: gO r
end
theorem kR : ∀ l,gO l = l.map aO
 | []=>rfl
 | e :: r=>by simp [gO,kR r]
def aR (x : LProcedureStatement) : List PV := [(al x.kind),(al x.code),(.str x.name),(.str x.table),(.list 9 (x.names.map mi)),(.list 91 (x.exprs.map ez)),(.list 91 (x.whereF.map ez)),(.list 33 (x.query.map cr)),(.list 51 (x.body.map aO)),(.list 51 (x.elseF.map aO))]
theorem fe (x : LProcedureStatement) : aO x = aR x := by
 cases x
 simp [aO,aR,kR,LProcedureStatement.kind,LProcedureStatement.code,LProcedureStatement.name,LProcedureStatement.table,LProcedureStatement.names,LProcedureStatement.exprs,LProcedureStatement.whereF,LProcedureStatement.query,LProcedureStatement.body,LProcedureStatement.elseF]
structure LProcedureProcedure where
 parameters : List Int
 body : List LProcedureStatement
@[simp] def hC (x : LProcedureProcedure) : List PV := [(.list 3 (x.parameters.map bG)),(.list 51 (x.body.map aO))]
structure LResult where
 columns : List LCol
 rows : Rz
 deriving DecidableEq
@[simp] def bt (x : LResult) : List PV := [(.list 68 (x.columns.map ay)),(.list 75 (x.rows.map (am 73 ae)))]
structure LRelation where
 table : List UInt8
 rows : Rz
 deriving DecidableEq
@[simp] def bp (x : LRelation) : List PV := [(.str x.table),(.list 75 (x.rows.map (am 73 ae)))]
structure LPushdownPruner where
 s : LSchema
 deriving DecidableEq
@[simp] def encPushdownPruner (x : LPushdownPruner) : List PV := [(.list 71 (x.s.tables.map bA)),(.list 135 (x.s.foreignKeys.map dC)),(.list 141 (x.s.constraints.map ed))]
structure LProcedureChecker where
 s : LSchema
 args : List Int
 deriving DecidableEq
@[simp] def co (x : LProcedureChecker) : List PV := [(.list 71 (x.s.tables.map bA)),(.list 135 (x.s.foreignKeys.map dC)),(.list 141 (x.s.constraints.map ed)),(.list 3 (x.args.map bG))]
structure LChange where
 kind : Int
 table : List UInt8
 key : Rq
 row : Rq
 deriving DecidableEq
@[simp] def bH (x : LChange) : List PV := [(al x.kind),(.str x.table),(.list 73 (x.key.map ae)),(.list 73 (x.row.map ae))]
structure LProcedureRun where
 s : LSchema
 st : List LRelation
 args : Rq
 vars : List LCol
 vals : Rq
 changes : List LChange
 results : List LResult
 left : Int
 stopped : Bool
 deriving DecidableEq
@[simp] def encProcedureRun (x : LProcedureRun) : List PV := [(.list 71 (x.s.tables.map bA)),(.list 135 (x.s.foreignKeys.map dC)),(.list 141 (x.s.constraints.map ed)),(.list 77 (x.st.map bp)),(.list 73 (x.args.map ae)),(.list 68 (x.vars.map ay)),(.list 73 (x.vals.map ae)),(.list 213 (x.changes.map bH)),(.list 63 (x.results.map bt)),(al x.left),(aC x.stopped)]
structure LRun where
 s : LSchema
 st : List LRelation
 args : Rq
 vars : List LCol
 names : List (List UInt8)
 vals : Rq
 deriving DecidableEq
@[simp] def eh (x : LRun) : List PV := [(.list 71 (x.s.tables.map bA)),(.list 135 (x.s.foreignKeys.map dC)),(.list 141 (x.s.constraints.map ed)),(.list 77 (x.st.map bp)),(.list 73 (x.args.map ae)),(.list 68 (x.vars.map ay)),(.list 9 (x.names.map mi)),(.list 73 (x.vals.map ae))]
structure LChecker where
 s : LSchema
 vars : List LCol
 deriving DecidableEq
@[simp] def eF (x : LChecker) : List PV := [(.list 71 (x.s.tables.map bA)),(.list 135 (x.s.foreignKeys.map dC)),(.list 141 (x.s.constraints.map ed)),(.list 68 (x.vars.map ay))]
structure LRewriteRewriter where
 s : LSchema
 deriving DecidableEq
@[simp] def encRewriteRewriter (x : LRewriteRewriter) : List PV := [(.list 71 (x.s.tables.map bA)),(.list 135 (x.s.foreignKeys.map dC)),(.list 141 (x.s.constraints.map ed))]
end
end Go.Proofs.YtppmcepdcpmpcaaGreatDoor
