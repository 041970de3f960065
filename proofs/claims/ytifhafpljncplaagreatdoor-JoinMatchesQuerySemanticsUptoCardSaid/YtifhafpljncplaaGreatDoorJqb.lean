/- joinMatchesQuerySemanticsUpto_holds, part 2: the layer, the plain functions and what they compute; conditions as in the statement. -/
import Derived.Test.YtifhafpljncplaaGreatDoorJqa
set_option maxHeartbeats 4000000
namespace Go.Ab
noncomputable section
open Go.ChangeShapes
def kr (W : World) : Mem := fun b o=>W.cell? ⟨b,o,none⟩
def laidFs (P : Program) : Nat → List Field → Bool
 | _,[]=>true
 | o,f :: fs=>Nat.beq f.offset o && laidFs P (o + P.cellsOf f.type) fs
def okT (P : Program) (S : List TypeId) (t : TypeId) : Bool :=
 match P.underlying t with
 | some .bool | some (.int _) | some .string=>true
 | some (.slice e)=>S.contains e && Nat.blt 0 (P.cellsOf e)
 | some (.struct fs)=>laidFs P 0 fs.toList && fs.toList.all (fun f=>S.contains f.type) && Nat.beq (fs.toList.map fun f=>P.cellsOf f.type).sum (P.cellsOf t)
 | _=>false
def gK (Sh : TypeId → List PV → Prop) : List TypeId → List PV → Prop
 | [],pvs=>pvs = []
 | t :: ts,pvs=>∃ a b,pvs = a ++ b ∧ Sh t a ∧ gK Sh ts b
def Sh (P : Program) : Nat → TypeId → List PV → Prop
 | 0,_,_=>False
 | n + 1,t,pvs=>match P.underlying t with
  | some .bool=>∃ b,pvs = [.val (.bool b)]
  | some (.int k)=>∃ m,pvs = [.val (.int k m)] ∧ (Lit.int k m).wf = true
  | some .string=>∃ l,pvs = [.str l] ∧ l.length ≤ 2 ^ 47
  | some (.slice e)=>∃ rows,pvs = [.list e rows] ∧ ∀ r ∈ rows,Sh P n e r
  | some (.struct fs)=>gK (Sh P n) (fs.toList.map (·.type)) pvs
  | _=>False
section
variable {H : Type} {enc : TypeId × Value → H} {P : Program} {W : World} {S : List TypeId}
theorem cG.of_cells {b : Nat} : ∀ {o : Nat} {pvs : List PV} {cs : List Value},ay P (kr W) false pvs cs → (∀ x ∈ cs,x.oneCell' = true) → (∀ j,j < cs.length → W.cell? ⟨b,o + j,none⟩ = cs[j]?) → cG P (kr W) b o pvs
 | _,[],_,_,_,_=>by simp [cG]
 | o,p :: ps,cs,h,h1,hm=>by
  simp only [ay] at h
  obtain ⟨x,xs,rfl,h2,h3⟩ := h
  simp only [cG]
  refine ⟨⟨x,?_,h1 x (by simp),h2⟩,cG.of_cells h3 (fun y hy=>h1 y (by simp [hy])) fun j hj=>?_⟩
  ·simpa [kr] using hm 0 (by simp)
  ·have := hm (j + 1) (by simpa using hj)
   rw [show o + 1 + j = o + (j + 1) from by omega]
   simpa using this
theorem Sh.one : ∀ {n : Nat} {t : TypeId} {pvs : List PV},Sh P n t pvs → pvs.all PV.one = true := by
 intro n
 induction n with
 | zero=>intro t pvs h; simp [Sh] at h
 | succ n ih =>
  intro t pvs h
  simp only [Sh] at h
  split at h
  ·obtain ⟨b,rfl⟩ := h; rfl
  ·obtain ⟨m,rfl,_⟩ := h; rfl
  ·obtain ⟨l,rfl,_⟩ := h; rfl
  ·obtain ⟨rows,rfl,_⟩ := h; rfl
  ·rename_i fs _
   generalize fs.toList.map (·.type) = ts at h
   induction ts generalizing pvs with
   | nil=>simp only [gK] at h; subst h; rfl
   | cons t ts iht =>
    simp only [gK] at h
    obtain ⟨a,b,rfl,h1,h2⟩ := h
    rw [List.all_append,ih h1,iht h2]
    rfl
  ·cases h
theorem trod_int_some {n : Nat} {t : TypeId} {k : IntKind} {cs : List Value} {x : DataW H × List MemPlace} {sp : Nat → Bool} (hu : P.underlying t = some (.int k)) (h : DataW.trod enc P W 0 sp true (n + 1) t cs = some x) : ∃ m,cs = [.int k m] ∧ (Lit.int k m).wf = true := by
 unfold DataW.trod at h
 rw [hu] at h
 split at h <;> simp_all
theorem trod_bool_some {n : Nat} {t : TypeId} {cs : List Value} {x : DataW H × List MemPlace} {sp : Nat → Bool} (hu : P.underlying t = some .bool) (h : DataW.trod enc P W 0 sp true (n + 1) t cs = some x) : ∃ b,cs = [.bool b] := by
 unfold DataW.trod at h
 rw [hu] at h
 split at h <;> simp_all
theorem trod_str_some {n : Nat} {t : TypeId} {cs : List Value} {x : DataW H × List MemPlace} {sp : Nat → Bool} (hu : P.underlying t = some .string) (h : DataW.trod enc P W 0 sp true (n + 1) t cs = some x) : ∃ s : ByteArray,cs = [.string s] ∧ x.1 = .lit (.string s.data.toList) := by
 unfold DataW.trod at h
 rw [hu] at h
 split at h <;> simp_all
 rw [← h.2]
theorem ul {n : Nat} {t : TypeId} {fs : Array Field} {cs : List Value} {x : DataW H × List MemPlace} {sp : Nat → Bool} (hu : P.underlying t = some (.struct fs)) (h : DataW.trod enc P W 0 sp true (n + 1) t cs = some x) :
  cs.length = P.cellsOf t ∧ ∃ xs,(fs.toList.mapM fun f=>DataW.trod enc P W 0 sp true n f.type ((cs.drop f.offset).take (P.cellsOf f.type))) = some xs ∧ x = (.agg (xs.map (·.1)),xs.flatMap (·.2)) := by
 unfold DataW.trod at h
 rw [hu] at h
 split at h <;> simp_all
 obtain ⟨_,a,h2,h3⟩ := h
 exact ⟨a,h2,h3.symm⟩
theorem uA {n : Nat} {t e : TypeId} {cs : List Value} {x : DataW H × List MemPlace} (hu : P.underlying t = some (.slice e)) (h : DataW.trod enc P W 0 (fun _=>true) true (n + 1) t cs = some x) :
  (cs = [.slice none 0 0] ∧ x = (.nil,[])) ∨ ∃ a len cap elems rest,cs = [.slice (some a) len cap] ∧ len ≤ cap ∧ cap ≤ maxLen ∧
   ((List.range len).mapM fun i=>(W.cells? 0 (a.add (i * P.cellsOf e)) (P.cellsOf e)).bind (DataW.trod enc P W 0 (fun _=>true) true n e)) = some elems ∧
   ((List.range (cap - len)).mapM fun i=>(W.cells? 0 (a.add ((len + i) * P.cellsOf e)) (P.cellsOf e)).bind (DataW.trod enc P W 0 (fun _=>true) true n e)) = some rest ∧
   x.1 = .slice (elems.map (·.1)) (rest.map (·.1)) := by
 unfold DataW.trod at h
 rw [hu] at h
 split at h <;> simp_all
 rename_i e' a len cap _
 obtain ⟨⟨h1,h2⟩,h3⟩ := h
 cases hel : ((List.range len).mapM fun i=>(W.cells? 0 (a.add (i * P.cellsOf e')) (P.cellsOf e')).bind (DataW.trod enc P W 0 (fun _=>true) true n e')) with
 | none=>rw [hel] at h3; cases h3
 | some elems =>
  rw [hel,Option.bind_some] at h3
  cases hre : ((List.range (cap - len)).mapM fun i=>(W.cells? 0 (a.add ((len + i) * P.cellsOf e')) (P.cellsOf e')).bind (DataW.trod enc P W 0 (fun _=>true) true n e')) with
  | none=>rw [hre] at h3; cases h3
  | some rest =>
   rw [hre,Option.map_some,zo] at h3
   exact ⟨a,len,cap,⟨rfl,rfl,rfl⟩,h1,h2,elems,hel,rest,hre,by rw [← h3]⟩
end
def gP (P : Program) (t : TypeId) (pvs : List PV) : PV :=
 match P.underlying t with
 | some (.struct _)=>.agg pvs
 | _=>pvs.headD .any
def ArgsSh (P : Program) : List TypeId → List PV → Prop
 | [],av0=>av0 = []
 | t :: ts,av0=>∃ n pvs rest,av0 = gP P t pvs :: rest ∧ Sh P n t pvs ∧ ArgsSh P ts rest
section
variable {H : Type} {enc : TypeId × Value → H} {P : Program} {W : World} {S : List TypeId}
theorem rX (hl : laidOutB P = true) {W' : World} (hb : RowKit.Below W.heap.size W W') {sp : Nat → Bool} : ∀ {ts : List TypeId} {vs : List Value} {ds : List (DataW H)} {ps : List MemPlace},(∀ t ∈ ts,P.readableRec t = true ∧ t < P.types.size) →
  DataW.TrodAll enc P W 0 (fun _=>true) true ts vs ds ps → (∀ x ∈ ps,x.block < W.heap.size) → (∀ x ∈ ps,sp x.block = true) → DataW.TrodAll enc P W' 0 sp true ts vs ds ps
 | [],_,_,_,_,h,_,_=>by
  obtain ⟨rfl,rfl,rfl⟩ := trodAll_nil h
  exact trodAll_mk0
 | t :: ts,_,_,_,hr,h,hlt,hsp=>by
  obtain ⟨v,vs,d,ds,p,q,rfl,rfl,rfl,h1,h2⟩ := trodAll_cons h
  exact ⟨p,q,WideElems.Trod_stays hl (hr t (by simp)).1 (hr t (by simp)).2 h1 (fun x hx=>hb.same (hlt x (by simp [hx]))) (fun x hx=>hsp x (by simp [hx])),
   rX hl hb (fun t ht=>hr t (by simp [ht])) h2 (fun x hx=>hlt x (by simp [hx])) (fun x hx=>hsp x (by simp [hx])),rfl⟩
theorem ud {sp : Nat → Bool} {hd : Bool} : ∀ {ts : List TypeId} {vs : List Value} {ds : List (DataW H)} {ps : List MemPlace},DataW.TrodAll enc P W 0 sp hd ts vs ds ps → ds.length = ts.length
 | [],_,_,_,h=>by
  obtain ⟨_,rfl,_⟩ := trodAll_nil h
  rfl
 | t :: ts,_,_,_,h=>by
  obtain ⟨v,vs,d,ds,p,q,rfl,rfl,rfl,_,h2⟩ := trodAll_cons h
  simp [ud h2]
theorem InvH.start (W : World) (hg : Gl W []) : InvH P ⟨W,[],kr W,hg⟩ (kr W) Heap.empty W :=
 ⟨fun _ _ _ h=>h,Mem.le_refl _,fun _ _ _ h=>.inl h,rfl,rfl,rfl,Nat.le_refl _,fun _ _ _=>rfl,fun _ _ h=>by simp [Heap.empty] at h,fun _ _ h=>by simp [Heap.empty] at h,
  fun _ _ _ _ h=>by simp [Heap.empty] at h,fun _ _ _ _ _ h=>by simp [Heap.empty] at h,fun _ _ _ _ h=>by simp [Heap.empty] at h⟩
theorem InvH.below {hg : Gl W []} {M : Mem} {Hp : Heap} {W' : World} (h : InvH P ⟨W,[],kr W,hg⟩ M Hp W') : RowKit.Below W.heap.size W W' :=
 ⟨h.os,h.tape,h.output,h.size,fun k hk=>h.frame k hk (by simp)⟩
end
mutual
def PV.bulk : PV → Nat
 | .str l=>l.length + 1
 | .list _ rows=>fV rows + 1
 | .agg cs=>bI cs
 | .any=>1
 | .val _=>1
 | .tup _=>1
 | .ptr _=>1
 | .fn _ _=>1
 | .box _ _ _=>1
 | .own _ _ _=>1
 | .optr _ _ _ _ _=>1
 | .err _=>1
def bI : List PV → Nat
 | []=>0
 | p :: ps=>p.bulk + bI ps
def fV : List (List PV) → Nat
 | []=>0
 | r :: rs=>bI r + fV rs
end
theorem qM : ∀ a b : List PV,bI (a ++ b) = bI a + bI b
 | [],b=>by simp [bI]
 | p :: a,b=>by simp only [List.cons_append,bI,qM a b]; omega
structure IsBulk (B : (H : Type) → DataW H → Nat) : Prop where
 one : ∀ H d,1 ≤ B H d
 str : ∀ H l,l.length + 1 ≤ B H (.lit (.string l))
 slice : ∀ H (a b : List (DataW H)),(a.map (B H)).sum + 1 ≤ B H (.slice a b)
 agg : ∀ H (a : List (DataW H)),(a.map (B H)).sum ≤ B H (.agg a)
theorem Sh.up {P : Program} : ∀ {n : Nat} {t : TypeId} {pvs : List PV},Sh P n t pvs → Sh P (n + 1) t pvs := by
 intro n
 induction n with
 | zero=>intro t pvs h; simp [Sh] at h
 | succ n ih =>
  intro t pvs h
  rw [Sh] at h ⊢
  split at h
  ·exact h
  ·exact h
  ·exact h
  ·obtain ⟨rows,rfl,hr⟩ := h
   exact ⟨rows,rfl,fun r hq=>ih (hr r hq)⟩
  ·rename_i fs hu
   have key : ∀ (ts : List TypeId) (l : List PV),gK (Sh P n) ts l → gK (Sh P (n + 1)) ts l := by
    intro ts
    induction ts with
    | nil=>intro l h; simp only [gK] at h ⊢; exact h
    | cons t ts iht =>
     intro l h
     simp only [gK] at h ⊢
     obtain ⟨a,b,h1,h2,h3⟩ := h
     exact ⟨a,b,h1,ih h2,iht b h3⟩
   exact key _ _ h
  ·cases h
theorem Sh.cast {P : Program} {n : Nat} {t t' : TypeId} {pvs : List PV} (h : P.underlying t = P.underlying t') (hs : Sh P n t pvs) : Sh P n t' pvs := by
 cases n with
 | zero=>simp [Sh] at hs
 | succ n=>rw [Sh] at hs ⊢; rwa [h] at hs
theorem jv {α : Type} {f : α → List PV} : ∀ {rows : List (List PV)},(∀ r ∈ rows,∃ x,r = f x) → ∃ xs : List α,rows = xs.map f
 | [],_=>⟨[],rfl⟩
 | r :: rs,h=>by
  obtain ⟨x,rfl⟩ := h r (by simp)
  obtain ⟨xs,rfl⟩ := jv (rows := rs) fun q hq=>h q (by simp [hq])
  exact ⟨x :: xs,rfl⟩
theorem rowsUp {α : Type} {f : α → List PV} {P : Program} {n : Nat} {e t : TypeId} (he : P.underlying e = P.underlying t) (ih : ∀ {pvs},Sh P (n + 1) t pvs → ∃ v,pvs = f v) {rows : List (List PV)} (hr : ∀ r ∈ rows,Sh P n e r) : ∃ xs : List α,rows = xs.map f :=
 jv fun r hq=>ih (Sh.up (Sh.cast he (hr r hq)))
def infosB (P : Program) (S : List TypeId) : Bool := S.all fun t=>match P.info? t with
 | some i=>Nat.beq i.bytes (P.bytesOf t) && Nat.beq i.size (P.cellsOf t)
 | none=>false
theorem infos_of {P : Program} {S : List TypeId} (h : infosB P S = true) : ∀ t ∈ S,∃ i,P.info? t = some i ∧ i.bytes = P.bytesOf t ∧ i.size = P.cellsOf t := by
 intro t ht
 have := List.all_eq_true.1 h t ht
 cases hi : P.info? t with
 | none=>rw [hi] at this; cases this
 | some i =>
  rw [hi] at this
  simp only [Bool.and_eq_true] at this
  exact ⟨i,rfl,Nat.eq_of_beq_eq_true this.1,Nat.eq_of_beq_eq_true this.2⟩
section
variable {B : (H : Type) → DataW H → Nat} {H : Type} {enc : TypeId × Value → H} {P : Program} {W : World} {S : List TypeId}
theorem tU {n : Nat} (ih : ∀ t ∈ S,∀ (cs : List Value) x,DataW.trod enc P W 0 (fun _=>true) true n t cs = some x → (x.1.weights P t).all (· ≤ reachBytes) = true → ∃ pvs,Sh P n t pvs ∧ ay P (kr W) false pvs cs ∧ bI pvs ≤ B H x.1) :
  ∀ (fs : List Field) (o : Nat) (cs : List Value) (xs : List (DataW H × List MemPlace)),laidFs P o fs = true → fs.all (fun f=>S.contains f.type) = true → o + (fs.map fun f=>P.cellsOf f.type).sum = cs.length →
   (fs.mapM fun f=>DataW.trod enc P W 0 (fun _=>true) true n f.type ((cs.drop f.offset).take (P.cellsOf f.type))) = some xs →
   (DataW.weightsEach P (fs.map (·.type)) (xs.map (·.1))).all (· ≤ reachBytes) = true → ∃ pvs,gK (Sh P n) (fs.map (·.type)) pvs ∧ ay P (kr W) false pvs (cs.drop o) ∧ bI pvs ≤ ((xs.map (·.1)).map (B H)).sum
 | [],o,cs,xs,_,_,hlen,_,_=>by
  refine ⟨[],by simp [gK],?_,by simp [bI]⟩
  simp only [ay]
  exact List.drop_eq_nil_of_le (by simp at hlen; omega)
 | f :: fs,o,cs,xs,hl,hS,hlen,hm,hw=>by
  simp only [laidFs,Bool.and_eq_true] at hl
  simp only [List.all_cons,Bool.and_eq_true] at hS
  simp only [List.map_cons,List.sum_cons] at hlen
  have hoff : f.offset = o := Nat.eq_of_beq_eq_true hl.1
  rw [List.mapM_cons] at hm
  cases hx : DataW.trod enc P W 0 (fun _=>true) true n f.type ((cs.drop f.offset).take (P.cellsOf f.type)) with
  | none=>rw [hx] at hm; cases hm
  | some x =>
   rw [hx] at hm
   cases hr : (fs.mapM fun f=>DataW.trod enc P W 0 (fun _=>true) true n f.type ((cs.drop f.offset).take (P.cellsOf f.type))) with
   | none=>rw [hr] at hm; cases hm
   | some r =>
    rw [hr] at hm
    have hm' : x :: r = xs := Option.some.inj hm
    subst hm'
    simp only [List.map_cons,DataW.weightsEach,List.all_append,Bool.and_eq_true] at hw
    obtain ⟨pa,ha1,ha2,ha3⟩ := ih f.type (by simpa using hS.1) _ x hx hw.1
    obtain ⟨pb,hb1,hb2,hb3⟩ := tU ih fs (o + P.cellsOf f.type) cs r hl.2 hS.2 (by omega) hr hw.2
    refine ⟨pa ++ pb,⟨pa,pb,rfl,ha1,hb1⟩,?_,by rw [qM]; simp only [List.map_cons,List.sum_cons]; omega⟩
    have := ha2.append hb2
    rw [hoff] at this
    have e : (cs.drop o).take (P.cellsOf f.type) ++ cs.drop (o + P.cellsOf f.type) = cs.drop o := by
     rw [← List.drop_drop]; exact List.take_append_drop _ _
    rwa [e] at this
theorem absB_rows {n : Nat} {e : TypeId} (ih : ∀ (cs : List Value) x,DataW.trod enc P W 0 (fun _=>true) true n e cs = some x → (x.1.weights P e).all (· ≤ reachBytes) = true → ∃ pvs,Sh P n e pvs ∧ ay P (kr W) false pvs cs ∧ bI pvs ≤ B H x.1)
  {b o c : Nat} : ∀ (elems : List (DataW H × List MemPlace)) (k : Nat),(∀ j,j < elems.length → ((W.cells? 0 ((⟨b,o,none⟩ : Addr).add ((k + j) * c)) c).bind (DataW.trod enc P W 0 (fun _=>true) true n e)) = elems[j]?) →
   (DataW.weightsAll P e (elems.map (·.1))).all (· ≤ reachBytes) = true → ∃ rows : List (List PV),rows.length = elems.length ∧ (∀ r ∈ rows,Sh P n e r) ∧ cK P (kr W) c b (o + k * c) rows ∧ fV rows ≤ ((elems.map (·.1)).map (B H)).sum
 | [],k,_,_=>⟨[],rfl,by simp,by simp [cK],by simp [fV]⟩
 | x :: r,k,hj,hw=>by
  simp only [List.map_cons,DataW.weightsAll,List.all_append,Bool.and_eq_true] at hw
  have h0 := hj 0 (by simp)
  simp only [Nat.add_zero,List.getElem?_cons_zero] at h0
  cases hcs : W.cells? 0 ((⟨b,o,none⟩ : Addr).add (k * c)) c with
  | none=>rw [hcs] at h0; cases h0
  | some cs =>
   rw [hcs] at h0
   simp only [Option.bind_some] at h0
   obtain ⟨pv,hp1,hp2,hp3⟩ := ih cs x h0 hw.1
   obtain ⟨_,hlen,hcell⟩ := World.cells?_some hcs
   obtain ⟨rows,hr1,hr2,hr3,hr4⟩ := absB_rows ih r (k + 1) (fun j hj'=>by
    have := hj (j + 1) (by simpa using hj')
    rw [show k + (j + 1) = k + 1 + j from by omega] at this
    simpa using this) hw.2
   refine ⟨pv :: rows,by simp [hr1],?_,?_,by simp only [fV,List.map_cons,List.sum_cons]; omega⟩
   ·intro q hq
    rcases List.mem_cons.1 hq with rfl | hq
    ·exact hp1
    ·exact hr2 q hq
   ·simp only [cK]
    have hpl : pv.length = c := by rw [← hlen]; exact (hp2.length).symm
    have hone : ∀ y ∈ cs,y.oneCell' = true := ay.oneCell hp1.one hp2
    refine ⟨hpl,cG.of_cells hp2 hone fun j hj'=>?_,?_⟩
    ·have := hcell j (by omega)
     rw [← this,ez,ez]
    ·rw [show o + (k + 1) * c = o + k * c + c from by rw [Nat.add_mul]; omega] at hr3
     exact hr3
theorem absB (hB : IsBulk B) (hS : S.all (okT P S) = true) (hinf : ∀ t ∈ S,∃ i,P.info? t = some i ∧ i.bytes = P.bytesOf t ∧ i.size = P.cellsOf t) : ∀ (n : Nat) (t : TypeId),t ∈ S → ∀ (cs : List Value) x,DataW.trod enc P W 0 (fun _=>true) true n t cs = some x →
  (x.1.weights P t).all (· ≤ reachBytes) = true → ∃ pvs,Sh P n t pvs ∧ ay P (kr W) false pvs cs ∧ bI pvs ≤ B H x.1 := by
 intro n
 induction n with
 | zero=>intro t _ cs x h; simp [DataW.trod] at h
 | succ n ih =>
  intro t ht cs x h hw
  have hok := List.all_eq_true.1 hS t ht
  unfold okT at hok
  simp only [Sh]
  split at hok
  ·rename_i hu
   obtain ⟨b,rfl⟩ := trod_bool_some hu h
   exact ⟨_,⟨b,rfl⟩,by simp [ay,Rep],by simp only [bI,PV.bulk]; exact hB.one _ _⟩
  ·rename_i k hu
   obtain ⟨m,rfl,hm⟩ := trod_int_some hu h
   exact ⟨_,⟨m,rfl,hm⟩,by simp [ay,Rep],by simp only [bI,PV.bulk]; exact hB.one _ _⟩
  ·rename_i hu
   obtain ⟨s,rfl,hx⟩ := trod_str_some hu h
   rw [hx] at hw
   simp only [DataW.weights,List.all_cons,List.all_nil,Bool.and_true,decide_eq_true_eq] at hw
   have hle : s.data.toList.length ≤ 2 ^ 47 := Nat.le_trans hw (by unfold reachBytes; omega)
   refine ⟨_,⟨s.data.toList,rfl,hle⟩,?_,by simp only [bI,PV.bulk]; rw [hx]; exact hB.str _ _⟩
   simp only [ay,Rep]
   exact ⟨_,[],rfl,⟨by simp,Nat.le_trans hle (by unfold fg; omega)⟩,rfl⟩
  ·rename_i e hu
   simp only [Bool.and_eq_true] at hok
   have he : e ∈ S := by simpa using hok.1
   obtain ⟨i,hi1,hi2,hi3⟩ := hinf e he
   rcases uA hu h with ⟨rfl,rfl⟩ | ⟨a,len,cap,elems,rest,rfl,hlc,hcm,hel,hre,hx⟩
   ·refine ⟨_,⟨[],rfl,by simp⟩,?_,by simp only [bI,PV.bulk,fV]; exact hB.one _ _⟩
    simp only [ay,Rep]
    exact ⟨_,[],rfl,⟨none,0,i,rfl,by simp,by simp,hi1,by simp,by simp⟩,rfl⟩
   ·have hlen : elems.length = len := by simpa using mapM_some_length hel
    have hrlen : rest.length = cap - len := by simpa using mapM_some_length hre
    rw [hx] at hw
    simp only [DataW.weights,hu,List.all_cons,List.all_append,zl,Bool.and_eq_true,decide_eq_true_eq] at hw
    have hpos : 0 < P.cellsOf e := by simpa [Nat.blt_eq] using hok.2
    have hget : ∀ j,j < elems.length → (W.cells? 0 (a.add (j * P.cellsOf e)) (P.cellsOf e)).bind (DataW.trod enc P W 0 (fun _=>true) true n e) = elems[j]? := fun j hj=>mapM_some_get hel j j (List.getElem?_range (by omega))
    have hsp : elems ≠ [] → a.spot = none := fun hne=>by
     have h0 := hget 0 (List.length_pos_iff.2 hne)
     rw [Nat.zero_mul] at h0
     cases hcs : W.cells? 0 (a.add 0) (P.cellsOf e) with
     | none=>rw [hcs] at h0; cases elems with
      | nil=>exact absurd rfl hne
      | cons _ _=>cases h0
     | some cs =>
      obtain ⟨_,hl,hc⟩ := World.cells?_some hcs
      have := hc 0 hpos
      cases hs : a.spot with
      | none=>rfl
      | some q =>
       have h1 : W.cell? ((a.add 0).add 0) = none := by
        simp only [World.cell?,Addr.add,hs,if_true]
        split <;> simp
       rw [h1] at this
       have := List.getElem?_eq_none_iff.1 this.symm
       omega
    have hby : len * i.bytes ≤ 2 ^ 47 := by
     have h1 := hw.1
     rw [hi2]
     have : len * P.bytesOf e ≤ (elems.length + rest.length) * P.bytesOf e := Nat.mul_le_mul_right _ (by omega)
     unfold reachBytes at h1
     omega
    by_cases hne : elems = []
    ·subst hne
     refine ⟨_,⟨[],rfl,by simp⟩,?_,by simp only [bI,PV.bulk,fV]; exact hB.one _ _⟩
     simp only [List.length_nil] at hlen
     subst hlen
     simp only [ay,Rep]
     exact ⟨_,[],rfl,⟨some a,cap,i,rfl,by simp,hcm,hi1,by simp,by simp⟩,rfl⟩
    ·obtain ⟨b,o,sp⟩ := a
     have := hsp hne
     simp only at this
     subst this
     obtain ⟨rows,hr1,hr2,hr3,hr4⟩ := absB_rows (B := B) (fun cs x hx hw=>ih e he cs x hx hw) elems 0 (fun j hj=>by rw [Nat.zero_add]; exact hget j hj) hw.2.1
     refine ⟨_,⟨rows,rfl,hr2⟩,?_,by simp only [bI,PV.bulk]; rw [hx]; exact Nat.le_trans (by omega) (hB.slice _ _ _)⟩
     simp only [ay,Rep]
     have hrl : rows.length = len := by omega
     rw [hrl]
     refine ⟨_,[],rfl,⟨some ⟨b,o,none⟩,cap,i,rfl,hlc,hcm,hi1,hby,fun _=>⟨b,o,rfl,?_⟩⟩,rfl⟩
     rw [hi3]
     simpa using hr3
  ·rename_i fs hu
   simp only [Bool.and_eq_true] at hok
   obtain ⟨hl,xs,hm,hx⟩ := ul hu h
   rw [hx] at hw
   simp only [DataW.weights,hu] at hw
   have hsum := Nat.eq_of_beq_eq_true hok.2
   obtain ⟨pvs,h1,h2,h3⟩ := tU (B := B) ih fs.toList 0 cs xs hok.1.1 hok.1.2 (by rw [hsum,hl]; omega) hm hw
   exact ⟨pvs,h1,by simpa using h2,by rw [hx]; exact Nat.le_trans h3 (hB.agg _ _)⟩
  ·cases hok
omit enc W S in
theorem argPV_bulk (hB : IsBulk B) (t : TypeId) (pvs : List PV) : (gP P t pvs).bulk ≤ max (bI pvs) 1 := by
 have _ := hB
 unfold gP
 split
 ·simp only [PV.bulk]; omega
 ·cases pvs with
  | nil=>simp [PV.bulk,bI]
  | cons p ps=>simp only [List.headD_cons,bI]; omega
theorem absB_val (hB : IsBulk B) (hS : S.all (okT P S) = true) (hinf : ∀ t ∈ S,∃ i,P.info? t = some i ∧ i.bytes = P.bytesOf t ∧ i.size = P.cellsOf t) {base : Nat} {t : TypeId} (ht : t ∈ S) {v : Value} {d : DataW H} {ps : List MemPlace}
  (hv : Value.okWide P W .any base t v) (h : DataW.Trod enc P W 0 (fun _=>true) true t v d ps) (hw : (d.weights P t).all (· ≤ reachBytes) = true) : ∃ n pvs,Sh P n t pvs ∧ Rep P (kr W) true (gP P t pvs) v ∧ (gP P t pvs).bulk ≤ B H d := by
 obtain ⟨n,hn⟩ := h
 obtain ⟨pvs,h1,h2,hb⟩ := absB hB hS hinf n t ht _ (d,ps) hn hw
 refine ⟨n,pvs,h1,?_,Nat.le_trans (argPV_bulk hB t pvs) (Nat.max_le.2 ⟨hb,hB.one _ _⟩)⟩
 have h2' := ay.slot h2
 have hok := List.all_eq_true.1 hS t ht
 unfold okT at hok
 unfold gP
 have one : v.cells = #[v] → Rep P (kr W) true (pvs.headD .any) v := by
  intro e
  rw [e] at h2'
  cases pvs with
  | nil=>simp [ay] at h2'
  | cons p ps =>
   simp only [ay] at h2'
   obtain ⟨x,xs,hx,hp,_⟩ := h2'
   simp only [List.cons.injEq] at hx
   rw [hx.1]
   exact hp
 cases hu : P.underlying t with
 | none=>rw [hu] at hok; cases hok
 | some td =>
  rw [hu] at hok
  cases td <;> first | (simp only [Bool.false_eq_true] at hok; done) | skip
  case bool=>obtain ⟨b,rfl⟩ := WideShapes.okWide_bool hu hv; exact one rfl
  case int k=>obtain ⟨m,rfl⟩ := WideShapes.okWide_int hu hv; exact one rfl
  case string=>obtain ⟨s,rfl⟩ := WideShapes.okWide_string hu hv; exact one rfl
  case slice e=>obtain ⟨a,len,cap,rfl⟩ := WideShapes.okWide_slice hu hv; exact one rfl
  case struct fs =>
   obtain ⟨cs,rfl,_⟩ := WideShapes.okWide_struct hu hv
   simp only [Rep]
   exact ⟨cs,rfl,h2'⟩
theorem absB_args (hB : IsBulk B) (hS : S.all (okT P S) = true) (hinf : ∀ t ∈ S,∃ i,P.info? t = some i ∧ i.bytes = P.bytesOf t ∧ i.size = P.cellsOf t) {base : Nat} : ∀ {ts : List TypeId} {vs : List Value} {ds : List (DataW H)} {ps : List MemPlace},(∀ t ∈ ts,t ∈ S) →
  (∀ (j : Nat) t v,ts[j]? = some t → vs[j]? = some v → Value.okWide P W .any base t v) → DataW.TrodAll enc P W 0 (fun _=>true) true ts vs ds ps → (DataW.weightsEach P ts ds).all (· ≤ reachBytes) = true →
  ∃ av0,ArgsSh P ts av0 ∧ ay P (kr W) true av0 vs ∧ bI av0 ≤ (ds.map (B H)).sum
 | [],_,_,_,_,_,h,_=>by
  obtain ⟨rfl,rfl,rfl⟩ := trodAll_nil h
  exact ⟨[],rfl,by simp [ay],by simp [bI]⟩
 | t :: ts,_,_,_,hm,hv,h,hw=>by
  obtain ⟨v,vs,d,ds,p,q,rfl,rfl,rfl,h1,h2⟩ := trodAll_cons h
  simp only [DataW.weightsEach,List.all_append,Bool.and_eq_true] at hw
  obtain ⟨n,pvs,a1,a2,a3⟩ := absB_val hB hS hinf (hm t (by simp)) (hv 0 t v rfl rfl) h1 hw.1
  obtain ⟨av0,b1,b2,b3⟩ := absB_args hB hS hinf (fun t ht=>hm t (by simp [ht])) (fun j t v ht hv'=>hv (j + 1) t v (by simpa using ht) (by simpa using hv')) h2 hw.2
  refine ⟨gP P t pvs :: av0,⟨n,pvs,av0,rfl,a1,b1⟩,?_,by simp only [bI,List.map_cons,List.sum_cons]; omega⟩
  simp only [ay]
  exact ⟨v,vs,rfl,a2,b2⟩
theorem law_callsB {N : Nat} (hB : IsBulk B) (hl : laidOutB P = true) {f : FuncId} {fn : Func} {s : ChangeSpec} {fresh handsOn again : Bool} {tb : TypeId} (hvars : s.vars = []) (hr : ∀ t ∈ fn.params.toList,P.readableRec t = true ∧ t < P.types.size) (hres : fn.resultTypes = #[tb]) (htb : P.underlying tb = some .bool)
  (hfn : ∀ ds : List (DataW H),ds.length = fn.params.toList.length → s.fn H ds = { results := [.lit (.bool true)],args := ds })
  (hS : S.all (okT P S) = true) (hinf : ∀ t ∈ S,∃ i,P.info? t = some i ∧ i.bytes = P.bytesOf t ∧ i.size = P.cellsOf t) (hm : ∀ t ∈ fn.params.toList,t ∈ S)
  (hspec : ∀ av0,ArgsSh P fn.params.toList av0 → bI av0 ≤ N → aI P f av0 (.val (.bool true)))
  {base : Nat} {args : Array Value} {ds gs : List (DataW H)} {before : List MemPlace} (hval : ∀ (j : Nat) t v,fn.params[j]? = some t → args[j]? = some v → Value.okWide P W .any base t v)
  (hW : DataW.Whole enc P fn.params.toList s.vars false W args.toList ds gs before) (hg : Gl W []) (hsz : (DataW.weightsEach P (fn.params.toList ++ s.plain.varTypes P) (ds ++ gs)).all (· ≤ reachBytes) = true) (hN : ((ds ++ gs).map (B H)).sum ≤ N) :
  Calls P f args W fun e W'=>∃ v,e = .returned v ∧ s.post enc P fn false fresh handsOn again W args v W' := by
 have hlt := hW.lt
 have hW' := hW
 obtain ⟨p,q,hA,hV,rfl,hz,hn⟩ := hW
 have hV' := hV
 rw [hvars] at hV
 obtain ⟨rfl,rfl⟩ := trodVars_none hV
 have hvt : s.plain.varTypes P = [] := by simp [DataSpec.varTypes,ChangeSpec.plain,hvars]
 rw [hvt,List.append_nil,List.append_nil] at hsz
 rw [List.append_nil] at hN
 have hlen : ds.length = fn.params.toList.length := ud hA
 obtain ⟨av0,h1,h2,h3⟩ := absB_args hB hS hinf hm (fun j t v ht hv=>hval j t v (by simpa using ht) (by simpa using hv)) hA hsz
 refine (hspec av0 h1 (Nat.le_trans h3 hN) W (kr W) [] hg args (InvH.start W hg) h2).mono ?_
 rintro e W' ⟨v,u,H',M',rfl,⟨rfl,rfl⟩,hi,hrep⟩
 simp only [Rep] at hrep
 subst hrep
 have hb := hi.below
 refine ⟨_,rfl,?_⟩
 have hfn' : s.fn H (ds ++ []) = { results := [.lit (.bool true)],args := ds } := by rw [List.append_nil]; exact hfn ds hlen
 have hargs : ∀ sp : Nat → Bool,(∀ x ∈ p ++ [],sp x.block = true) → DataW.TrodAll enc P W' 0 sp true fn.params.toList args.toList ds p := fun sp hsp =>
  rX hl hb hr hA (fun x hx=>hlt x (by simp [hx])) (fun x hx=>hsp x (by simp [hx]))
 have hres' : ∀ (b : Nat) (sp : Nat → Bool) (hd : Bool),DataW.TrodAll enc P W' b sp hd fn.resultTypes.toList ((Value.bool true).resultList fn.resultTypes.size) [.lit (.bool true)] [] := by
  intro b sp hd
  rw [hres]
  refine trodAll_mk1 ⟨1,?_⟩
  show DataW.trod enc P W' b sp hd 1 tb [.bool true] = _
  unfold DataW.trod
  rw [htb]
 have hvs : ∀ sp : Nat → Bool,DataW.TrodVars enc P W' sp s.vars ([] : List (DataW H)) [] := fun sp=>by rw [hvars]; simp [DataW.TrodVars]
 have hold : ∀ x ∈ p ++ [],(fun b=>decide (b < W.heap.size)) x.block = true := fun x hx=>by simpa using hlt x hx
 refine ⟨ds,[],p ++ [],[],p,[],hW',?_,?_,?_,hb.frame _,fun _=>⟨RowKit.ok_one hres rfl (RowKit.okWide_bool_mk htb true),[.lit (.bool true)] ++ ds,[],([] ++ p) ++ [],⟨[] ++ p,[],?_,hvs _,rfl,?_,fun h=>by cases h⟩,?_⟩⟩
 ·rw [hfn']; exact hres' _ _ _
 ·rw [hfn']; exact hargs _ hold
 ·rw [hfn']; exact hvs _
 ·exact trodAll_append (hargs _ fun _ _=>rfl) (hres' _ _ _)
 ·intro b off hx
  have hx' : MemPlace.cell b off ∈ p ++ [] := by simpa using hx
  rw [hb.frozen (hlt _ hx')]
  exact hz b off hx'
 ·intro x hx _
  simpa using hx
end
end
end Go.Ab

namespace Go.Ab
noncomputable section
open Go
theorem joined_of {P : Program} {f : FuncId} {fn : Func} {s : ChangeSpec} {c : OpenClaim}
  (h_wf : (c.wf (OpenSpec.ofChange s)) = true)
  (h_laid : (laidOutB P) = true)
  (h_mapsRowed : (mapsRowed P) = true)
  (h_rr : (fn.params.all (P.readableRec ·)) = true)
  (h_nt : (namedTie P c.named s.vars) = true)
  (h_st : ((c.stops == []) && (P.stops == []) && (c.knobs == []) && (P.stopKnobs == [])) = true)
  (h_inPlace : (c.inPlace == P.inPlace f) = true)
  (h_unf : (c.unfollowed == P.unfollowed f) = true)
  (h_rec : (c.recurses == P.recurses f) = true)
  (h_named : (c.named == P.varsNamed f) = true)
  (h_maps : ((c.maps == (fn.params.toList ++ s.plain.varTypes P).any (P.mapsRec ·)) && (c.ifaces == (fn.params.toList ++ s.plain.varTypes P).any (P.ifacesRec ·)) && (c.mapsOut == P.mapsAmong fn.resultTypes.toList)) = true)
  (h_loops : ((c.loops == (fn.params.toList ++ s.plain.varTypes P).any (P.loopsFrom ·))) = true)
  (h_wide : ((c.wideKeys == (fn.params.toList ++ s.plain.varTypes P ++ fn.resultTypes.toList).any (P.wideKeysFrom ·))) = true)
  (h_rest1 : (s.vars.all (P.varReadable ·) && fn.resultTypes.all (fun t=>P.readableRec t && decide (t < P.types.size)) && (c.ifacesOut == fn.resultTypes.toList.any (P.ifacesRec ·)) && (c.loopsOut == fn.resultTypes.toList.any (P.loopsFrom ·))) = true)
  (h_plainKeys : (c.plainKeys == P.plainKeys) = true)
  (h_rest2 : (c.shortTexts.isNone && P.stopsHeard && P.mayEnter && (c.lifted == P.liftsFinal) && (P.make == some c.make)) = true)
  (h_kinds : ((c.kinds == (if c.domain.isEmpty then [] else fn.params.toList.map fun t=>match P.underlying t with | some (.int k)=>some k | _=>none)) && (c.pinned == c.pinnedBy)) = true)
  (h_veil : ((c.veiled == (fn.params.toList ++ s.plain.varTypes P ++ fn.resultTypes.toList).any (P.veiledRec ·)) && c.veiledFits P fn.params.toList (fn.params.toList ++ s.plain.varTypes P ++ fn.resultTypes.toList)) = true)
  : joinedFacts P f fn s c = true := by
 simp only [Bool.and_eq_true] at h_st h_maps h_rest1 h_rest2 h_kinds h_veil
 simp only [joinedFacts,Bool.and_eq_true]
 exact ⟨⟨⟨⟨⟨⟨⟨⟨⟨⟨⟨⟨⟨⟨⟨⟨⟨⟨⟨⟨⟨⟨⟨⟨⟨⟨⟨⟨⟨⟨⟨h_wf,h_laid⟩,h_mapsRowed⟩,h_rr⟩,h_nt⟩,h_st.1.1.1⟩,h_st.1.1.2⟩,h_st.1.2⟩,h_st.2⟩,h_inPlace⟩,h_unf⟩,h_rec⟩,h_named⟩,h_maps.1.1⟩,h_maps.1.2⟩,h_maps.2⟩,h_loops⟩,h_wide⟩,h_rest1.1.1.1⟩,h_rest1.1.1.2⟩,h_rest1.1.2⟩,h_rest1.2⟩,h_plainKeys⟩,h_rest2.1.1.1.1⟩,h_rest2.1.1.1.2⟩,h_rest2.1.1.2⟩,h_rest2.1.2⟩,h_rest2.2⟩,h_kinds.1⟩,h_kinds.2⟩,h_veil.1⟩,h_veil.2⟩
end
end Go.Ab

namespace Go.Ab
noncomputable section
section
variable {P : Program} {ops : Array Oper} {rest : List Oper} {o : Oper} {n : Nat} {s s' : Nat → PV} {bx : Nat → Option Box} {ob : Nat → Option Obj} {K : PState → Prop} {T : TT}
abbrev lp (xs : List UInt8) : List (List PV) := xs.map fun c=>[.val (.int .u8 c.toNat)]
end
def af {α β : Type} (o : Option α) (k : α → Option β) : Option β := match o with
 | some a=>k a
 | none=>none
def bp {α β : Type} (a : α) (k : α → β) : β := k a
inductive Flow (σ ρ : Type) where
 | next (s : σ)
 | brk (s : σ)
 | ret (r : ρ)
def Flow.thenR {σ ρ : Type} (fl : Flow σ ρ) (k : σ → Option ρ) : Option ρ := match fl with
 | .next s=>k s
 | .brk s=>k s
 | .ret r=>some r
def Flow.thenF {σ τ ρ : Type} (fl : Flow σ ρ) (k : σ → Option (Flow τ ρ)) : Option (Flow τ ρ) := match fl with
 | .next s=>k s
 | .brk s=>k s
 | .ret r=>some (.ret r)
def aE {α σ ρ : Type} (step : Nat → α → σ → Option (Flow σ ρ)) : Nat → List α → σ → Option (Flow σ ρ)
 | _,[],s=>some (.next s)
 | j,x :: xs,s=>match step j x s with
  | none=>none
  | some (.next s')=>aE step (j + 1) xs s'
  | some (.brk s')=>some (.next s')
  | some (.ret r)=>some (.ret r)
def jz {σ ρ : Type} (step : σ → Option (Flow σ ρ)) : Nat → σ → Option (Flow σ ρ)
 | 0,_=>none
 | n + 1,s=>match step s with
  | none=>none
  | some (.next s')=>jz step n s'
  | some (.brk s')=>some (.next s')
  | some (.ret r)=>some (.ret r)
open Classical in
def fG {σ ρ : Type} (step : σ → Option (Flow σ ρ)) (s : σ) : Option (Flow σ ρ) :=
 if h : ∃ r,∃ n,jz step n s = some r then some h.choose else none
theorem iterM_le {σ ρ : Type} {step : σ → Option (Flow σ ρ)} : ∀ {n m : Nat} {s : σ} {r : Flow σ ρ},jz step n s = some r → n ≤ m → jz step m s = some r
 | 0,_,_,_,h,_=>by simp [jz] at h
 | n + 1,0,_,_,_,hm=>by omega
 | n + 1,m + 1,s,r,h,hm=>by
  simp only [jz] at h ⊢
  split at h
  ·cases h
  ·exact iterM_le h (by omega)
  ·exact h
  ·exact h
theorem whileM_iff {σ ρ : Type} {step : σ → Option (Flow σ ρ)} {s : σ} {r : Flow σ ρ} : fG step s = some r ↔ ∃ n,jz step n s = some r := by
 unfold fG
 constructor
 ·intro h
  split at h
  ·rename_i hx
   obtain ⟨n,hn⟩ := hx.choose_spec
   exact ⟨n,by rw [hn]; exact h⟩
  ·cases h
 ·rintro ⟨n,hn⟩
  have hx : ∃ r,∃ n,jz step n s = some r := ⟨r,n,hn⟩
  rw [dif_pos hx]
  obtain ⟨m,hm⟩ := hx.choose_spec
  have h1 := iterM_le hn (Nat.le_max_left n m)
  have h2 := iterM_le hm (Nat.le_max_right n m)
  rw [h1] at h2
  exact h2.symm
theorem lO {σ ρ : Type} {step : σ → Option (Flow σ ρ)} {s : σ} {fl r : Flow σ ρ} (h : step s = some fl) (hr : match fl with | .next s'=>fG step s' = some r | .brk s'=>r = .next s' | .ret x=>r = .ret x) : fG step s = some r := by
 rw [whileM_iff]
 cases fl with
 | next s' =>
  obtain ⟨n,hn⟩ := whileM_iff.1 hr
  exact ⟨n + 1,by simp only [jz,h,hn]⟩
 | brk s'=>exact ⟨1,by simp only [jz,h,hr]⟩
 | ret x=>exact ⟨1,by simp only [jz,h,hr]⟩
theorem ax {α β : Type} {o : Option α} {k : α → Option β} {r : β} (h : af o k = some r) : ∃ a,o = some a ∧ k a = some r := by
 cases o with
 | none=>cases h
 | some a=>exact ⟨a,rfl,h⟩
theorem cL {α β : Type} {a : α} {k : α → β} {r : β} (h : bp a k = r) : ∃ x,a = x ∧ k x = r := ⟨a,rfl,h⟩
theorem condT {α : Type} {c : Bool} {A B r : α} (h : c = true) (H : cond c A B = r) : A = r := by subst h; exact H
theorem condF {α : Type} {c : Bool} {A B r : α} (h : c = false) (H : cond c A B = r) : B = r := by subst h; exact H
theorem aH {P : Program} {fn : Func} {R : PV → Heap → Prop} {k : List KI} {st : PState} {c : Operand} {x y : Code} {b : Bool} (hc : evS st.s c = .val (.bool b)) {α : Type} {A B r : α} (H : (bif b then A else B) = r) (ht : A = r → V P fn R (.code x :: k) st) (hf : B = r → V P fn R (.code y :: k) st) : V P fn R (.code (.cond c x y) :: k) st := bg hc (fun h=>ht (Go.Ab.condT h H)) (fun h=>hf (Go.Ab.condF h H))
theorem bf {P : Program} {ops : Array Oper} {o : Oper} {rest : List Oper} {n : Nat} {s : Nat → PV} {bx : Nat → Option Box} {ob : Nat → Option Obj} {K : PState → Prop} {j : Nat} {want b : Bool} {d : Nat} (hg : o.guard = some (j,want)) (hd : (ops[j]?).bind (·.dst) = some d) (hs : s d = .val (.bool b)) {α : Type} {A B r : α} (H : cond b A B = r)
  (ht : A = r → Ao P ops (o :: rest) ⟨n,upd s d (.val (.bool true)),bx,ob⟩ K) (hf : B = r → Ao P ops (o :: rest) ⟨n,upd s d (.val (.bool false)),bx,ob⟩ K) : Ao P ops (o :: rest) ⟨n,s,bx,ob⟩ K := gw hg hd hs (fun h=>ht (condT h H)) (fun h=>hf (condF h H))
theorem Do.sH {P : Program} {T : TT} {rb : RB} {ops : Array Oper} {o : Oper} {k : Nat} {L : List Nat} {n : Nat} {s : Nat → PV} {bx : Nat → Option Box} {ob : Nat → Option Obj} {K : PState → Prop} {j : Nat} {want b : Bool} {d : Nat} (ho : ops[k]? = some o) (hg : o.guard = some (j,want)) (hd : (ops[j]?).bind (·.dst) = some d) (hs : s d = .val (.bool b)) {α : Type} {A B r : α} (H : cond b A B = r)
  (ht : A = r → Do P T rb ops (k :: L) ⟨n,upd s d (.val (.bool true)),bx,ob⟩ K) (hf : B = r → Do P T rb ops (k :: L) ⟨n,upd s d (.val (.bool false)),bx,ob⟩ K) : Do P T rb ops (k :: L) ⟨n,s,bx,ob⟩ K := nA ho hg hd hs (fun h=>ht (condT h H)) (fun h=>hf (condF h H))
theorem om {P : Program} {T : TT} {rb : RB} {ops : Array Oper} {o : Oper} {k : Nat} {L : List Nat} {n : Nat} {s : Nat → PV} {bx : Nat → Option Box} {ob : Nat → Option Obj} {K : PState → Prop} {j : Nat} {want b : Bool} {d : Nat} {α : Type} {A B r : α} (H : cond b A B = r) (ht : A = r → Do P T rb ops (k :: L) ⟨n,upd s d (.val (.bool true)),bx,ob⟩ K) (hf : B = r → Do P T rb ops (k :: L) ⟨n,upd s d (.val (.bool false)),bx,ob⟩ K) (ho : ops[k]? = some o := by exact rfl) (hg : o.guard = some (j,want) := by exact rfl) (hd : (ops[j]?).bind (·.dst) = some d := by exact rfl) (hs : s d = .val (.bool b) := by exact rfl) : Do P T rb ops (k :: L) ⟨n,s,bx,ob⟩ K := Do.sH ho hg hd hs H ht hf
theorem oq {σ τ ρ : Type} {r : ρ} {k : σ → Option (Flow τ ρ)} {x : Flow τ ρ} (h : Flow.thenF (.ret r) k = some x) : x = .ret r := (Option.some.inj h).symm
theorem aT {σ ρ : Type} {r x : ρ} {k : σ → Option ρ} (h : Flow.thenR (.ret r) k = some x) : r = x := Option.some.inj h
theorem aA {α : Type} {a b : α} (h : some a = some b) : a = b := Option.some.inj h
def nv {α σ ρ : Type} (step : Nat → α → σ → Option (Flow σ ρ)) (xs : List α) (j : Nat) (res : Flow σ ρ) : Flow σ ρ → Prop
 | .next s'=>aE step (j + 1) (xs.drop (j + 1)) s' = some res
 | .brk s'=>res = .next s'
 | .ret r=>res = .ret r
theorem rMc {α σ ρ : Type} {step : Nat → α → σ → Option (Flow σ ρ)} {xs : List α} {j : Nat} {s : σ} {res : Flow σ ρ} (hj : j < xs.length) (h : aE step j (xs.drop j) s = some res) :
  ∃ x fl,xs[j]? = some x ∧ step j x s = some fl ∧ nv step xs j res fl := by
 rw [List.drop_eq_getElem_cons hj,aE] at h
 refine ⟨xs[j],?_⟩
 split at h
 ·cases h
 ·rename_i s' hs; exact ⟨_,ze hj,hs,h⟩
 ·rename_i s' hs; exact ⟨_,ze hj,hs,(Option.some.inj h).symm⟩
 ·rename_i s' hs; exact ⟨_,ze hj,hs,(Option.some.inj h).symm⟩
theorem rMd {α σ ρ : Type} {step : Nat → α → σ → Option (Flow σ ρ)} {xs : List α} {j : Nat} {s : σ} {res : Flow σ ρ} (hj : xs.length ≤ j) (h : aE step j (xs.drop j) s = some res) : res = .next s := by
 rw [List.drop_eq_nil_of_le hj,aE] at h
 exact (Option.some.inj h).symm
def iterGo {σ ρ : Type} (step : σ → Option (Flow σ ρ)) (n : Nat) (res : Flow σ ρ) : Flow σ ρ → Prop
 | .next s'=>jz step n s' = some res
 | .brk s'=>res = .next s'
 | .ret r=>res = .ret r
theorem fD {σ ρ : Type} {step : σ → Option (Flow σ ρ)} {n : Nat} {s : σ} {res : Flow σ ρ} (h : jz step (n + 1) s = some res) : ∃ fl,step s = some fl ∧ iterGo step n res fl := by
 rw [jz] at h
 split at h
 ·cases h
 ·rename_i s' hs; exact ⟨_,hs,h⟩
 ·rename_i s' hs; exact ⟨_,hs,(Option.some.inj h).symm⟩
 ·rename_i s' hs; exact ⟨_,hs,(Option.some.inj h).symm⟩
section
variable {P : Program} {fn : Func} {R : PV → Heap → Prop} {k : List KI} {n : Nat} {s : Nat → PV} {bx : Nat → Option Box} {ob : Nat → Option Obj} {T : TT} {st : PState}
theorem fj {τ γ : Type} (J : τ → γ → PState) (Gd : τ → Prop) {c : Code} (h : V P fn R (.code c :: .stop (fun st'=>∃ t g,Gd t ∧ st' = J t g) :: k) st) (hk : ∀ t g,Gd t → V P fn R k (J t g)) :
  V P fn R (.code c :: k) st := by
 intro C M a w hi
 have := h C M a w hi
 simp only [after] at this ⊢
 refine wp_mono this ?_
 intro e a w he
 cases e with
 | normal =>
  obtain ⟨st',M',⟨t,g,hG,rfl⟩,hi'⟩ := he
  exact hk t g hG C M' a w hi'
 | _=>exact he
theorem aR {τ γ : Type} {J : τ → γ → PState} {Gd : τ → Prop} (t : τ) (g : γ) (hG : Gd t) (h : Gh P st (J t g)) : V P fn R (.stop (fun st'=>∃ t g,Gd t ∧ st' = J t g) :: k) st :=
 gS h (uU ⟨t,g,hG,rfl⟩)
theorem gG {τ γ β : Type} {x : Option τ} {f : τ → Option β} {r : β} (J : τ → γ → PState) {c : Code} (H : af x f = some r) (h : ∀ u,x = some u → V P fn R (.code c :: .stop (fun st'=>∃ t g,t = u ∧ st' = J t g) :: k) st)
  (hk : ∀ t g,f t = some r → V P fn R k (J t g)) : V P fn R (.code c :: k) st := by
 obtain ⟨u,h1,h2⟩ := ax H
 exact fj J (fun t=>t = u) (h u h1) (fun t g e=>hk t g (e ▸ h2))
theorem eQ {τ γ β : Type} {x : τ} {f : τ → β} {r : β} (J : τ → γ → PState) {c : Code} (H : bp x f = r) (h : ∀ u,x = u → V P fn R (.code c :: .stop (fun st'=>∃ t g,t = u ∧ st' = J t g) :: k) st)
  (hk : ∀ t g,f t = r → V P fn R k (J t g)) : V P fn R (.code c :: k) st := by
 obtain ⟨u,h1,h2⟩ := cL H
 exact fj J (fun t=>t = u) (h u h1) (fun t g e=>hk t g (e ▸ h2))
theorem hJ {α σ ρ γ : Type} {step : Nat → α → σ → Option (Flow σ ρ)} {xs : List α} {res : Flow σ ρ} (F : Nat → σ → γ → PState) {s₀ : σ} (g₀ : γ) {c : Code}
  (hres : aE step 0 xs s₀ = some res) (h₀ : Gh P st (F 0 s₀ g₀))
  (round : ∀ j s g,j ≤ xs.length → aE step j (xs.drop j) s = some res →
   V P fn R (.code c :: .stop (fun st'=>∃ s' g',(j + 1 ≤ xs.length ∧ aE step (j + 1) (xs.drop (j + 1)) s' = some res) ∧ st' = F (j + 1) s' g') :: k) (F j s g)) :
  V P fn R (.code (.loop c) :: k) st := by
 refine kg (X := Nat × σ × γ) (fun X=>F X.1 X.2.1 X.2.2) (fun X=>X.1 ≤ xs.length ∧ aE step X.1 (xs.drop X.1) X.2.1 = some res) (fun X=>xs.length - X.1) (0,s₀,g₀) ⟨Nat.zero_le _,by simpa using hres⟩ h₀ ?_
 rintro ⟨j,s,g⟩ ⟨h1,h2⟩
 have := round j s g h1 h2
 intro C M a w hi
 have h3 := this C M a w hi
 simp only [after] at h3 ⊢
 refine wp_mono h3 ?_
 intro e a w he
 cases e with
 | normal =>
  obtain ⟨st',M',⟨s',g',⟨h4,h5⟩,rfl⟩,hi'⟩ := he
  exact ⟨_,M',⟨(j + 1,s',g'),by show xs.length - (j + 1) < xs.length - j; omega,⟨h4,h5⟩,rfl⟩,hi'⟩
 | _=>exact he
theorem eu {σ γ : Type} {Q : σ → Prop} {F : σ → γ → PState} (s' : σ) (g' : γ) (hQ : Q s') (h : Gh P st (F s' g')) : V P fn R (.stop (fun st'=>∃ s' g',Q s' ∧ st' = F s' g') :: k) st :=
 gS h (uU ⟨s',g',hQ,rfl⟩)
theorem gR {σ ρ γ : Type} {step : σ → Option (Flow σ ρ)} {res : Flow σ ρ} (F : σ → γ → PState) {s₀ : σ} (g₀ : γ) {c : Code}
  (hres : fG step s₀ = some res) (h₀ : Gh P st (F s₀ g₀))
  (round : ∀ m s g,jz step (m + 1) s = some res → V P fn R (.code c :: .stop (fun st'=>∃ s' g',jz step m s' = some res ∧ st' = F s' g') :: k) (F s g)) :
  V P fn R (.code (.loop c) :: k) st := by
 obtain ⟨m,hm⟩ := whileM_iff.1 hres
 refine kg (X := Nat × σ × γ) (fun X=>F X.2.1 X.2.2) (fun X=>jz step X.1 X.2.1 = some res) (fun X=>X.1) (m,s₀,g₀) hm h₀ ?_
 rintro ⟨j,s,g⟩ h2
 cases j with
 | zero=>simp [jz] at h2
 | succ j =>
 have := round j s g h2
 intro C M a w hi
 have h3 := this C M a w hi
 simp only [after] at h3 ⊢
 refine wp_mono h3 ?_
 intro e a w he
 cases e with
 | normal =>
  obtain ⟨st',M',⟨s',g',h5,rfl⟩,hi'⟩ := he
  exact ⟨_,M',⟨(j,s',g'),Nat.lt_succ_self j,h5,rfl⟩,hi'⟩
 | _=>exact he
theorem Gh.cast (d : Nat) {p q : PV} (hs : s d = p) (h : PLe P p q) : Gh P ⟨n,s,bx,ob⟩ ⟨n,upd s d q,bx,ob⟩ := fun _ M _ _ hi =>
 ⟨M,⟨hi.1.1,hi.1.2.1,fun t=>by
  show Rep P M true (upd s d q t) _
  rw [dH]
  split
  ·rename_i e; subst e; have := hi.1.2.2 t; exact h M _ (hs ▸ this)
  ·exact hi.1.2.2 t⟩,hi.2⟩
end
section
variable {α : Type} {f f' : α → List PV}
theorem bj (hE : ∀ x,f' x = f x) {xs : List α} {j : Nat} {x : α} (h : xs[j]? = some x) : (xs.map f')[((j : Nat) : Int).toNat]? = some (f x) := by
 simp [h,hE]
theorem aO (hE : ∀ x,f' x = f x) {xs : List α} {i : Int} {x : α} (h : xs[i.toNat]? = some x) : (xs.map f')[i.toNat]? = some (f x) := by
 simp [h,hE]
theorem qG (hE : ∀ x,f' x = f x) (xs : List α) : xs.map f = xs.map f' := by
 apply List.map_congr_left
 intro x _
 exact (hE x).symm
theorem rm {xs ys : List α} {a b : Nat} (h : ys = (xs.take b).drop a) : ((xs.map f).take b).drop a = ys.map f := by rw [h]; simp
theorem mZ {xs : List α} {j : Nat} (h : decide ((j : Int) < ((xs.length : Nat) : Int)) = true) : j < xs.length := by simpa using h
theorem mS {xs : List α} {j : Nat} (h : decide ((j : Int) < ((xs.length : Nat) : Int)) = false) : xs.length ≤ j := by simpa using h
end
theorem fU.of_eq {P : Program} {a b : List (List PV)} (h : a = b) : fU P a b := h ▸ fU.refl a
theorem fU.trans {P : Program} {a b c : List (List PV)} (h : fU P a b) (h' : fU P b c) : fU P a c := ⟨h.1.trans h'.1,fun M k x o hx=>h'.2 M k x o (h.2 M k x o hx)⟩
def aJ {α : Type} (xs : List α) (i : Int) : Option α := if 0 ≤ i then xs[i.toNat]? else none
theorem gIs {α : Type} {xs : List α} {i : Int} {x : α} (h : aJ xs i = some x) : 0 ≤ i ∧ xs[i.toNat]? = some x := by
 unfold aJ at h
 split at h
 ·rename_i h0; exact ⟨h0,h⟩
 ·cases h
theorem bt {α β : Type} {xs : List α} {i : Int} {k : α → Option β} {r : β} (h : af (aJ xs i) k = some r) : ∃ a,(0 ≤ i ∧ xs[i.toNat]? = some a) ∧ k a = some r := by
 obtain ⟨a,h1,h2⟩ := ax h
 exact ⟨a,gIs h1,h2⟩
def oH {α : Type} (xs : List α) (a b : Int) : Option (List α) := if 0 ≤ a ∧ a ≤ b ∧ b ≤ xs.length then some ((xs.take b.toNat).drop a.toNat) else none
theorem qd {α : Type} {xs ys : List α} {a b : Int} (h : oH xs a b = some ys) : (0 ≤ a ∧ a ≤ b ∧ b ≤ xs.length) ∧ ys = (xs.take b.toNat).drop a.toNat := by
 unfold oH at h
 split at h
 ·rename_i h0; exact ⟨h0,(Option.some.inj h).symm⟩
 ·cases h
def kP (a b : List UInt8) : Option (List UInt8) := if a.length + b.length ≤ fg then some (a ++ b) else none
theorem lh {a b c : List UInt8} (h : kP a b = some c) : a.length + b.length ≤ fg ∧ c = a ++ b := by
 unfold kP at h
 split at h
 ·rename_i h0; exact ⟨h0,(Option.some.inj h).symm⟩
 ·cases h
def dh {α : Type} (bytes : Nat) (xs ys : List α) : Option (List α) := if (xs.length + ys.length) * bytes ≤ 2 ^ 47 ∧ xs.length + ys.length ≤ maxLen then some (xs ++ ys) else none
theorem cj {α : Type} {bytes : Nat} {xs ys zs : List α} (h : dh bytes xs ys = some zs) : (xs.length + ys.length) * bytes ≤ 2 ^ 47 ∧ xs.length + ys.length ≤ maxLen ∧ zs = xs ++ ys := by
 unfold dh at h
 split at h
 ·rename_i h0; exact ⟨h0.1,h0.2,(Option.some.inj h).symm⟩
 ·cases h
theorem dC {α β : Type} {f : α → β} {bytes : Nat} {xs ys : List α} (h : (xs.length + ys.length) * bytes ≤ 2 ^ 47) : ((xs.map f).length + (ys.map f).length) * bytes ≤ 2 ^ 47 := by simpa using h
theorem dy {α β : Type} {f : α → β} {xs ys : List α} (h : xs.length + ys.length ≤ maxLen) : (xs.map f).length + (ys.map f).length ≤ maxLen := by simpa using h
theorem dB {α β : Type} {f : α → β} {xs ys zs : List α} (h : zs = xs ++ ys) : xs.map f ++ ys.map f = zs.map f := by rw [h,List.map_append]
def Flow.thenP {σ β : Type} (fl : Flow σ Empty) (k : σ → Option β) : Option β := match fl with
 | .next s=>k s
 | .brk s=>k s
 | .ret r=>r.elim
theorem cP {σ β : Type} {fl : Flow σ Empty} {t : σ} {k : σ → Option β} {r : β} (h : fl = .next t) (H : fl.thenP k = some r) : k t = some r := by subst h; exact H
theorem pg {σ ρ : Type} {fl : Flow σ ρ} {t : σ} {k : σ → Option ρ} {r : ρ} (h : fl = .next t) (H : fl.thenR k = some r) : k t = some r := by subst h; exact H
theorem thenF_next {σ τ ρ : Type} {fl : Flow σ ρ} {t : σ} {k : σ → Option (Flow τ ρ)} {r : Flow τ ρ} (h : fl = .next t) (H : fl.thenF k = some r) : k t = some r := by subst h; exact H
section
variable {P : Program} {fn : Func} {R : PV → Heap → Prop} {k : List KI} {n : Nat} {s : Nat → PV} {bx : Nat → Option Box} {ob : Nat → Option Obj} {T : TT}
def nB {σ γ : Type} : σ → γ → Nat → Option Box := fun _ _ _=>none
def nO {σ γ : Type} : σ → γ → Nat → Option Obj := fun _ _ _=>none
theorem uW {α σ ρ γ β : Type} {step : Nat → α → σ → Option (Flow σ ρ)} {xs : List α} {s₀ : σ} {th : Flow σ ρ → Option β} {r : β} {rw : α → List PV}
  (hT : T.Ok P) (d : Nat) {e : TypeId} {ei : TInfo} (hei : T.get e = some ei) (hs : s d = .list e (xs.map rw))
  (S : σ → γ → Nat → PV) (B : σ → γ → Nat → Option Box) (O : σ → γ → Nat → Option Obj) (E : (Nat → PV) → Nat → σ → γ → Nat → PV) (g₀ : γ)
  {id rid : Nat} {ops : Array Oper} {o : Oper} {tst : Operand} {rest : Code} {S' : Nat → σ → γ → Nat → PV}
  (H : af (aE step 0 xs s₀) th = some r)
  (h₀ : Gh P ⟨n,s,bx,ob⟩ ⟨n,E (S s₀ g₀) 0 s₀ g₀,B s₀ g₀,O s₀ g₀⟩)
  (ho : ops.toList = [o])
  (hq : ∀ j s g,pe T ops n (E (S s g) j s g) (B s g) o = some (S' j s g))
  (ht : ∀ j s g,evS (S' j s g) tst = .val (.bool (decide ((j : Int) < ((xs.length : Nat) : Int)))))
  (hx : ∀ j s g,Gh P ⟨n,S' j s g,B s g,O s g⟩ ⟨n,S s g,B s g,O s g⟩)
  (round : ∀ fl,th fl = some r → ∀ j s g,xs.length ≤ maxLen → j < xs.length → ∀ x fb,xs[j]? = some x → step j x s = some fb → nv step xs j fl fb →
   V P fn R (.code rest :: .stop (fun st'=>∃ s' g',(j + 1 ≤ xs.length ∧ aE step (j + 1) (xs.drop (j + 1)) s' = some fl) ∧ st' = ⟨n,E (S s' g') (j + 1) s' g',B s' g',O s' g'⟩) :: .blk id :: .stop (fun st'=>∃ t g,fl = .next t ∧ st' = ⟨n,S t g,B t g,O t g⟩) :: k) ⟨n,S' j s g,B s g,O s g⟩)
  (hk : ∀ t g,th (.next t) = some r → V P fn R k ⟨n,S t g,B t g,O t g⟩) :
  V P fn R (.code (.block id (.loop (.seq (.region rid ops false) (.seq (.cond tst .skip (.exit id)) rest)))) :: k) ⟨n,s,bx,ob⟩ := by
 refine gm hT d hei hs (fun hz _=>?_)
 rw [zl] at hz
 obtain ⟨fl,h1,h2⟩ := ax H
 refine fj (fun t g=>⟨n,S t g,B t g,O t g⟩) (fun t=>fl = .next t) ?_ (fun t g e=>hk t g (by subst e; exact h2))
 refine av (hJ (fun j s g=>⟨n,E (S s g) j s g,B s g,O s g⟩) g₀ h1 h₀ (fun j s g hj hr=>?_))
 refine ab (aa ?_)
 rw [ho]
 refine ah hT (hq j s g) (ac ?_)
 refine ab (bg (ht j s g) (fun h=>?_) (fun h=>?_))
 ·have hl : j < xs.length := by simpa using h
  obtain ⟨x,fb,hx1,H,hg⟩ := rMc hl hr
  exact ap (round fl h2 j s g hz hl x fb hx1 H hg)
 ·have hn := rMd (by simpa using h) hr
  refine bh (k' := .stop (fun st'=>∃ t g,fl = .next t ∧ st' = ⟨n,S t g,B t g,O t g⟩) :: k) ?_ (aR s g hn (hx j s g))
  simp [nQ,Nat.beq_refl]
theorem uT {α σ γ β : Type} {step : Nat → α → σ → Option (Flow σ Empty)} {xs : List α} {s₀ : σ} {kk : σ → Option (β)} {r : β} {rw : α → List PV}
  (hT : T.Ok P) (d : Nat) {e : TypeId} {ei : TInfo} (hei : T.get e = some ei) (hs : s d = .list e (xs.map rw))
  (S : σ → γ → Nat → PV) (B : σ → γ → Nat → Option Box) (O : σ → γ → Nat → Option Obj) (E : (Nat → PV) → Nat → σ → γ → Nat → PV) (g₀ : γ)
  {id rid : Nat} {ops : Array Oper} {o : Oper} {tst : Operand} {rest : Code} {S' : Nat → σ → γ → Nat → PV}
  (H : af (aE step 0 xs s₀) (fun fl=>fl.thenP kk) = some r)
  (ho : ops.toList = [o])
  (h₀ : Gh P ⟨n,s,bx,ob⟩ ⟨n,E (S s₀ g₀) 0 s₀ g₀,B s₀ g₀,O s₀ g₀⟩)
  (hq : ∀ j s g,pe T ops n (E (S s g) j s g) (B s g) o = some (S' j s g))
  (ht : ∀ j s g,evS (S' j s g) tst = .val (.bool (decide ((j : Int) < ((xs.length : Nat) : Int)))))
  (hx : ∀ j s g,Gh P ⟨n,S' j s g,B s g,O s g⟩ ⟨n,S s g,B s g,O s g⟩)
  (round : ∀ fl,fl.thenP kk = some r → ∀ j s g,xs.length ≤ maxLen → j < xs.length → ∀ x fb,xs[j]? = some x → step j x s = some fb → nv step xs j fl fb →
   V P fn R (.code rest :: .stop (fun st'=>∃ s' g',(j + 1 ≤ xs.length ∧ aE step (j + 1) (xs.drop (j + 1)) s' = some fl) ∧ st' = ⟨n,E (S s' g') (j + 1) s' g',B s' g',O s' g'⟩) :: .blk id :: .stop (fun st'=>∃ t g,fl = .next t ∧ st' = ⟨n,S t g,B t g,O t g⟩) :: k) ⟨n,S' j s g,B s g,O s g⟩)
  (hk : ∀ t g,kk t = some r → V P fn R k ⟨n,S t g,B t g,O t g⟩) :
  V P fn R (.code (.block id (.loop (.seq (.region rid ops false) (.seq (.cond tst .skip (.exit id)) rest)))) :: k) ⟨n,s,bx,ob⟩ :=
 uW hT d hei hs S B O E g₀ H h₀ ho hq ht hx round (fun t g e=>hk t g e)
theorem vy {α σ γ β : Type} {step : Nat → α → σ → Option (Flow σ β)} {xs : List α} {s₀ : σ} {kk : σ → Option (β)} {r : β} {rw : α → List PV}
  (hT : T.Ok P) (d : Nat) {e : TypeId} {ei : TInfo} (hei : T.get e = some ei) (hs : s d = .list e (xs.map rw))
  (S : σ → γ → Nat → PV) (B : σ → γ → Nat → Option Box) (O : σ → γ → Nat → Option Obj) (E : (Nat → PV) → Nat → σ → γ → Nat → PV) (g₀ : γ)
  {id rid : Nat} {ops : Array Oper} {o : Oper} {tst : Operand} {rest : Code} {S' : Nat → σ → γ → Nat → PV}
  (H : af (aE step 0 xs s₀) (fun fl=>fl.thenR kk) = some r)
  (ho : ops.toList = [o])
  (h₀ : Gh P ⟨n,s,bx,ob⟩ ⟨n,E (S s₀ g₀) 0 s₀ g₀,B s₀ g₀,O s₀ g₀⟩)
  (hq : ∀ j s g,pe T ops n (E (S s g) j s g) (B s g) o = some (S' j s g))
  (ht : ∀ j s g,evS (S' j s g) tst = .val (.bool (decide ((j : Int) < ((xs.length : Nat) : Int)))))
  (hx : ∀ j s g,Gh P ⟨n,S' j s g,B s g,O s g⟩ ⟨n,S s g,B s g,O s g⟩)
  (round : ∀ fl,fl.thenR kk = some r → ∀ j s g,xs.length ≤ maxLen → j < xs.length → ∀ x fb,xs[j]? = some x → step j x s = some fb → nv step xs j fl fb →
   V P fn R (.code rest :: .stop (fun st'=>∃ s' g',(j + 1 ≤ xs.length ∧ aE step (j + 1) (xs.drop (j + 1)) s' = some fl) ∧ st' = ⟨n,E (S s' g') (j + 1) s' g',B s' g',O s' g'⟩) :: .blk id :: .stop (fun st'=>∃ t g,fl = .next t ∧ st' = ⟨n,S t g,B t g,O t g⟩) :: k) ⟨n,S' j s g,B s g,O s g⟩)
  (hk : ∀ t g,kk t = some r → V P fn R k ⟨n,S t g,B t g,O t g⟩) :
  V P fn R (.code (.block id (.loop (.seq (.region rid ops false) (.seq (.cond tst .skip (.exit id)) rest)))) :: k) ⟨n,s,bx,ob⟩ :=
 uW hT d hei hs S B O E g₀ H h₀ ho hq ht hx round (fun t g e=>hk t g e)
def eL {α : Type} (i m d : Nat) (ety : TypeId) (xs : List α) (rw : α → List PV) (e : Nat → PV) (j : Nat) : Nat → PV := upd (upd (upd e i (.val (.int .i64 (j : Int)))) m (.val (.int .i64 (xs.length : Int)))) d (.list ety (xs.map rw))
theorem gQ {α σ γ β : Type} {step : Nat → α → σ → Option (Flow σ Empty)} {xs : List α} {s₀ : σ} {kk : σ → Option (β)} {r : β} {rw : α → List PV}
  (hT : T.Ok P) (i m d : Nat) {e : TypeId} {ei : TInfo}
  (S : σ → γ → Nat → PV) (B : σ → γ → Nat → Option Box) (O : σ → γ → Nat → Option Obj) (g₀ : γ)
  {id rid : Nat} {ops : Array Oper} {o : Oper} {tst : Operand} {rest : Code} {S' : Nat → σ → γ → Nat → PV}
  (H : af (aE step 0 xs s₀) (fun fl=>fl.thenP kk) = some r)
  (round : ∀ fl,fl.thenP kk = some r → ∀ j s g,xs.length ≤ maxLen → j < xs.length → ∀ x fb,xs[j]? = some x → step j x s = some fb → nv step xs j fl fb →
   V P fn R (.code rest :: .stop (fun st'=>∃ s' g',(j + 1 ≤ xs.length ∧ aE step (j + 1) (xs.drop (j + 1)) s' = some fl) ∧ st' = ⟨n,eL i m d e xs rw (S s' g') (j + 1),B s' g',O s' g'⟩) :: .blk id :: .stop (fun st'=>∃ t g,fl = .next t ∧ st' = ⟨n,S t g,B t g,O t g⟩) :: k) ⟨n,S' j s g,B s g,O s g⟩)
  (hk : ∀ t g,kk t = some r → V P fn R k ⟨n,S t g,B t g,O t g⟩)
  (hs : s d = .list e (xs.map rw) := by exact rfl) (hei : T.get e = some ei := by exact rfl) (ho : ops.toList = [o] := by exact rfl)
  (h₀ : Gh P ⟨n,s,bx,ob⟩ ⟨n,eL i m d e xs rw (S s₀ g₀) 0,B s₀ g₀,O s₀ g₀⟩ := by exact Gh.d)
  (hq : ∀ j s g,pe T ops n (eL i m d e xs rw (S s g) j) (B s g) o = some (S' j s g) := by exact fun _ _ _=>rfl)
  (ht : ∀ j s g,evS (S' j s g) tst = .val (.bool (decide ((j : Int) < ((xs.length : Nat) : Int)))) := by exact fun _ _ _=>rfl)
  (hx : ∀ j s g,Gh P ⟨n,S' j s g,B s g,O s g⟩ ⟨n,S s g,B s g,O s g⟩ := by exact fun _ _ _=>Gh.d) :
  V P fn R (.code (.block id (.loop (.seq (.region rid ops false) (.seq (.cond tst .skip (.exit id)) rest)))) :: k) ⟨n,s,bx,ob⟩ :=
 uT hT d hei hs S B O (fun e j _ _=>eL i m d _ xs rw e j) g₀ H ho h₀ hq ht hx round hk
theorem fm {α σ γ β : Type} {step : Nat → α → σ → Option (Flow σ β)} {xs : List α} {s₀ : σ} {kk : σ → Option (β)} {r : β} {rw : α → List PV}
  (hT : T.Ok P) (i m d : Nat) {e : TypeId} {ei : TInfo}
  (S : σ → γ → Nat → PV) (B : σ → γ → Nat → Option Box) (O : σ → γ → Nat → Option Obj) (g₀ : γ)
  {id rid : Nat} {ops : Array Oper} {o : Oper} {tst : Operand} {rest : Code} {S' : Nat → σ → γ → Nat → PV}
  (H : af (aE step 0 xs s₀) (fun fl=>fl.thenR kk) = some r)
  (round : ∀ fl,fl.thenR kk = some r → ∀ j s g,xs.length ≤ maxLen → j < xs.length → ∀ x fb,xs[j]? = some x → step j x s = some fb → nv step xs j fl fb →
   V P fn R (.code rest :: .stop (fun st'=>∃ s' g',(j + 1 ≤ xs.length ∧ aE step (j + 1) (xs.drop (j + 1)) s' = some fl) ∧ st' = ⟨n,eL i m d e xs rw (S s' g') (j + 1),B s' g',O s' g'⟩) :: .blk id :: .stop (fun st'=>∃ t g,fl = .next t ∧ st' = ⟨n,S t g,B t g,O t g⟩) :: k) ⟨n,S' j s g,B s g,O s g⟩)
  (hk : ∀ t g,kk t = some r → V P fn R k ⟨n,S t g,B t g,O t g⟩)
  (hs : s d = .list e (xs.map rw) := by exact rfl) (hei : T.get e = some ei := by exact rfl) (ho : ops.toList = [o] := by exact rfl)
  (h₀ : Gh P ⟨n,s,bx,ob⟩ ⟨n,eL i m d e xs rw (S s₀ g₀) 0,B s₀ g₀,O s₀ g₀⟩ := by exact Gh.d)
  (hq : ∀ j s g,pe T ops n (eL i m d e xs rw (S s g) j) (B s g) o = some (S' j s g) := by exact fun _ _ _=>rfl)
  (ht : ∀ j s g,evS (S' j s g) tst = .val (.bool (decide ((j : Int) < ((xs.length : Nat) : Int)))) := by exact fun _ _ _=>rfl)
  (hx : ∀ j s g,Gh P ⟨n,S' j s g,B s g,O s g⟩ ⟨n,S s g,B s g,O s g⟩ := by exact fun _ _ _=>Gh.d) :
  V P fn R (.code (.block id (.loop (.seq (.region rid ops false) (.seq (.cond tst .skip (.exit id)) rest)))) :: k) ⟨n,s,bx,ob⟩ :=
 vy hT d hei hs S B O (fun e j _ _=>eL i m d _ xs rw e j) g₀ H ho h₀ hq ht hx round hk
end
def resT (s : Nat → PV) : List ResultVar → Option (List PV)
 | []=>some []
 | .tmp t :: l=>match resT s l with | some ps=>some (s t :: ps) | none=>none
 | .cell _ _ :: _=>none
section
variable {P : Program} {fn : Func} {R : PV → Heap → Prop} {k : List KI} {n : Nat} {s : Nat → PV} {bx : Nat → Option Box} {ob : Nat → Option Obj} {T : TT} {st : PState}
theorem resT_all : ∀ {l : List ResultVar} {ps : List PV},resT s l = some ps → mA T ⟨n,s,bx,ob⟩ l ps
 | [],ps,h=>by simp only [resT,zo] at h; exact h.symm
 | .tmp t :: l,ps,h=>by
  simp only [resT] at h
  split at h
  ·rename_i qs hq; cases h; exact ⟨_,_,rfl,rfl,resT_all hq⟩
  ·cases h
 | .cell _ _ :: _,ps,h=>by simp [resT] at h
theorem dT {α : Type} {x y : α} {ps : List PV} {r : PV} (hT : T.Ok P) (H : x = y) (h : resT s fn.results.toList = some ps) (he : x = y → nR ps = r := by intro e; subst e; rfl) :
  V P fn (fun u H=>u = r ∧ H = Heap.empty) (.code .ret :: k) ⟨n,s,bx,ob⟩ := bc hT rfl (resT_all h) (PLe.q (he H))
theorem aW {α : Type} {x y : α} {ps : List PV} {r : PV} (hT : T.Ok P) (H : some x = some y) (h : resT s fn.results.toList = some ps) (he : x = y → nR ps = r := by intro e; subst e; rfl) :
  V P fn (fun u H=>u = r ∧ H = Heap.empty) (.code .ret :: k) ⟨n,s,bx,ob⟩ := dT hT (aA H) h he
theorem uE {α : Type} {x y : α} {r p : PV} {a t tag b off : Nat} {ti : TInfo} {cells : List PV} (hT : T.Ok P) (H : x = y) (hr : fn.results = #[.cell a t]) (hti : T.get t = some ti) (hs : s a = .box tag b off) (hb : bx tag = some ⟨b,cells⟩) (hc : eE ti off cells = some p) (he : x = y → p = r := by intro e; subst e; rfl) :
  V P fn (fun u H=>u = r ∧ H = Heap.empty) (.code .ret :: k) ⟨n,s,bx,ob⟩ := bc hT hr (ps := [p]) ⟨_,_,rfl,⟨_,_,_,_,_,hti,hs,hb,hc⟩,rfl⟩ (PLe.q (he H))
theorem uJ {α : Type} {x y : α} {r p : PV} {a t tag b off : Nat} {ti : TInfo} {cells : List PV} (hT : T.Ok P) (H : some x = some y) (hr : fn.results = #[.cell a t]) (hti : T.get t = some ti) (hs : s a = .box tag b off) (hb : bx tag = some ⟨b,cells⟩) (hc : eE ti off cells = some p) (he : x = y → p = r := by intro e; subst e; rfl) :
  V P fn (fun u H=>u = r ∧ H = Heap.empty) (.code .ret :: k) ⟨n,s,bx,ob⟩ := uE hT (aA H) hr hti hs hb hc he
theorem bi {α σ ρ γ : Type} {step : Nat → α → σ → Option (Flow σ ρ)} {xs : List α} {j : Nat} {res fb : Flow σ ρ} {v : σ} {F : σ → γ → PState} (g' : γ) (H : some (Flow.next v) = some fb) (hl : j < xs.length) (hg : nv step xs j res fb) (h : Gh P st (F v g') := by exact Gh.d) :
  V P fn R (.stop (fun st'=>∃ s' g',(j + 1 ≤ xs.length ∧ aE step (j + 1) (xs.drop (j + 1)) s' = some res) ∧ st' = F s' g') :: k) st := by
 cases H
 exact eu v g' ⟨hl,hg⟩ h
end
def oa (n : Int) : Option Nat := if n ≤ 2 ^ 62 then some n.toNat else none
theorem nP {n : Int} {m : Nat} (h : oa n = some m) : n ≤ 2 ^ 62 ∧ m = n.toNat := by
 unfold oa at h
 split at h
 ·rename_i h0; exact ⟨h0,(Option.some.inj h).symm⟩
 ·cases h
section
variable {P : Program} {ops : Array Oper} {rest : List Oper} {o : Oper} {n : Nat} {s s' : Nat → PV} {bx : Nat → Option Box} {ob : Nat → Option Obj} {K : PState → Prop} {T : TT} {rb : RB} {k : Nat} {L : List Nat}
theorem mt (d : Nat) {p q : PV} (hs : s d = p) (h : PLe P p q) (hV : Ao P ops rest ⟨n,upd s d q,bx,ob⟩ K) : Ao P ops rest ⟨n,s,bx,ob⟩ K := cV (Gh.cast d hs h) hV
theorem Ao.lenL (hT : T.Ok P) (hg : aP ops s o = some true) {x : Operand} {t : TypeId} {ts : List TypeId} (ho : o.op = .call { callee := .builtin .len,args := #[x],argTypes := (t :: ts).toArray }) {ti : TInfo} {e' : TypeId} (hti : T.get t = some ti) (hd : ti.desc = .slice e')
  {e : TypeId} {rows : List (List PV)} (hx : evS s x = .list e rows) {m : Nat} (hm : rows.length = m) (hp : putD n s o.dst (.val (.int .i64 m)) = some s') (h : Ao P ops rest ⟨n,s',bx,ob⟩ K) : Ao P ops (o :: rest) ⟨n,s,bx,ob⟩ K := by
 refine ol hT hg (r := .val (.int .i64 m)) ?_ hp h
 rw [ho]
 simp [iP,pJ,hti,hd,hx,lenPV,hm]
theorem az {x : Operand} {t : TypeId} {ts : List TypeId} {ti : TInfo} {e' : TypeId} {e : TypeId} {rows : List (List PV)} {m : Nat} (hT : T.Ok P) (hm : rows.length = m) (h : Ao P ops rest ⟨n,s',bx,ob⟩ K) (hg : aP ops s o = some true := by exact rfl) (ho : o.op = .call { callee := .builtin .len,args := #[x],argTypes := (t :: ts).toArray } := by exact rfl) (hti : T.get t = some ti := by exact rfl) (hd : ti.desc = .slice e' := by exact rfl) (hx : evS s x = .list e rows := by exact rfl) (hp : putD n s o.dst (.val (.int .i64 m)) = some s' := by exact rfl) : Ao P ops (o :: rest) ⟨n,s,bx,ob⟩ K := Ao.lenL hT hg ho hti hd hx hm hp h
theorem Ao.lenO (hT : T.Ok P) (hg : aP ops s o = some true) {x : Operand} {t : TypeId} {ts : List TypeId} (ho : o.op = .call { callee := .builtin .len,args := #[x],argTypes := (t :: ts).toArray }) {ti : TInfo} {e' : TypeId} (hti : T.get t = some ti) (hd : ti.desc = .slice e')
  {tg l : Nat} {g : OwnRef} (hx : evS s x = .own tg g l) {m : Nat} (hm : l = m) (hp : putD n s o.dst (.val (.int .i64 m)) = some s') (h : Ao P ops rest ⟨n,s',bx,ob⟩ K) : Ao P ops (o :: rest) ⟨n,s,bx,ob⟩ K := by
 refine ol hT hg (r := .val (.int .i64 m)) ?_ hp h
 rw [ho]
 simp [iP,pJ,hti,hd,hx,lenPV,hm]
theorem kB {x : Operand} {t : TypeId} {ts : List TypeId} {ti : TInfo} {e' : TypeId} {tg l : Nat} {g : OwnRef} {m : Nat} (hT : T.Ok P) (hm : l = m) (h : Ao P ops rest ⟨n,s',bx,ob⟩ K) (hg : aP ops s o = some true := by exact rfl) (ho : o.op = .call { callee := .builtin .len,args := #[x],argTypes := (t :: ts).toArray } := by exact rfl) (hti : T.get t = some ti := by exact rfl) (hd : ti.desc = .slice e' := by exact rfl) (hx : evS s x = .own tg g l := by exact rfl) (hp : putD n s o.dst (.val (.int .i64 m)) = some s' := by exact rfl) : Ao P ops (o :: rest) ⟨n,s,bx,ob⟩ K := Ao.lenO hT hg ho hti hd hx hm hp h
theorem ve (ho : ops[k]? = some o) (hg : aP ops s o = some true) {x : Operand} {t : TypeId} {ts : List TypeId} (hop : o.op = .call { callee := .builtin .len,args := #[x],argTypes := (t :: ts).toArray }) {ti : TInfo} {e' : TypeId} (hti : T.get t = some ti) (hd : ti.desc = .slice e')
  {e : TypeId} {rows : List (List PV)} (hx : evS s x = .list e rows) {m : Nat} (hm : rows.length = m) (hp : putD n s o.dst (.val (.int .i64 m)) = some s') (h : Do P T rb ops L ⟨n,s',bx,ob⟩ K) : Do P T rb ops (k :: L) ⟨n,s,bx,ob⟩ K := by
 refine uH ho hg (by rw [hop]; rfl) (r := .val (.int .i64 m)) ?_ hp h
 rw [hop]
 simp [iv,iP,pJ,hti,hd,hx,lenPV,hm]
theorem uK (hT : T.Ok P) (hg : aP ops s o = some true) {t : TypeId} {x : Operand} {lo hi : Option Operand} (ho : o.op = .slice t x lo hi none) {ti : TInfo} {e : TypeId} (hti : T.get t = some ti) (hd : ti.desc = .slice e)
  {rows : List (List PV)} (hx : evS s x = .list e rows) {m : Nat} (hm : rows.length = m) {a b : Int} (ha : lk (lo.map (evS s)) 0 = some a) (hb : lk (hi.map (evS s)) m = some b) (hab : 0 ≤ a ∧ a ≤ b ∧ b ≤ m)
  {rows' : List (List PV)} (hr : (rows.take b.toNat).drop a.toNat = rows') (hp : putD n s o.dst (.list e rows') = some s') (h : Ao P ops rest ⟨n,s',bx,ob⟩ K) : Ao P ops (o :: rest) ⟨n,s,bx,ob⟩ K := by
 subst hm
 refine ol hT hg (r := .list e rows') ?_ hp h
 rw [ho]
 simp only [iP,hti,hd,hx,qY,Nat.beq_refl,zc,ha,hb]
 rw [zp hab,hr]
theorem Do.subL (ho : ops[k]? = some o) (hg : aP ops s o = some true) {t : TypeId} {x : Operand} {lo hi : Option Operand} (hop : o.op = .slice t x lo hi none) {ti : TInfo} {e : TypeId} (hti : T.get t = some ti) (hd : ti.desc = .slice e)
  {rows : List (List PV)} (hx : evS s x = .list e rows) {m : Nat} (hm : rows.length = m) {a b : Int} (ha : lk (lo.map (evS s)) 0 = some a) (hb : lk (hi.map (evS s)) m = some b) (hab : 0 ≤ a ∧ a ≤ b ∧ b ≤ m)
  {rows' : List (List PV)} (hr : (rows.take b.toNat).drop a.toNat = rows') (hp : putD n s o.dst (.list e rows') = some s') (h : Do P T rb ops L ⟨n,s',bx,ob⟩ K) : Do P T rb ops (k :: L) ⟨n,s,bx,ob⟩ K := by
 subst hm
 refine uH ho hg (by rw [hop]; rfl) (r := .list e rows') ?_ hp h
 rw [hop]
 simp only [iv,iP,hti,hd,hx,qY,Nat.beq_refl,zc,ha,hb]
 rw [zp hab,hr]
theorem nk (ho : ops[k]? = some o) (hg : aP ops s o = some true) {t t' : TypeId} {x y : Operand} (hop : o.op = .binOp .add t x y t') {a b : List UInt8} (hx : evS s x = .str a) (hy : evS s y = .str b) (hb : a.length + b.length ≤ fg) {c : List UInt8} (hc : c = a ++ b)
  (hp : putD n s o.dst (.str c) = some s') (h : Do P T rb ops L ⟨n,s',bx,ob⟩ K) : Do P T rb ops (k :: L) ⟨n,s,bx,ob⟩ K := by
 subst hc
 exact vp ho hg hop hx hy hb hp h
theorem Rep.rowsLe {M : Mem} {b : Bool} {e : TypeId} {rows rows' : List (List PV)} (h : fU P rows rows') {x : Value} (hx : Rep P M b (.list e rows) x) : Rep P M b (.list e rows') x := oG.list h M b x hx
theorem tX (hT : T.Ok P) {o : Oper} {ev : Operand → PV} {H : Heap} {x y : Operand} {t : TypeId} (ho : o.op = .call { callee := .builtin .append,args := #[x,y],argTypes := #[t,t] }) {ti ei : TInfo} {e : TypeId} (hti : T.get t = some ti) (hd : ti.desc = .slice e) (hei : T.get e = some ei)
  (hz : Nat.beq ei.zero.cells.size ei.size = true) (hsz : Nat.blt 0 ei.size = true) {tag : Nat} {g : OwnRef} {len : Nat} {rows rows2 rows2' rows' : List (List PV)} {wr : Bool} (hx : ev x = .own tag g len) (hob : H.ob tag = some ⟨g,e,rows,wr⟩) (hlen : len = rows.length) (hy : ev y = .list e rows2)
  (hle : fU P rows2 rows2') (hby : (rows.length + rows2'.length) * ei.bytes ≤ 2 ^ 47) (hmx : rows.length + rows2'.length ≤ maxLen) (heq : rows ++ rows2' = rows') {K : PV → Heap → Prop} (hk : ∀ g',K (.own tag g' rows'.length) ⟨H.bx,upd H.ob tag (some ⟨g',e,rows',wr⟩)⟩) : Eff P o ev H K := by
 subst heq
 classical
 have hxy : x ≠ y := fun e=>by subst e; rw [hx] at hy; cases hy
 intro C M a w next Q hi he hn
 have key := tZ (P := P) (o := o) (ev := fun z=>if z = y then PV.list e rows2' else ev z) (H := H) hT ho hti hd hei hz hsz (rows2 := rows2') (by simp [hxy,hx]) hob hlen (by simp) hby hmx (K := K) hk
 refine key C M a w next Q hi (fun z hz=>?_) hn
 by_cases hzy : z = y
 ·subst hzy
  simp only [if_true]
  have := he z hz
  rw [hy] at this
  exact Rep.rowsLe hle this
 ·simp only [hzy,if_false]
  exact he z hz
theorem cf (hT : T.Ok P) (hg : aP ops s o = some true) {x y : Operand} {t : TypeId} (ho : o.op = .call { callee := .builtin .append,args := #[x,y],argTypes := #[t,t] }) {d : Nat} (hdst : o.dst = some d) (hlt : Nat.blt d n = true) {ti ei : TInfo} {e : TypeId} (hti : T.get t = some ti) (hd : ti.desc = .slice e) (hei : T.get e = some ei)
  (hz : Nat.beq ei.zero.cells.size ei.size = true) (hsz : Nat.blt 0 ei.size = true) {tag : Nat} {g : OwnRef} {len : Nat} {rows rows2 rows2' rows' : List (List PV)} {wr : Bool} (hx : evS s x = .own tag g len) (hob : ob tag = some ⟨g,e,rows,wr⟩) (hlen : len = rows.length) (hy : evS s y = .list e rows2)
  (hle : fU P rows2 rows2') (hby : (rows.length + rows2'.length) * ei.bytes ≤ 2 ^ 47) (hmx : rows.length + rows2'.length ≤ maxLen) (heq : rows ++ rows2' = rows') (h : ∀ g',Ao P ops rest ⟨n,upd s d (.own tag g' rows'.length),bx,upd ob tag (some ⟨g',e,rows',wr⟩)⟩ K) : Ao P ops (o :: rest) ⟨n,s,bx,ob⟩ K :=
 ef hg (tX hT ho hti hd hei hz hsz hx hob hlen hy hle hby hmx heq fun g'=>⟨_,by simp [hdst,putD,hlt],h g'⟩)
theorem Ao.appendCQ {x y : Operand} {t : TypeId} {d : Nat} {ti ei : TInfo} {e : TypeId} {tag : Nat} {g : OwnRef} {len : Nat} {rows rows2 rows2' rows' : List (List PV)} {wr : Bool} (hT : T.Ok P) (hle : fU P rows2 rows2') (hby : (rows.length + rows2'.length) * ei.bytes ≤ 2 ^ 47) (hmx : rows.length + rows2'.length ≤ maxLen) (heq : rows ++ rows2' = rows') (h : ∀ g',Ao P ops rest ⟨n,upd s d (.own tag g' rows'.length),bx,upd ob tag (some ⟨g',e,rows',wr⟩)⟩ K) (hg : aP ops s o = some true := by exact rfl) (ho : o.op = .call { callee := .builtin .append,args := #[x,y],argTypes := #[t,t] } := by exact rfl) (hdst : o.dst = some d := by exact rfl) (hlt : Nat.blt d n = true := by exact rfl) (hti : T.get t = some ti := by exact rfl) (hd : ti.desc = .slice e := by exact rfl) (hei : T.get e = some ei := by exact rfl) (hz : Nat.beq ei.zero.cells.size ei.size = true := by exact rfl) (hsz : Nat.blt 0 ei.size = true := by exact rfl) (hx : evS s x = .own tag g len := by exact rfl) (hob : ob tag = some ⟨g,e,rows,wr⟩ := by exact rfl) (hlen : len = rows.length := by exact rfl) (hy : evS s y = .list e rows2 := by exact rfl) : Ao P ops (o :: rest) ⟨n,s,bx,ob⟩ K := cf hT hg ho hdst hlt hti hd hei hz hsz hx hob hlen hy hle hby hmx heq h
theorem mM (hT : T.Ok P) (ho : ops[k]? = some o) (hg : aP ops s o = some true) {x y : Operand} {t : TypeId} (hop : o.op = .call { callee := .builtin .append,args := #[x,y],argTypes := #[t,t] }) {d : Nat} (hdst : o.dst = some d) (hlt : Nat.blt d n = true) {ti ei : TInfo} {e : TypeId} (hti : T.get t = some ti) (hd : ti.desc = .slice e) (hei : T.get e = some ei)
  (hz : Nat.beq ei.zero.cells.size ei.size = true) (hsz : Nat.blt 0 ei.size = true) {tag : Nat} {g : OwnRef} {len : Nat} {rows rows2 rows2' rows' : List (List PV)} {wr : Bool} (hx : evS s x = .own tag g len) (hob : ob tag = some ⟨g,e,rows,wr⟩) (hlen : len = rows.length) (hy : evS s y = .list e rows2)
  (hle : fU P rows2 rows2') (hby : (rows.length + rows2'.length) * ei.bytes ≤ 2 ^ 47) (hmx : rows.length + rows2'.length ≤ maxLen) (heq : rows ++ rows2' = rows') (h : ∀ g',Do P T rb ops L ⟨n,upd s d (.own tag g' rows'.length),bx,upd ob tag (some ⟨g',e,rows',wr⟩)⟩ K) : Do P T rb ops (k :: L) ⟨n,s,bx,ob⟩ K := by
 refine ⟨o,ho,true,hg,?_⟩
 simp only [if_true,hop,dW]
 exact fun bx'=>tX hT hop hti hd hei hz hsz hx hob hlen hy hle hby hmx heq fun g'=>⟨rfl,_,by simp [hdst,putD,hlt],h g'⟩
theorem vo (hT : T.Ok P) (hg : aP ops s o = some true) {t e : TypeId} {m : Nat} {ps : Array (Nat × Operand)} (ho : o.op = .buildSlice t m ps) {ti : TInfo} (hti : T.get t = some ti) (hd : ti.desc = .slice e) {rows rows' : List (List PV)}
  (hr : kF T e m (gE (evS s) ps) = some rows) (hle : fU P rows rows') {d : Nat} (hdst : o.dst = some d) (hlt : Nat.blt d n = true) (h : Ao P ops rest ⟨n,upd s d (.list e rows'),bx,ob⟩ K) : Ao P ops (o :: rest) ⟨n,s,bx,ob⟩ K := by
 refine sq hT hg ho hti hd hr (s' := upd s d (.list e rows)) (by simp [hdst,putD,hlt]) (mt d (dt _ _ _) (PLe.of2 (oG.list hle)) ?_)
 have : upd (upd s d (PV.list e rows)) d (.list e rows') = upd s d (.list e rows') := by
  funext t
  simp only [dH]
  split <;> rfl
 rw [this]
 exact h
theorem bU {t e : TypeId} {m : Nat} {ps : Array (Nat × Operand)} {ti : TInfo} {rows rows' : List (List PV)} {d : Nat} (hT : T.Ok P) (hle : fU P rows rows') (h : Ao P ops rest ⟨n,upd s d (.list e rows'),bx,ob⟩ K) (hg : aP ops s o = some true := by exact rfl) (ho : o.op = .buildSlice t m ps := by exact rfl) (hti : T.get t = some ti := by exact rfl) (hd : ti.desc = .slice e := by exact rfl) (hr : kF T e m (gE (evS s) ps) = some rows := by exact rfl) (hdst : o.dst = some d := by exact rfl) (hlt : Nat.blt d n = true := by exact rfl) : Ao P ops (o :: rest) ⟨n,s,bx,ob⟩ K := vo hT hg ho hti hd hr hle hdst hlt h
end
section
variable {P : Program} {fn : Func} {R : PV → Heap → Prop} {ks : List KI} {n : Nat} {s : Nat → PV} {bx : Nat → Option Box} {ob : Nat → Option Obj} {T : TT}
end
section
variable {P : Program} {C : Ctx} {M : Mem} {H : Heap} {w : World}
theorem InvH.reobj (h : InvH P C M H w) {tag : Nat} {g : OwnRef} {e : TypeId} {rows rows' : List (List PV)} {wr : Bool} (hx : H.ob tag = some ⟨g,e,rows,wr⟩) (hl : rows'.map List.length = rows.map List.length) (hle : iK P rows.flatten rows'.flatten) :
  InvH P C M ⟨H.bx,upd H.ob tag (some ⟨g,e,rows',wr⟩)⟩ w := by
 have hlen : rows'.length = rows.length := by simpa using congrArg List.length hl
 have key : ∀ t y,upd H.ob tag (some ⟨g,e,rows',wr⟩) t = some y → (t = tag ∧ y = ⟨g,e,rows',wr⟩) ∨ H.ob t = some y := by
  intro t y hy
  rw [dH] at hy
  split at hy
  ·rename_i e; exact .inl ⟨e,(Option.some.inj hy).symm⟩
  ·exact .inr hy
 have same : ∀ t y,upd H.ob tag (some ⟨g,e,rows',wr⟩) t = some y → ∃ z,H.ob t = some z ∧ z.g = y.g := by
  intro t y hy
  rcases key t y hy with ⟨rfl,rfl⟩ | hy
  ·exact ⟨_,hx,rfl⟩
  ·exact ⟨y,hy,rfl⟩
 refine ⟨h.mem,h.ext,h.new,h.os,h.tape,h.output,h.size,h.frame,h.boxes,?_,h.dbox,?_,?_⟩
 ·intro t y hy
  rcases key t y hy with ⟨rfl,rfl⟩ | hy
  ·obtain ⟨i,h1,h2,h3,h4⟩ := h.objs _ _ hx
   simp only at h1 h2 h3 h4
   refine ⟨i,h1,?_,?_,?_⟩
   ·simpa only [hlen] using h2
   ·intro r hr
    have : r.length ∈ rows'.map List.length := List.mem_map.2 ⟨r,hr,rfl⟩
    rw [hl] at this
    obtain ⟨q,hq,e1⟩ := List.mem_map.1 this
    rw [← e1]
    exact h3 q hq
   ·rcases h4 with ⟨a,b,c⟩ | ⟨b,cur,h5,h6,h7,h8,h9,h10,h11,h12,h13,h14⟩
    ·refine .inl ⟨a,?_,c⟩
     rw [b] at hlen
     exact List.length_eq_zero_iff.1 hlen
    ·refine .inr ⟨b,cur,h5,h6,h7,h8,?_,h10,?_,?_,h13,?_⟩
     ·simpa only [hlen] using h9
     ·simp only [hlen]; exact hle M false _ h11
     ·simpa only [hlen] using h12
     ·simpa only [hlen] using h14
  ·exact h.objs t y hy
 ·intro t t' y y' b hy hy' hb hb'
  obtain ⟨z,hz,e1⟩ := same t y hy
  obtain ⟨z',hz',e1'⟩ := same t' y' hy'
  exact h.dobj t t' z z' b hz hz' (e1 ▸ hb) (e1' ▸ hb')
 ·intro t t' y y' hy hy' hb
  obtain ⟨z',hz',e1'⟩ := same t' y' hy'
  exact h.dmix t t' y z' hy hz' (e1' ▸ hb)
theorem InvH.cutO (h : InvH P C M H w) {tag : Nat} {g : OwnRef} {e : TypeId} {rows : List (List PV)} (hx : H.ob tag = some ⟨g,e,rows,true⟩) (k : Nat) :
  InvH P C M ⟨H.bx,upd H.ob tag (some ⟨g,e,rows.take k,true⟩)⟩ w := by
 have key : ∀ t y,upd H.ob tag (some ⟨g,e,rows.take k,true⟩) t = some y → (t = tag ∧ y = ⟨g,e,rows.take k,true⟩) ∨ H.ob t = some y := by
  intro t y hy
  rw [dH] at hy
  split at hy
  ·rename_i e; exact .inl ⟨e,(Option.some.inj hy).symm⟩
  ·exact .inr hy
 have same : ∀ t y,upd H.ob tag (some ⟨g,e,rows.take k,true⟩) t = some y → ∃ z,H.ob t = some z ∧ z.g = y.g := by
  intro t y hy
  rcases key t y hy with ⟨rfl,rfl⟩ | hy
  ·exact ⟨_,hx,rfl⟩
  ·exact ⟨y,hy,rfl⟩
 refine ⟨h.mem,h.ext,h.new,h.os,h.tape,h.output,h.size,h.frame,h.boxes,?_,h.dbox,?_,?_⟩
 ·intro t y hy
  rcases key t y hy with ⟨rfl,rfl⟩ | hy
  ·obtain ⟨i,h1,h2,h3,h4⟩ := h.objs _ _ hx
   simp only at h1 h2 h3 h4
   have hle : (rows.take k).length ≤ rows.length := by simp; omega
   refine ⟨i,h1,Nat.le_trans (Nat.mul_le_mul_right _ hle) h2,fun r hr=>h3 r (List.mem_of_mem_take hr),?_⟩
   rcases h4 with ⟨a,b,c⟩ | ⟨b,cur,h5,h6,h7,h8,h9,h10,h11,h12,h13,h14⟩
   ·exact .inl ⟨a,by simp [b],c⟩
   ·refine .inr ⟨b,cur,h5,h6,h7,h8,Nat.le_trans hle h9,h10,?_,?_,fun _=>h13 trivial,?_⟩
    ·have hflat : (rows.take k).flatten = rows.flatten.take ((rows.take k).length * i.size) := by
      have aux : ∀ (l : List (List PV)) (m : Nat),(∀ r ∈ l,r.length = i.size) → (l.take m).flatten = l.flatten.take ((l.take m).length * i.size) := by
       intro l
       induction l with
       | nil=>intro m _; simp
       | cons r l ih =>
        intro m hr
        cases m with
        | zero=>simp
        | succ m =>
         have h1 := hr r (by simp)
         have := ih m fun r hr'=>hr r (by simp [hr'])
         simp only [List.take_succ_cons,List.flatten_cons,List.length_cons]
         have e1 : ((l.take m).length + 1) * i.size = r.length + (l.take m).length * i.size := by rw [Nat.add_mul,h1]; omega
         rw [e1,List.take_length_add_append,this]
      exact aux rows k h3
     rw [hflat]
     have := h11.take ((rows.take k).length * i.size)
     rw [List.take_take,Nat.min_eq_left (Nat.mul_le_mul_right _ hle)] at this
     exact this
    ·intro v hv
     refine h12 v ?_
     have e1 : cur.toList.take ((rows.take k).length * i.size) = (cur.toList.take (rows.length * i.size)).take ((rows.take k).length * i.size) := by
      rw [List.take_take,Nat.min_eq_left (Nat.mul_le_mul_right _ hle)]
     rw [e1] at hv
     exact List.mem_of_mem_take hv
    ·intro o _
     exact h13 trivial o
  ·exact h.objs t y hy
 ·intro t t' y y' b hy hy' hb hb'
  obtain ⟨z,hz,e1⟩ := same t y hy
  obtain ⟨z',hz',e1'⟩ := same t' y' hy'
  exact h.dobj t t' z z' b hz hz' (e1 ▸ hb) (e1' ▸ hb')
 ·intro t t' y y' hy hy' hb
  obtain ⟨z',hz',e1'⟩ := same t' y' hy'
  exact h.dmix t t' y z' hy hz' (e1' ▸ hb)
end
theorem iK.of_eq {P : Program} {a b : List PV} (h : a = b) : iK P a b := h ▸ iK.refl a
theorem iK.trans {P : Program} {a b c : List PV} (h : iK P a b) (h' : iK P b c) : iK P a c := fun M s xs hx=>h' M s xs (h M s xs hx)
def pj (bytes : Nat) (n : Int) : Option Unit := if 0 ≤ n ∧ n.toNat * bytes ≤ 2 ^ 47 ∧ n.toNat ≤ maxLen then some () else none
theorem qZ {bytes : Nat} {n : Int} {u : Unit} (h : pj bytes n = some u) : 0 ≤ n ∧ n.toNat * bytes ≤ 2 ^ 47 ∧ n.toNat ≤ maxLen := by
 unfold pj at h
 split at h
 ·assumption
 ·cases h
section
variable {P : Program} {ops : Array Oper} {rest : List Oper} {o : Oper} {n : Nat} {s s' : Nat → PV} {bx : Nat → Option Box} {ob : Nat → Option Obj} {K : PState → Prop} {T : TT} {rb : RB} {k : Nat} {L : List Nat}
theorem um (hT : T.Ok P) (hg : aP ops s o = some true) {t t' : TypeId} {x : Operand} (ho : o.op = .binOp .eql t x (.const (.slice none 0 0)) t') {ti : TInfo} {e : TypeId} (hti : T.get t = some ti) (hd : ti.desc = .slice e) {e' : TypeId} {rows : List (List PV)} (hx : evS s x = .list e' rows) {d : Nat} (hdst : o.dst = some d) (hlt : Nat.blt d n = true)
  (h : ∀ b : Bool,(b = true → rows = []) → Ao P ops rest ⟨n,upd s d (.val (.bool b)),bx,ob⟩ K) : Ao P ops (o :: rest) ⟨n,s,bx,ob⟩ K := by
 refine ef hg (fun C M a w next Q hi he hn=>?_)
 have hxr := he x (by rw [ho]; simp [Op.operands])
 rw [show (⟨n,s,bx,ob⟩ : PState).s = s from rfl,hx] at hxr
 simp only [Rep] at hxr
 obtain ⟨ad,c,i,hv,_,_,_,_,hr⟩ := hxr
 have hu := (hT.get hti).und
 rw [hd] at hu
 have hrun : (execOp a.eval o).run P w = .ok (.value (.bool ad.isNone)) w := by
  have h1 := run_equal_slice_nil (P := P) w t e ad rows.length c hu
  have h2 : (eqGuard .eql t x (.const (.slice none 0 0)) (.slice ad rows.length c) (.slice none 0 0)).run P w = .ok () w := by unfold eqGuard; split <;> simp
  simp only [execOp,ho,hv,show a.eval (.const (.slice none 0 0)) = .slice none 0 0 from rfl,Sem.run_bind,h2,Result.andThen_ok,binOp,h1]
  rfl
 unfold Oper.wp
 rw [hrun]
 refine hn _ (.val (.bool ad.isNone)) ⟨bx,ob⟩ M w ⟨_,by simp [hdst,putD,hlt],h ad.isNone fun hb=>?_⟩ (Mem.le_refl M) hi (by simp only [Rep])
 cases rows with
 | nil=>rfl
 | cons r rows =>
  obtain ⟨b,o,e1,_⟩ := hr (by simp)
  rw [e1] at hb
  cases hb
theorem qQ (hT : T.Ok P) (hg : aP ops s o = some true) {t e : TypeId} {m : Nat} {ps : Array (Nat × Operand)} (ho : o.op = .buildSlice t m ps) {d : Nat} (hdst : o.dst = some d) (hlt : Nat.blt d n = true) {ti : TInfo} (hti : T.get t = some ti) (hd : ti.desc = .slice e) {rows rows' : List (List PV)}
  (hr : kF T e m (gE (evS s) ps) = some rows) (hl : rows'.map List.length = rows.map List.length) (hm : rows.length = m) (hle : iK P rows.flatten rows'.flatten) (h : ∀ g,Ao P ops rest ⟨n,upd s d (.own d g rows'.length),bx,upd ob d (some ⟨g,e,rows',true⟩)⟩ K) : Ao P ops (o :: rest) ⟨n,s,bx,ob⟩ K := by
 refine Ao.bsO hT hg ho hdst hlt hti hd hr fun g=>?_
 have hlen : rows'.length = m := by rw [← hm]; simpa using congrArg List.length hl
 have h' := h g
 rw [hlen] at h'
 refine cV (st' := ⟨n,upd s d (.own d g m),bx,upd ob d (some ⟨g,e,rows',true⟩)⟩) ?_ h'
 intro C M a w hi
 refine ⟨M,hi.1,?_⟩
 have := hi.2.reobj (tag := d) (rows' := rows') (dt _ _ _) hl hle
 simp only [PState.heap] at this ⊢
 have e2 : upd (upd ob d (some ⟨g,e,rows,true⟩)) d (some ⟨g,e,rows',true⟩) = upd ob d (some ⟨g,e,rows',true⟩) := by
  funext t
  simp only [dH]
  split <;> rfl
 rwa [e2] at this
theorem uZ (hT : T.Ok P) (hg : aP ops s o = some true) {x : Operand} {t : TypeId} {ts : List TypeId} (ho : o.op = .call { callee := .builtin .cap,args := #[x],argTypes := (t :: ts).toArray }) {ti : TInfo} {e : TypeId} (hti : T.get t = some ti) (hd : ti.desc = .slice e)
  (hx : evS s x = .val (.slice none 0 0)) (hp : putD n s o.dst (.val (.int .i64 0)) = some s') (h : Ao P ops rest ⟨n,s',bx,ob⟩ K) : Ao P ops (o :: rest) ⟨n,s,bx,ob⟩ K := by
 refine ef hg (fun C M a w next Q hi he hn=>?_)
 have hxr := he x (by rw [ho]; simp [Op.operands,Call.operands])
 rw [show (⟨n,s,bx,ob⟩ : PState).s = s from rfl,hx] at hxr
 simp only [Rep] at hxr
 have hu := (hT.get hti).und
 rw [hd] at hu
 have hrun : (execOp a.eval o).run P w = .ok (.value (.int .i64 0)) w := by
  simp only [execOp,ho,resolve,Sem.run_bind,Sem.run_pure,Result.andThen_ok,invoke,builtin,List.map_toArray,List.map_cons,List.map_nil,hxr]
  simp [Builtin.cap_,run_underlying hu,goInt]
 unfold Oper.wp
 rw [hrun]
 exact hn _ _ ⟨bx,ob⟩ M w ⟨s',hp,h⟩ (Mem.le_refl M) hi (by simp only [Rep])
theorem Ao.subN (hT : T.Ok P) (hg : aP ops s o = some true) {t : TypeId} {x y : Operand} (ho : o.op = .slice t x none (some y) none) {ti : TInfo} {e : TypeId} (hti : T.get t = some ti) (hd : ti.desc = .slice e) {ei : TInfo} (hei : T.get e = some ei)
  (hx : evS s x = .val (.slice none 0 0)) {kk : IntKind} (hy : evS s y = .val (.int kk 0)) (hp : putD n s o.dst (.val (.slice none 0 0)) = some s') (h : Ao P ops rest ⟨n,s',bx,ob⟩ K) : Ao P ops (o :: rest) ⟨n,s,bx,ob⟩ K := by
 refine ef hg (fun C M a w next Q hi he hn=>?_)
 have hxr := he x (by rw [ho]; simp [Op.operands])
 have hyr := he y (by rw [ho]; simp [Op.operands])
 rw [show (⟨n,s,bx,ob⟩ : PState).s = s from rfl,hx] at hxr
 rw [show (⟨n,s,bx,ob⟩ : PState).s = s from rfl,hy] at hyr
 simp only [Rep] at hxr hyr
 have hu := (hT.get hti).und
 rw [hd] at hu
 have hrun : (execOp a.eval o).run P w = .ok (.value (.slice none 0 0)) w := by
  simp only [execOp,ho,Sem.run_bind,Sem.run_pure,Option.map_some,Option.map_none,hxr,hyr]
  simp [Instr.sliceAt,Instr.slice,run_underlying hu,Instr.sliceBounds,Instr.sliceBound,asIntOf,(hT.get hei).rsize w]
 unfold Oper.wp
 rw [hrun]
 exact hn _ _ ⟨bx,ob⟩ M w ⟨s',hp,h⟩ (Mem.le_refl M) hi (by simp only [Rep])
theorem Ao.cutO (hT : T.Ok P) (hg : aP ops s o = some true) {t : TypeId} {x y : Operand} (ho : o.op = .slice t x none (some y) none) {ti : TInfo} {e : TypeId} (hti : T.get t = some ti) (hd : ti.desc = .slice e) {ei : TInfo} (hei : T.get e = some ei)
  {tag : Nat} {g : OwnRef} {len : Nat} {rows rows' : List (List PV)} (hx : evS s x = .own tag g len) (hob : ob tag = some ⟨g,e,rows,true⟩) (hlen : len = rows.length) {kk : IntKind} {m : Int} (hy : evS s y = .val (.int kk m)) (hm : 0 ≤ m ∧ m.toNat ≤ rows.length) (hr : rows.take m.toNat = rows') {d : Nat} (hdst : o.dst = some d) (hlt : Nat.blt d n = true)
  (h : Ao P ops rest ⟨n,upd s d (.own tag g rows'.length),bx,upd ob tag (some ⟨g,e,rows',true⟩)⟩ K) : Ao P ops (o :: rest) ⟨n,s,bx,ob⟩ K := by
 subst hlen
 subst hr
 refine ef hg (fun C M a w next Q hi he hn=>?_)
 have hxr := he x (by rw [ho]; simp [Op.operands])
 have hyr := he y (by rw [ho]; simp [Op.operands])
 rw [show (⟨n,s,bx,ob⟩ : PState).s = s from rfl,hx] at hxr
 rw [show (⟨n,s,bx,ob⟩ : PState).s = s from rfl,hy] at hyr
 simp only [Rep] at hxr hyr
 have hu := (hT.get hti).und
 rw [hd] at hu
 have hcap : rows.length ≤ g.cap := by
  obtain ⟨i,_,_,_,h4⟩ := hi.objs tag _ hob
  rcases h4 with ⟨_,b,_⟩ | ⟨_,_,_,_,_,_,h9,_⟩
  ·simp only at b; rw [b]; simp
  ·exact h9
 have hmc : m ≤ (g.cap : Int) := by omega
 have hl2 : (rows.take m.toNat).length = m.toNat := by simp; omega
 have hrun : (execOp a.eval o).run P w = .ok (.value (g.val (rows.take m.toNat).length)) w := by
  rw [hl2]
  simp only [execOp,ho,Sem.run_bind,Sem.run_pure,Option.map_some,Option.map_none,hxr.2,hyr,OwnRef.val]
  cases hb : g.blk with
  | none=>simp [Instr.sliceAt,Instr.slice,run_underlying hu,Instr.sliceBounds,Instr.sliceBound,asIntOf,(hT.get hei).rsize w,hm.1,hmc]
  | some b =>
   have e0 : (⟨b,0,none⟩ : Addr).add 0 = ⟨b,0,none⟩ := by rw [ez]
   simp [Instr.sliceAt,Instr.slice,run_underlying hu,Instr.sliceBounds,Instr.sliceBound,asIntOf,(hT.get hei).rsize w,hm.1,hmc,e0]
 unfold Oper.wp
 rw [hrun]
 exact hn _ (.own tag g (rows.take m.toNat).length) ⟨bx,upd ob tag (some ⟨g,e,rows.take m.toNat,true⟩)⟩ M w ⟨_,by simp [hdst,putD,hlt],h⟩ (Mem.le_refl M) (hi.cutO hob m.toNat) (by simp [Rep])
theorem uM (hT : T.Ok P) (hg : aP ops s o = some true) {x y : Operand} {t u : TypeId} (ho : o.op = .call { callee := .builtin .append,args := #[x,y],argTypes := #[t,u] }) {d : Nat} (hdst : o.dst = some d) (hlt : Nat.blt d n = true) {ti ui ei : TInfo} {e : TypeId} (hti : T.get t = some ti) (hd : ti.desc = .slice e) (hui : T.get u = some ui) (hud : ui.desc = .int .i64) (hei : T.get e = some ei)
  (hz : Nat.beq ei.zero.cells.size ei.size = true) (hsz : Nat.blt 0 ei.size = true) (_hf : PV.frozL (cM ei) = true) (h1 : (cM ei).all PV.one = true) (hx : evS s x = .val (.slice none 0 0)) {m : Int} (hy : evS s y = .val (.int .i64 m)) (hm : 0 < m) (hby : m.toNat * ei.bytes ≤ 2 ^ 47) (hmx : m.toNat ≤ maxLen)
  (h : ∀ g,Ao P ops rest ⟨n,upd s d (.own d g (List.replicate m.toNat (cM ei)).length),bx,upd ob d (some ⟨g,e,List.replicate m.toNat (cM ei),true⟩)⟩ K) : Ao P ops (o :: rest) ⟨n,s,bx,ob⟩ K := by
 refine ef hg (fun C M a w next Q hi he hn=>?_)
 have hxr := he x (by rw [ho]; simp [Op.operands,Call.operands])
 have hyr := he y (by rw [ho]; simp [Op.operands,Call.operands])
 rw [show (⟨n,s,bx,ob⟩ : PState).s = s from rfl,hx] at hxr
 rw [show (⟨n,s,bx,ob⟩ : PState).s = s from rfl,hy] at hyr
 simp only [Rep] at hxr hyr
 have hu := (hT.get hti).und
 rw [hd] at hu
 have hu2 := (hT.get hui).und
 rw [hud] at hu2
 have hu3 := (hT.get hei).und
 obtain ⟨i,hinf,hs,hbs,hzero⟩ := (hT.get hei).info
 have hz1 := Nat.eq_of_beq_eq_true hz
 have hsz' : 0 < i.size := by have : 0 < ei.size := by simpa [Nat.blt_eq] using hsz
                              omega
 obtain ⟨k,hk⟩ : ∃ k : Nat,k = m.toNat := ⟨_,rfl⟩
 rw [← hk] at hby hmx h
 have hkm : m = (k : Int) := by omega
 subst hkm
 have hk0 : 0 < k := by omega
 have hwrap : IntKind.i64.wrap (k : Int) = k := by
  simp only [IntKind.wrap,IntKind.bits,IntKind.signed]
  simp
  unfold maxLen at hmx
  omega
 have h63 : ¬ (9223372036854775807 < (k : Int)) := by unfold maxLen at hmx; omega
 have hby2 : k * i.bytes ≤ 140737488355328 := by rw [hbs]; exact hby
 have h48 : ¬ (281474976710656 < Builtin.nextslicecap k 0 * i.bytes) := by rw [nextslicecap_zero hk0]; omega
 have h48' : ¬ (281474976710656 < (k : Int) * (i.bytes : Int)) := by
  have : ((k * i.bytes : Nat) : Int) ≤ 140737488355328 := Int.ofNat_le.2 hby2
  rw [Int.natCast_mul] at this
  omega
 have hne : ¬ (k * i.size = 0) := by
  have := Nat.mul_pos hk0 hsz'
  omega
 have hrun : (Builtin.append_ #[t,u] o.type #[.slice none 0 0,.int .i64 k]).run P w = .ok (.slice (some ⟨w.heap.size,0,none⟩) k (grownCap w k 0 e)) (w.drew.alloc (.cells (Builtin.zeroCells ei.zero.cells k ++ Builtin.zeroCells ei.zero.cells (grownCap w k 0 e - k)) e)) := by
  have hk1 : k ≠ 0 := by omega
  have hk3 : ¬ ((k : Int) < 0) := by omega
  simp [Builtin.append_,run_underlying hu,run_underlying hu2,sizeOf,typeInfo,zeroValue,hinf,hzero,asInt,asIntOf,hwrap,hk1,hk3,h63,h48,h48',Question.forced,run_firstCells_none,newRow,grownCap]
  exact fun h0=>absurd h0 hne
 have hrun' : (execOp a.eval o).run P w = .ok (.value (.slice (some ⟨w.heap.size,0,none⟩) k (grownCap w k 0 e))) (w.drew.alloc (.cells (Builtin.zeroCells ei.zero.cells k ++ Builtin.zeroCells ei.zero.cells (grownCap w k 0 e - k)) e)) := by
  simp only [execOp,ho,resolve,Sem.run_bind,Sem.run_pure,Result.andThen_ok,invoke,builtin,List.map_toArray,List.map_cons,List.map_nil,hxr,hyr]
  rw [hrun]
  rfl
 unfold Oper.wp
 rw [hrun']
 have hge := grownCap_ge w k 0 e
 have hgm : grownCap w k 0 e ≤ maxLen := grownCap_le_maxLen w k 0 e hmx
 have hzl : (cM ei).length = i.size := by simp [cM,hz1,hs]
 have hzc : (Builtin.zeroCells ei.zero.cells k).toList = (List.replicate k ei.zero.cells.toList).flatten := by
  unfold Builtin.zeroCells
  exact mc ei.zero.cells k
 have hzs : (Builtin.zeroCells ei.zero.cells k).toList.length = k * i.size := by
  rw [hzc]; simp [hz1,hs]
 have hrep : ay P M false (List.replicate k (cM ei)).flatten (List.replicate k ei.zero.cells.toList).flatten := lP (lr _) k
 have htake : ((Builtin.zeroCells ei.zero.cells k ++ Builtin.zeroCells ei.zero.cells (grownCap w k 0 e - k)).toList.take ((List.replicate k (cM ei)).length * i.size)) = (List.replicate k ei.zero.cells.toList).flatten := by
  rw [List.length_replicate,Array.toList_append,← hzc]
  rw [← hzs]
  exact List.take_left
 refine hn _ (.own d ⟨some w.heap.size,grownCap w k 0 e⟩ (List.replicate k (cM ei)).length) _ M _ ⟨_,by simp [hdst,putD,hlt],h ⟨some w.heap.size,grownCap w k 0 e⟩⟩ (Mem.le_refl M)
  ((show InvH P C M ⟨bx,ob⟩ w.drew from hi.drew).alloc_obj d e (List.replicate k (cM ei)) true _ _ i hinf ?_ ?_ ?_ ?_ hgm ?_ ?_) ?_
 ·rw [List.length_replicate]; exact hby2
 ·intro r hr
  rw [List.eq_of_mem_replicate hr]
  exact hzl
 ·simp only [Array.size_append,size_zeroCells,hz1,← hs,← Nat.add_mul]
  congr 1
  omega
 ·rw [List.length_replicate]; exact hge
 ·rw [htake]; exact hrep
 ·rw [htake]
  refine ay.oneCell ?_ hrep
  rw [List.all_flatten]
  rw [List.all_eq_true]
  intro r hr
  rw [List.eq_of_mem_replicate hr]
  exact h1
 ·simp [Rep,OwnRef.val]
end
@[simp] theorem bPs {α β : Type} (a : α) (k : α → Option β) : af (some a) k = k a := rfl
@[simp] theorem bindP_none {α β : Type} (k : α → Option β) : af none k = none := rfl
@[simp] theorem bE {α β : Type} (a : α) (k : α → β) : bp a k = k a := rfl
@[simp] theorem bM {σ β : Type} (s : σ) (k : σ → Option β) : Flow.thenP (.next s) k = k s := rfl
@[simp] theorem jb {σ ρ : Type} (s : σ) (k : σ → Option ρ) : Flow.thenR (.next s) k = k s := rfl
@[simp] theorem oK {σ ρ : Type} (r : ρ) (k : σ → Option ρ) : Flow.thenR (.ret r) k = some r := rfl
@[simp] theorem thenF_nextS {σ τ ρ : Type} (s : σ) (k : σ → Option (Flow τ ρ)) : Flow.thenF (.next s) k = k s := rfl
@[simp] theorem thenF_retS {σ τ ρ : Type} (r : ρ) (k : σ → Option (Flow τ ρ)) : Flow.thenF (.ret r) k = some (.ret r) := rfl
theorem pr {α : Type} {bytes : Nat} {xs ys : List α} (h1 : (xs.length + ys.length) * bytes ≤ 2 ^ 47) (h2 : xs.length + ys.length ≤ maxLen) : dh bytes xs ys = some (xs ++ ys) := by
 unfold dh; rw [zp ⟨h1,h2⟩]
theorem lq {α : Type} {xs : List α} {i : Int} {x : α} (h0 : 0 ≤ i) (h : xs[i.toNat]? = some x) : aJ xs i = some x := by unfold aJ; rw [zp h0,h]
theorem ma {α : Type} {xs : List α} {j : Nat} {x : α} (h : xs[j]? = some x) : aJ xs (j : Int) = some x := lq (by omega) (by simpa using h)
theorem qI {α : Type} {xs : List α} {a b : Int} (h : 0 ≤ a ∧ a ≤ b ∧ b ≤ xs.length) : oH xs a b = some ((xs.take b.toNat).drop a.toNat) := by unfold oH; rw [zp h]
theorem rz {bytes : Nat} {n : Int} (h : 0 ≤ n ∧ n.toNat * bytes ≤ 2 ^ 47 ∧ n.toNat ≤ maxLen) : pj bytes n = some () := by unfold pj; rw [zp h]
theorem qc {n : Int} (h : n ≤ 2 ^ 62) : oa n = some n.toNat := by unfold oa; rw [zp h]
theorem eC {α σ ρ : Type} {step : Nat → α → σ → Option (Flow σ ρ)} (I : Nat → σ → Prop) (Q : ρ → Prop) :
  ∀ (xs : List α) (j : Nat) (s : σ),I j s → (∀ k x s,xs[k]? = some x → I (j + k) s → ∃ fl,step (j + k) x s = some fl ∧ (match fl with | .next s'=>I (j + k + 1) s' | .brk _=>False | .ret r=>Q r)) →
   ∃ fl,aE step j xs s = some fl ∧ (match fl with | .next s'=>I (j + xs.length) s' | .brk _=>False | .ret r=>Q r)
 | [],j,s,h,_=>⟨.next s,rfl,by simpa using h⟩
 | x :: xs,j,s,h,hs=>by
  obtain ⟨fl,h1,h2⟩ := hs 0 x s rfl (by simpa using h)
  rw [Nat.add_zero] at h1
  cases fl with
  | next s' =>
   obtain ⟨fl,h3,h4⟩ := eC I Q xs (j + 1) s' (by simpa using h2) (fun k y t hk hI=>by
    obtain ⟨fl,h5,h6⟩ := hs (k + 1) y t (by simpa using hk) (by rw [show j + (k + 1) = j + 1 + k from by omega]; exact hI)
    rw [show j + (k + 1) = j + 1 + k from by omega] at h5 h6
    exact ⟨fl,h5,h6⟩)
   refine ⟨fl,by rw [aE,h1]; exact h3,?_⟩
   rw [show j + (x :: xs).length = j + 1 + xs.length from by simp; omega]
   exact h4
  | brk s'=>exact absurd h2 (by simp)
  | ret r=>exact ⟨.ret r,by rw [aE,h1],h2⟩
theorem rMa {α σ ρ : Type} {step : Nat → α → σ → Option (Flow σ ρ)} {xs : List α} {s : σ} (S : Nat → σ) (h0 : S 0 = s) (hs : ∀ k x,xs[k]? = some x → step k x (S k) = some (.next (S (k + 1)))) : aE step 0 xs s = some (.next (S xs.length)) := by
 subst h0
 obtain ⟨fl,h1,h2⟩ := eC (step := step) (fun j s=>s = S j) (fun _=>False) xs 0 (S 0) rfl (fun k x s hk hI=>by
  simp only [Nat.zero_add] at hI
  subst hI
  exact ⟨_,by rw [Nat.zero_add]; exact hs k x hk,by simp⟩)
 cases fl with
 | next s'=>simp only [Nat.zero_add] at h2; rw [h1,h2]
 | brk s'=>exact absurd h2 (by simp)
 | ret r=>exact absurd h2 (by simp)
theorem rN {α β ρ : Type} {step : Nat → α → List β → Option (Flow (List β) ρ)} {xs : List α} (f : α → β) (hs : ∀ k x,xs[k]? = some x → step k x ((xs.take k).map f) = some (.next ((xs.take k).map f ++ [f x]))) :
  aE step 0 xs [] = some (.next (xs.map f)) := by
 have := rMa (step := step) (xs := xs) (fun k=>(xs.take k).map f) rfl (fun k x hk=>by
  rw [hs k x hk,List.take_add_one,hk]
  simp)
 simpa using this
theorem nM {α σ ρ : Type} {step : Nat → α → σ → Option (Flow σ ρ)} {xs : List α} {s : σ} (g : σ → α → σ) (hs : ∀ k x,xs[k]? = some x → step k x ((xs.take k).foldl g s) = some (.next (g ((xs.take k).foldl g s) x))) :
  aE step 0 xs s = some (.next (xs.foldl g s)) := by
 have := rMa (step := step) (xs := xs) (fun k=>(xs.take k).foldl g s) rfl (fun k x hk=>by
  rw [hs k x hk,List.take_add_one,hk,List.foldl_append]
  rfl)
 simpa using this
theorem lQ {α ρ : Type} {step : Nat → α → Unit → Option (Flow Unit ρ)} (p : α → Bool) (out : Nat → α → ρ) : ∀ (xs : List α) (j : Nat),(∀ k x,xs[k]? = some x → step (j + k) x () = some (if p x then .ret (out (j + k) x) else .next ())) →
  aE step j xs () = some (match xs.findIdx? p with | some i=>(match xs[i]? with | some x=>.ret (out (j + i) x) | none=>.next ()) | none=>.next ())
 | [],j,_=>rfl
 | x :: xs,j,hs=>by
  have h0 := hs 0 x rfl
  rw [Nat.add_zero] at h0
  rw [aE,h0,List.findIdx?_cons]
  cases hp : p x with
  | true=>simp
  | false =>
   simp only [Bool.false_eq_true,if_false]
   rw [lQ p out xs (j + 1) (fun k y hk=>by
    have := hs (k + 1) y (by simpa using hk)
    rw [show j + (k + 1) = j + 1 + k from by omega] at this
    exact this)]
   cases xs.findIdx? p with
   | none=>simp
   | some i =>
    simp only [Option.map_some,List.getElem?_cons_succ]
    rw [show j + 1 + i = j + (i + 1) from by omega]
section
variable {P : Program} {T : TT} {M : Mem}
end
def eO {α : Type} (p : Prop) [Decidable p] (a : α) : Option α := if p then some a else none
theorem de {α : Type} {p : Prop} [Decidable p] {a b : α} (h : eO p a = some b) : p ∧ a = b := by
 unfold eO at h
 split at h
 ·rename_i hp; exact ⟨hp,Option.some.inj h⟩
 ·cases h
@[simp] theorem cO {α : Type} {p : Prop} [Decidable p] {a : α} (h : p) : eO p a = some a := by unfold eO; rw [zp h]
end
end Go.Ab

namespace Go.Ab
noncomputable section
open Go.Proofs
def tS (d : TypeDesc) : TInfo := ⟨d,1,24,.slice none 0 0,[]⟩
def tP (d : TypeDesc) : TInfo := ⟨d,1,8,.pointer none,[]⟩
def tF (d : TypeDesc) : TInfo := ⟨d,1,8,.nilFunc,[]⟩
theorem tO {P : Program} {k : Nat} {v : TInfo} (i : TypeInfo) (h : P.info? k = some i) (e : (i.size,i.bytes,i.zero,v.eqf) = (v.size,v.bytes,some v.zero,[])) (u : P.underlying k = some v.desc) : v.Ok P k := by
 simp only [Prod.mk.injEq] at e
 exact ⟨⟨i,h,e.1,e.2.1,e.2.2.1⟩,u,fun hn=>absurd e.2.2.2 hn⟩
def ti38 : TInfo := ⟨Tryz.t38.desc,3,32,.agg #[.int .i64 0,.int .i64 0,.string ⟨#[]⟩],[(3,0),(3,1),(9,2)]⟩
def ti39 : TInfo := ⟨Tryz.t38.desc,3,32,.agg #[.int .i64 0,.int .i64 0,.string ⟨#[]⟩],[(3,0),(3,1),(9,2)]⟩
def ti51 : TInfo := ⟨Tryz.t50.desc,3,32,.agg #[.string ⟨#[]⟩,.int .i64 0,.bool false],[(9,0),(3,1),(4,2)]⟩
def ti127 : TInfo := ⟨Tryz.t126.desc,1,8,.agg #[.int .i64 0],[(3,0)]⟩
def ti174 : TInfo := ⟨Tryz.t173.desc,4,40,.agg #[.int .i64 0,.string ⟨#[]⟩,.int .i64 0,.int .i64 0],[(3,0),(9,1),(3,2),(3,3)]⟩
def ti296 : TInfo := ⟨Tryz.t295.desc,1,16,.agg #[.string ⟨#[]⟩],[(9,0)]⟩
theorem ti38_ok : ti38.Ok Tryz.prog 38 := ⟨⟨Tryz.t38,by kernel_rfl,rfl,rfl,rfl⟩,Tryz.underlying38,fun _=>⟨Tryz.stoodInHeld38,Tryz.eqGuardType38,by simp [cB,Program.fieldsOf,Tryz.underlying38,ti38],by kernel_rfl⟩⟩
theorem ti39_ok : ti39.Ok Tryz.prog 39 := ⟨⟨Tryz.t39,by kernel_rfl,rfl,rfl,rfl⟩,Tryz.underlying39,fun _=>⟨Tryz.stoodInHeld39,Tryz.eqGuardType39,by simp [cB,Program.fieldsOf,Tryz.underlying39,ti39],by kernel_rfl⟩⟩
theorem ti51_ok : ti51.Ok Tryz.prog 51 := ⟨⟨Tryz.t51,by kernel_rfl,rfl,rfl,rfl⟩,Tryz.underlying51,fun _=>⟨Tryz.stoodInHeld51,Tryz.eqGuardType51,by simp [cB,Program.fieldsOf,Tryz.underlying51,ti51],by kernel_rfl⟩⟩
theorem ti127_ok : ti127.Ok Tryz.prog 127 := ⟨⟨Tryz.t127,by kernel_rfl,rfl,rfl,rfl⟩,Tryz.underlying127,fun _=>⟨Tryz.stoodInHeld127,Tryz.eqGuardType127,by simp [cB,Program.fieldsOf,Tryz.underlying127,ti127],by kernel_rfl⟩⟩
theorem ti174_ok : ti174.Ok Tryz.prog 174 := ⟨⟨Tryz.t174,by kernel_rfl,rfl,rfl,rfl⟩,Tryz.underlying174,fun _=>⟨Tryz.stoodInHeld174,Tryz.eqGuardType174,by simp [cB,Program.fieldsOf,Tryz.underlying174,ti174],by kernel_rfl⟩⟩
theorem ti296_ok : ti296.Ok Tryz.prog 296 := ⟨⟨Tryz.t296,by kernel_rfl,rfl,rfl,rfl⟩,Tryz.underlying296,fun _=>⟨Tryz.stoodInHeld296,Tryz.eqGuardType296,by simp [cB,Program.fieldsOf,Tryz.underlying296,ti296],by kernel_rfl⟩⟩
def tt : TT := (.node 120 ⟨Tryz.t120.desc,1,8,.int .u64 0,[]⟩ (.node 41 ⟨Tryz.t40.desc,7,88,.agg #[.int .i64 0,.string ⟨#[]⟩,.int .i64 0,.int .i64 0,.int .i64 0,.string ⟨#[]⟩,.slice none 0 0],[]⟩ (.node 26 ⟨Tryz.t25.desc,3,72,.agg #[.slice none 0 0,.slice none 0 0,.slice none 0 0],[]⟩ (.node 20 ⟨Tryz.t20.desc,1,16,.nilIface,[]⟩ (.node 4 ⟨Tryz.t4.desc,1,1,.bool false,[]⟩ (.node 2 ⟨Tryz.t2.desc,1,8,.int .i64 0,[]⟩ (.node 1 (tF Tryz.t1.desc) .leaf .leaf) (.node 3 ⟨Tryz.t3.desc,1,8,.int .i64 0,[]⟩ .leaf .leaf)) (.node 9 ⟨Tryz.t9.desc,1,16,.string ⟨#[]⟩,[]⟩ (.node 5 ⟨Tryz.t5.desc,1,1,.int .u8 0,[]⟩ .leaf .leaf) .leaf)) (.node 23 (tS Tryz.t23.desc) (.node 22 (tS Tryz.t22.desc) (.node 21 ⟨Tryz.t21.desc,1,4,.int .i32 0,[]⟩ .leaf .leaf) .leaf) (.node 25 ⟨Tryz.t25.desc,3,72,.agg #[.slice none 0 0,.slice none 0 0,.slice none 0 0],[]⟩ (.node 24 (tS Tryz.t24.desc) .leaf .leaf) .leaf))) (.node 32 (tS Tryz.t32.desc) (.node 29 (tS Tryz.t29.desc) (.node 28 (tS Tryz.t27.desc) (.node 27 (tS Tryz.t27.desc) .leaf .leaf) .leaf) (.node 31 (tS Tryz.t31.desc) (.node 30 (tS Tryz.t30.desc) .leaf .leaf) .leaf)) (.node 36 (tS Tryz.t36.desc) (.node 35 ⟨Tryz.t34.desc,9,160,.agg #[.int .i64 0,.string ⟨#[]⟩,.slice none 0 0,.slice none 0 0,.slice none 0 0,.slice none 0 0,.int .i64 0,.int .i64 0,.slice none 0 0],[]⟩ (.node 33 (tS Tryz.t33.desc) .leaf .leaf) .leaf) (.node 39 ti39 (.node 38 ti38 .leaf .leaf) .leaf)))) (.node 74 (tF Tryz.t74.desc) (.node 56 (tS Tryz.t56.desc) (.node 51 ti51 (.node 44 (tS Tryz.t44.desc) (.node 43 (tS Tryz.t43.desc) .leaf .leaf) (.node 46 ⟨Tryz.t45.desc,2,48,.agg #[.slice none 0 0,.slice none 0 0],[]⟩ .leaf .leaf)) (.node 53 ⟨Tryz.t3.desc,1,8,.int .i64 0,[]⟩ (.node 52 (tF Tryz.t52.desc) .leaf .leaf) .leaf)) (.node 65 ⟨Tryz.t64.desc,3,64,.agg #[.string ⟨#[]⟩,.slice none 0 0,.slice none 0 0],[]⟩ (.node 61 (tS Tryz.t36.desc) (.node 58 ⟨Tryz.t57.desc,4,64,.agg #[.slice none 0 0,.slice none 0 0,.bool false,.int .i64 0],[]⟩ .leaf .leaf) .leaf) (.node 68 ⟨Tryz.t67.desc,2,40,.agg #[.string ⟨#[]⟩,.slice none 0 0],[]⟩ (.node 66 (tF Tryz.t66.desc) .leaf .leaf) .leaf))) (.node 101 (tF Tryz.t101.desc) (.node 84 (tF Tryz.t84.desc) (.node 81 (tF Tryz.t81.desc) (.node 77 ⟨Tryz.t77.desc,1,8,.map none,[]⟩ .leaf .leaf) .leaf) (.node 93 (tP Tryz.t93.desc) (.node 90 (tF Tryz.t90.desc) .leaf .leaf) .leaf)) (.node 110 (tS Tryz.t110.desc) (.node 109 ⟨Tryz.t109.desc,2,48,.agg #[.slice none 0 0,.slice none 0 0],[]⟩ (.node 108 (tF Tryz.t108.desc) .leaf .leaf) .leaf) (.node 115 (tF Tryz.t115.desc) (.node 112 (tF Tryz.t112.desc) .leaf .leaf) .leaf))))) (.node 216 (tF Tryz.t216.desc) (.node 159 (tF Tryz.t159.desc) (.node 147 (tF Tryz.t147.desc) (.node 135 ⟨Tryz.t134.desc,8,192,.agg #[.slice none 0 0,.slice none 0 0,.slice none 0 0,.slice none 0 0,.slice none 0 0,.slice none 0 0,.slice none 0 0,.slice none 0 0],[]⟩ (.node 125 ⟨Tryz.t124.desc,3,40,.agg #[.slice none 0 0,.int .i64 0,.int .i64 0],[]⟩ (.node 121 (tS Tryz.t121.desc) .leaf .leaf) (.node 127 ti127 .leaf .leaf)) (.node 143 ⟨Tryz.t142.desc,3,56,.agg #[.string ⟨#[]⟩,.slice none 0 0,.string ⟨#[]⟩],[]⟩ (.node 140 ⟨Tryz.t139.desc,3,56,.agg #[.string ⟨#[]⟩,.string ⟨#[]⟩,.slice none 0 0],[]⟩ .leaf .leaf) .leaf)) (.node 155 ⟨Tryz.t155.desc,8,8,.agg #[.bool false,.bool false,.bool false,.bool false,.bool false,.bool false,.bool false,.bool false],[]⟩ (.node 150 (tF Tryz.t150.desc) (.node 149 ⟨Tryz.t148.desc,7,80,.agg #[.string ⟨#[]⟩,.int .i64 0,.string ⟨#[]⟩,.int .i64 0,.int .i64 0,.int .i64 0,.string ⟨#[]⟩],[]⟩ .leaf .leaf) .leaf) (.node 157 (tF Tryz.t157.desc) (.node 156 (tF Tryz.t156.desc) .leaf .leaf) .leaf))) (.node 172 ⟨Tryz.t172.desc,1,8,.int .u64 0,[]⟩ (.node 166 (tF Tryz.t166.desc) (.node 165 (tF Tryz.t165.desc) (.node 162 ⟨Tryz.t3.desc,1,8,.int .i64 0,[]⟩ .leaf .leaf) .leaf) (.node 170 ⟨Tryz.t170.desc,1,4,.int .u32 0,[]⟩ (.node 168 (tF Tryz.t168.desc) .leaf .leaf) .leaf)) (.node 183 (tF Tryz.t183.desc) (.node 181 (tP Tryz.t181.desc) (.node 174 ti174 .leaf .leaf) .leaf) (.node 192 ⟨Tryz.t191.desc,5,120,.agg #[.slice none 0 0,.slice none 0 0,.slice none 0 0,.slice none 0 0,.slice none 0 0],[]⟩ (.node 185 ⟨Tryz.t184.desc,4,96,.agg #[.slice none 0 0,.slice none 0 0,.slice none 0 0,.slice none 0 0],[]⟩ .leaf .leaf) .leaf)))) (.node 261 ⟨Tryz.t261.desc,20,160,.agg #[.int .u64 0,.int .u64 0,.int .u64 0,.int .u64 0,.int .u64 0,.int .u64 0,.int .u64 0,.int .u64 0,.int .u64 0,.int .u64 0,.int .u64 0,.int .u64 0,.int .u64 0,.int .u64 0,.int .u64 0,.int .u64 0,.int .u64 0,.int .u64 0,.int .u64 0,.int .u64 0],[]⟩ (.node 233 ⟨Tryz.t233.desc,24,24,.agg #[.int .u8 0,.int .u8 0,.int .u8 0,.int .u8 0,.int .u8 0,.int .u8 0,.int .u8 0,.int .u8 0,.int .u8 0,.int .u8 0,.int .u8 0,.int .u8 0,.int .u8 0,.int .u8 0,.int .u8 0,.int .u8 0,.int .u8 0,.int .u8 0,.int .u8 0,.int .u8 0,.int .u8 0,.int .u8 0,.int .u8 0,.int .u8 0],[]⟩ (.node 228 (tS Tryz.t228.desc) (.node 222 (tS Tryz.t222.desc) (.node 217 (tF Tryz.t217.desc) .leaf .leaf) .leaf) (.node 232 (tF Tryz.t232.desc) (.node 230 (tS Tryz.t230.desc) .leaf .leaf) .leaf)) (.node 240 ⟨Tryz.t239.desc,1,16,.nilIface,[]⟩ (.node 238 (tF Tryz.t238.desc) (.node 236 (tF Tryz.t236.desc) .leaf .leaf) .leaf) (.node 247 (tF Tryz.t247.desc) (.node 244 (tF Tryz.t244.desc) .leaf .leaf) .leaf))) (.node 282 ⟨Tryz.t282.desc,64,64,.agg #[.int .u8 0,.int .u8 0,.int .u8 0,.int .u8 0,.int .u8 0,.int .u8 0,.int .u8 0,.int .u8 0,.int .u8 0,.int .u8 0,.int .u8 0,.int .u8 0,.int .u8 0,.int .u8 0,.int .u8 0,.int .u8 0,.int .u8 0,.int .u8 0,.int .u8 0,.int .u8 0,.int .u8 0,.int .u8 0,.int .u8 0,.int .u8 0,.int .u8 0,.int .u8 0,.int .u8 0,.int .u8 0,.int .u8 0,.int .u8 0,.int .u8 0,.int .u8 0,.int .u8 0,.int .u8 0,.int .u8 0,.int .u8 0,.int .u8 0,.int .u8 0,.int .u8 0,.int .u8 0,.int .u8 0,.int .u8 0,.int .u8 0,.int .u8 0,.int .u8 0,.int .u8 0,.int .u8 0,.int .u8 0,.int .u8 0,.int .u8 0,.int .u8 0,.int .u8 0,.int .u8 0,.int .u8 0,.int .u8 0,.int .u8 0,.int .u8 0,.int .u8 0,.int .u8 0,.int .u8 0,.int .u8 0,.int .u8 0,.int .u8 0,.int .u8 0],[]⟩ (.node 271 ⟨Tryz.t3.desc,1,8,.int .i64 0,[]⟩ (.node 268 (tF Tryz.t268.desc) (.node 263 (tF Tryz.t263.desc) .leaf .leaf) .leaf) (.node 281 ⟨Tryz.t281.desc,32,32,.agg #[.int .u8 0,.int .u8 0,.int .u8 0,.int .u8 0,.int .u8 0,.int .u8 0,.int .u8 0,.int .u8 0,.int .u8 0,.int .u8 0,.int .u8 0,.int .u8 0,.int .u8 0,.int .u8 0,.int .u8 0,.int .u8 0,.int .u8 0,.int .u8 0,.int .u8 0,.int .u8 0,.int .u8 0,.int .u8 0,.int .u8 0,.int .u8 0,.int .u8 0,.int .u8 0,.int .u8 0,.int .u8 0,.int .u8 0,.int .u8 0,.int .u8 0,.int .u8 0],[]⟩ (.node 274 (tP Tryz.t274.desc) .leaf .leaf) .leaf)) (.node 293 (tP Tryz.t293.desc) (.node 290 (tF Tryz.t290.desc) (.node 287 ⟨Tryz.t286.desc,3,48,.agg #[.string ⟨#[]⟩,.string ⟨#[]⟩,.nilIface],[]⟩ .leaf .leaf) .leaf) (.node 296 ti296 (.node 294 (tP Tryz.t294.desc) .leaf .leaf) .leaf))))))
theorem tk : tt.Ok Tryz.prog := ⟨tO Tryz.t120 (by kernel_rfl) rfl Tryz.underlying120,⟨tO Tryz.t41 (by kernel_rfl) rfl Tryz.underlying41,⟨tO Tryz.t26 (by kernel_rfl) rfl Tryz.underlying26,⟨tO Tryz.t20 (by kernel_rfl) rfl Tryz.underlying20,⟨tO Tryz.t4 (by kernel_rfl) rfl Tryz.underlying4,⟨tO Tryz.t2 (by kernel_rfl) rfl Tryz.underlying2,⟨tO Tryz.t1 (by kernel_rfl) rfl Tryz.underlying1,trivial,trivial⟩,⟨tO Tryz.t3 (by kernel_rfl) rfl Tryz.underlying3,trivial,trivial⟩⟩,⟨tO Tryz.t9 (by kernel_rfl) rfl Tryz.underlying9,⟨tO Tryz.t5 (by kernel_rfl) rfl Tryz.underlying5,trivial,trivial⟩,trivial⟩⟩,⟨tO Tryz.t23 (by kernel_rfl) rfl Tryz.underlying23,⟨tO Tryz.t22 (by kernel_rfl) rfl Tryz.underlying22,⟨tO Tryz.t21 (by kernel_rfl) rfl Tryz.underlying21,trivial,trivial⟩,trivial⟩,⟨tO Tryz.t25 (by kernel_rfl) rfl Tryz.underlying25,⟨tO Tryz.t24 (by kernel_rfl) rfl Tryz.underlying24,trivial,trivial⟩,trivial⟩⟩⟩,⟨tO Tryz.t32 (by kernel_rfl) rfl Tryz.underlying32,⟨tO Tryz.t29 (by kernel_rfl) rfl Tryz.underlying29,⟨tO Tryz.t28 (by kernel_rfl) rfl Tryz.underlying28,⟨tO Tryz.t27 (by kernel_rfl) rfl Tryz.underlying27,trivial,trivial⟩,trivial⟩,⟨tO Tryz.t31 (by kernel_rfl) rfl Tryz.underlying31,⟨tO Tryz.t30 (by kernel_rfl) rfl Tryz.underlying30,trivial,trivial⟩,trivial⟩⟩,⟨tO Tryz.t36 (by kernel_rfl) rfl Tryz.underlying36,⟨tO Tryz.t35 (by kernel_rfl) rfl Tryz.underlying35,⟨tO Tryz.t33 (by kernel_rfl) rfl Tryz.underlying33,trivial,trivial⟩,trivial⟩,⟨ti39_ok,⟨ti38_ok,trivial,trivial⟩,trivial⟩⟩⟩⟩,⟨tO Tryz.t74 (by kernel_rfl) rfl Tryz.underlying74,⟨tO Tryz.t56 (by kernel_rfl) rfl Tryz.underlying56,⟨ti51_ok,⟨tO Tryz.t44 (by kernel_rfl) rfl Tryz.underlying44,⟨tO Tryz.t43 (by kernel_rfl) rfl Tryz.underlying43,trivial,trivial⟩,⟨tO Tryz.t46 (by kernel_rfl) rfl Tryz.underlying46,trivial,trivial⟩⟩,⟨tO Tryz.t53 (by kernel_rfl) rfl Tryz.underlying53,⟨tO Tryz.t52 (by kernel_rfl) rfl Tryz.underlying52,trivial,trivial⟩,trivial⟩⟩,⟨tO Tryz.t65 (by kernel_rfl) rfl Tryz.underlying65,⟨tO Tryz.t61 (by kernel_rfl) rfl Tryz.underlying61,⟨tO Tryz.t58 (by kernel_rfl) rfl Tryz.underlying58,trivial,trivial⟩,trivial⟩,⟨tO Tryz.t68 (by kernel_rfl) rfl Tryz.underlying68,⟨tO Tryz.t66 (by kernel_rfl) rfl Tryz.underlying66,trivial,trivial⟩,trivial⟩⟩⟩,⟨tO Tryz.t101 (by kernel_rfl) rfl Tryz.underlying101,⟨tO Tryz.t84 (by kernel_rfl) rfl Tryz.underlying84,⟨tO Tryz.t81 (by kernel_rfl) rfl Tryz.underlying81,⟨tO Tryz.t77 (by kernel_rfl) rfl Tryz.underlying77,trivial,trivial⟩,trivial⟩,⟨tO Tryz.t93 (by kernel_rfl) rfl Tryz.underlying93,⟨tO Tryz.t90 (by kernel_rfl) rfl Tryz.underlying90,trivial,trivial⟩,trivial⟩⟩,⟨tO Tryz.t110 (by kernel_rfl) rfl Tryz.underlying110,⟨tO Tryz.t109 (by kernel_rfl) rfl Tryz.underlying109,⟨tO Tryz.t108 (by kernel_rfl) rfl Tryz.underlying108,trivial,trivial⟩,trivial⟩,⟨tO Tryz.t115 (by kernel_rfl) rfl Tryz.underlying115,⟨tO Tryz.t112 (by kernel_rfl) rfl Tryz.underlying112,trivial,trivial⟩,trivial⟩⟩⟩⟩⟩,⟨tO Tryz.t216 (by kernel_rfl) rfl Tryz.underlying216,⟨tO Tryz.t159 (by kernel_rfl) rfl Tryz.underlying159,⟨tO Tryz.t147 (by kernel_rfl) rfl Tryz.underlying147,⟨tO Tryz.t135 (by kernel_rfl) rfl Tryz.underlying135,⟨tO Tryz.t125 (by kernel_rfl) rfl Tryz.underlying125,⟨tO Tryz.t121 (by kernel_rfl) rfl Tryz.underlying121,trivial,trivial⟩,⟨ti127_ok,trivial,trivial⟩⟩,⟨tO Tryz.t143 (by kernel_rfl) rfl Tryz.underlying143,⟨tO Tryz.t140 (by kernel_rfl) rfl Tryz.underlying140,trivial,trivial⟩,trivial⟩⟩,⟨tO Tryz.t155 (by kernel_rfl) rfl Tryz.underlying155,⟨tO Tryz.t150 (by kernel_rfl) rfl Tryz.underlying150,⟨tO Tryz.t149 (by kernel_rfl) rfl Tryz.underlying149,trivial,trivial⟩,trivial⟩,⟨tO Tryz.t157 (by kernel_rfl) rfl Tryz.underlying157,⟨tO Tryz.t156 (by kernel_rfl) rfl Tryz.underlying156,trivial,trivial⟩,trivial⟩⟩⟩,⟨tO Tryz.t172 (by kernel_rfl) rfl Tryz.underlying172,⟨tO Tryz.t166 (by kernel_rfl) rfl Tryz.underlying166,⟨tO Tryz.t165 (by kernel_rfl) rfl Tryz.underlying165,⟨tO Tryz.t162 (by kernel_rfl) rfl Tryz.underlying162,trivial,trivial⟩,trivial⟩,⟨tO Tryz.t170 (by kernel_rfl) rfl Tryz.underlying170,⟨tO Tryz.t168 (by kernel_rfl) rfl Tryz.underlying168,trivial,trivial⟩,trivial⟩⟩,⟨tO Tryz.t183 (by kernel_rfl) rfl Tryz.underlying183,⟨tO Tryz.t181 (by kernel_rfl) rfl Tryz.underlying181,⟨ti174_ok,trivial,trivial⟩,trivial⟩,⟨tO Tryz.t192 (by kernel_rfl) rfl Tryz.underlying192,⟨tO Tryz.t185 (by kernel_rfl) rfl Tryz.underlying185,trivial,trivial⟩,trivial⟩⟩⟩⟩,⟨tO Tryz.t261 (by kernel_rfl) rfl Tryz.underlying261,⟨tO Tryz.t233 (by kernel_rfl) rfl Tryz.underlying233,⟨tO Tryz.t228 (by kernel_rfl) rfl Tryz.underlying228,⟨tO Tryz.t222 (by kernel_rfl) rfl Tryz.underlying222,⟨tO Tryz.t217 (by kernel_rfl) rfl Tryz.underlying217,trivial,trivial⟩,trivial⟩,⟨tO Tryz.t232 (by kernel_rfl) rfl Tryz.underlying232,⟨tO Tryz.t230 (by kernel_rfl) rfl Tryz.underlying230,trivial,trivial⟩,trivial⟩⟩,⟨tO Tryz.t240 (by kernel_rfl) rfl Tryz.underlying240,⟨tO Tryz.t238 (by kernel_rfl) rfl Tryz.underlying238,⟨tO Tryz.t236 (by kernel_rfl) rfl Tryz.underlying236,trivial,trivial⟩,trivial⟩,⟨tO Tryz.t247 (by kernel_rfl) rfl Tryz.underlying247,⟨tO Tryz.t244 (by kernel_rfl) rfl Tryz.underlying244,trivial,trivial⟩,trivial⟩⟩⟩,⟨tO Tryz.t282 (by kernel_rfl) rfl Tryz.underlying282,⟨tO Tryz.t271 (by kernel_rfl) rfl Tryz.underlying271,⟨tO Tryz.t268 (by kernel_rfl) rfl Tryz.underlying268,⟨tO Tryz.t263 (by kernel_rfl) rfl Tryz.underlying263,trivial,trivial⟩,trivial⟩,⟨tO Tryz.t281 (by kernel_rfl) rfl Tryz.underlying281,⟨tO Tryz.t274 (by kernel_rfl) rfl Tryz.underlying274,trivial,trivial⟩,trivial⟩⟩,⟨tO Tryz.t293 (by kernel_rfl) rfl Tryz.underlying293,⟨tO Tryz.t290 (by kernel_rfl) rfl Tryz.underlying290,⟨tO Tryz.t287 (by kernel_rfl) rfl Tryz.underlying287,trivial,trivial⟩,trivial⟩,⟨ti296_ok,⟨tO Tryz.t294 (by kernel_rfl) rfl Tryz.underlying294,trivial,trivial⟩,trivial⟩⟩⟩⟩⟩⟩
end
end Go.Ab


namespace Go.Proofs.YtifhafpljncplaaGreatDoor
noncomputable section
open Go Go.Ab
theorem mok : Tryz.prog.follows .mixedOrders = true := by kernel_rfl
abbrev am (n : Int) : PV := .val (.int .i64 n)
abbrev aC (b : Bool) : PV := .val (.bool b)
structure LVal where
 kind : Int
 int : Int
 text : List UInt8
 deriving DecidableEq
structure LCol where
 name : List UInt8
 kind : Int
 nullable : Bool
 deriving DecidableEq
inductive LExpr where
 | mk (kind : Int) (name : List UInt8) (index : Int) (value : LVal) (args : List LExpr)
def LExpr.kind : LExpr → Int | .mk k _ _ _ _=>k
def LExpr.name : LExpr → List UInt8 | .mk _ n _ _ _=>n
def LExpr.index : LExpr → Int | .mk _ _ i _ _=>i
def LExpr.value : LExpr → LVal | .mk _ _ _ v _=>v
def LExpr.args : LExpr → List LExpr | .mk _ _ _ _ a=>a
structure LEnv where
 cols : List LCol
 row : List LVal
 params : List LVal
 vnames : List (List UInt8)
 vvals : List LVal
def LVal.nul : LVal := ⟨0,0,[]⟩
@[simp] def ae (v : LVal) : List PV := [am v.kind,am v.int,.str v.text]
@[simp] def aN (c : LCol) : List PV := [.str c.name,am c.kind,aC c.nullable]
mutual
def eA : LExpr → List PV
 | .mk k n i v a=>[am k,.str n,am i,am v.kind,am v.int,.str v.text,.list 41 (rG a)]
def rG : List LExpr → List (List PV)
 | []=>[]
 | e :: r=>eA e :: rG r
end
theorem sF : ∀ l,rG l = l.map eA
 | []=>rfl
 | e :: r=>by simp [rG,sF r]
def iM (e : LExpr) : List PV := [am e.kind,.str e.name,am e.index,am e.value.kind,am e.value.int,.str e.value.text,.list 41 (e.args.map eA)]
theorem dK (e : LExpr) : eA e = iM e := by
 cases e
 simp [eA,iM,sF,LExpr.kind,LExpr.name,LExpr.index,LExpr.value,LExpr.args]
abbrev kf (v : LVal) : PV := .agg (ae v)
abbrev pcol (c : LCol) : PV := .agg (aN c)
abbrev jJ (e : LExpr) : PV := .agg (iM e)
abbrev pvals (l : List LVal) : PV := .list 39 (l.map ae)
abbrev jZ (l : List LCol) : PV := .list 51 (l.map aN)
abbrev qV (l : List LExpr) : PV := .list 41 (l.map eA)
abbrev pstrs (l : List (List UInt8)) : PV := .list 9 (l.map fun s=>[.str s])
abbrev pints (l : List Int) : PV := .list 3 (l.map fun n=>[am n])
@[simp] def encEnv (v : LEnv) : List PV := [jZ v.cols,pvals v.row,pvals v.params,pstrs v.vnames,pvals v.vvals]
abbrev penv (v : LEnv) : PV := .agg (encEnv v)
theorem tz {l : List LExpr} {j : Nat} (h : j < l.length) : (l.map eA)[((j : Nat) : Int).toNat]? = some (iM l[j]) := by
 simp [h,dK]
def aK {α : Type} (p : α → Bool) (l : List α) : Int := match l.findIdx? p with
 | some i=>i
 | none=>-1
theorem pW {α : Type} {p : α → Bool} {l : List α} {j : Nat} (hlt : j < l.length) (hpre : ∀ x ∈ l.take j,p x = false) (h : p l[j] = true) : aK p l = (j : Int) := by
 have : l.findIdx? p = some j := by
  rw [List.findIdx?_eq_some_iff_getElem]
  refine ⟨hlt,h,fun i hi=>?_⟩
  have := hpre l[i] (List.mem_take_iff_getElem.2 ⟨i,by omega,rfl⟩)
  simp [this]
 simp [aK,this]
theorem kA {α : Type} {p : α → Bool} {l : List α} (hpre : ∀ x ∈ l,p x = false) : aK p l = -1 := by
 have : l.findIdx? p = none := by
  rw [List.findIdx?_eq_none_iff]
  exact hpre
 simp [aK,this]
theorem pU {α : Type} {p : α → Bool} {l : List α} {j : Nat} (hlt : j < l.length) (hpre : ∀ x ∈ l.take j,p x = false) (h : p l[j] = false) : ∀ x ∈ l.take (j + 1),p x = false := by
 intro x hx
 rw [List.take_add_one,ze hlt] at hx
 simp only [Option.toList,List.mem_append,List.mem_singleton] at hx
 rcases hx with hx | rfl
 ·exact hpre x hx
 ·exact h
theorem bq {n : Int} (h1 : -9223372036854775808 ≤ n) (h2 : n ≤ 9223372036854775807) : IntKind.i64.wrap n = n := by
 simp only [IntKind.wrap,IntKind.bits,IntKind.signed]
 simp
 omega
theorem eB {j : Nat} (h : j < maxLen) : am (IntKind.i64.wrap ((j : Int) + 1)) = am ((j + 1 : Nat) : Int) := by
 rw [bq (by omega) (by simp [maxLen] at h; omega)]
 simp
theorem iz {α : Type} {p : α → Bool} {l : List α} : (decide (aK p l ≥ 0)) = l.any p := by
 rw [Bool.eq_iff_iff]
 simp only [decide_eq_true_eq,List.any_eq_true]
 cases h : l.findIdx? p with
 | none =>
  have e : aK p l = -1 := by simp [aK,h]
  rw [List.findIdx?_eq_none_iff] at h
  rw [e]
  constructor
  ·intro h'; omega
  ·rintro ⟨x,hx,hp⟩; rw [h x hx] at hp; cases hp
 | some i =>
  have e : aK p l = (i : Int) := by simp [aK,h]
  rw [List.findIdx?_eq_some_iff_getElem] at h
  rw [e]
  exact ⟨fun _=>⟨_,List.getElem_mem h.1,h.2.1⟩,fun _=>by omega⟩
abbrev Rq := List LVal
abbrev Rz := List (List LVal)
abbrev bG : Int → List PV := fun n=>[am n]
abbrev rBool : Bool → List PV := fun b=>[aC b]
abbrev nG : List UInt8 → List PV := fun s=>[.str s]
abbrev al {α : Type} (e : TypeId) (f : α → List PV) : List α → List PV := fun l=>[.list e (l.map f)]
theorem natLt {n : Int} {m j : Nat} (hm : n ≤ 2 ^ 62 ∧ m = n.toNat) (h : decide ((j : Int) < n) = true) : j < (List.range m).length := by
 have := of_decide_eq_true h
 simp
 omega
theorem natGe {n : Int} {m j : Nat} (hm : n ≤ 2 ^ 62 ∧ m = n.toNat) (h : decide ((j : Int) < n) = false) : (List.range m).length ≤ j := by
 have := of_decide_eq_false h
 simp
 omega
theorem natX {m j x : Nat} (h : (List.range m)[j]? = some x) : j = x := by
 have := zg.1 h
 obtain ⟨h1,h2⟩ := this
 simpa using h2
theorem oR {n : Int} {m j : Nat} (hm : n ≤ 2 ^ 62 ∧ m = n.toNat) (h : j < (List.range m).length) : am (IntKind.i64.wrap ((j : Int) + 1)) = am ((j + 1 : Nat) : Int) := by
 rw [bq (by omega) (by simp at h; omega)]
 simp
end
end Go.Proofs.YtifhafpljncplaaGreatDoor

namespace Go.Proofs.YtifhafpljncplaaGreatDoor
noncomputable section
open Go Go.Ab
attribute [local irreducible] V Ao Gh Eff PH
set_option maxRecDepth 4000
theorem indexCol {g : FuncId} {caps : List PV} {p : LCol → Bool} (xs : List LCol) (hg : ∀ (vs : Array Value) (w : World),(callFunc g vs).run Tryz.prog w = .ok (.enter g vs) w) (hp : ∀ x ∈ xs,aI Tryz.prog g (.agg (aN x) :: caps) (aC (p x))) :
  aI Tryz.prog 8 [.list 51 (xs.map aN),.fn g caps] (am (aK p xs)) := by
 refine PH.au Tryz.func8 Tryz.ntmps8 ?_
 repeat (first | refine ah tk rfl ?_ | refine ac ?_ | refine ab ?_ | refine aa ?_ | refine av ?_)
 refine gm tk 0 rfl rfl fun hl _=>?_
 refine kg (X := Nat) (fun j=>⟨19,upd (upd (upd (upd (fun _=>.any) 0 (.list 51 (xs.map aN))) 1 (.fn g caps)) 7 (am (xs.map aN).length)) 8 (am j),fun _=>none,fun _=>none⟩)
  (fun j=>j ≤ xs.length ∧ ∀ x ∈ xs.take j,p x = false) (fun j=>xs.length - j) 0 ⟨Nat.zero_le _,by simp⟩ (Gh.le (aw (aw (aw (aw aY)))) aM aL) ?_
 rintro j ⟨hj,hpre⟩
 repeat (first | refine ah tk rfl ?_ | refine ac ?_ | refine ab ?_ | refine aa ?_)
 refine bg rfl (fun h=>?_) (fun h=>?_)
 ·have hlt : j < xs.length := by simpa using h
  have hget : xs[j]? = some xs[j] := ze hlt
  repeat (first | refine ah tk rfl ?_ | refine ac ?_ | refine ab ?_ | refine aa ?_ | refine ap ?_ | refine av ?_)
  refine pV tk rfl rfl rfl rfl rfl rfl (zn j) (r := aN xs[j]) (by simp [hget]) rfl ?_
  repeat (refine ah tk rfl ?_)
  refine ak hg (jx.r) (hp xs[j] (List.getElem_mem hlt)) ?_
  repeat (refine ac ?_)
  refine bg rfl (fun h=>?_) (fun h=>?_)
  ·repeat (first | refine ah tk rfl ?_ | refine ac ?_ | refine ab ?_ | refine aa ?_)
   refine cF tk (PLe.q ?_)
   rw [pW hlt hpre h]
  ·repeat (first | refine ah tk rfl ?_ | refine ac ?_ | refine aa ?_ | refine ap ?_ | refine aF ?_)
   refine kN (j + 1) (by omega) ⟨hlt,?_⟩ (Gh.le (bC (PLe.q ?_) (aw (aw (aw aY)))) aM aL)
   ·exact pU hlt hpre h
   ·exact eB (by simp at hl; omega)
 ·have hge : j = xs.length := by have : ¬ j < xs.length := by simpa using h
                                 omega
  repeat (first | refine ah tk rfl ?_ | refine ac ?_ | refine ab ?_ | refine aa ?_ | refine bh rfl ?_)
  refine cF tk (PLe.q ?_)
  rw [kA (by rw [hge] at hpre; simpa using hpre)]
theorem indexVal {g : FuncId} {caps : List PV} {p : LVal → Bool} (xs : Rq) (hg : ∀ (vs : Array Value) (w : World),(callFunc g vs).run Tryz.prog w = .ok (.enter g vs) w) (hp : ∀ x ∈ xs,aI Tryz.prog g (.agg (ae x) :: caps) (aC (p x))) :
  aI Tryz.prog 215 [.list 39 (xs.map ae),.fn g caps] (am (aK p xs)) := by
 refine PH.au Tryz.func215 Tryz.ntmps215 ?_
 repeat (first | refine ah tk rfl ?_ | refine ac ?_ | refine ab ?_ | refine aa ?_ | refine av ?_)
 refine gm tk 0 rfl rfl fun hl _=>?_
 refine kg (X := Nat) (fun j=>⟨19,upd (upd (upd (upd (fun _=>.any) 0 (.list 39 (xs.map ae))) 1 (.fn g caps)) 7 (am (xs.map ae).length)) 8 (am j),fun _=>none,fun _=>none⟩)
  (fun j=>j ≤ xs.length ∧ ∀ x ∈ xs.take j,p x = false) (fun j=>xs.length - j) 0 ⟨Nat.zero_le _,by simp⟩ (Gh.le (aw (aw (aw (aw aY)))) aM aL) ?_
 rintro j ⟨hj,hpre⟩
 repeat (first | refine ah tk rfl ?_ | refine ac ?_ | refine ab ?_ | refine aa ?_)
 refine bg rfl (fun h=>?_) (fun h=>?_)
 ·have hlt : j < xs.length := by simpa using h
  have hget : xs[j]? = some xs[j] := ze hlt
  repeat (first | refine ah tk rfl ?_ | refine ac ?_ | refine ab ?_ | refine aa ?_ | refine ap ?_ | refine av ?_)
  refine pV tk rfl rfl rfl rfl rfl rfl (zn j) (r := ae xs[j]) (by simp [hget]) rfl ?_
  repeat (refine ah tk rfl ?_)
  refine ak hg (jx.r) (hp xs[j] (List.getElem_mem hlt)) ?_
  repeat (refine ac ?_)
  refine bg rfl (fun h=>?_) (fun h=>?_)
  ·repeat (first | refine ah tk rfl ?_ | refine ac ?_ | refine ab ?_ | refine aa ?_)
   refine cF tk (PLe.q ?_)
   rw [pW hlt hpre h]
  ·repeat (first | refine ah tk rfl ?_ | refine ac ?_ | refine aa ?_ | refine ap ?_ | refine aF ?_)
   refine kN (j + 1) (by omega) ⟨hlt,?_⟩ (Gh.le (bC (PLe.q ?_) (aw (aw (aw aY)))) aM aL)
   ·exact pU hlt hpre h
   ·exact eB (by simp at hl; omega)
 ·have hge : j = xs.length := by have : ¬ j < xs.length := by simpa using h
                                 omega
  repeat (first | refine ah tk rfl ?_ | refine ac ?_ | refine ab ?_ | refine aa ?_ | refine bh rfl ?_)
  refine cF tk (PLe.q ?_)
  rw [kA (by rw [hge] at hpre; simpa using hpre)]
theorem cQ {g : FuncId} {caps : List PV} {p : LVal → Bool} (xs : Rq) (hg : ∀ (vs : Array Value) (w : World),(callFunc g vs).run Tryz.prog w = .ok (.enter g vs) w) (hp : ∀ x ∈ xs,aI Tryz.prog g (.agg (ae x) :: caps) (aC (p x))) :
  aI Tryz.prog 192 [.list 39 (xs.map ae),.fn g caps] (aC (xs.any p)) := by
 refine PH.au Tryz.func192 Tryz.ntmps192 ?_
 repeat (first | refine ah tk rfl ?_ | refine ac ?_ | refine ab ?_ | refine aa ?_)
 refine ak Tryz.call215 (jx.r) (indexVal xs hg hp) ?_
 repeat (first | refine ah tk rfl ?_ | refine ac ?_)
 refine cF tk (PLe.q ?_)
 rw [iz]
theorem indexInt {g : FuncId} {caps : List PV} {p : Int → Bool} (xs : List Int) (hg : ∀ (vs : Array Value) (w : World),(callFunc g vs).run Tryz.prog w = .ok (.enter g vs) w) (hp : ∀ x ∈ xs,aI Tryz.prog g (am x :: caps) (aC (p x))) :
  aI Tryz.prog 244 [.list 3 (xs.map fun x=>[am x]),.fn g caps] (am (aK p xs)) := by
 refine PH.au Tryz.func244 Tryz.ntmps244 ?_
 repeat (first | refine ah tk rfl ?_ | refine ac ?_ | refine ab ?_ | refine aa ?_ | refine av ?_)
 refine gm tk 0 rfl rfl fun hl _=>?_
 refine kg (X := Nat) (fun j=>⟨19,upd (upd (upd (upd (fun _=>.any) 0 (.list 3 (xs.map fun x=>[am x]))) 1 (.fn g caps)) 7 (am (xs.map fun x=>[am x]).length)) 8 (am j),fun _=>none,fun _=>none⟩)
  (fun j=>j ≤ xs.length ∧ ∀ x ∈ xs.take j,p x = false) (fun j=>xs.length - j) 0 ⟨Nat.zero_le _,by simp⟩ (Gh.le (aw (aw (aw (aw aY)))) aM aL) ?_
 rintro j ⟨hj,hpre⟩
 repeat (first | refine ah tk rfl ?_ | refine ac ?_ | refine ab ?_ | refine aa ?_)
 refine bg rfl (fun h=>?_) (fun h=>?_)
 ·have hlt : j < xs.length := by simpa using h
  have hget : xs[j]? = some xs[j] := ze hlt
  repeat (first | refine ah tk rfl ?_ | refine ac ?_ | refine ab ?_ | refine aa ?_ | refine ap ?_ | refine av ?_)
  refine pV tk rfl rfl rfl rfl rfl rfl (zn j) (r := [am xs[j]]) (by simp [hget]) rfl ?_
  repeat (refine ah tk rfl ?_)
  refine ak hg (jx.r) (hp xs[j] (List.getElem_mem hlt)) ?_
  repeat (refine ac ?_)
  refine bg rfl (fun h=>?_) (fun h=>?_)
  ·repeat (first | refine ah tk rfl ?_ | refine ac ?_ | refine ab ?_ | refine aa ?_)
   refine cF tk (PLe.q ?_)
   rw [pW hlt hpre h]
  ·repeat (first | refine ah tk rfl ?_ | refine ac ?_ | refine aa ?_ | refine ap ?_ | refine aF ?_)
   refine kN (j + 1) (by omega) ⟨hlt,?_⟩ (Gh.le (bC (PLe.q ?_) (aw (aw (aw aY)))) aM aL)
   ·exact pU hlt hpre h
   ·exact eB (by simp at hl; omega)
 ·have hge : j = xs.length := by have : ¬ j < xs.length := by simpa using h
                                 omega
  repeat (first | refine ah tk rfl ?_ | refine ac ?_ | refine ab ?_ | refine aa ?_ | refine bh rfl ?_)
  refine cF tk (PLe.q ?_)
  rw [kA (by rw [hge] at hpre; simpa using hpre)]
theorem containsInt {g : FuncId} {caps : List PV} {p : Int → Bool} (xs : List Int) (hg : ∀ (vs : Array Value) (w : World),(callFunc g vs).run Tryz.prog w = .ok (.enter g vs) w) (hp : ∀ x ∈ xs,aI Tryz.prog g (am x :: caps) (aC (p x))) :
  aI Tryz.prog 237 [.list 3 (xs.map fun x=>[am x]),.fn g caps] (aC (xs.any p)) := by
 refine PH.au Tryz.func237 Tryz.ntmps237 ?_
 repeat (first | refine ah tk rfl ?_ | refine ac ?_ | refine ab ?_ | refine aa ?_)
 refine ak Tryz.call244 (jx.r) (indexInt xs hg hp) ?_
 repeat (first | refine ah tk rfl ?_ | refine ac ?_)
 refine cF tk (PLe.q ?_)
 rw [iz]
theorem cv (s : List UInt8) (xs : List (List UInt8)) :
  aI Tryz.prog 160 [pstrs xs,.str s] (am (aK (fun x=>s == x) xs)) := by
 refine PH.au Tryz.func160 Tryz.ntmps160 ?_
 repeat (first | refine ah tk rfl ?_ | refine ac ?_ | refine ab ?_ | refine aa ?_ | refine av ?_)
 refine gm tk 0 rfl rfl fun hl _=>?_
 refine kg (X := Nat) (fun j=>⟨19,upd (upd (upd (upd (fun _=>.any) 0 (pstrs xs)) 1 (.str s)) 7 (am (xs.map fun s=>[PV.str s]).length)) 8 (am j),fun _=>none,fun _=>none⟩)
  (fun j=>j ≤ xs.length ∧ ∀ x ∈ xs.take j,(s == x) = false) (fun j=>xs.length - j) 0 ⟨Nat.zero_le _,by simp⟩ (Gh.le (aw (aw (aw (aw aY)))) aM aL) ?_
 rintro j ⟨hj,hpre⟩
 repeat (first | refine ah tk rfl ?_ | refine ac ?_ | refine ab ?_ | refine aa ?_)
 refine bg rfl (fun h=>?_) (fun h=>?_)
 ·have hlt : j < xs.length := by simpa using h
  have hget : xs[j]? = some xs[j] := ze hlt
  repeat (first | refine ah tk rfl ?_ | refine ac ?_ | refine ab ?_ | refine aa ?_ | refine ap ?_ | refine av ?_)
  refine pV tk rfl rfl rfl rfl rfl rfl (zn j) (r := [.str xs[j]]) (by simp [hget]) rfl ?_
  repeat (first | refine ah tk rfl ?_ | refine ac ?_)
  refine bg rfl (fun h=>?_) (fun h=>?_)
  ·repeat (first | refine ah tk rfl ?_ | refine ac ?_ | refine ab ?_ | refine aa ?_)
   refine cF tk (PLe.q ?_)
   rw [pW hlt hpre h]
  ·repeat (first | refine ah tk rfl ?_ | refine ac ?_ | refine aa ?_ | refine ap ?_ | refine aF ?_)
   refine kN (j + 1) (by omega) ⟨hlt,?_⟩ (Gh.le (bC (PLe.q ?_) (aw (aw (aw aY)))) aM aL)
   ·exact pU (p := fun x=>s == x) hlt hpre h
   ·exact eB (by simp at hl; omega)
 ·have hge : j = xs.length := by have : ¬ j < xs.length := by simpa using h
                                 omega
  repeat (first | refine ah tk rfl ?_ | refine ac ?_ | refine ab ?_ | refine aa ?_ | refine bh rfl ?_)
  refine cF tk (PLe.q ?_)
  rw [kA (by rw [hge] at hpre; simpa using hpre)]
def eG (v : LVal) : Bool :=
 if v.kind = 0 then decide (v = ⟨0,0,[]⟩) else if v.kind = 1 then v.text == [] && decide (v.int ≥ -1000000000000) && decide (v.int ≤ 1000000000000)
 else if v.kind = 2 then v.text == [] && (v.int == 0 || v.int == 1) else if v.kind = 3 then v.int == 0 && decide (v.text.length ≤ 24) else false
theorem tN (v : LVal) : aI Tryz.prog 49 [kf v] (aC (eG v)) := by
 refine PH.au Tryz.func49 Tryz.ntmps49 ?_
 repeat' (first | refine ah tk rfl ?_ | refine ac ?_ | refine ab ?_ | refine aa ?_ | refine ap ?_ | refine av ?_ | refine aF ?_ | refine aD ?_ | refine bg rfl (fun h=>?_) (fun h=>?_) | ((fail_if_success refine fP rfl ?_); refine gw rfl rfl rfl (fun h=>?_) (fun h=>?_)))
 all_goals refine cF tk (PLe.q ?_)
 all_goals cases v
 all_goals simp_all [eG]
 ·rename_i x _
  rw [Bool.eq_iff_iff]
  cases x <;> simp
 ·omega
 ·omega
def lT (a b : LVal) : Bool :=
 if a.kind ≠ b.kind then decide (a.kind < b.kind) else if a.int ≠ b.int then decide (a.int < b.int) else Op.bytesLess a.text b.text
theorem mF (a b : LVal) : aI Tryz.prog 57 [kf a,kf b] (aC (lT a b)) := by
 refine PH.au Tryz.func57 Tryz.ntmps57 ?_
 repeat' (first | refine ah tk rfl ?_ | refine ac ?_ | refine ab ?_ | refine aa ?_ | refine ap ?_ | refine av ?_ | refine aF ?_ | refine aD ?_ | refine bg rfl (fun h=>?_) (fun h=>?_))
 all_goals refine cF tk (PLe.q ?_)
 all_goals simp_all [lT]
def ir (v : LVal) : Bool := v.kind == 2 && v.int == 1
theorem isTS (v : LVal) : aI Tryz.prog 116 [kf v] (aC (ir v)) := by
 refine PH.au Tryz.func116 Tryz.ntmps116 ?_
 repeat' (first | refine ah tk rfl ?_ | refine ac ?_ | refine ab ?_ | refine aa ?_ | refine aD ?_ | ((fail_if_success refine fP rfl ?_); refine gw rfl rfl rfl (fun h=>?_) (fun h=>?_)))
 all_goals refine cF tk (PLe.q ?_)
 all_goals simp_all [ir]
def lW (b : Bool) : LVal := ⟨2,if b then 1 else 0,[]⟩
theorem nc (b : Bool) : aI Tryz.prog 181 [aC b] (kf (lW b)) := by
 refine PH.au Tryz.func181 Tryz.ntmps181 ?_
 repeat' (first | refine ah tk rfl ?_ | refine ac ?_ | refine ab ?_ | refine aa ?_ | refine ap ?_ | (refine fH tk rfl rfl rfl rfl rfl rfl ?_; intro bk) | refine aq tk ?_ | refine bg rfl (fun h=>?_) (fun h=>?_))
 all_goals refine cg tk (PLe.q ?_)
 all_goals simp_all [lW]
def intV (n : Int) : LVal := if n < -1000000000000 ∨ n > 1000000000000 then .nul else ⟨1,n,[]⟩
theorem sP (n : Int) : aI Tryz.prog 182 [am n] (kf (intV n)) := by
 refine PH.au Tryz.func182 Tryz.ntmps182 ?_
 repeat' (first | refine ah tk rfl ?_ | refine ac ?_ | refine ab ?_ | refine aa ?_ | refine ap ?_ | refine bL rfl ?_ | (refine fH tk rfl rfl rfl rfl rfl rfl ?_; intro bk) | refine aq tk ?_ | refine bg rfl (fun h=>?_) (fun h=>?_) | ((fail_if_success refine fP rfl ?_); refine gw rfl rfl rfl (fun h=>?_) (fun h=>?_)))
 all_goals refine cg tk (PLe.q ?_)
 all_goals simp_all [intV,LVal.nul]
 all_goals (rw [zy (by omega)]; try simp)
def wr (n : Int) : Int := IntKind.i64.wrap n
def pu (op : List UInt8) (a b : Int) : LVal :=
 if op = [43] then intV (wr (a + b)) else if op = [45] then intV (wr (a - b)) else if a = 0 ∨ b = 0 then intV 0
 else if wr ((wr (a * b)).tdiv b) = a then intV (wr (a * b)) else .nul
theorem numberV_spec (op : List UInt8) (a b : Int) : aI Tryz.prog 218 [.str op,am a,am b] (kf (pu op a b)) := by
 refine PH.au Tryz.func218 Tryz.ntmps218 ?_
 repeat' (first | refine ah tk rfl ?_ | refine ac ?_ | refine ab ?_ | refine aa ?_ | refine ap ?_ | refine bL rfl ?_ | refine av ?_ | refine aF ?_ | (refine fH tk rfl rfl rfl rfl rfl rfl ?_; intro bk) | refine aq tk ?_ | refine bg rfl (fun h=>?_) (fun h=>?_) | ((fail_if_success refine fP rfl ?_); refine gw rfl rfl rfl (fun h=>?_) (fun h=>?_)) | (show Ao _ _ _ _ _; first | refine ak Tryz.call182 (jx.r) (sP _) ?_))
 case refine_2.refine_2.refine_2.refine_2 =>
  refine Ao.quo tk rfl rfl rfl rfl (by simpa using h) rfl ?_
  repeat' (first | refine ah tk rfl ?_ | refine ac ?_ | refine ab ?_ | refine aa ?_ | refine ap ?_ | refine aq tk ?_ | refine bg rfl (fun h=>?_) (fun h=>?_) | (show Ao _ _ _ _ _; first | refine ak Tryz.call182 (jx.r) (sP _) ?_))
  all_goals refine cg tk (PLe.q ?_)
  all_goals simp_all [pu,wr,LVal.nul]
 all_goals refine cg tk (PLe.q ?_)
 all_goals simp_all [pu,wr]
end
end Go.Proofs.YtifhafpljncplaaGreatDoor

namespace Go.Proofs.YtifhafpljncplaaGreatDoor
noncomputable section
open Go Go.Ab
attribute [local irreducible] V Ao Do Gh Eff PH IntKind.wrap
set_option maxRecDepth 4000
theorem dL (v : LVal) : aI Tryz.prog 193 [kf v] (aC (v.kind == 0)) := by
 refine PH.au Tryz.func193 Tryz.ntmps193 ?_
 repeat' (first | refine ah tk rfl ?_ | refine ac ?_ | refine ab ?_ | refine aa ?_ | refine aD ?_)
 all_goals refine cF tk (PLe.q rfl)
theorem bothIs_spec (v : LVal) (n : Int) : aI Tryz.prog 214 [kf v,am n] (aC (v.kind == 2 && v.int == n)) := by
 refine PH.au Tryz.func214 Tryz.ntmps214 ?_
 repeat' (first | refine ah tk rfl ?_ | refine ac ?_ | refine ab ?_ | refine aa ?_ | refine aD ?_ | ((fail_if_success refine fP rfl ?_); refine gw rfl rfl rfl (fun h=>?_) (fun h=>?_)))
 all_goals refine cF tk (PLe.q ?_)
 all_goals simp_all
theorem uB (v : LVal) (n : Int) : aI Tryz.prog 217 [kf v,.ptr [am n]] (aC (v.kind != n)) := by
 refine PH.au Tryz.func217 Tryz.ntmps217 ?_
 repeat' (first | refine ah tk rfl ?_ | refine ac ?_ | refine ab ?_ | refine aa ?_ | refine aD ?_)
 all_goals refine cF tk (PLe.q rfl)
theorem lw (n : Int) (l : Rq) : aI Tryz.prog 216 [am n,.ptr [pvals l]] (aC (!(l.any fun v=>v.kind != n))) := by
 refine PH.au Tryz.func216 Tryz.ntmps216 ?_
 repeat' (first | refine ah tk rfl ?_ | refine ac ?_ | refine ab ?_ | refine aa ?_ | refine aD ?_ | (show Ao _ _ _ _ _; first | refine ak Tryz.call192 (jx.r) (cQ (p := fun v=>v.kind != n) l Tryz.call217 fun v _=>uB v n) ?_))
 all_goals refine cF tk (PLe.q rfl)
def cR : List (List UInt8) := [[43],[45],[42],[61],[60],[60,61],[97,110,100],[111,114],[110,111,116],[124,124],[105,115,32,110,117,108,108],[108,101,110,103,116,104],[105,102]]
def opArity : List Int := [2,2,2,2,2,2,2,2,1,2,1,1,3]
theorem gZ : aI Tryz.prog 190 [] (.tup [pstrs cR,pints opArity]) := by
 refine PH.au Tryz.func190 Tryz.ntmps190 ?_
 repeat (first | refine ah tk rfl ?_ | refine ac ?_ | refine ab ?_ | refine aa ?_ | refine sq tk rfl rfl rfl rfl rfl rfl ?_)
 refine vl tk rfl rfl rfl (PLe.q ?_)
 rfl
def bothV (a b : LVal) (d : Int) : LVal :=
 if (a.kind == 2 && a.int == d) || (b.kind == 2 && b.int == d) then lW (d == 1)
 else if (a.kind == 2 && a.int == wr (1 - d)) && (b.kind == 2 && b.int == wr (1 - d)) then lW (d == 0) else .nul
theorem bothV_spec (a b : LVal) (d : Int) : aI Tryz.prog 191 [kf a,kf b,am d] (kf (bothV a b d)) := by
 refine PH.au Tryz.func191 Tryz.ntmps191 ?_
 repeat' (first | refine ah tk rfl ?_ | refine ac ?_ | refine ab ?_ | refine aa ?_ | refine ap ?_ | refine bL rfl ?_ | refine bB rfl ?_ | refine av ?_ | refine aF ?_ | refine aD ?_ | (refine fH tk rfl rfl rfl rfl rfl rfl ?_; intro bk) | refine aq tk ?_ | refine bg rfl (fun h=>?_) (fun h=>?_) | ((fail_if_success refine fP rfl ?_); refine gw rfl rfl rfl (fun h=>?_) (fun h=>?_)) | (show Ao _ _ _ _ _; first | refine ak Tryz.call214 (jx.r) (bothIs_spec _ _) ?_ | refine ak Tryz.call181 (jx.r) (nc _) ?_))
 all_goals refine cg tk (PLe.q ?_)
 all_goals (simp only [bothV,wr, *,Bool.or_true,Bool.true_or,Bool.or_self,Bool.and_self,Bool.and_false,Bool.false_and,Bool.false_eq_true,if_true,if_false]; try rfl)
def jk (n : Int) (l : Rq) : Bool := !(l.any fun v=>v.kind != n)
def jt (op : List UInt8) (l : Rq) : LVal :=
 let a := l.getD 0 .nul
 let b := l.getD 1 .nul
 if op == [61] then lW (decide (a = b)) else if op == [60] then lW (lT a b) else if op == [60,61] then lW (!lT b a)
 else if op == [110,111,116] then (if jk 2 l then lW (a.int == 0) else .nul)
 else if op == [108,101,110,103,116,104] then (if jk 3 l then intV a.text.length else .nul)
 else if op == [124,124] then (if jk 3 l && decide (a.text.length + b.text.length ≤ 24) then ⟨3,0,a.text ++ b.text⟩ else .nul)
 else if jk 1 l then pu op a.int b.int else .nul
theorem valEq (a b : LVal) : (a.kind == b.kind && (a.int == b.int && (a.text == b.text && true))) = decide (a = b) := by
 cases a; cases b
 rw [Bool.eq_iff_iff]
 simp
theorem ue (op : List UInt8) (a : LVal) (hop : op = [110,111,116] ∨ op = [108,101,110,103,116,104]) : aI Tryz.prog 194 [.str op,pvals [a]] (kf (jt op [a])) := by
 rcases hop with rfl | rfl
 ·refine PH.au Tryz.func194 Tryz.ntmps194 ?_
  repeat' (first | refine ah tk rfl ?_ | refine ac ?_ | refine ab ?_ | refine aa ?_ | refine ap ?_ | refine bL rfl ?_ | refine bB rfl ?_ | refine av ?_ | refine aF ?_ | refine aD ?_ | (refine fH tk rfl rfl rfl rfl rfl rfl ?_; intro bk) | refine aq tk ?_ | refine bg rfl (fun h=>?_) (fun h=>?_) | (show Ao _ _ _ _ _; first | refine ak Tryz.call216 (jx.r) (lw _ _) ?_ | refine ak Tryz.call181 (jx.r) (nc _) ?_))
  all_goals refine cg tk (PLe.q ?_)
  all_goals simp_all [jt,LVal.nul,jk]
 ·refine PH.au Tryz.func194 Tryz.ntmps194 ?_
  repeat' (first | refine ah tk rfl ?_ | refine ac ?_ | refine ab ?_ | refine aa ?_ | refine ap ?_ | refine bL rfl ?_ | refine bB rfl ?_ | refine av ?_ | refine aF ?_ | refine aD ?_ | (refine fH tk rfl rfl rfl rfl rfl rfl ?_; intro bk) | refine aq tk ?_ | refine bg rfl (fun h=>?_) (fun h=>?_) | (show Ao _ _ _ _ _; first | refine ak Tryz.call216 (jx.r) (lw _ _) ?_ | refine ak Tryz.call182 (jx.r) (sP _) ?_))
  all_goals refine cg tk (PLe.q ?_)
  all_goals simp_all [jt,LVal.nul,jk]
theorem jV (op : List UInt8) (a b : LVal) (h1 : (op == [110,111,116]) = false) (h2 : (op == [108,101,110,103,116,104]) = false) : aI Tryz.prog 194 [.str op,pvals [a,b]] (kf (jt op [a,b])) := by
 refine PH.au Tryz.func194 Tryz.ntmps194 ?_
 refine V.textF 1 rfl fun hq=>?_
 have ha : a.text.length ≤ fg := hq (ae a) (by simp) _ (by simp)
 have hb : b.text.length ≤ fg := hq (ae b) (by simp) _ (by simp)
 clear hq
 repeat' (first | (show Ao _ _ _ _ _; first | refine ah tk rfl ?_ | refine ac ?_ | refine aD ?_ | (refine fH tk rfl rfl rfl rfl rfl rfl ?_; intro bk) | refine aq tk ?_ | refine ak Tryz.call216 (jx.r) (lw _ _) ?_ | refine ak Tryz.call181 (jx.r) (nc _) ?_) | (show V _ _ _ _ _; first | refine ab ?_ | refine aa ?_ | refine ap ?_ | refine bB rfl ?_ | refine av ?_ | refine aF ?_ | (show V _ _ _ (.code (.region 6 _ true) :: _) _; refine bw tk mok ⟨false,false,[]⟩ [0,1,2,3,4,5,6,7,8] rfl (by decide +kernel) rfl ?_) | (show V _ _ _ (.code (.region 8 _ true) :: _) _; refine bw tk mok ⟨false,false,[]⟩ [0,1,2,3,4,5,6,7,8] rfl (by decide +kernel) rfl ?_) | (show V _ _ _ (.code (.region 10 _ true) :: _) _; refine bw tk mok ⟨false,false,[]⟩ [0,1,2,3,4,5,6,7,8,9] rfl (by decide +kernel) rfl ?_) | (show V _ _ _ (.code (.region 18 _ true) :: _) _; refine bw tk mok ⟨false,false,[]⟩ [0,1,2,3,4,5,6,7,8,9,10,11,12,13,14,15] rfl (by decide +kernel) rfl ?_) | (show V _ _ _ (.code (.region 19 _ true) :: _) _; refine bw tk mok ⟨false,false,[]⟩ [0,1,2,3,4,5,6,7,8,9,10] rfl (by decide +kernel) rfl ?_) | (show V _ _ _ (.code (.region 4 _ true) :: _) _; refine bw tk mok ⟨false,false,[]⟩ [0,1,2,3,4,5,6,7,8,9,10] rfl (by decide +kernel) rfl ?_) | refine bg rfl (fun h=>?_) (fun h=>?_)) | (show Do _ _ _ _ _ _ _; first | refine bT rfl ?_ | refine br ?_ | refine ff ?_ | refine aV Tryz.call216 (jx.r) (lw _ _) ?_ | refine aV Tryz.call181 (jx.r) (nc _) ?_ | refine aV Tryz.call57 (jx.r) (mF _ _) ?_ | refine aV Tryz.call218 (jx.r) (numberV_spec _ _ _) ?_ | ((fail_if_success refine mC rfl rfl ?_); refine nA rfl rfl rfl rfl (fun h=>?_) (fun h=>?_))))
 all_goals have hw : IntKind.i64.wrap ((a.text.length : Int) + (b.text.length : Int)) = (a.text.length : Int) + (b.text.length : Int) := bq (by omega) (by unfold fg at ha hb; omega)
 all_goals try (exfalso; simp_all; done)
 case refine_2.refine_2.refine_2.refine_2.refine_2.refine_1.refine_1.refine_1 =>
  have hc : a.text.length + b.text.length ≤ 24 := by
   simp only [decide_eq_true_eq] at h
   have : IntKind.i64.wrap ((a.text.length : Int) + (b.text.length : Int)) ≤ 24 := h
   omega
  refine vp rfl rfl rfl rfl rfl (by unfold fg; omega) rfl ?_
  repeat (first | refine bT rfl ?_ | refine br ?_ | refine ff ?_)
  refine cg tk (PLe.q ?_)
  simp_all [jt,jk]
 all_goals refine cg tk (PLe.q ?_)
 all_goals try simp only [valEq]
 case refine_2.refine_2.refine_2.refine_2.refine_2.refine_1.refine_1.refine_2 =>
  rw [hw] at h
  have hc : ¬ a.text.length + b.text.length ≤ 24 := by
   simp only [decide_eq_false_iff_not] at h
   omega
  simp_all [jt,jk,LVal.nul]
  rw [zy (by omega)]
  exact ⟨rfl,rfl,rfl⟩
 case refine_2.refine_2.refine_2.refine_2.refine_2.refine_1.refine_2 =>
  simp_all [jt,jk,LVal.nul]
  rw [zy (fun hh=>h hh.1.1 hh.1.2)]
  exact ⟨rfl,rfl,rfl⟩
 case refine_2.refine_2.refine_2.refine_2.refine_2.refine_2.refine_2 =>
  simp_all [jt,jk,LVal.nul]
  rw [zy (fun hh=>h hh.1 hh.2)]
  exact ⟨rfl,rfl,rfl⟩
 all_goals simp_all [jt,jk,LVal.nul]
def bK (name : List UInt8) : Option Nat :=
 if name == [43] || name == [45] || name == [42] || name == [61] || name == [60] || name == [60,61] || name == [97,110,100] || name == [111,114] || name == [124,124] then some 2
 else if name == [110,111,116] || name == [105,115,32,110,117,108,108] || name == [108,101,110,103,116,104] then some 1
 else if name == [105,102] then some 3 else none
def bA (name : List UInt8) (l : Rq) : LVal :=
 let a := l.getD 0 .nul
 let b := l.getD 1 .nul
 let c := l.getD 2 .nul
 if bK name ≠ some l.length then .nul
 else if name == [105,115,32,110,117,108,108] then lW (a.kind == 0)
 else if name == [105,102] then (if ir a then b else c)
 else if name == [97,110,100] then bothV a b 0
 else if name == [111,114] then bothV a b 1
 else if l.any (fun v=>v.kind == 0) then .nul else jt name l
mutual
def bR (v : LEnv) : LExpr → LVal
 | .mk k n i x args =>
  if k == 1 then x
  else if k == 2 then (let j := aK (fun c : LCol=>c.name == n) v.cols
   if 0 ≤ j ∧ j < v.row.length then v.row.getD j.toNat .nul else .nul)
  else if k == 3 then (if 0 ≤ i ∧ i < v.params.length ∧ (v.params.getD i.toNat .nul).kind = x.kind then v.params.getD i.toNat .nul else .nul)
  else if k == 4 then (let j := aK (fun s : List UInt8=>n == s) v.vnames
   if 0 ≤ j ∧ j < v.vvals.length then v.vvals.getD j.toNat .nul else .nul)
  else if k == 5 then bA n (evalEs v args)
  else .nul
def evalEs (v : LEnv) : List LExpr → Rq
 | []=>[]
 | e :: r=>bR v e :: evalEs v r
end
theorem evalEs_map (v : LEnv) : ∀ l,evalEs v l = l.map (bR v)
 | []=>rfl
 | e :: r=>by simp [evalEs,evalEs_map v r]
theorem iC {α : Type} : ∀ {l : List α},l.length = 2 → ∃ a b,l = [a,b]
 | [a,b],_=>⟨a,b,rfl⟩
theorem len3 {α : Type} : ∀ {l : List α},l.length = 3 → ∃ a b c,l = [a,b,c]
 | [a,b,c],_=>⟨a,b,c,rfl⟩
theorem evalRows {v : LEnv} {args : List LExpr} {j : Nat} (h : j < args.length) : ((args.take j).map (bR v)).map ae ++ [ae (bR v args[j])] = ((args.take (j + 1)).map (bR v)).map ae := by
 rw [List.take_add_one,ze h]
 simp only [List.map_append,Option.toList,List.map_cons,List.map_nil]
theorem reckon_spec (v : LEnv) (e : LExpr)
  (ih : ∀ a ∈ e.args,aI Tryz.prog 117 [penv v,jJ a] (kf (bR v a))) :
  aI Tryz.prog 161 [penv v,jJ e] (kf (bA e.name (e.args.map (bR v)))) := by
 refine PH.au Tryz.func161 Tryz.ntmps161 ?_
 repeat (first | refine ah tk rfl ?_ | refine ac ?_ | refine ab ?_ | refine aa ?_ | refine av ?_ | refine aD ?_ | (refine fH tk rfl rfl rfl rfl rfl rfl ?_; intro bk))
 refine gm tk 12 rfl rfl fun hl hby=>?_
 rw [zl] at hl hby
 have hby' : e.args.length * 88 ≤ 2 ^ 47 := hby
 refine iA tk 5 5 (e := 39) rfl rfl ?_
 refine kg (X := Nat × OwnRef) (fun X=>⟨92,upd (upd (upd (upd (upd (upd (upd (fun _=>.any) 5 (.own 5 X.2 (((e.args.take X.1).map (bR v)).map ae).length)) 4 (.box 4 bk 0)) 3 (.ptr (iM e))) 2 (.ptr (encEnv v))) 12 (qV e.args)) 13 (am (e.args.map eA).length)) 14 (am X.1),upd (fun _=>none) 4 (some ⟨bk,ae .nul⟩),upd (fun _=>none) 5 (some ⟨X.2,39,((e.args.take X.1).map (bR v)).map ae,true⟩)⟩)
  (fun X=>X.1 ≤ e.args.length) (fun X=>e.args.length - X.1) (0,⟨none,0⟩) (Nat.zero_le _) (Gh.le (aw (aw (aw (aw (aw (aw (aw aY))))))) (bn rfl (jx.r) aM) (bu aL)) ?_
 rintro ⟨j,g⟩ hj
 replace hj : j ≤ e.args.length := hj
 repeat (first | refine ah tk rfl ?_ | refine ac ?_ | refine ab ?_ | refine aa ?_)
 refine bg rfl (fun h=>?_) (fun h=>?_)
 ·have hlt : j < e.args.length := by simpa using h
  repeat (first | refine ab ?_ | refine aa ?_ | refine ap ?_ | refine av ?_)
  refine aQ tk (zn j) (tz hlt) ?_
  repeat (first | refine ah tk rfl ?_ | refine ac ?_ | refine aa ?_ | refine aB tk ?_ | (refine fH tk rfl rfl rfl rfl rfl rfl ?_; intro bk) | refine aq tk ?_)
  refine ak Tryz.call117 (jx.r) (ih _ (List.getElem_mem hlt)) ?_
  repeat (refine sq tk rfl rfl rfl rfl rfl rfl ?_)
  refine uC (rows2 := [ae (bR v e.args[j])]) tk rfl rfl rfl rfl rfl rfl rfl rfl rfl rfl rfl rfl rfl ?_ ?_ fun g'=>?_
  ·simp only [zl,List.length_take,List.length_cons,List.length_nil]
   rw [Nat.min_eq_left hj]
   show (j + 1) * 32 ≤ 2 ^ 47
   omega
  ·simp only [zl,List.length_take,List.length_cons,List.length_nil]
   omega
  repeat (first | refine ah tk rfl ?_ | refine ac ?_ | refine aa ?_ | refine aF ?_)
  rw [evalRows hlt]
  refine kN (j + 1,g') ?_ ?_ (Gh.le (bC (PLe.q (eB (by omega))) (aw (aw (aw (aw (aw (aw aY))))))) (bn rfl (jx.r) aM) (bu aL))
  ·show e.args.length - (j + 1) < e.args.length - j
   omega
  ·exact hlt
 have hge : j = e.args.length := by have : ¬ j < e.args.length := by simpa using h
                                    omega
 subst hge
 refine dP 5 rfl rfl rfl ?_
 simp only [List.take_length]
 generalize e.args.map (bR v) = L
 refine gS (st' := ⟨92,upd (upd (upd (fun _=>.any) 5 (pvals L)) 4 (.box 4 bk 0)) 3 (.ptr [am e.kind,.str e.name,am e.index,am e.value.kind,am e.value.int,.str e.value.text,qV e.args]),upd (fun _=>none) 4 (some ⟨bk,ae .nul⟩),fun _=>none⟩) (Gh.le (aw (aw (aw aY))) (bn rfl (jx.r) aM) aL) ?_
 generalize e.name = name
 by_cases hn : name ∈ cR
 ·simp only [cR,List.mem_cons,List.mem_nil_iff,or_false] at hn
  rcases hn with rfl | rfl | rfl | rfl | rfl | rfl | rfl | rfl | rfl | rfl | rfl | rfl | rfl
  ·have hi : aK (fun x=>[43] == x) cR = 0 := by rfl
   by_cases hl : L.length = 2
   ·obtain ⟨a,b,rfl⟩ := iC hl
    repeat' (first | (show Ao _ _ _ _ _; first | refine ah tk rfl ?_ | refine ac ?_ | refine aq tk ?_ | refine ak Tryz.call190 (jx.r) (gZ) ?_ | refine ak Tryz.call160 (jx.r) (hi ▸ cv _ _) ?_ | refine ak Tryz.call192 (jx.r) (cQ (p := fun v=>v.kind == 0) _ Tryz.call193 fun v _=>dL v) ?_ | refine ak Tryz.call194 (jx.r) (jV _ _ _ rfl rfl) ?_) | (show V _ _ _ _ _; first | refine ab ?_ | refine aa ?_ | refine ap ?_ | refine bB rfl ?_ | refine av ?_ | refine aF ?_ | refine bh rfl ?_ | refine bg rfl (fun h=>?_) (fun h=>?_)))
    all_goals refine cg tk (PLe.q ?_)
    all_goals simp_all [bA,bK,LVal.nul]
   ·repeat' (first | (show Ao _ _ _ _ _; first | refine ah tk rfl ?_ | refine ac ?_ | refine aq tk ?_ | refine ak Tryz.call190 (jx.r) (gZ) ?_ | refine ak Tryz.call160 (jx.r) (hi ▸ cv _ _) ?_ | refine ak Tryz.call192 (jx.r) (cQ (p := fun v=>v.kind == 0) _ Tryz.call193 fun v _=>dL v) ?_) | (show V _ _ _ _ _; first | refine ab ?_ | refine aa ?_ | refine ap ?_ | refine bB rfl ?_ | refine av ?_ | refine aF ?_ | refine bh rfl ?_ | refine bg rfl (fun h=>?_) (fun h=>?_)))
    all_goals try (exfalso; simp_all; omega)
    all_goals refine cg tk (PLe.q ?_)
    all_goals (have : bA [43] L = .nul := by simp [bA,bK]; omega)
    all_goals (rw [this]; rfl)
  ·have hi : aK (fun x=>[45] == x) cR = 1 := by rfl
   by_cases hl : L.length = 2
   ·obtain ⟨a,b,rfl⟩ := iC hl
    repeat' (first | (show Ao _ _ _ _ _; first | refine ah tk rfl ?_ | refine ac ?_ | refine aq tk ?_ | refine ak Tryz.call190 (jx.r) (gZ) ?_ | refine ak Tryz.call160 (jx.r) (hi ▸ cv _ _) ?_ | refine ak Tryz.call192 (jx.r) (cQ (p := fun v=>v.kind == 0) _ Tryz.call193 fun v _=>dL v) ?_ | refine ak Tryz.call194 (jx.r) (jV _ _ _ rfl rfl) ?_) | (show V _ _ _ _ _; first | refine ab ?_ | refine aa ?_ | refine ap ?_ | refine bB rfl ?_ | refine av ?_ | refine aF ?_ | refine bh rfl ?_ | refine bg rfl (fun h=>?_) (fun h=>?_)))
    all_goals refine cg tk (PLe.q ?_)
    all_goals simp_all [bA,bK,LVal.nul]
   ·repeat' (first | (show Ao _ _ _ _ _; first | refine ah tk rfl ?_ | refine ac ?_ | refine aq tk ?_ | refine ak Tryz.call190 (jx.r) (gZ) ?_ | refine ak Tryz.call160 (jx.r) (hi ▸ cv _ _) ?_ | refine ak Tryz.call192 (jx.r) (cQ (p := fun v=>v.kind == 0) _ Tryz.call193 fun v _=>dL v) ?_) | (show V _ _ _ _ _; first | refine ab ?_ | refine aa ?_ | refine ap ?_ | refine bB rfl ?_ | refine av ?_ | refine aF ?_ | refine bh rfl ?_ | refine bg rfl (fun h=>?_) (fun h=>?_)))
    all_goals try (exfalso; simp_all; omega)
    all_goals refine cg tk (PLe.q ?_)
    all_goals (have : bA [45] L = .nul := by simp [bA,bK]; omega)
    all_goals (rw [this]; rfl)
  ·have hi : aK (fun x=>[42] == x) cR = 2 := by rfl
   by_cases hl : L.length = 2
   ·obtain ⟨a,b,rfl⟩ := iC hl
    repeat' (first | (show Ao _ _ _ _ _; first | refine ah tk rfl ?_ | refine ac ?_ | refine aq tk ?_ | refine ak Tryz.call190 (jx.r) (gZ) ?_ | refine ak Tryz.call160 (jx.r) (hi ▸ cv _ _) ?_ | refine ak Tryz.call192 (jx.r) (cQ (p := fun v=>v.kind == 0) _ Tryz.call193 fun v _=>dL v) ?_ | refine ak Tryz.call194 (jx.r) (jV _ _ _ rfl rfl) ?_) | (show V _ _ _ _ _; first | refine ab ?_ | refine aa ?_ | refine ap ?_ | refine bB rfl ?_ | refine av ?_ | refine aF ?_ | refine bh rfl ?_ | refine bg rfl (fun h=>?_) (fun h=>?_)))
    all_goals refine cg tk (PLe.q ?_)
    all_goals simp_all [bA,bK,LVal.nul]
   ·repeat' (first | (show Ao _ _ _ _ _; first | refine ah tk rfl ?_ | refine ac ?_ | refine aq tk ?_ | refine ak Tryz.call190 (jx.r) (gZ) ?_ | refine ak Tryz.call160 (jx.r) (hi ▸ cv _ _) ?_ | refine ak Tryz.call192 (jx.r) (cQ (p := fun v=>v.kind == 0) _ Tryz.call193 fun v _=>dL v) ?_) | (show V _ _ _ _ _; first | refine ab ?_ | refine aa ?_ | refine ap ?_ | refine bB rfl ?_ | refine av ?_ | refine aF ?_ | refine bh rfl ?_ | refine bg rfl (fun h=>?_) (fun h=>?_)))
    all_goals try (exfalso; simp_all; omega)
    all_goals refine cg tk (PLe.q ?_)
    all_goals (have : bA [42] L = .nul := by simp [bA,bK]; omega)
    all_goals (rw [this]; rfl)
  ·have hi : aK (fun x=>[61] == x) cR = 3 := by rfl
   by_cases hl : L.length = 2
   ·obtain ⟨a,b,rfl⟩ := iC hl
    repeat' (first | (show Ao _ _ _ _ _; first | refine ah tk rfl ?_ | refine ac ?_ | refine aq tk ?_ | refine ak Tryz.call190 (jx.r) (gZ) ?_ | refine ak Tryz.call160 (jx.r) (hi ▸ cv _ _) ?_ | refine ak Tryz.call192 (jx.r) (cQ (p := fun v=>v.kind == 0) _ Tryz.call193 fun v _=>dL v) ?_ | refine ak Tryz.call194 (jx.r) (jV _ _ _ rfl rfl) ?_) | (show V _ _ _ _ _; first | refine ab ?_ | refine aa ?_ | refine ap ?_ | refine bB rfl ?_ | refine av ?_ | refine aF ?_ | refine bh rfl ?_ | refine bg rfl (fun h=>?_) (fun h=>?_)))
    all_goals refine cg tk (PLe.q ?_)
    all_goals simp_all [bA,bK,LVal.nul]
   ·repeat' (first | (show Ao _ _ _ _ _; first | refine ah tk rfl ?_ | refine ac ?_ | refine aq tk ?_ | refine ak Tryz.call190 (jx.r) (gZ) ?_ | refine ak Tryz.call160 (jx.r) (hi ▸ cv _ _) ?_ | refine ak Tryz.call192 (jx.r) (cQ (p := fun v=>v.kind == 0) _ Tryz.call193 fun v _=>dL v) ?_) | (show V _ _ _ _ _; first | refine ab ?_ | refine aa ?_ | refine ap ?_ | refine bB rfl ?_ | refine av ?_ | refine aF ?_ | refine bh rfl ?_ | refine bg rfl (fun h=>?_) (fun h=>?_)))
    all_goals try (exfalso; simp_all; omega)
    all_goals refine cg tk (PLe.q ?_)
    all_goals (have : bA [61] L = .nul := by simp [bA,bK]; omega)
    all_goals (rw [this]; rfl)
  ·have hi : aK (fun x=>[60] == x) cR = 4 := by rfl
   by_cases hl : L.length = 2
   ·obtain ⟨a,b,rfl⟩ := iC hl
    repeat' (first | (show Ao _ _ _ _ _; first | refine ah tk rfl ?_ | refine ac ?_ | refine aq tk ?_ | refine ak Tryz.call190 (jx.r) (gZ) ?_ | refine ak Tryz.call160 (jx.r) (hi ▸ cv _ _) ?_ | refine ak Tryz.call192 (jx.r) (cQ (p := fun v=>v.kind == 0) _ Tryz.call193 fun v _=>dL v) ?_ | refine ak Tryz.call194 (jx.r) (jV _ _ _ rfl rfl) ?_) | (show V _ _ _ _ _; first | refine ab ?_ | refine aa ?_ | refine ap ?_ | refine bB rfl ?_ | refine av ?_ | refine aF ?_ | refine bh rfl ?_ | refine bg rfl (fun h=>?_) (fun h=>?_)))
    all_goals refine cg tk (PLe.q ?_)
    all_goals simp_all [bA,bK,LVal.nul]
   ·repeat' (first | (show Ao _ _ _ _ _; first | refine ah tk rfl ?_ | refine ac ?_ | refine aq tk ?_ | refine ak Tryz.call190 (jx.r) (gZ) ?_ | refine ak Tryz.call160 (jx.r) (hi ▸ cv _ _) ?_ | refine ak Tryz.call192 (jx.r) (cQ (p := fun v=>v.kind == 0) _ Tryz.call193 fun v _=>dL v) ?_) | (show V _ _ _ _ _; first | refine ab ?_ | refine aa ?_ | refine ap ?_ | refine bB rfl ?_ | refine av ?_ | refine aF ?_ | refine bh rfl ?_ | refine bg rfl (fun h=>?_) (fun h=>?_)))
    all_goals try (exfalso; simp_all; omega)
    all_goals refine cg tk (PLe.q ?_)
    all_goals (have : bA [60] L = .nul := by simp [bA,bK]; omega)
    all_goals (rw [this]; rfl)
  ·have hi : aK (fun x=>[60,61] == x) cR = 5 := by rfl
   by_cases hl : L.length = 2
   ·obtain ⟨a,b,rfl⟩ := iC hl
    repeat' (first | (show Ao _ _ _ _ _; first | refine ah tk rfl ?_ | refine ac ?_ | refine aq tk ?_ | refine ak Tryz.call190 (jx.r) (gZ) ?_ | refine ak Tryz.call160 (jx.r) (hi ▸ cv _ _) ?_ | refine ak Tryz.call192 (jx.r) (cQ (p := fun v=>v.kind == 0) _ Tryz.call193 fun v _=>dL v) ?_ | refine ak Tryz.call194 (jx.r) (jV _ _ _ rfl rfl) ?_) | (show V _ _ _ _ _; first | refine ab ?_ | refine aa ?_ | refine ap ?_ | refine bB rfl ?_ | refine av ?_ | refine aF ?_ | refine bh rfl ?_ | refine bg rfl (fun h=>?_) (fun h=>?_)))
    all_goals refine cg tk (PLe.q ?_)
    all_goals simp_all [bA,bK,LVal.nul]
   ·repeat' (first | (show Ao _ _ _ _ _; first | refine ah tk rfl ?_ | refine ac ?_ | refine aq tk ?_ | refine ak Tryz.call190 (jx.r) (gZ) ?_ | refine ak Tryz.call160 (jx.r) (hi ▸ cv _ _) ?_ | refine ak Tryz.call192 (jx.r) (cQ (p := fun v=>v.kind == 0) _ Tryz.call193 fun v _=>dL v) ?_) | (show V _ _ _ _ _; first | refine ab ?_ | refine aa ?_ | refine ap ?_ | refine bB rfl ?_ | refine av ?_ | refine aF ?_ | refine bh rfl ?_ | refine bg rfl (fun h=>?_) (fun h=>?_)))
    all_goals try (exfalso; simp_all; omega)
    all_goals refine cg tk (PLe.q ?_)
    all_goals (have : bA [60,61] L = .nul := by simp [bA,bK]; omega)
    all_goals (rw [this]; rfl)
  ·have hi : aK (fun x=>[97,110,100] == x) cR = 6 := by rfl
   by_cases hl : L.length = 2
   ·obtain ⟨a,b,rfl⟩ := iC hl
    repeat' (first | (show Ao _ _ _ _ _; first | refine ah tk rfl ?_ | refine ac ?_ | refine ak Tryz.call190 (jx.r) (gZ) ?_ | refine ak Tryz.call160 (jx.r) (hi ▸ cv _ _) ?_) | (show V _ _ _ _ _; first | refine ab ?_ | refine aa ?_ | refine ap ?_ | refine bL rfl ?_ | refine bB rfl ?_ | refine av ?_ | refine bh rfl ?_ | (show V _ _ _ (.code (.region 19 _ true) :: _) _; refine bw tk mok ⟨false,false,[]⟩ [0,1,2,3,4,5,6,7] rfl (by decide +kernel) rfl ?_)) | (show Do _ _ _ _ _ _ _; first | refine bT rfl ?_ | refine br ?_ | refine ff ?_ | refine aV Tryz.call191 (jx.r) (bothV_spec _ _ _) ?_))
    all_goals refine cg tk (PLe.q ?_)
    all_goals simp_all [bA,bK,LVal.nul]
   ·repeat' (first | (show Ao _ _ _ _ _; first | refine ah tk rfl ?_ | refine ac ?_ | refine aq tk ?_ | refine ak Tryz.call190 (jx.r) (gZ) ?_ | refine ak Tryz.call160 (jx.r) (hi ▸ cv _ _) ?_) | (show V _ _ _ _ _; first | refine ab ?_ | refine aa ?_ | refine ap ?_ | refine bL rfl ?_ | refine bB rfl ?_ | refine av ?_ | refine bh rfl ?_ | (show V _ _ _ (.code (.region 19 _ true) :: _) _; refine bw tk mok ⟨false,false,[]⟩ [0,1,2,3,4,5,6,7] rfl (by decide +kernel) rfl ?_) | refine bg rfl (fun h=>?_) (fun h=>?_)) | (show Do _ _ _ _ _ _ _; first | refine bT rfl ?_))
    all_goals try (exfalso; simp_all; omega)
    all_goals refine cg tk (PLe.q ?_)
    all_goals (have : bA [97,110,100] L = .nul := by simp [bA,bK]; omega)
    all_goals (rw [this]; rfl)
  ·have hi : aK (fun x=>[111,114] == x) cR = 7 := by rfl
   by_cases hl : L.length = 2
   ·obtain ⟨a,b,rfl⟩ := iC hl
    repeat' (first | (show Ao _ _ _ _ _; first | refine ah tk rfl ?_ | refine ac ?_ | refine ak Tryz.call190 (jx.r) (gZ) ?_ | refine ak Tryz.call160 (jx.r) (hi ▸ cv _ _) ?_) | (show V _ _ _ _ _; first | refine ab ?_ | refine aa ?_ | refine ap ?_ | refine bL rfl ?_ | refine bB rfl ?_ | refine av ?_ | refine bh rfl ?_ | (show V _ _ _ (.code (.region 21 _ true) :: _) _; refine bw tk mok ⟨false,false,[]⟩ [0,1,2,3,4,5,6,7] rfl (by decide +kernel) rfl ?_)) | (show Do _ _ _ _ _ _ _; first | refine bT rfl ?_ | refine br ?_ | refine ff ?_ | refine aV Tryz.call191 (jx.r) (bothV_spec _ _ _) ?_))
    all_goals refine cg tk (PLe.q ?_)
    all_goals simp_all [bA,bK,LVal.nul]
   ·repeat' (first | (show Ao _ _ _ _ _; first | refine ah tk rfl ?_ | refine ac ?_ | refine aq tk ?_ | refine ak Tryz.call190 (jx.r) (gZ) ?_ | refine ak Tryz.call160 (jx.r) (hi ▸ cv _ _) ?_) | (show V _ _ _ _ _; first | refine ab ?_ | refine aa ?_ | refine ap ?_ | refine bL rfl ?_ | refine bB rfl ?_ | refine av ?_ | refine bh rfl ?_ | (show V _ _ _ (.code (.region 21 _ true) :: _) _; refine bw tk mok ⟨false,false,[]⟩ [0,1,2,3,4,5,6,7] rfl (by decide +kernel) rfl ?_) | refine bg rfl (fun h=>?_) (fun h=>?_)) | (show Do _ _ _ _ _ _ _; first | refine bT rfl ?_))
    all_goals try (exfalso; simp_all; omega)
    all_goals refine cg tk (PLe.q ?_)
    all_goals (have : bA [111,114] L = .nul := by simp [bA,bK]; omega)
    all_goals (rw [this]; rfl)
  ·have hi : aK (fun x=>[110,111,116] == x) cR = 8 := by rfl
   by_cases hl : L.length = 1
   ·obtain ⟨a,rfl⟩ := List.length_eq_one_iff.1 hl
    repeat' (first | (show Ao _ _ _ _ _; first | refine ah tk rfl ?_ | refine ac ?_ | refine aq tk ?_ | refine ak Tryz.call190 (jx.r) (gZ) ?_ | refine ak Tryz.call160 (jx.r) (hi ▸ cv _ _) ?_ | refine ak Tryz.call192 (jx.r) (cQ (p := fun v=>v.kind == 0) _ Tryz.call193 fun v _=>dL v) ?_ | refine us (g := 194) rfl rfl rfl Tryz.call194 (jx.r) (ue _ _ (by simp)) rfl ?_) | (show V _ _ _ _ _; first | refine ab ?_ | refine aa ?_ | refine ap ?_ | refine bB rfl ?_ | refine av ?_ | refine aF ?_ | refine bh rfl ?_ | refine bg rfl (fun h=>?_) (fun h=>?_)))
    all_goals refine cg tk (PLe.q ?_)
    all_goals simp_all [bA,bK,LVal.nul]
   ·repeat' (first | (show Ao _ _ _ _ _; first | refine ah tk rfl ?_ | refine ac ?_ | refine aq tk ?_ | refine ak Tryz.call190 (jx.r) (gZ) ?_ | refine ak Tryz.call160 (jx.r) (hi ▸ cv _ _) ?_ | refine ak Tryz.call192 (jx.r) (cQ (p := fun v=>v.kind == 0) _ Tryz.call193 fun v _=>dL v) ?_) | (show V _ _ _ _ _; first | refine ab ?_ | refine aa ?_ | refine ap ?_ | refine bB rfl ?_ | refine av ?_ | refine aF ?_ | refine bh rfl ?_ | refine bg rfl (fun h=>?_) (fun h=>?_)))
    all_goals try (exfalso; simp_all; omega)
    all_goals refine cg tk (PLe.q ?_)
    all_goals (have : bA [110,111,116] L = .nul := by simp [bA,bK]; omega)
    all_goals (rw [this]; rfl)
  ·have hi : aK (fun x=>[124,124] == x) cR = 9 := by rfl
   by_cases hl : L.length = 2
   ·obtain ⟨a,b,rfl⟩ := iC hl
    repeat' (first | (show Ao _ _ _ _ _; first | refine ah tk rfl ?_ | refine ac ?_ | refine aq tk ?_ | refine ak Tryz.call190 (jx.r) (gZ) ?_ | refine ak Tryz.call160 (jx.r) (hi ▸ cv _ _) ?_ | refine ak Tryz.call192 (jx.r) (cQ (p := fun v=>v.kind == 0) _ Tryz.call193 fun v _=>dL v) ?_ | refine ak Tryz.call194 (jx.r) (jV _ _ _ rfl rfl) ?_) | (show V _ _ _ _ _; first | refine ab ?_ | refine aa ?_ | refine ap ?_ | refine bB rfl ?_ | refine av ?_ | refine aF ?_ | refine bh rfl ?_ | refine bg rfl (fun h=>?_) (fun h=>?_)))
    all_goals refine cg tk (PLe.q ?_)
    all_goals simp_all [bA,bK,LVal.nul]
   ·repeat' (first | (show Ao _ _ _ _ _; first | refine ah tk rfl ?_ | refine ac ?_ | refine aq tk ?_ | refine ak Tryz.call190 (jx.r) (gZ) ?_ | refine ak Tryz.call160 (jx.r) (hi ▸ cv _ _) ?_ | refine ak Tryz.call192 (jx.r) (cQ (p := fun v=>v.kind == 0) _ Tryz.call193 fun v _=>dL v) ?_) | (show V _ _ _ _ _; first | refine ab ?_ | refine aa ?_ | refine ap ?_ | refine bB rfl ?_ | refine av ?_ | refine aF ?_ | refine bh rfl ?_ | refine bg rfl (fun h=>?_) (fun h=>?_)))
    all_goals try (exfalso; simp_all; omega)
    all_goals refine cg tk (PLe.q ?_)
    all_goals (have : bA [124,124] L = .nul := by simp [bA,bK]; omega)
    all_goals (rw [this]; rfl)
  ·have hi : aK (fun x=>[105,115,32,110,117,108,108] == x) cR = 10 := by rfl
   by_cases hl : L.length = 1
   ·obtain ⟨a,rfl⟩ := List.length_eq_one_iff.1 hl
    repeat' (first | (show Ao _ _ _ _ _; first | refine ah tk rfl ?_ | refine ac ?_ | refine aq tk ?_ | refine ak Tryz.call190 (jx.r) (gZ) ?_ | refine ak Tryz.call160 (jx.r) (hi ▸ cv _ _) ?_ | refine ak Tryz.call181 (jx.r) (nc _) ?_) | (show V _ _ _ _ _; first | refine ab ?_ | refine aa ?_ | refine ap ?_ | refine bL rfl ?_ | refine bB rfl ?_ | refine av ?_ | refine bh rfl ?_))
    all_goals refine cg tk (PLe.q ?_)
    all_goals simp_all [bA,bK,LVal.nul]
   ·repeat' (first | (show Ao _ _ _ _ _; first | refine ah tk rfl ?_ | refine ac ?_ | refine aq tk ?_ | refine ak Tryz.call190 (jx.r) (gZ) ?_ | refine ak Tryz.call160 (jx.r) (hi ▸ cv _ _) ?_) | (show V _ _ _ _ _; first | refine ab ?_ | refine aa ?_ | refine ap ?_ | refine bL rfl ?_ | refine av ?_ | refine bh rfl ?_ | refine bg rfl (fun h=>?_) (fun h=>?_)))
    all_goals try (exfalso; simp_all; omega)
    all_goals refine cg tk (PLe.q ?_)
    all_goals (have : bA [105,115,32,110,117,108,108] L = .nul := by simp [bA,bK]; omega)
    all_goals (rw [this]; rfl)
  ·have hi : aK (fun x=>[108,101,110,103,116,104] == x) cR = 11 := by rfl
   by_cases hl : L.length = 1
   ·obtain ⟨a,rfl⟩ := List.length_eq_one_iff.1 hl
    repeat' (first | (show Ao _ _ _ _ _; first | refine ah tk rfl ?_ | refine ac ?_ | refine aq tk ?_ | refine ak Tryz.call190 (jx.r) (gZ) ?_ | refine ak Tryz.call160 (jx.r) (hi ▸ cv _ _) ?_ | refine ak Tryz.call192 (jx.r) (cQ (p := fun v=>v.kind == 0) _ Tryz.call193 fun v _=>dL v) ?_ | refine us (g := 194) rfl rfl rfl Tryz.call194 (jx.r) (ue _ _ (by simp)) rfl ?_) | (show V _ _ _ _ _; first | refine ab ?_ | refine aa ?_ | refine ap ?_ | refine bB rfl ?_ | refine av ?_ | refine aF ?_ | refine bh rfl ?_ | refine bg rfl (fun h=>?_) (fun h=>?_)))
    all_goals refine cg tk (PLe.q ?_)
    all_goals simp_all [bA,bK,LVal.nul]
   ·repeat' (first | (show Ao _ _ _ _ _; first | refine ah tk rfl ?_ | refine ac ?_ | refine aq tk ?_ | refine ak Tryz.call190 (jx.r) (gZ) ?_ | refine ak Tryz.call160 (jx.r) (hi ▸ cv _ _) ?_ | refine ak Tryz.call192 (jx.r) (cQ (p := fun v=>v.kind == 0) _ Tryz.call193 fun v _=>dL v) ?_) | (show V _ _ _ _ _; first | refine ab ?_ | refine aa ?_ | refine ap ?_ | refine bB rfl ?_ | refine av ?_ | refine aF ?_ | refine bh rfl ?_ | refine bg rfl (fun h=>?_) (fun h=>?_)))
    all_goals try (exfalso; simp_all; omega)
    all_goals refine cg tk (PLe.q ?_)
    all_goals (have : bA [108,101,110,103,116,104] L = .nul := by simp [bA,bK]; omega)
    all_goals (rw [this]; rfl)
  ·have hi : aK (fun x=>[105,102] == x) cR = 12 := by rfl
   by_cases hl : L.length = 3
   ·obtain ⟨a,b,c,rfl⟩ := len3 hl
    repeat' (first | (show Ao _ _ _ _ _; first | refine ah tk rfl ?_ | refine ac ?_ | refine aq tk ?_ | refine ak Tryz.call190 (jx.r) (gZ) ?_ | refine ak Tryz.call160 (jx.r) (hi ▸ cv _ _) ?_ | refine ak Tryz.call116 (jx.r) (isTS _) ?_) | (show V _ _ _ _ _; first | refine ab ?_ | refine aa ?_ | refine ap ?_ | refine bL rfl ?_ | refine bB rfl ?_ | refine av ?_ | refine bh rfl ?_ | refine bg rfl (fun h=>?_) (fun h=>?_)))
    all_goals refine cg tk (PLe.q ?_)
    all_goals simp_all [bA,bK,LVal.nul]
   ·repeat' (first | (show Ao _ _ _ _ _; first | refine ah tk rfl ?_ | refine ac ?_ | refine aq tk ?_ | refine ak Tryz.call190 (jx.r) (gZ) ?_ | refine ak Tryz.call160 (jx.r) (hi ▸ cv _ _) ?_) | (show V _ _ _ _ _; first | refine ab ?_ | refine aa ?_ | refine ap ?_ | refine bL rfl ?_ | refine bB rfl ?_ | refine av ?_ | refine bh rfl ?_ | refine bg rfl (fun h=>?_) (fun h=>?_)))
    all_goals try (exfalso; simp_all; omega)
    all_goals refine cg tk (PLe.q ?_)
    all_goals (have : bA [105,102] L = .nul := by simp [bA,bK]; omega)
    all_goals (rw [this]; rfl)
 have hi : aK (fun x=>name == x) cR = -1 := kA fun x hx=>by
  cases hb : name == x with
  | false=>rfl
  | true=>exact absurd (by rw [eq_of_beq hb]; exact hx) hn
 repeat' (first | (show Ao _ _ _ _ _; first | refine ah tk rfl ?_ | refine ac ?_ | refine aq tk ?_ | refine ak Tryz.call190 (jx.r) (gZ) ?_ | refine ak Tryz.call160 (jx.r) (hi ▸ cv _ _) ?_) | (show V _ _ _ _ _; first | refine ab ?_ | refine aa ?_ | refine bL rfl ?_ | refine bh rfl ?_))
 all_goals refine cg tk (PLe.q ?_)
 have : bK name = none := by
  simp only [cR,List.mem_cons,List.mem_nil_iff,or_false,not_or] at hn
  simp [bK,hn]
 have : bA name L = .nul := by simp [bA,this]
 rw [this]
 rfl
theorem colName_spec (c : LCol) (e : LExpr) : aI Tryz.prog 159 [pcol c,.ptr (iM e)] (aC (c.name == e.name)) := by
 refine PH.au Tryz.func159 Tryz.ntmps159 ?_
 repeat' (first | (show Ao _ _ _ _ _; first | refine ah tk rfl ?_ | refine ac ?_ | refine aD ?_) | (show V _ _ _ _ _; first | refine ab ?_ | refine aa ?_))
 all_goals refine cF tk (PLe.q rfl)
theorem getVal {l : Rq} {j : Int} (h0 : 0 ≤ j) (h : j < ((l.map ae).length : Int)) : (l.map ae)[j.toNat]? = some (ae (l.getD j.toNat .nul)) := by
 simp at h
 have : j.toNat < l.length := by omega
 simp [this]
theorem rJ (v : LEnv) (e : LExpr) : bR v e =
  if e.kind == 1 then e.value
  else if e.kind == 2 then (if 0 ≤ aK (fun c : LCol=>c.name == e.name) v.cols ∧ aK (fun c : LCol=>c.name == e.name) v.cols < v.row.length then v.row.getD (aK (fun c : LCol=>c.name == e.name) v.cols).toNat .nul else .nul)
  else if e.kind == 3 then (if 0 ≤ e.index ∧ e.index < v.params.length ∧ (v.params.getD e.index.toNat .nul).kind = e.value.kind then v.params.getD e.index.toNat .nul else .nul)
  else if e.kind == 4 then (if 0 ≤ aK (fun s : List UInt8=>e.name == s) v.vnames ∧ aK (fun s : List UInt8=>e.name == s) v.vnames < v.vvals.length then v.vvals.getD (aK (fun s : List UInt8=>e.name == s) v.vnames).toNat .nul else .nul)
  else if e.kind == 5 then bA e.name (e.args.map (bR v))
  else .nul := by
 cases e
 rw [bR,evalEs_map]
 rfl
theorem evalStep (v : LEnv) (e : LExpr) (ih : ∀ a ∈ e.args,aI Tryz.prog 117 [penv v,jJ a] (kf (bR v a))) :
  aI Tryz.prog 117 [penv v,jJ e] (kf (bR v e)) := by
 refine PH.au Tryz.func117 Tryz.ntmps117 ?_
 repeat' (first | (show Ao _ _ _ _ _; first | refine ah tk rfl ?_ | refine ac ?_ | refine aD ?_ | (refine fH tk rfl rfl rfl rfl rfl rfl ?_; intro bk) | refine aq tk ?_ | refine ak Tryz.call8 (jx.r) (indexCol (p := fun c=>c.name == e.name) _ Tryz.call159 fun c _=>colName_spec c e) ?_ | refine ak Tryz.call160 (jx.r) (cv _ _) ?_ | refine ak Tryz.call161 (jx.r) (reckon_spec v e ih) ?_ | refine pV tk rfl rfl rfl rfl rfl rfl (of_decide_eq_true (by assumption)) (getVal (of_decide_eq_true (by assumption)) (of_decide_eq_true (by assumption))) rfl ?_ | ((fail_if_success refine fP rfl ?_); refine gw rfl rfl rfl (fun h=>?_) (fun h=>?_))) | (show V _ _ _ _ _; first | refine ab ?_ | refine aa ?_ | refine ap ?_ | refine bB rfl ?_ | refine av ?_ | refine aF ?_ | (show V _ _ _ (.code (.region 9 _ true) :: _) _; refine bw tk mok ⟨false,false,[]⟩ [0,1,2,3,4,5,6,7,8,9,10,11,12,13,14,15,16,17,18,19,20,21,22,23] rfl (by decide +kernel) rfl ?_) | refine bg rfl (fun h=>?_) (fun h=>?_)) | (show Do _ _ _ _ _ _ _; first | refine bT rfl ?_ | refine br ?_ | refine vu rfl rfl rfl rfl rfl rfl rfl (of_decide_eq_true (by assumption)) (getVal (of_decide_eq_true (by assumption)) (of_decide_eq_true (by assumption))) rfl ?_ | ((fail_if_success refine mC rfl rfl ?_); refine nA rfl rfl rfl rfl (fun h=>?_) (fun h=>?_))))
 all_goals refine cg tk (PLe.q ?_)
 all_goals rw [rJ]
 all_goals simp_all [LVal.nul]
 all_goals rw [zy (by omega)]
 all_goals exact ⟨rfl,rfl,rfl⟩
theorem oA (v : LEnv) : ∀ e : LExpr,aI Tryz.prog 117 [penv v,jJ e] (kf (bR v e))
 | .mk k n i x args=>evalStep v (.mk k n i x args) fun a ha=>by
  have ha' : a ∈ args := ha
  exact oA v a
def lit (v : LVal) : LExpr := .mk 1 [] 0 v []
def nC (acc r : Int × Int) : Int × Int := (wr (acc.1 + r.1),if r.2 > acc.2 then r.2 else acc.2)
mutual
def iX : LExpr → Int × Int
 | .mk _ _ _ _ args=>let r := (sizesE args).foldl nC (1,0); (r.1,wr (r.2 + 1))
def sizesE : List LExpr → List (Int × Int)
 | []=>[]
 | e :: r=>iX e :: sizesE r
end
theorem sizesE_map : ∀ l,sizesE l = l.map iX
 | []=>rfl
 | e :: r=>by simp [sizesE,sizesE_map r]
theorem sizeE_eq (e : LExpr) : iX e = (((e.args.map iX).foldl nC (1,0)).1,wr (((e.args.map iX).foldl nC (1,0)).2 + 1)) := by
 cases e
 rw [iX,sizesE_map]
 rfl
theorem foldl_take {α β : Type} (g : β → α → β) (z : β) {l : List α} {j : Nat} (h : j < l.length) : (l.take (j + 1)).foldl g z = g ((l.take j).foldl g z) l[j] := by
 rw [List.take_add_one,ze h,List.foldl_append]
 rfl
theorem sizeStep_spec (e : LExpr) (ih : ∀ a ∈ e.args,aI Tryz.prog 212 [jJ a] (.tup [am (iX a).1,am (iX a).2])) :
  aI Tryz.prog 212 [jJ e] (.tup [am (iX e).1,am (iX e).2]) := by
 refine PH.au Tryz.func212 Tryz.ntmps212 ?_
 repeat (first | refine ah tk rfl ?_ | refine ac ?_ | refine ab ?_ | refine aa ?_ | refine av ?_ | refine aD ?_)
 refine gm tk 11 rfl rfl fun hl _=>?_
 rw [zl] at hl
 refine kg (X := Nat) (fun j=>⟨32,upd (upd (upd (upd (upd (fun _=>.any) 5 (am (((e.args.map iX).take j).foldl nC (1,0)).2)) 4 (am (((e.args.map iX).take j).foldl nC (1,0)).1)) 11 (qV e.args)) 12 (am (e.args.map eA).length)) 13 (am j),fun _=>none,fun _=>none⟩)
  (fun j=>j ≤ e.args.length) (fun j=>e.args.length - j) 0 (Nat.zero_le _) (Gh.le (aw (aw (aw (aw (aw aY))))) aM aL) ?_
 intro j hj
 repeat (first | refine ah tk rfl ?_ | refine ac ?_ | refine ab ?_ | refine aa ?_)
 refine bg rfl (fun h=>?_) (fun h=>?_)
 ·have hlt : j < e.args.length := by simpa using h
  repeat (first | refine ab ?_ | refine aa ?_ | refine ap ?_ | refine av ?_)
  refine aQ tk (zn j) (tz hlt) ?_
  repeat (first | refine ah tk rfl ?_ | refine ac ?_ | refine ab ?_ | refine aa ?_ | refine aB tk ?_ | (refine fH tk rfl rfl rfl rfl rfl rfl ?_; intro bk) | refine aq tk ?_)
  refine ak Tryz.call212 (jx.r) (ih _ (List.getElem_mem hlt)) ?_
  repeat (first | refine ah tk rfl ?_ | refine ac ?_ | refine aa ?_ | refine aF ?_)
  have e1 := foldl_take nC (1,0) (l := e.args.map iX) (j := j) (by simpa using hlt)
  rw [List.getElem_map] at e1
  refine kN (j + 1) (by omega) hlt (Gh.le (bC (PLe.q (eB (by omega))) (aw (aw (bC (PLe.q (by rw [e1]; rfl)) (bC (PLe.q (by rw [e1]; rfl)) aY))))) aM aL)
 have hge : j = e.args.length := by have : ¬ j < e.args.length := by simpa using h
                                    omega
 subst hge
 rw [show (e.args.map iX).take e.args.length = e.args.map iX from by rw [List.take_of_length_le]; simp]
 repeat (first | refine ah tk rfl ?_ | refine ac ?_ | refine ab ?_ | refine aa ?_ | refine bh rfl ?_)
 refine vl tk rfl rfl rfl (PLe.q ?_)
 rw [sizeE_eq]
 rfl
theorem size_spec : ∀ e : LExpr,aI Tryz.prog 212 [jJ e] (.tup [am (iX e).1,am (iX e).2])
 | .mk k n i x args=>sizeStep_spec (.mk k n i x args) fun a ha=>by
  have ha' : a ∈ args := ha
  exact size_spec a
def pC (c : UInt8) : Bool := (decide ((c.toNat : Int) ≥ 97) && decide ((c.toNat : Int) ≤ 122)) || (decide ((c.toNat : Int) ≥ 48) && decide ((c.toNat : Int) ≤ 57))
theorem inner_spec (c : UInt8) : aI Tryz.prog 138 [.val (.int .u8 c.toNat)] (aC (pC c)) := by
 refine PH.au Tryz.func138 Tryz.ntmps138 ?_
 repeat' (first | (show Ao _ _ _ _ _; first | refine ah tk rfl ?_ | refine ac ?_ | ((fail_if_success refine fP rfl ?_); refine gw rfl rfl rfl (fun h=>?_) (fun h=>?_))) | (show V _ _ _ _ _; first | refine ab ?_ | refine aa ?_))
 all_goals refine cF tk (PLe.q ?_)
 all_goals simp_all [pC]
 all_goals omega
theorem colIs_spec (c : LCol) (name : List UInt8) : aI Tryz.prog 235 [pcol c,.ptr [.str name]] (aC (c.name == name)) := by
 refine PH.au Tryz.func235 Tryz.ntmps235 ?_
 repeat' (first | (show Ao _ _ _ _ _; first | refine ah tk rfl ?_ | refine ac ?_ | refine aD ?_) | (show V _ _ _ _ _; first | refine ab ?_ | refine aa ?_))
 all_goals refine cF tk (PLe.q rfl)
def kV (l : List LCol) (name : List UInt8) : LCol × Bool :=
 let i := aK (fun c : LCol=>c.name == name) l
 if i < 0 then (⟨[],0,false⟩,false) else (l.getD i.toNat ⟨[],0,false⟩,true)
theorem getCol {l : List LCol} {j : Int} (h0 : 0 ≤ j) (h : j < l.length) : (l.map aN)[j.toNat]? = some (aN (l.getD j.toNat ⟨[],0,false⟩)) := by
 have : j.toNat < l.length := by omega
 simp [this]
theorem nF {α : Type} {p : α → Bool} {l : List α} : aK p l < l.length := by
 simp only [aK]
 split
 ·rename_i i h
  have := (List.findIdx?_eq_some_iff_getElem.1 h).1
  omega
 ·omega
theorem find_spec (l : List LCol) (name : List UInt8) : aI Tryz.prog 229 [jZ l,.str name] (.tup [pcol (kV l name).1,aC (kV l name).2]) := by
 refine PH.au Tryz.func229 Tryz.ntmps229 ?_
 repeat' (first | (show Ao _ _ _ _ _; first | refine ah tk rfl ?_ | refine ac ?_ | refine aD ?_ | (refine fH tk rfl rfl rfl rfl rfl rfl ?_; intro bk) | refine aq tk ?_ | refine ak Tryz.call8 (jx.r) (indexCol (p := fun c=>c.name == name) _ Tryz.call235 fun c _=>colIs_spec c name) ?_ | refine pV tk rfl rfl rfl rfl rfl rfl (Int.not_lt.1 (of_decide_eq_false (by assumption))) (getCol (Int.not_lt.1 (of_decide_eq_false (by assumption))) nF) rfl ?_) | (show V _ _ _ _ _; first | refine ab ?_ | refine aa ?_ | refine ap ?_ | refine bg rfl (fun h=>?_) (fun h=>?_)))
 all_goals refine V.retCT tk rfl rfl rfl rfl rfl rfl (PLe.q ?_)
 all_goals simp_all [kV]
 all_goals rw [zy (by omega)]
 all_goals exact ⟨⟨rfl,rfl,rfl⟩,rfl⟩
def db (s : List UInt8) : Bool := decide (1 ≤ s.length) && decide (s.length ≤ 12) && (match s with | []=>false | c :: _=>decide (c.toNat ≥ 97) && decide (c.toNat ≤ 122)) && s.all pC
theorem idxStrAt {l : List UInt8} {j : Nat} (h : j < l.length) : l[((j : Nat) : Int).toNat]? = some l[j] := by simp [h]
theorem mw (s : List UInt8) : aI Tryz.prog 210 [.str s] (aC (db s)) := by
 cases s with
 | nil =>
  refine PH.au Tryz.func210 Tryz.ntmps210 ?_
  repeat' (first | (show Ao _ _ _ _ _; first | refine ah tk rfl ?_ | refine ac ?_) | (show V _ _ _ _ _; first | refine ab ?_ | refine aa ?_ | refine bL rfl ?_))
  all_goals refine cF tk (PLe.q rfl)
 | cons c s =>
  refine PH.au Tryz.func210 Tryz.ntmps210 ?_
  refine V.strF 0 rfl fun hl=>?_
  repeat' (first | (show Ao _ _ _ _ _; first | refine ah tk rfl ?_ | refine ac ?_ | ((fail_if_success refine fP rfl ?_); refine gw rfl rfl rfl (fun h=>?_) (fun h=>?_))) | (show V _ _ _ _ _; first | refine ab ?_ | refine aa ?_ | refine ap ?_ | refine bL rfl ?_ | refine av ?_ | refine bg rfl (fun h=>?_) (fun h=>?_)))
  case cons.refine_1 =>
   refine cF tk (PLe.q ?_)
   have : ¬ (c :: s).length ≤ 12 := by simp only [decide_eq_true_eq] at h; omega
   have : db (c :: s) = false := by simp only [db,this]; simp
   rw [this]
  case cons.refine_2.refine_1 =>
   refine cF tk (PLe.q ?_)
   have : ¬ c.toNat ≥ 97 := by simp only [decide_eq_true_eq] at h; omega
   simp [db,this]
  case cons.refine_2.refine_2.refine_1 =>
   refine cF tk (PLe.q ?_)
   have : ¬ c.toNat ≤ 122 := by simp only [decide_eq_true_eq] at h; omega
   simp [db,this]
  rename_i h1 h2
  have hs : db (c :: s) = (c :: s).all pC := by
   simp only [decide_eq_false_iff_not] at h1 h2 h
   have e1 : (c :: s).length ≤ 12 := by omega
   have e2 : c.toNat ≥ 97 := by omega
   have e3 : c.toNat ≤ 122 := by omega
   simp only [db,e1,e2,e3]
   simp
  rw [hs]
  clear hs h h1 h2
  generalize hL : c :: s = L at *
  refine kg (X := Nat) (fun j=>⟨33,upd (upd (upd (fun _=>.any) 0 (.str L)) 23 (am L.length)) 24 (am j),fun _=>none,fun _=>none⟩)
   (fun j=>j ≤ L.length ∧ ∀ x ∈ L.take j,pC x = true) (fun j=>L.length - j) 0 ⟨Nat.zero_le _,by simp⟩ (Gh.le (aw (aw (aw aY))) aM aL) ?_
  rintro j ⟨hj,hpre⟩
  repeat (first | refine ah tk rfl ?_ | refine ac ?_ | refine ab ?_ | refine aa ?_)
  refine bg rfl (fun h=>?_) (fun h=>?_)
  ·have hlt : j < L.length := by simpa using h
   repeat (first | refine ah tk rfl ?_ | refine ac ?_ | refine ab ?_ | refine aa ?_ | refine ap ?_ | refine av ?_)
   refine uL tk rfl rfl rfl rfl rfl rfl (zn j) (idxStrAt hlt) rfl ?_
   skip
   refine ak Tryz.call138 (jx.r) (inner_spec _) ?_
   repeat (first | refine ah tk rfl ?_ | refine ac ?_)
   refine bg rfl (fun h=>?_) (fun h=>?_)
   ·repeat (first | refine ah tk rfl ?_ | refine ac ?_ | refine ab ?_ | refine aa ?_)
    refine cF tk (PLe.q ?_)
    have : L.all pC = false := by
     rw [List.all_eq_false]
     exact ⟨L[j],List.getElem_mem hlt,by simpa using h⟩
    rw [this]
   ·repeat (first | refine ah tk rfl ?_ | refine ac ?_ | refine aa ?_ | refine ap ?_ | refine aF ?_)
    refine kN (j + 1) (by omega) ⟨hlt,?_⟩ (Gh.le (bC (PLe.q (eB (by unfold maxLen; unfold fg at hl; omega))) (aw (aw aY))) aM aL)
    intro x hx
    rw [List.take_add_one,ze hlt] at hx
    simp only [Option.toList,List.mem_append,List.mem_singleton] at hx
    rcases hx with hx | rfl
    ·exact hpre x hx
    ·simpa using h
  have hge : j = L.length := by have : ¬ j < L.length := by simpa using h
                                omega
  repeat (first | refine ah tk rfl ?_ | refine ac ?_ | refine ab ?_ | refine aa ?_ | refine bh rfl ?_)
  refine cF tk (PLe.q ?_)
  have : L.all pC = true := by
   rw [List.all_eq_true]
   rw [hge] at hpre
   simpa using hpre
  rw [this]
abbrev KR := Int × Bool × Int
abbrev pkr (r : KR) : PV := .tup [am r.1,aC r.2.1,am r.2.2]
def lf (kind : Int) (nullable ok : Bool) : KR := if ok then (kind,nullable,0) else (0,false,7)
theorem fO (kind : Int) (nullable ok : Bool) : aI Tryz.prog 240 [am kind,aC nullable,aC ok] (pkr (lf kind nullable ok)) := by
 refine PH.au Tryz.func240 Tryz.ntmps240 ?_
 repeat' (first | (show Ao _ _ _ _ _; first | refine ah tk rfl ?_ | refine ac ?_) | (show V _ _ _ _ _; first | refine ab ?_ | refine aa ?_ | refine ap ?_ | refine bg rfl (fun h=>?_) (fun h=>?_)))
 all_goals refine fv tk (PLe.q ?_)
 all_goals simp_all [lf]
def qX (a b : Int) : Bool := a == b || a == 0 || b == 0
theorem oX (a b : Int) : aI Tryz.prog 239 [am a,am b] (aC (qX a b)) := by
 refine PH.au Tryz.func239 Tryz.ntmps239 ?_
 repeat' (first | (show Ao _ _ _ _ _; first | refine ah tk rfl ?_ | refine ac ?_ | ((fail_if_success refine fP rfl ?_); refine gw rfl rfl rfl (fun h=>?_) (fun h=>?_))) | (show V _ _ _ _ _; first | refine ab ?_ | refine aa ?_))
 all_goals refine cF tk (PLe.q ?_)
 all_goals simp_all [qX]
theorem allOf1_spec (n want : Int) : aI Tryz.prog 238 [am n,.ptr [am want]] (aC (n != want && n != 0)) := by
 refine PH.au Tryz.func238 Tryz.ntmps238 ?_
 repeat' (first | (show Ao _ _ _ _ _; first | refine ah tk rfl ?_ | refine ac ?_ | ((fail_if_success refine fP rfl ?_); refine gw rfl rfl rfl (fun h=>?_) (fun h=>?_))) | (show V _ _ _ _ _; first | refine ab ?_ | refine aa ?_))
 all_goals refine cF tk (PLe.q ?_)
 all_goals simp_all
def pi (want : Int) (l : List Int) : Bool := !(l.any fun n=>n != want && n != 0)
theorem jP (want : Int) (l : List Int) : aI Tryz.prog 236 [am want,.ptr [pints l]] (aC (pi want l)) := by
 refine PH.au Tryz.func236 Tryz.ntmps236 ?_
 repeat' (first | (show Ao _ _ _ _ _; first | refine ah tk rfl ?_ | refine ac ?_ | refine aD ?_ | refine ak Tryz.call237 (jx.r) (containsInt (p := fun n=>n != want && n != 0) l Tryz.call238 fun n _=>allOf1_spec n want) ?_) | (show V _ _ _ _ _; first | refine ab ?_ | refine aa ?_))
 all_goals refine cF tk (PLe.q rfl)
def gp (x : Int) : KR := (0,false,x)
def ed (name : List UInt8) (kinds : List Int) (nullable : Bool) : KR :=
 if name == [43] || name == [45] || name == [42] then lf 1 true (pi 1 kinds)
 else if name == [124,124] then lf 3 true (pi 3 kinds)
 else if name == [108,101,110,103,116,104] then lf 1 nullable (pi 3 kinds)
 else if name == [97,110,100] || name == [111,114] || name == [110,111,116] then lf 2 nullable (pi 2 kinds)
 else if name == [105,115,32,110,117,108,108] then (2,false,0)
 else if name == [105,102] then lf (if kinds.getD 2 0 > kinds.getD 1 0 then kinds.getD 2 0 else kinds.getD 1 0) nullable (qX (kinds.getD 0 0) 2 && qX (kinds.getD 1 0) (kinds.getD 2 0))
 else lf 2 nullable (qX (kinds.getD 0 0) (kinds.getD 1 0))
def jE (name : List UInt8) (i : Int) (x : LVal) (ks : List KR) : KR :=
 if bK name ≠ some ks.length ∨ i ≠ 0 ∨ x ≠ .nul then gp 3
 else match ks.find? fun r=>r.2.2 != 0 with
  | some r=>gp r.2.2
  | none=>ed name (ks.map (·.1)) (ks.any (·.2.1))
mutual
def cW (cols vars : List LCol) : LExpr → KR
 | .mk k n i x args =>
  if k ≠ 5 ∧ 0 < args.length then gp 3
  else if k == 1 then (if eG x && n == [] && i == 0 then (x.kind,x.kind == 0,0) else gp 3)
  else if k == 3 then (if i < 0 ∨ i ≥ 8 ∨ n ≠ [] ∨ x.kind < 1 ∨ x.kind > 3 ∨ x ≠ ⟨x.kind,0,[]⟩ then gp 3 else (x.kind,true,0))
  else if k == 2 || k == 4 then
   (if db n && i == 0 && decide (x = .nul) then
    (let r := kV (if k == 4 then vars else cols) n
     if r.2 then (r.1.kind,r.1.nullable,0) else gp 23)
    else gp 3)
  else if k == 5 then jE n i x (kindsE cols vars args)
  else gp 3
def kindsE (cols vars : List LCol) : List LExpr → List KR
 | []=>[]
 | e :: r=>cW cols vars e :: kindsE cols vars r
end
theorem kindsE_map (cols vars : List LCol) : ∀ l,kindsE cols vars l = l.map (cW cols vars)
 | []=>rfl
 | e :: r=>by simp [kindsE,kindsE_map cols vars r]
theorem arity_of_idx (name : List UInt8) : (aK (fun x=>name == x) cR < 0 ∧ bK name = none) ∨
  ∃ a : Nat,0 ≤ aK (fun x=>name == x) cR ∧ (opArity.map fun n=>[am n])[(aK (fun x=>name == x) cR).toNat]? = some [am a] ∧ bK name = some a := by
 by_cases hn : name ∈ cR
 ·refine .inr ?_
  simp only [cR,List.mem_cons,List.mem_nil_iff,or_false] at hn
  rcases hn with rfl | rfl | rfl | rfl | rfl | rfl | rfl | rfl | rfl | rfl | rfl | rfl | rfl <;> exact ⟨_,by decide,rfl,rfl⟩
 ·refine .inl ⟨?_,?_⟩
  ·rw [kA fun x hx=>by
    cases hb : name == x with
    | false=>rfl
    | true=>exact absurd (by rw [eq_of_beq hb]; exact hx) hn]
   decide
  ·simp only [cR,List.mem_cons,List.mem_nil_iff,or_false,not_or] at hn
   simp [bK,hn]
theorem find_at {α : Type} {p : α → Bool} {l : List α} {j : Nat} (hlt : j < l.length) (hpre : ∀ x ∈ l.take j,p x = false) (h : p l[j] = true) : l.find? p = some l[j] := by
 rw [List.find?_eq_some_iff_getElem]
 refine ⟨h,j,hlt,rfl,fun i hi=>?_⟩
 have := hpre l[i] (List.mem_take_iff_getElem.2 ⟨i,by omega,rfl⟩)
 simp [this]
theorem kindRows {cols vars : List LCol} {args : List LExpr} {j : Nat} (h : j < args.length) : ((args.take j).map (cW cols vars)).map (fun r=>[am r.1]) ++ [[am (cW cols vars args[j]).1]] = ((args.take (j + 1)).map (cW cols vars)).map fun r=>[am r.1] := by
 rw [List.take_add_one,ze h]
 simp only [List.map_append,Option.toList,List.map_cons,List.map_nil]
theorem kindAny {cols vars : List LCol} {args : List LExpr} {j : Nat} (h : j < args.length) : ((args.take (j + 1)).map (cW cols vars)).any (·.2.1) = (((args.take j).map (cW cols vars)).any (·.2.1) || (cW cols vars args[j]).2.1) := by
 rw [List.take_add_one,ze h]
 simp only [List.map_append,List.any_append,Option.toList,List.map_cons,List.map_nil,List.any_cons,List.any_nil,Bool.or_false]
theorem opKind_spec (cols vars : List LCol) (e : LExpr) (ih : ∀ a ∈ e.args,aI Tryz.prog 213 [jZ cols,jZ vars,jJ a] (pkr (cW cols vars a))) :
  aI Tryz.prog 230 [jZ cols,jZ vars,jJ e] (pkr (jE e.name e.index e.value (e.args.map (cW cols vars)))) := by
 rcases arity_of_idx e.name with ⟨hK,ha⟩ | ⟨ar,hK,hr,ha⟩
 ·refine PH.au Tryz.func230 Tryz.ntmps230 ?_
  repeat' (first | (show Ao _ _ _ _ _; first | refine ah tk rfl ?_ | refine ac ?_ | refine aD ?_ | refine ak Tryz.call190 (jx.r) (gZ) ?_ | refine ak Tryz.call160 (jx.r) (cv _ _) ?_) | (show V _ _ _ _ _; first | refine ab ?_ | refine aa ?_ | refine bL rfl ?_ | (show V _ _ _ (.code (.region 3 _ true) :: _) _; refine bw tk mok ⟨false,false,[]⟩ [0,1,2,3,4,5,6,7,8,9,10,11,12,13,14,15,16,17,18,19,20,21,22] rfl (by decide +kernel) rfl ?_)) | (show Do _ _ _ _ _ _ _; first | refine bT rfl ?_ | refine br ?_ | ((fail_if_success refine mC rfl rfl ?_); refine nA rfl rfl rfl rfl (fun h=>?_) (fun h=>?_))))
  all_goals try (exfalso; simp_all <;> omega; done)
  all_goals refine fv tk (PLe.q ?_)
  all_goals (have : jE e.name e.index e.value (e.args.map (cW cols vars)) = gp 3 := by simp [jE,ha])
  all_goals (rw [this]; rfl)
 ·refine PH.au Tryz.func230 Tryz.ntmps230 ?_
  repeat' (first | (show Ao _ _ _ _ _; first | refine ah tk rfl ?_ | refine ac ?_ | refine aD ?_ | (refine fH tk rfl rfl rfl rfl rfl rfl ?_; intro bk) | refine ak Tryz.call190 (jx.r) (gZ) ?_ | refine ak Tryz.call160 (jx.r) (cv _ _) ?_) | (show V _ _ _ _ _; first | refine ab ?_ | refine aa ?_ | refine ap ?_ | refine bL rfl ?_ | refine av ?_ | (show V _ _ _ (.code (.region 3 _ true) :: _) _; refine bw tk mok ⟨false,false,[]⟩ [0,1,2,3,4,5,6,7,8,9,10,11,12,13,14,15,16,17,18,19,20,21,22] rfl (by decide +kernel) rfl ?_) | refine bg rfl (fun h=>?_) (fun h=>?_)) | (show Do _ _ _ _ _ _ _; first | refine bT rfl ?_ | refine br ?_ | refine bJ hK hr ?_ | ((fail_if_success refine mC rfl rfl ?_); refine nA rfl rfl rfl rfl (fun h=>?_) (fun h=>?_))))
  all_goals try (exfalso; simp_all <;> omega; done)
  case inr.refine_2.refine_1 =>
   refine fv tk (PLe.q ?_)
   rw [jE,zp (.inl (by rw [ha]; simp at h ⊢; omega))]
   rfl
  case inr.refine_2.refine_2.refine_1 =>
   refine fv tk (PLe.q ?_)
   rw [jE,zp (.inr (.inl (by simpa using h)))]
   rfl
  case inr.refine_2.refine_2.refine_2.refine_1 =>
   refine fv tk (PLe.q ?_)
   rw [jE,zp (.inr (.inr (by intro hh; rw [hh] at h; simp [LVal.nul] at h)))]
   rfl
  rename_i h0 h1 h2
  have hlen : e.args.length = ar := by
   simp at h1
   omega
  have hgood : ¬ (bK e.name ≠ some (e.args.map (cW cols vars)).length ∨ e.index ≠ 0 ∨ e.value ≠ .nul) := by
   rw [ha]
   rintro (h3 | h3 | h3)
   ·simp [hlen] at h3
   ·exact h3 (by simpa using h2)
   ·apply h3
    cases hv : e.value
    rw [hv] at h
    simp at h
    simp [LVal.nul,h]
  rw [jE,zy hgood]
  refine gm tk 53 rfl rfl fun hl hby=>?_
  rw [zl] at hl hby
  have hby' : e.args.length * 88 ≤ 2 ^ 47 := hby
  refine te tk 12 0 12 (e := 3) rfl rfl rfl rfl ?_
  refine kg (X := Nat × OwnRef) (fun X=>⟨164,upd (upd (upd (upd (upd (upd (upd (upd (fun _=>.any) 13 (aC (((e.args.take X.1).map (cW cols vars)).any (·.2.1)))) 12 (.box 12 bk 0)) 5 (.ptr (iM e))) 1 (jZ vars)) 0 (jZ cols)) 53 (qV e.args)) 54 (am (e.args.map eA).length)) 55 (am X.1),upd (fun _=>none) 12 (some ⟨bk,[.own 12 X.2 (((e.args.take X.1).map (cW cols vars)).map fun r=>[am r.1]).length]⟩),upd (fun _=>none) 12 (some ⟨X.2,3,((e.args.take X.1).map (cW cols vars)).map fun r=>[am r.1],true⟩)⟩)
   (fun X=>X.1 ≤ e.args.length ∧ ∀ x ∈ (e.args.map (cW cols vars)).take X.1,(x.2.2 != 0) = false) (fun X=>e.args.length - X.1) (0,⟨none,0⟩) ⟨Nat.zero_le _,by simp⟩ (Gh.le (aw (aw (aw (aw (aw (aw (aw (aw aY)))))))) (bn rfl (jx.r) aM) (bu aL)) ?_
  rintro ⟨j,g⟩ ⟨hj,hpre⟩
  replace hj : j ≤ e.args.length := hj
  replace hpre : ∀ x ∈ (e.args.map (cW cols vars)).take j,(x.2.2 != 0) = false := hpre
  repeat (first | refine ah tk rfl ?_ | refine ac ?_ | refine ab ?_ | refine aa ?_)
  refine bg rfl (fun h=>?_) (fun h=>?_)
  ·have hlt : j < e.args.length := by simpa using h
   have hlt' : j < (e.args.map (cW cols vars)).length := by simpa using hlt
   repeat (first | refine ab ?_ | refine aa ?_ | refine ap ?_ | refine av ?_)
   refine aQ tk (zn j) (tz hlt) ?_
   repeat (first | refine ah tk rfl ?_ | refine ac ?_ | refine ab ?_ | refine aa ?_ | refine aB tk ?_ | (refine fH tk rfl rfl rfl rfl rfl rfl ?_; intro bk) | refine aq tk ?_)
   refine ak Tryz.call213 (jx.r) (ih _ (List.getElem_mem hlt)) ?_
   repeat (first | refine ah tk rfl ?_ | refine ac ?_ | refine ab ?_ | refine aa ?_)
   refine bg rfl (fun h=>?_) (fun h=>?_)
   ·repeat (first | refine ah tk rfl ?_ | refine ac ?_ | refine ab ?_ | refine aa ?_)
    refine fv tk (PLe.q ?_)
    rw [find_at hlt' hpre (by simpa using h),List.getElem_map]
    rfl
   ·repeat (first | refine ah tk rfl ?_ | refine aa ?_ | refine ap ?_ | refine aB tk ?_ | refine sq tk rfl rfl rfl rfl rfl rfl ?_)
    refine uC (rows2 := [[am (cW cols vars e.args[j]).1]]) tk rfl rfl rfl rfl rfl rfl rfl rfl rfl rfl rfl rfl rfl ?_ ?_ fun g'=>?_
    ·simp only [zl,List.length_take,List.length_cons,List.length_nil]
     rw [Nat.min_eq_left hj]
     show (j + 1) * 8 ≤ 2 ^ 47
     omega
    ·simp only [zl,List.length_take,List.length_cons,List.length_nil]
     omega
    repeat (refine ah tk rfl ?_)
    have hpre' : ∀ x ∈ (e.args.map (cW cols vars)).take (j + 1),(x.2.2 != 0) = false := pU (p := fun x : KR=>x.2.2 != 0) hlt' hpre (by rw [List.getElem_map]; exact h)
    have hany := kindAny (cols := cols) (vars := vars) hlt
    refine gw rfl rfl rfl (fun hn=>?_) (fun hn=>?_)
    ·repeat (first | refine ah tk rfl ?_ | refine ac ?_ | refine aa ?_ | refine aF ?_ | refine aq tk ?_)
     rw [kindRows hlt]
     refine kN (j + 1,g') ?_ ⟨hlt,hpre'⟩ (Gh.le (bC (PLe.q (eB (by omega))) (aw (aw (aw (aw (aw (aw (bC (PLe.q (by rw [hany,hn]; rfl)) aY)))))))) (bn rfl (jx.r) aM) (bu aL))
     show e.args.length - (j + 1) < e.args.length - j
     omega
    ·repeat (first | refine ah tk rfl ?_ | refine ac ?_ | refine aa ?_ | refine aF ?_ | refine aq tk ?_)
     rw [kindRows hlt]
     refine kN (j + 1,g') ?_ ⟨hlt,hpre'⟩ (Gh.le (bC (PLe.q (eB (by omega))) (aw (aw (aw (aw (aw (aw (bC (PLe.q (by rw [hany,hn]; rfl)) aY)))))))) (bn rfl (jx.r) aM) (bu aL))
     show e.args.length - (j + 1) < e.args.length - j
     omega
  have hge : j = e.args.length := by have : ¬ j < e.args.length := by simpa using h
                                     omega
  subst hge
  refine rP 12 0 rfl rfl rfl rfl rfl (uP 12 rfl rfl rfl rfl ?_)
  have hks : (e.args.map (cW cols vars)).find? (fun r=>r.2.2 != 0) = none := by
   rw [List.find?_eq_none]
   intro x hx
   have := hpre x (by rw [List.take_of_length_le (by simp)]; exact hx)
   simp [this]
  rw [hks]
  simp only [List.take_length]
  have hlk : (e.args.map (cW cols vars)).length = ar := by simp [hlen]
  generalize e.args.map (cW cols vars) = KS at hlk
  refine gS (st' := ⟨164,upd (upd (upd (fun _=>.any) 13 (aC (KS.any (·.2.1)))) 12 (.ptr [pints (KS.map (·.1))])) 5 (.ptr [am e.kind,.str e.name,am e.index,am e.value.kind,am e.value.int,.str e.value.text,qV e.args]),fun _=>none,fun _=>none⟩) (Gh.le (aw (bC (PLe.q (show PV.ptr [.list 3 (KS.map fun r=>[am r.1])] = _ from by simp)) (aw aY))) aM aL) ?_
  replace hlk : (KS.map (·.1)).length = ar := by simpa using hlk
  generalize KS.map (·.1) = kinds at hlk
  generalize KS.any (·.2.1) = nl
  generalize e.name = name at ha
  clear hpre hks hgood h0 h1 h2 h hr hK ih hlen
  by_cases hn : name ∈ cR
  ·simp only [cR,List.mem_cons,List.mem_nil_iff,or_false] at hn
   rcases hn with rfl | rfl | rfl | rfl | rfl | rfl | rfl | rfl | rfl | rfl | rfl | rfl | rfl
   ·have har : ar = 2 := by have : some 2 = some ar := ha; exact (Option.some.inj this).symm
    subst har
    obtain ⟨a,b,rfl⟩ := iC hlk
    repeat' (first | (show Ao _ _ _ _ _; first | refine ah tk rfl ?_ | refine ac ?_ | refine ak Tryz.call236 (jx.r) (jP _ _) ?_ | refine ak Tryz.call240 (jx.r) (fO _ _ _) ?_) | (show V _ _ _ _ _; first | refine ab ?_ | refine aa ?_ | refine ap ?_ | refine bL rfl ?_ | refine av ?_ | refine bh rfl ?_))
    all_goals refine fv tk (PLe.q ?_)
    all_goals simp_all [ed]
   ·have har : ar = 2 := by have : some 2 = some ar := ha; exact (Option.some.inj this).symm
    subst har
    obtain ⟨a,b,rfl⟩ := iC hlk
    repeat' (first | (show Ao _ _ _ _ _; first | refine ah tk rfl ?_ | refine ac ?_ | refine ak Tryz.call236 (jx.r) (jP _ _) ?_ | refine ak Tryz.call240 (jx.r) (fO _ _ _) ?_) | (show V _ _ _ _ _; first | refine ab ?_ | refine aa ?_ | refine ap ?_ | refine bL rfl ?_ | refine bB rfl ?_ | refine av ?_ | refine bh rfl ?_))
    all_goals refine fv tk (PLe.q ?_)
    all_goals simp_all [ed]
   ·have har : ar = 2 := by have : some 2 = some ar := ha; exact (Option.some.inj this).symm
    subst har
    obtain ⟨a,b,rfl⟩ := iC hlk
    repeat' (first | (show Ao _ _ _ _ _; first | refine ah tk rfl ?_ | refine ac ?_ | refine ak Tryz.call236 (jx.r) (jP _ _) ?_ | refine ak Tryz.call240 (jx.r) (fO _ _ _) ?_) | (show V _ _ _ _ _; first | refine ab ?_ | refine aa ?_ | refine bL rfl ?_ | refine bB rfl ?_ | refine av ?_ | refine bh rfl ?_))
    all_goals refine fv tk (PLe.q ?_)
    all_goals simp_all [ed]
   ·have har : ar = 2 := by have : some 2 = some ar := ha; exact (Option.some.inj this).symm
    subst har
    obtain ⟨a,b,rfl⟩ := iC hlk
    repeat' (first | (show Ao _ _ _ _ _; first | refine ah tk rfl ?_ | refine ac ?_) | (show V _ _ _ _ _; first | refine ab ?_ | refine aa ?_ | refine ap ?_ | refine bB rfl ?_ | refine av ?_ | refine aF ?_ | refine bh rfl ?_ | (show V _ _ _ (.code (.region 34 _ true) :: _) _; refine bw tk mok ⟨false,false,[]⟩ [0,1,2,3,4,5,6,7,8,9,10,11,12,13,14,15] rfl (by decide +kernel) rfl ?_)) | (show Do _ _ _ _ _ _ _; first | refine bT rfl ?_ | refine br ?_ | refine aV Tryz.call239 (jx.r) (oX _ _) ?_ | refine aV Tryz.call240 (jx.r) (fO _ _ _) ?_))
    all_goals refine fv tk (PLe.q ?_)
    all_goals simp_all [ed]
   ·have har : ar = 2 := by have : some 2 = some ar := ha; exact (Option.some.inj this).symm
    subst har
    obtain ⟨a,b,rfl⟩ := iC hlk
    repeat' (first | (show Ao _ _ _ _ _; first | refine ah tk rfl ?_ | refine ac ?_) | (show V _ _ _ _ _; first | refine ab ?_ | refine aa ?_ | refine ap ?_ | refine bB rfl ?_ | refine av ?_ | refine aF ?_ | refine bh rfl ?_ | (show V _ _ _ (.code (.region 34 _ true) :: _) _; refine bw tk mok ⟨false,false,[]⟩ [0,1,2,3,4,5,6,7,8,9,10,11,12,13,14,15] rfl (by decide +kernel) rfl ?_)) | (show Do _ _ _ _ _ _ _; first | refine bT rfl ?_ | refine br ?_ | refine aV Tryz.call239 (jx.r) (oX _ _) ?_ | refine aV Tryz.call240 (jx.r) (fO _ _ _) ?_))
    all_goals refine fv tk (PLe.q ?_)
    all_goals simp_all [ed]
   ·have har : ar = 2 := by have : some 2 = some ar := ha; exact (Option.some.inj this).symm
    subst har
    obtain ⟨a,b,rfl⟩ := iC hlk
    repeat' (first | (show Ao _ _ _ _ _; first | refine ah tk rfl ?_ | refine ac ?_) | (show V _ _ _ _ _; first | refine ab ?_ | refine aa ?_ | refine ap ?_ | refine bB rfl ?_ | refine av ?_ | refine aF ?_ | refine bh rfl ?_ | (show V _ _ _ (.code (.region 34 _ true) :: _) _; refine bw tk mok ⟨false,false,[]⟩ [0,1,2,3,4,5,6,7,8,9,10,11,12,13,14,15] rfl (by decide +kernel) rfl ?_)) | (show Do _ _ _ _ _ _ _; first | refine bT rfl ?_ | refine br ?_ | refine aV Tryz.call239 (jx.r) (oX _ _) ?_ | refine aV Tryz.call240 (jx.r) (fO _ _ _) ?_))
    all_goals refine fv tk (PLe.q ?_)
    all_goals simp_all [ed]
   ·have har : ar = 2 := by have : some 2 = some ar := ha; exact (Option.some.inj this).symm
    subst har
    obtain ⟨a,b,rfl⟩ := iC hlk
    repeat' (first | (show Ao _ _ _ _ _; first | refine ah tk rfl ?_ | refine ac ?_ | refine ak Tryz.call236 (jx.r) (jP _ _) ?_ | refine ak Tryz.call240 (jx.r) (fO _ _ _) ?_) | (show V _ _ _ _ _; first | refine ab ?_ | refine aa ?_ | refine ap ?_ | refine bL rfl ?_ | refine bB rfl ?_ | refine av ?_ | refine bh rfl ?_))
    all_goals refine fv tk (PLe.q ?_)
    all_goals simp_all [ed]
   ·have har : ar = 2 := by have : some 2 = some ar := ha; exact (Option.some.inj this).symm
    subst har
    obtain ⟨a,b,rfl⟩ := iC hlk
    repeat' (first | (show Ao _ _ _ _ _; first | refine ah tk rfl ?_ | refine ac ?_ | refine ak Tryz.call236 (jx.r) (jP _ _) ?_ | refine ak Tryz.call240 (jx.r) (fO _ _ _) ?_) | (show V _ _ _ _ _; first | refine ab ?_ | refine aa ?_ | refine ap ?_ | refine bL rfl ?_ | refine bB rfl ?_ | refine av ?_ | refine bh rfl ?_))
    all_goals refine fv tk (PLe.q ?_)
    all_goals simp_all [ed]
   ·have har : ar = 1 := by have : some 1 = some ar := ha; exact (Option.some.inj this).symm
    subst har
    obtain ⟨a,rfl⟩ := List.length_eq_one_iff.1 hlk
    repeat' (first | (show Ao _ _ _ _ _; first | refine ah tk rfl ?_ | refine ac ?_ | refine ak Tryz.call236 (jx.r) (jP _ _) ?_ | refine ak Tryz.call240 (jx.r) (fO _ _ _) ?_) | (show V _ _ _ _ _; first | refine ab ?_ | refine aa ?_ | refine bL rfl ?_ | refine bB rfl ?_ | refine av ?_ | refine bh rfl ?_))
    all_goals refine fv tk (PLe.q ?_)
    all_goals simp_all [ed]
   ·have har : ar = 2 := by have : some 2 = some ar := ha; exact (Option.some.inj this).symm
    subst har
    obtain ⟨a,b,rfl⟩ := iC hlk
    repeat' (first | (show Ao _ _ _ _ _; first | refine ah tk rfl ?_ | refine ac ?_ | refine ak Tryz.call236 (jx.r) (jP _ _) ?_ | refine ak Tryz.call240 (jx.r) (fO _ _ _) ?_) | (show V _ _ _ _ _; first | refine ab ?_ | refine aa ?_ | refine bL rfl ?_ | refine bB rfl ?_ | refine av ?_ | refine bh rfl ?_))
    all_goals refine fv tk (PLe.q ?_)
    all_goals simp_all [ed]
   ·have har : ar = 1 := by have : some 1 = some ar := ha; exact (Option.some.inj this).symm
    subst har
    obtain ⟨a,rfl⟩ := List.length_eq_one_iff.1 hlk
    repeat' (first | (show Ao _ _ _ _ _; first | refine ah tk rfl ?_ | refine ac ?_) | (show V _ _ _ _ _; first | refine ab ?_ | refine aa ?_ | refine bL rfl ?_ | refine bB rfl ?_ | refine av ?_ | refine bh rfl ?_))
    all_goals refine fv tk (PLe.q ?_)
    all_goals simp_all [ed]
   ·have har : ar = 1 := by have : some 1 = some ar := ha; exact (Option.some.inj this).symm
    subst har
    obtain ⟨a,rfl⟩ := List.length_eq_one_iff.1 hlk
    repeat' (first | (show Ao _ _ _ _ _; first | refine ah tk rfl ?_ | refine ac ?_ | refine ak Tryz.call236 (jx.r) (jP _ _) ?_ | refine ak Tryz.call240 (jx.r) (fO _ _ _) ?_) | (show V _ _ _ _ _; first | refine ab ?_ | refine aa ?_ | refine bL rfl ?_ | refine bB rfl ?_ | refine av ?_ | refine bh rfl ?_))
    all_goals refine fv tk (PLe.q ?_)
    all_goals simp_all [ed]
   ·have har : ar = 3 := by have : some 3 = some ar := ha; exact (Option.some.inj this).symm
    subst har
    obtain ⟨a,b,c,rfl⟩ := len3 hlk
    repeat' (first | (show Ao _ _ _ _ _; first | refine ah tk rfl ?_ | refine ac ?_) | (show V _ _ _ _ _; first | refine ab ?_ | refine aa ?_ | refine bL rfl ?_ | refine bB rfl ?_ | refine av ?_ | refine bh rfl ?_ | (show V _ _ _ (.code (.region 33 _ true) :: _) _; refine bw tk mok ⟨false,false,[]⟩ [0,1,2,3,4,5,6,7,8,9,10,11,12,13,14,15,16,17,18,19,20,21,22,23,24,25,26,27,28,29] rfl (by decide +kernel) rfl ?_)) | (show Do _ _ _ _ _ _ _; first | refine bT rfl ?_ | refine br ?_ | refine aV Tryz.call239 (jx.r) (oX _ _) ?_ | refine aV Tryz.call240 (jx.r) (fO _ _ _) ?_ | ((fail_if_success refine mC rfl rfl ?_); refine nA rfl rfl rfl rfl (fun h=>?_) (fun h=>?_))))
    all_goals refine fv tk (PLe.q ?_)
    all_goals simp_all [ed]
  ·simp only [cR,List.mem_cons,List.mem_nil_iff,or_false,not_or] at hn
   simp [bK,hn] at ha
theorem rk (cols vars : List LCol) (e : LExpr) : cW cols vars e =
  if e.kind ≠ 5 ∧ 0 < e.args.length then gp 3
  else if e.kind == 1 then (if eG e.value && e.name == [] && e.index == 0 then (e.value.kind,e.value.kind == 0,0) else gp 3)
  else if e.kind == 3 then (if e.index < 0 ∨ e.index ≥ 8 ∨ e.name ≠ [] ∨ e.value.kind < 1 ∨ e.value.kind > 3 ∨ e.value ≠ ⟨e.value.kind,0,[]⟩ then gp 3 else (e.value.kind,true,0))
  else if e.kind == 2 || e.kind == 4 then
   (if db e.name && e.index == 0 && decide (e.value = .nul) then
    (if (kV (if e.kind == 4 then vars else cols) e.name).2 then ((kV (if e.kind == 4 then vars else cols) e.name).1.kind,(kV (if e.kind == 4 then vars else cols) e.name).1.nullable,0) else gp 23)
    else gp 3)
  else if e.kind == 5 then jE e.name e.index e.value (e.args.map (cW cols vars))
  else gp 3 := by
 cases e
 rw [cW,kindsE_map]
 rfl
theorem valNul_iff (x : LVal) : x = .nul ↔ x.kind = 0 ∧ x.int = 0 ∧ x.text = [] := by
 cases x
 simp [LVal.nul]
theorem valK_iff (x : LVal) : x = ⟨x.kind,0,[]⟩ ↔ x.int = 0 ∧ x.text = [] := by
 cases x
 simp
theorem kindStep (cols vars : List LCol) (e : LExpr) (ih : ∀ a ∈ e.args,aI Tryz.prog 213 [jZ cols,jZ vars,jJ a] (pkr (cW cols vars a))) :
  aI Tryz.prog 213 [jZ cols,jZ vars,jJ e] (pkr (cW cols vars e)) := by
 refine PH.au Tryz.func213 Tryz.ntmps213 ?_
 repeat' (first | (show Ao _ _ _ _ _; first | refine ah tk rfl ?_ | refine ac ?_ | refine aD ?_ | (refine fH tk rfl rfl rfl rfl rfl rfl ?_; intro bk) | refine aq tk ?_ | refine ak Tryz.call49 (jx.r) (tN _) ?_ | refine ak Tryz.call210 (jx.r) (mw _) ?_ | refine ak Tryz.call229 (jx.r) (find_spec _ _) ?_ | refine ak Tryz.call230 (jx.r) (opKind_spec cols vars e ih) ?_ | ((fail_if_success refine fP rfl ?_); refine gw rfl rfl rfl (fun h=>?_) (fun h=>?_))) | (show V _ _ _ _ _; first | refine ab ?_ | refine aa ?_ | refine ap ?_ | refine bL rfl ?_ | refine bB rfl ?_ | refine av ?_ | refine aF ?_ | (show V _ _ _ (.code (.region 7 _ true) :: _) _; refine bw tk mok ⟨true,false,[]⟩ [0,1,2,3,4,5,6,7,8,9] rfl (by decide +kernel) rfl ?_) | (show V _ _ _ (.code (.region 22 _ true) :: _) _; refine bw tk mok ⟨true,false,[]⟩ [0,1,2,3,4,5,6] rfl (by decide +kernel) rfl ?_) | refine bg rfl (fun h=>?_) (fun h=>?_)) | (show Do _ _ _ _ _ _ _; first | refine bT rfl ?_ | refine br ?_ | refine cu ?_))
 all_goals refine fv tk (PLe.q ?_)
 all_goals rw [rk]
 all_goals (simp only [zl,Bool.not_eq_true',decide_eq_true_eq,decide_eq_false_iff_not,bne_iff_ne,beq_iff_eq,ne_eq,beq_eq_false_iff_ne,bne_eq_false_iff_eq] at *)
 all_goals try simp_all [gp,valNul_iff,valK_iff]
 all_goals (rw [zy (by first | omega | (rintro ⟨q1,q2,q3⟩; exact h q1 q2 q3))]; exact ⟨rfl,rfl,rfl⟩)
theorem kind_spec (cols vars : List LCol) : ∀ e : LExpr,aI Tryz.prog 213 [jZ cols,jZ vars,jJ e] (pkr (cW cols vars e))
 | .mk k n i x args=>kindStep cols vars (.mk k n i x args) fun a ha=>by
  have ha' : a ∈ args := ha
  exact kind_spec cols vars a
def cI (cols vars : List LCol) (e : LExpr) : KR := if (iX e).1 > 60 ∨ (iX e).2 > 12 then gp 2 else cW cols vars e
theorem nV (cols vars : List LCol) (e : LExpr) : aI Tryz.prog 189 [jZ cols,jZ vars,jJ e] (pkr (cI cols vars e)) := by
 refine PH.au Tryz.func189 Tryz.ntmps189 ?_
 repeat' (first | (show Ao _ _ _ _ _; first | refine ah tk rfl ?_ | refine ac ?_ | refine aD ?_ | refine ak Tryz.call212 (jx.r) (size_spec _) ?_ | refine ak Tryz.call213 (jx.r) (kind_spec _ _ _) ?_ | ((fail_if_success refine fP rfl ?_); refine gw rfl rfl rfl (fun h=>?_) (fun h=>?_))) | (show V _ _ _ _ _; first | refine ab ?_ | refine aa ?_ | refine ap ?_ | refine bL rfl ?_ | refine bg rfl (fun h=>?_) (fun h=>?_)))
 all_goals refine fv tk (PLe.q ?_)
 all_goals simp_all [cI,gp]
 rw [zy (by omega)]
 exact ⟨rfl,rfl,rfl⟩
mutual
def jm : LExpr → Int → Int
 | .mk _ _ _ _ args,m=>mH args m
def mH : List LExpr → Int → Int
 | [],m=>m
 | a :: r,m=>if wr (m - 1) < 0 then -1 else if jm a (wr (m - 1)) < 0 then -1 else mH r (jm a (wr (m - 1)))
end
theorem nodesE_eq (e : LExpr) (m : Int) : jm e m = mH e.args m := by
 cases e
 rw [jm]
 rfl
theorem nodesStep (e : LExpr) (most : Int) (ih : ∀ a ∈ e.args,∀ m,aI Tryz.prog 70 [jJ a,am m] (am (jm a m))) :
  aI Tryz.prog 70 [jJ e,am most] (am (jm e most)) := by
 rw [nodesE_eq]
 refine PH.au Tryz.func70 Tryz.ntmps70 ?_
 repeat (first | refine ah tk rfl ?_ | refine ac ?_ | refine ab ?_ | refine aa ?_ | refine av ?_ | refine aD ?_)
 refine gm tk 8 rfl rfl fun hl _=>?_
 rw [zl] at hl
 refine kg (X := Nat × Int) (fun X=>⟨25,upd (upd (upd (upd (fun _=>.any) 1 (am X.2)) 8 (qV e.args)) 9 (am (e.args.map eA).length)) 10 (am X.1),fun _=>none,fun _=>none⟩)
  (fun X=>X.1 ≤ e.args.length ∧ mH (e.args.drop X.1) X.2 = mH e.args most) (fun X=>e.args.length - X.1) (0,most) ⟨Nat.zero_le _,rfl⟩ (Gh.le (aw (aw (aw (aw aY)))) aM aL) ?_
 rintro ⟨j,m⟩ ⟨hj,hm⟩
 replace hj : j ≤ e.args.length := hj
 replace hm : mH (e.args.drop j) m = mH e.args most := hm
 rw [← hm]
 repeat (first | refine ah tk rfl ?_ | refine ac ?_ | refine ab ?_ | refine aa ?_)
 refine bg rfl (fun h=>?_) (fun h=>?_)
 ·have hlt : j < e.args.length := by simpa using h
  have hd : e.args.drop j = e.args[j] :: e.args.drop (j + 1) := List.drop_eq_getElem_cons hlt
  rw [hd,mH]
  repeat (first | refine ab ?_ | refine aa ?_ | refine ap ?_ | refine av ?_)
  refine aQ tk (zn j) (tz hlt) ?_
  repeat (first | refine ah tk rfl ?_ | refine ac ?_ | refine ab ?_ | refine aa ?_ | (refine fH tk rfl rfl rfl rfl rfl rfl ?_; intro bk) | refine aq tk ?_)
  refine bg rfl (fun h1=>?_) (fun h1=>?_)
  ·repeat (first | refine ah tk rfl ?_ | refine ac ?_ | refine ab ?_ | refine aa ?_)
   refine cF tk (PLe.q ?_)
   rw [zp (by simpa [wr] using h1)]
  ·rw [zy (by simpa [wr] using h1)]
   repeat (first | refine ah tk rfl ?_ | refine ab ?_ | refine aa ?_ | refine ap ?_ | refine aB tk ?_)
   refine ak Tryz.call70 (jx.r) (ih _ (List.getElem_mem hlt) _) ?_
   repeat (first | refine ah tk rfl ?_ | refine ac ?_ | refine ab ?_ | refine aa ?_)
   refine bg rfl (fun h2=>?_) (fun h2=>?_)
   ·repeat (first | refine ah tk rfl ?_ | refine ac ?_ | refine ab ?_ | refine aa ?_)
    refine cF tk (PLe.q ?_)
    rw [zp (by simpa [wr] using h2)]
   ·repeat (first | refine ah tk rfl ?_ | refine ac ?_ | refine aa ?_ | refine ap ?_ | refine aF ?_)
    refine kN (j + 1,jm e.args[j] (wr (m - 1))) ?_ ⟨hlt,?_⟩ (Gh.le (bC (PLe.q (eB (by omega))) (aw (aw (aw aY)))) aM aL)
    ·show e.args.length - (j + 1) < e.args.length - j
     omega
    ·rw [zy (by simpa [wr] using h2)]
 have hge : j = e.args.length := by have : ¬ j < e.args.length := by simpa using h
                                    omega
 repeat (first | refine ah tk rfl ?_ | refine ac ?_ | refine ab ?_ | refine aa ?_ | refine bh rfl ?_)
 refine cF tk (PLe.q ?_)
 rw [hge,List.drop_length,mH]
theorem rd : ∀ (e : LExpr) (m : Int),aI Tryz.prog 70 [jJ e,am m] (am (jm e m))
 | .mk k n i x args,m=>nodesStep (.mk k n i x args) m fun a ha m=>by
  have ha' : a ∈ args := ha
  exact rd a m
end
end Go.Proofs.YtifhafpljncplaaGreatDoor

namespace Go.Proofs.YtifhafpljncplaaGreatDoor
noncomputable section
open Go Go.Ab
set_option maxRecDepth 4000
def fC (x : LVal) (k : Int) (nl : Bool) : Prop := eG x = true ∧ (x.kind = k ∨ x.kind = 0) ∧ (x.kind = 0 → nl = true)
theorem valid_kind {x : LVal} (h : eG x = true) : x.kind = 0 ∨ x.kind = 1 ∨ x.kind = 2 ∨ x.kind = 3 := by
 unfold eG at h
 by_cases h0 : x.kind = 0
 ·exact .inl h0
 ·by_cases h1 : x.kind = 1
  ·exact .inr (.inl h1)
  ·by_cases h2 : x.kind = 2
   ·exact .inr (.inr (.inl h2))
   ·by_cases h3 : x.kind = 3
    ·exact .inr (.inr (.inr h3))
    ·simp [h0,h1,h2,h3] at h
theorem iu {k : Int} {nl : Bool} (h : nl = true) : fC .nul k nl := ⟨rfl,.inr rfl,fun _=>h⟩
theorem od (b : Bool) (nl : Bool) : fC (lW b) 2 nl := by
 cases b <;> exact ⟨rfl,.inl rfl,fun h=>by simp [lW] at h⟩
theorem fits_int (n : Int) : fC (intV n) 1 true := by
 unfold intV
 split
 ·exact iu rfl
 ·refine ⟨?_,.inl rfl,fun _=>rfl⟩
  simp [eG]
  omega
theorem fits_number (op : List UInt8) (a b : Int) : fC (pu op a b) 1 true := by
 unfold pu
 repeat' split
 all_goals first | exact fits_int _ | exact iu rfl
structure EnvOk (cols vars : List LCol) (v : LEnv) : Prop where
 hcols : v.cols = cols
 len : v.row.length = cols.length
 row : ∀ (i : Nat) (c : LCol) (x : LVal),cols[i]? = some c → v.row[i]? = some x → fC x c.kind c.nullable
 params : ∀ x ∈ v.params,eG x = true
 names : v.vnames = vars.map LCol.name
 vlen : v.vvals.length = vars.length
 vals : ∀ (i : Nat) (c : LCol) (x : LVal),vars[i]? = some c → v.vvals[i]? = some x → fC x c.kind c.nullable
theorem idxOf_map {α β : Type} (g : α → β) (p : β → Bool) (q : α → Bool) (h : ∀ a,p (g a) = q a) (l : List α) : aK p (l.map g) = aK q l := by
 have : (l.map g).findIdx? p = l.findIdx? q := by
  induction l with
  | nil=>rfl
  | cons a l ih=>simp [List.findIdx?_cons,h,ih]
 simp [aK,this]
theorem pS {α : Type} {p : α → Bool} {l : List α} (h : 0 ≤ aK p l) : (aK p l).toNat < l.length := by
 have := nF (p := p) (l := l)
 omega
theorem find_some {l : List LCol} {name : List UInt8} (h : (kV l name).2 = true) : 0 ≤ aK (fun c : LCol=>c.name == name) l ∧ l[(aK (fun c : LCol=>c.name == name) l).toNat]? = some (kV l name).1 := by
 unfold kV at h ⊢
 by_cases hi : aK (fun c : LCol=>c.name == name) l < 0
 ·simp [hi] at h
 ·have hlt := pS (p := fun c : LCol=>c.name == name) (l := l) (by omega)
  simp only [hi,if_false]
  refine ⟨by omega,?_⟩
  simp [hlt]
theorem tV {l : List LCol} {vals : Rq} {name : List UInt8} (hlen : vals.length = l.length) (hv : ∀ (i : Nat) (c : LCol) (x : LVal),l[i]? = some c → vals[i]? = some x → fC x c.kind c.nullable) (h : (kV l name).2 = true) :
  0 ≤ aK (fun c : LCol=>c.name == name) l ∧ aK (fun c : LCol=>c.name == name) l < vals.length ∧ fC (vals.getD (aK (fun c : LCol=>c.name == name) l).toNat .nul) (kV l name).1.kind (kV l name).1.nullable := by
 obtain ⟨h0,h1⟩ := find_some h
 have hlt := pS h0
 have hlt' : (aK (fun c : LCol=>c.name == name) l).toNat < vals.length := by omega
 refine ⟨h0,by omega,?_⟩
 have := hv _ _ vals[(aK (fun c : LCol=>c.name == name) l).toNat] h1 (ze hlt')
 simpa [hlt'] using this
theorem arity_name {name : List UInt8} {a : Nat} (h : bK name = some a) : name ∈ cR := by
 unfold bK at h
 simp only [cR,List.mem_cons,List.mem_nil_iff,or_false]
 split at h
 ·rename_i h1
  simp only [Bool.or_eq_true,beq_iff_eq] at h1
  rcases h1 with (((((((h1 | h1) | h1) | h1) | h1) | h1) | h1) | h1) | h1 <;> simp [h1]
 ·split at h
  ·rename_i h1
   simp only [Bool.or_eq_true,beq_iff_eq] at h1
   rcases h1 with (h1 | h1) | h1 <;> simp [h1]
  ·split at h
   ·rename_i h1
    simp only [beq_iff_eq] at h1
    simp [h1]
   ·cases h
theorem fits_both {a b : LVal} {ka kb : Int} {na nb : Bool} (d : Int) (hd : d = 0 ∨ d = 1) (ha : fC a ka na) (hb : fC b kb nb) (h1 : ka = 2 ∨ ka = 0) (h2 : kb = 2 ∨ kb = 0) : fC (bothV a b d) 2 (na || nb) := by
 obtain ⟨va,ka',na'⟩ := ha
 obtain ⟨vb,kb',nb'⟩ := hb
 have bool2 : ∀ {x : LVal},eG x = true → x.kind = 2 → x.int = 0 ∨ x.int = 1 := by
  intro x hx hk
  simp [eG,hk] at hx
  exact hx.2
 have w1 : wr (1 - d) = 1 - d := by rcases hd with rfl | rfl <;> rfl
 unfold bothV
 split
 ·exact od _ _
 ·rename_i hn
  split
  ·exact od _ _
  ·rename_i hm
   apply iu
   by_cases ha0 : a.kind = 0
   ·simp [na' ha0]
   ·by_cases hb0 : b.kind = 0
    ·simp [nb' hb0]
    ·exfalso
     have a2 : a.kind = 2 := by omega
     have b2 : b.kind = 2 := by omega
     have ia := bool2 va a2
     have ib := bool2 vb b2
     simp [a2,b2,w1] at hn hm
     omega
theorem op_sound {name : List UInt8} {xs : Rq} {ks : List KR} (hlen : xs.length = ks.length) (hok : ∀ (i : Nat) (x : LVal) (r : KR),xs[i]? = some x → ks[i]? = some r → fC x r.1 r.2.1) (har : bK name = some ks.length)
  (ht : (ed name (ks.map (·.1)) (ks.any (·.2.1))).2.2 = 0) : fC (bA name xs) (ed name (ks.map (·.1)) (ks.any (·.2.1))).1 (ed name (ks.map (·.1)) (ks.any (·.2.1))).2.1 := by
 have hn := arity_name har
 have ty0 : ∀ {k : Int} {nl ok : Bool},(lf k nl ok).2.2 = 0 → ok = true ∧ lf k nl ok = (k,nl,0) := by
  intro k nl ok h
  cases ok
  ·simp [lf] at h
  ·exact ⟨rfl,rfl⟩
 have all2 : ∀ {w : Int} {a b : Int},pi w [a,b] = true → (a = w ∨ a = 0) ∧ (b = w ∨ b = 0) := by
  intro w a b h
  simp [pi] at h
  omega
 have all1 : ∀ {w : Int} {a : Int},pi w [a] = true → (a = w ∨ a = 0) := by
  intro w a h
  simp [pi] at h
  omega
 simp only [cR,List.mem_cons,List.mem_nil_iff,or_false] at hn
 rcases hn with rfl | rfl | rfl | rfl | rfl | rfl | rfl | rfl | rfl | rfl | rfl | rfl | rfl
 case inl | inr.inl | inr.inr.inl =>
  all_goals
   have h2 : ks.length = 2 := (Option.some.inj har).symm
   obtain ⟨r,s,rfl⟩ := iC h2
   obtain ⟨a,b,rfl⟩ := iC (hlen.trans h2)
   simp [ed] at ht ⊢
   obtain ⟨_,e⟩ := ty0 ht
   rw [e]
   simp [bA,bK,jt]
   repeat' split
   all_goals first | exact fits_number _ _ _ | exact iu rfl
 case inr.inr.inr.inl | inr.inr.inr.inr.inl | inr.inr.inr.inr.inr.inl =>
  all_goals
   have h2 : ks.length = 2 := (Option.some.inj har).symm
   obtain ⟨r,s,rfl⟩ := iC h2
   obtain ⟨a,b,rfl⟩ := iC (hlen.trans h2)
   have fa := hok 0 a r rfl rfl
   have fb := hok 1 b s rfl rfl
   simp [ed] at ht ⊢
   obtain ⟨_,e⟩ := ty0 ht
   rw [e]
   simp [bA,bK,jt]
   split
   ·rename_i h0
    apply iu
    rcases h0 with h0 | h0
    ·simp [fa.2.2 h0]
    ·simp [fb.2.2 h0]
   ·exact od _ _
 case inr.inr.inr.inr.inr.inr.inl | inr.inr.inr.inr.inr.inr.inr.inl =>
  all_goals
   have h2 : ks.length = 2 := (Option.some.inj har).symm
   obtain ⟨r,s,rfl⟩ := iC h2
   obtain ⟨a,b,rfl⟩ := iC (hlen.trans h2)
   have fa := hok 0 a r rfl rfl
   have fb := hok 1 b s rfl rfl
   simp [ed] at ht ⊢
   obtain ⟨hal,e⟩ := ty0 ht
   rw [e]
   obtain ⟨h3,h4⟩ := all2 hal
   simp [bA,bK]
   exact fits_both _ (by omega) fa fb h3 h4
 case inr.inr.inr.inr.inr.inr.inr.inr.inl =>
  have h2 : ks.length = 1 := (Option.some.inj har).symm
  obtain ⟨r,rfl⟩ := List.length_eq_one_iff.1 h2
  obtain ⟨a,rfl⟩ := List.length_eq_one_iff.1 (hlen.trans h2)
  have fa := hok 0 a r rfl rfl
  simp [ed] at ht ⊢
  obtain ⟨hal,e⟩ := ty0 ht
  rw [e]
  have h3 := all1 hal
  simp [bA,bK,jt,jk]
  split
  ·rename_i h0; exact iu (fa.2.2 h0)
  ·rename_i h0
   have : a.kind = 2 := by have := fa.2.1; omega
   rw [zp this]
   exact od _ _
 case inr.inr.inr.inr.inr.inr.inr.inr.inr.inl =>
  have h2 : ks.length = 2 := (Option.some.inj har).symm
  obtain ⟨r,s,rfl⟩ := iC h2
  obtain ⟨a,b,rfl⟩ := iC (hlen.trans h2)
  simp [ed] at ht ⊢
  obtain ⟨_,e⟩ := ty0 ht
  rw [e]
  simp [bA,bK,jt]
  repeat' split
  all_goals first | exact iu rfl | skip
  rename_i h3
  refine ⟨?_,.inl rfl,fun h=>by simp at h⟩
  simp [eG]
  omega
 case inr.inr.inr.inr.inr.inr.inr.inr.inr.inr.inl =>
  have h2 : ks.length = 1 := (Option.some.inj har).symm
  obtain ⟨r,rfl⟩ := List.length_eq_one_iff.1 h2
  obtain ⟨a,rfl⟩ := List.length_eq_one_iff.1 (hlen.trans h2)
  simp [ed,bA,bK]
  exact od _ _
 case inr.inr.inr.inr.inr.inr.inr.inr.inr.inr.inr.inl =>
  have h2 : ks.length = 1 := (Option.some.inj har).symm
  obtain ⟨r,rfl⟩ := List.length_eq_one_iff.1 h2
  obtain ⟨a,rfl⟩ := List.length_eq_one_iff.1 (hlen.trans h2)
  have fa := hok 0 a r rfl rfl
  simp [ed] at ht ⊢
  obtain ⟨hal,e⟩ := ty0 ht
  rw [e]
  have h3 := all1 hal
  simp [bA,bK,jt,jk]
  split
  ·rename_i h0; exact iu (fa.2.2 h0)
  ·rename_i h0
   have hk : a.kind = 3 := by have := fa.2.1; omega
   rw [zp hk]
   have hv := fa.1
   simp [eG,hk] at hv
   have hi : intV (a.text.length : Int) = ⟨1,a.text.length,[]⟩ := by unfold intV; rw [zy (by omega)]
   rw [hi]
   refine ⟨?_,.inl rfl,fun h=>by simp at h⟩
   simp [eG]
   omega
 case inr.inr.inr.inr.inr.inr.inr.inr.inr.inr.inr.inr =>
  have h2 : ks.length = 3 := (Option.some.inj har).symm
  obtain ⟨r,s,t,rfl⟩ := len3 h2
  obtain ⟨a,b,c,rfl⟩ := len3 (hlen.trans h2)
  have fb := hok 1 b s rfl rfl
  have fc := hok 2 c t rfl rfl
  simp [ed] at ht ⊢
  obtain ⟨hal,e⟩ := ty0 ht
  rw [e]
  simp [qX] at hal
  have kb := valid_kind fb.1
  have kc := valid_kind fc.1
  have ob := fb.2.1
  have oc := fc.2.1
  simp [bA,bK]
  split
  ·refine ⟨fb.1,?_,fun h=>by simp [fb.2.2 h]⟩
   by_cases hb0 : b.kind = 0
   ·exact .inr hb0
   ·left
    split <;> omega
  ·refine ⟨fc.1,?_,fun h=>by simp [fc.2.2 h]⟩
   by_cases hc0 : c.kind = 0
   ·exact .inr hc0
   ·left
    split <;> omega
theorem kind_sound {cols vars : List LCol} {v : LEnv} (hv : EnvOk cols vars v) : ∀ e : LExpr,(cW cols vars e).2.2 = 0 → fC (bR v e) (cW cols vars e).1 (cW cols vars e).2.1 := by
 intro e
 generalize hk : SizeOf.sizeOf e = k
 induction k using Nat.strongRecOn generalizing e with
 | _ k ih =>
  intro h0
  have harg : ∀ a ∈ e.args,(cW cols vars a).2.2 = 0 → fC (bR v a) (cW cols vars a).1 (cW cols vars a).2.1 := by
   intro a ha
   refine ih (SizeOf.sizeOf a) ?_ a rfl
   rw [← hk]
   cases e
   have := List.sizeOf_lt_of_mem (show a ∈ _ from ha)
   simp only [LExpr.mk.sizeOf_spec,LExpr.args] at *
   omega
  have hK := rk cols vars e
  have hE := rJ v e
  by_cases c0 : e.kind ≠ 5 ∧ 0 < e.args.length
  ·rw [zp c0] at hK; rw [hK] at h0; simp [gp] at h0
  rw [zy c0] at hK
  by_cases c1 : e.kind == 1
  ·rw [zp c1] at hK hE
   by_cases hc : (eG e.value && e.name == [] && e.index == 0) = true
   ·rw [zp hc] at hK
    rw [hK,hE]
    simp only [Bool.and_eq_true] at hc
    exact ⟨hc.1.1,.inl rfl,fun h=>by simp [h]⟩
   ·rw [zy hc] at hK; rw [hK] at h0; simp [gp] at h0
  rw [zy c1] at hK hE
  by_cases c3 : e.kind == 3
  ·have c2 : ¬ (e.kind == 2) = true := by simp at c3 ⊢; omega
   rw [zp c3] at hK
   rw [zy c2,zp c3] at hE
   split at hK
   ·rw [hK] at h0; simp [gp] at h0
   ·rw [hK,hE]
    split
    ·rename_i hp
     have hlt : e.index.toNat < v.params.length := by omega
     have hm : v.params.getD e.index.toNat .nul ∈ v.params := by
      simp [hlt]
     exact ⟨hv.params _ hm,.inl hp.2.2,fun _=>rfl⟩
    ·exact iu rfl
  rw [zy c3] at hK
  by_cases c24 : (e.kind == 2 || e.kind == 4) = true
  ·rw [zp c24] at hK
   by_cases hs : (db e.name && e.index == 0 && decide (e.value = .nul)) = true
   ·rw [zp hs] at hK
    by_cases hf : (kV (if e.kind == 4 then vars else cols) e.name).2 = true
    ·rw [zp hf] at hK
     rw [hK,hE]
     by_cases c2 : e.kind == 2
     ·have c4 : ¬ (e.kind == 4) = true := by simp at c2 ⊢; omega
      rw [zp c2]
      rw [zy c4] at hf ⊢
      obtain ⟨f1,f2,f3⟩ := tV hv.len hv.row hf
      rw [hv.hcols,zp ⟨f1,f2⟩]
      exact f3
     ·have c4 : (e.kind == 4) = true := by simpa [c2] using c24
      rw [zy c2,zy c3,zp c4]
      rw [zp c4] at hf ⊢
      obtain ⟨f1,f2,f3⟩ := tV hv.vlen hv.vals hf
      have e1 : aK (fun s : List UInt8=>e.name == s) v.vnames = aK (fun c : LCol=>c.name == e.name) vars := by
       rw [hv.names]
       exact idxOf_map LCol.name _ _ (fun c=>by rw [Bool.eq_iff_iff]; simp; exact eq_comm) vars
      rw [e1,zp ⟨f1,f2⟩]
      exact f3
    ·rw [zy hf] at hK; rw [hK] at h0; simp [gp] at h0
   ·rw [zy hs] at hK; rw [hK] at h0; simp [gp] at h0
  rw [zy c24] at hK
  have c2 : ¬ (e.kind == 2) = true := fun h=>c24 (by simp [h])
  have c4 : ¬ (e.kind == 4) = true := fun h=>c24 (by simp [h])
  rw [zy c2,zy c3,zy c4] at hE
  by_cases c5 : e.kind == 5
  ·rw [zp c5] at hK hE
   unfold jE at hK
   split at hK
   ·rw [hK] at h0; simp [gp] at h0
   ·rename_i hop
    split at hK
    ·rename_i r hr
     have := List.find?_some hr
     rw [hK] at h0
     simp [gp] at h0
     simp [h0] at this
    ·rename_i hr
     have hnone := List.find?_eq_none.1 hr
     rw [hK] at h0
     rw [hK,hE]
     refine op_sound (by simp) ?_ ?_ h0
     ·intro i x r hx hr'
      simp only [List.getElem?_map,Option.map_eq_some_iff] at hx hr'
      obtain ⟨a,ha,rfl⟩ := hx
      obtain ⟨b,hb,rfl⟩ := hr'
      rw [ha] at hb
      cases hb
      refine harg a (List.mem_of_getElem? ha) ?_
      have := hnone _ (List.mem_map.2 ⟨a,List.mem_of_getElem? ha,rfl⟩)
      simpa using this
     ·exact Classical.byContradiction fun hne=>hop (.inl hne)
  ·rw [zy c5] at hK; rw [hK] at h0; simp [gp] at h0
theorem type_sound {cols vars : List LCol} {v : LEnv} (hv : EnvOk cols vars v) (e : LExpr) (h : (cI cols vars e).2.2 = 0) : fC (bR v e) (cI cols vars e).1 (cI cols vars e).2.1 := by
 unfold cI at h ⊢
 split at h
 ·simp [gp] at h
 ·rename_i hc
  rw [zy hc]
  exact kind_sound hv e h
end
end Go.Proofs.YtifhafpljncplaaGreatDoor

namespace Go.Proofs.YtifhafpljncplaaGreatDoor
noncomputable section
open Go Go.Ab
structure LTable where
 name : List UInt8
 columns : List LCol
 primaryKey : List Int
 deriving DecidableEq
@[simp] def cD (x : LTable) : List PV := [(.str x.name),(.list 51 (x.columns.map aN)),(.list 3 (x.primaryKey.map bG))]
structure LForeignKey where
 table : List UInt8
 columns : List Int
 refTable : List UInt8
 deriving DecidableEq
@[simp] def jL (x : LForeignKey) : List PV := [(.str x.table),(.list 3 (x.columns.map bG)),(.str x.refTable)]
structure LConstraint where
 table : List UInt8
 left : Int
 op : List UInt8
 right : Int
 value : LVal
 deriving DecidableEq
@[simp] def kU (x : LConstraint) : List PV := [(.str x.table),(am x.left),(.str x.op),(am x.right),(am x.value.kind),(am x.value.int),(.str x.value.text)]
structure LSchema where
 tables : List LTable
 foreignKeys : List LForeignKey
 constraints : List LConstraint
 deriving DecidableEq
@[simp] def bW (x : LSchema) : List PV := [(.list 65 (x.tables.map cD)),(.list 143 (x.foreignKeys.map jL)),(.list 149 (x.constraints.map kU))]
structure LAggregateCall where
 name : List UInt8
 function : List UInt8
 args : List LExpr
@[simp] def kS (x : LAggregateCall) : List PV := [(.str x.name),(.str x.function),(.list 41 (x.args.map eA))]
inductive LQuery where
 | mk (kind : Int) (table : List UInt8) (names : List (List UInt8)) (exprs : List LExpr) (aggregates : List LAggregateCall) (descending : List Bool) (count : Int) (offset : Int) (inputs : List LQuery)
def LQuery.kind : LQuery → Int | .mk a _ _ _ _ _ _ _ _=>a
def LQuery.table : LQuery → List UInt8 | .mk _ a _ _ _ _ _ _ _=>a
def LQuery.names : LQuery → List (List UInt8) | .mk _ _ a _ _ _ _ _ _=>a
def LQuery.exprs : LQuery → List LExpr | .mk _ _ _ a _ _ _ _ _=>a
def LQuery.aggregates : LQuery → List LAggregateCall | .mk _ _ _ _ a _ _ _ _=>a
def LQuery.descending : LQuery → List Bool | .mk _ _ _ _ _ a _ _ _=>a
def LQuery.count : LQuery → Int | .mk _ _ _ _ _ _ a _ _=>a
def LQuery.offset : LQuery → Int | .mk _ _ _ _ _ _ _ a _=>a
def LQuery.inputs : LQuery → List LQuery | .mk _ _ _ _ _ _ _ _ a=>a
mutual
def bV : LQuery → List PV
 | .mk f0 f1 f2 f3 f4 f5 f6 f7 f8=>[(am f0),(.str f1),(.list 9 (f2.map nG)),(.list 41 (f3.map eA)),(.list 140 (f4.map kS)),(.list 4 (f5.map rBool)),(am f6),(am f7),.list 35 (qk f8)]
def qk : List LQuery → List (List PV)
 | []=>[]
 | e :: r=>bV e :: qk r
end
theorem rT : ∀ l,qk l = l.map bV
 | []=>rfl
 | e :: r=>by simp [qk,rT r]
def aG (x : LQuery) : List PV := [(am x.kind),(.str x.table),(.list 9 (x.names.map nG)),(.list 41 (x.exprs.map eA)),(.list 140 (x.aggregates.map kS)),(.list 4 (x.descending.map rBool)),(am x.count),(am x.offset),(.list 35 (x.inputs.map bV))]
theorem bQ (x : LQuery) : bV x = aG x := by
 cases x
 simp [bV,aG,rT,LQuery.kind,LQuery.table,LQuery.names,LQuery.exprs,LQuery.aggregates,LQuery.descending,LQuery.count,LQuery.offset,LQuery.inputs]
structure LResult where
 columns : List LCol
 rows : Rz
 deriving DecidableEq
@[simp] def iH (x : LResult) : List PV := [(.list 51 (x.columns.map aN)),(.list 61 (x.rows.map (al 39 ae)))]
structure LJoinalgoCondition where
 left : List Int
 right : List Int
 outer : Bool
 rightWidth : Int
 deriving DecidableEq
@[simp] def bH (x : LJoinalgoCondition) : List PV := [(.list 3 (x.left.map bG)),(.list 3 (x.right.map bG)),(aC x.outer),(am x.rightWidth)]
structure LRelation where
 table : List UInt8
 rows : Rz
 deriving DecidableEq
@[simp] def dw (x : LRelation) : List PV := [(.str x.table),(.list 61 (x.rows.map (al 39 ae)))]
structure LJoinalgoOne where
 key : Rq
 row : Rq
 ok : Bool
 deriving DecidableEq
@[simp] def encJoinalgoOne (x : LJoinalgoOne) : List PV := [(.list 39 (x.key.map ae)),(.list 39 (x.row.map ae)),(aC x.ok)]
structure LAnon109 where
 rows : Rz
 atF : List Int
 deriving DecidableEq
@[simp] def mE (x : LAnon109) : List PV := [(.list 61 (x.rows.map (al 39 ae))),(.list 3 (x.atF.map bG))]
structure LRun where
 s : LSchema
 st : List LRelation
 args : Rq
 vars : List LCol
 names : List (List UInt8)
 vals : Rq
 deriving DecidableEq
@[simp] def dE (x : LRun) : List PV := [(.list 65 (x.s.tables.map cD)),(.list 143 (x.s.foreignKeys.map jL)),(.list 149 (x.s.constraints.map kU)),(.list 68 (x.st.map dw)),(.list 39 (x.args.map ae)),(.list 51 (x.vars.map aN)),(.list 9 (x.names.map nG)),(.list 39 (x.vals.map ae))]
structure LChecker where
 s : LSchema
 vars : List LCol
 deriving DecidableEq
@[simp] def eo (x : LChecker) : List PV := [(.list 65 (x.s.tables.map cD)),(.list 143 (x.s.foreignKeys.map jL)),(.list 149 (x.s.constraints.map kU)),(.list 51 (x.vars.map aN))]
end
end Go.Proofs.YtifhafpljncplaaGreatDoor
