/- joinReorderIsNotWorseUpto_holds, part 2: the layer, the plain functions and what they compute; conditions as in the statement. -/
import Derived.Test.YtpgalfinchajnaaGreatDoorRwa
set_option maxHeartbeats 4000000
namespace Go.Ab
noncomputable section
open Go.ChangeShapes
def iG (P : Program) (t : TypeId) (pvs : List PV) : PV :=
 match P.underlying t with
 | some (.struct _)=>.agg pvs
 | _=>pvs.headD .any
def ArgsSh (P : Program) : List TypeId → List PV → Prop
 | [],av0=>av0 = []
 | t :: ts,av0=>∃ n pvs rest,av0 = iG P t pvs :: rest ∧ Sh P n t pvs ∧ ArgsSh P ts rest
section
variable {H : Type} {enc : TypeId × Value → H} {P : Program} {W : World} {S : List TypeId}
theorem pi (hl : laidOutB P = true) {W' : World} (hb : RowKit.Below W.heap.size W W') {sp : Nat → Bool} : ∀ {ts : List TypeId} {vs : List Value} {ds : List (DataW H)} {ps : List MemPlace},(∀ t ∈ ts,P.readableRec t = true ∧ t < P.types.size) →
  DataW.TrodAll enc P W 0 (fun _=>true) true ts vs ds ps → (∀ x ∈ ps,x.block < W.heap.size) → (∀ x ∈ ps,sp x.block = true) → DataW.TrodAll enc P W' 0 sp true ts vs ds ps
 | [],_,_,_,_,h,_,_=>by
  obtain ⟨rfl,rfl,rfl⟩ := trodAll_nil h
  exact trodAll_mk0
 | t :: ts,_,_,_,hr,h,hlt,hsp=>by
  obtain ⟨v,vs,d,ds,p,q,rfl,rfl,rfl,h1,h2⟩ := trodAll_cons h
  exact ⟨p,q,WideElems.Trod_stays hl (hr t (by simp)).1 (hr t (by simp)).2 h1 (fun x hx=>hb.same (hlt x (by simp [hx]))) (fun x hx=>hsp x (by simp [hx])),
   pi hl hb (fun t ht=>hr t (by simp [ht])) h2 (fun x hx=>hlt x (by simp [hx])) (fun x hx=>hsp x (by simp [hx])),rfl⟩
theorem qr {sp : Nat → Bool} {hd : Bool} : ∀ {ts : List TypeId} {vs : List Value} {ds : List (DataW H)} {ps : List MemPlace},DataW.TrodAll enc P W 0 sp hd ts vs ds ps → ds.length = ts.length
 | [],_,_,_,h=>by
  obtain ⟨_,rfl,_⟩ := trodAll_nil h
  rfl
 | t :: ts,_,_,_,h=>by
  obtain ⟨v,vs,d,ds,p,q,rfl,rfl,rfl,_,h2⟩ := trodAll_cons h
  simp [qr h2]
theorem InvH.start (W : World) (hg : Gl W []) : InvH P ⟨W,[],iE W,hg⟩ (iE W) Heap.empty W :=
 ⟨fun _ _ _ h=>h,Mem.le_refl _,fun _ _ _ h=>.inl h,rfl,rfl,rfl,Nat.le_refl _,fun _ _ _=>rfl,fun _ _ h=>by simp [Heap.empty] at h,fun _ _ h=>by simp [Heap.empty] at h,
  fun _ _ _ _ h=>by simp [Heap.empty] at h,fun _ _ _ _ _ h=>by simp [Heap.empty] at h,fun _ _ _ _ h=>by simp [Heap.empty] at h⟩
theorem InvH.below {hg : Gl W []} {M : Mem} {Hp : Heap} {W' : World} (h : InvH P ⟨W,[],iE W,hg⟩ M Hp W') : RowKit.Below W.heap.size W W' :=
 ⟨h.os,h.tape,h.output,h.size,fun k hk=>h.frame k hk (by simp)⟩
end
mutual
def PV.bulk : PV → Nat
 | .str l=>l.length + 1
 | .list _ rows=>cI rows + 1
 | .agg cs=>aG cs
 | .any=>1
 | .val _=>1
 | .tup _=>1
 | .ptr _=>1
 | .fn _ _=>1
 | .box _ _ _=>1
 | .own _ _ _=>1
 | .optr _ _ _ _ _=>1
 | .err _=>1
def aG : List PV → Nat
 | []=>0
 | p :: ps=>p.bulk + aG ps
def cI : List (List PV) → Nat
 | []=>0
 | r :: rs=>aG r + cI rs
end
theorem nM : ∀ a b : List PV,aG (a ++ b) = aG a + aG b
 | [],b=>by simp [aG]
 | p :: a,b=>by simp only [List.cons_append,aG,nM a b]; omega
structure IsBulk (B : (H : Type) → DataW H → Nat) : Prop where
 one : ∀ H d,1 ≤ B H d
 str : ∀ H l,l.length + 1 ≤ B H (.lit (.string l))
 slice : ∀ H (a b : List (DataW H)),(a.map (B H)).sum + 1 ≤ B H (.slice a b)
 agg : ∀ H (a : List (DataW H)),(a.map (B H)).sum ≤ B H (.agg a)
theorem Sh.up {P : Program} : ∀ {n : Nat} {t : TypeId} {pvs : List PV},Sh P n t pvs → Sh P (n + 1) t pvs := by
 intro n
 induction n with
 | zero=>intro t pvs h; simp [Sh] at h
 | succ n ih =>
  intro t pvs h
  rw [Sh] at h ⊢
  split at h
  ·exact h
  ·exact h
  ·exact h
  ·obtain ⟨rows,rfl,hr⟩ := h
   exact ⟨rows,rfl,fun r hq=>ih (hr r hq)⟩
  ·rename_i fs hu
   have key : ∀ (ts : List TypeId) (l : List PV),eQ (Sh P n) ts l → eQ (Sh P (n + 1)) ts l := by
    intro ts
    induction ts with
    | nil=>intro l h; simp only [eQ] at h ⊢; exact h
    | cons t ts iht =>
     intro l h
     simp only [eQ] at h ⊢
     obtain ⟨a,b,h1,h2,h3⟩ := h
     exact ⟨a,b,h1,ih h2,iht b h3⟩
   exact key _ _ h
  ·cases h
theorem Sh.cast {P : Program} {n : Nat} {t t' : TypeId} {pvs : List PV} (h : P.underlying t = P.underlying t') (hs : Sh P n t pvs) : Sh P n t' pvs := by
 cases n with
 | zero=>simp [Sh] at hs
 | succ n=>rw [Sh] at hs ⊢; rwa [h] at hs
theorem iS {α : Type} {f : α → List PV} : ∀ {rows : List (List PV)},(∀ r ∈ rows,∃ x,r = f x) → ∃ xs : List α,rows = xs.map f
 | [],_=>⟨[],rfl⟩
 | r :: rs,h=>by
  obtain ⟨x,rfl⟩ := h r (by simp)
  obtain ⟨xs,rfl⟩ := iS (rows := rs) fun q hq=>h q (by simp [hq])
  exact ⟨x :: xs,rfl⟩
theorem rowsUp {α : Type} {f : α → List PV} {P : Program} {n : Nat} {e t : TypeId} (he : P.underlying e = P.underlying t) (ih : ∀ {pvs},Sh P (n + 1) t pvs → ∃ v,pvs = f v) {rows : List (List PV)} (hr : ∀ r ∈ rows,Sh P n e r) : ∃ xs : List α,rows = xs.map f :=
 iS fun r hq=>ih (Sh.up (Sh.cast he (hr r hq)))
def infosB (P : Program) (S : List TypeId) : Bool := S.all fun t=>match P.info? t with
 | some i=>Nat.beq i.bytes (P.bytesOf t) && Nat.beq i.size (P.cellsOf t)
 | none=>false
theorem infos_of {P : Program} {S : List TypeId} (h : infosB P S = true) : ∀ t ∈ S,∃ i,P.info? t = some i ∧ i.bytes = P.bytesOf t ∧ i.size = P.cellsOf t := by
 intro t ht
 have := List.all_eq_true.1 h t ht
 cases hi : P.info? t with
 | none=>rw [hi] at this; cases this
 | some i =>
  rw [hi] at this
  simp only [Bool.and_eq_true] at this
  exact ⟨i,rfl,Nat.eq_of_beq_eq_true this.1,Nat.eq_of_beq_eq_true this.2⟩
section
variable {B : (H : Type) → DataW H → Nat} {H : Type} {enc : TypeId × Value → H} {P : Program} {W : World} {S : List TypeId}
theorem qu {n : Nat} (ih : ∀ t ∈ S,∀ (cs : List Value) x,DataW.trod enc P W 0 (fun _=>true) true n t cs = some x → (x.1.weights P t).all (· ≤ reachBytes) = true → ∃ pvs,Sh P n t pvs ∧ au P (iE W) false pvs cs ∧ aG pvs ≤ B H x.1) :
  ∀ (fs : List Field) (o : Nat) (cs : List Value) (xs : List (DataW H × List MemPlace)),laidFs P o fs = true → fs.all (fun f=>S.contains f.type) = true → o + (fs.map fun f=>P.cellsOf f.type).sum = cs.length →
   (fs.mapM fun f=>DataW.trod enc P W 0 (fun _=>true) true n f.type ((cs.drop f.offset).take (P.cellsOf f.type))) = some xs →
   (DataW.weightsEach P (fs.map (·.type)) (xs.map (·.1))).all (· ≤ reachBytes) = true → ∃ pvs,eQ (Sh P n) (fs.map (·.type)) pvs ∧ au P (iE W) false pvs (cs.drop o) ∧ aG pvs ≤ ((xs.map (·.1)).map (B H)).sum
 | [],o,cs,xs,_,_,hlen,_,_=>by
  refine ⟨[],by simp [eQ],?_,by simp [aG]⟩
  simp only [au]
  exact List.drop_eq_nil_of_le (by simp at hlen; omega)
 | f :: fs,o,cs,xs,hl,hS,hlen,hm,hw=>by
  simp only [laidFs,Bool.and_eq_true] at hl
  simp only [List.all_cons,Bool.and_eq_true] at hS
  simp only [List.map_cons,List.sum_cons] at hlen
  have hoff : f.offset = o := Nat.eq_of_beq_eq_true hl.1
  rw [List.mapM_cons] at hm
  cases hx : DataW.trod enc P W 0 (fun _=>true) true n f.type ((cs.drop f.offset).take (P.cellsOf f.type)) with
  | none=>rw [hx] at hm; cases hm
  | some x =>
   rw [hx] at hm
   cases hr : (fs.mapM fun f=>DataW.trod enc P W 0 (fun _=>true) true n f.type ((cs.drop f.offset).take (P.cellsOf f.type))) with
   | none=>rw [hr] at hm; cases hm
   | some r =>
    rw [hr] at hm
    have hm' : x :: r = xs := Option.some.inj hm
    subst hm'
    simp only [List.map_cons,DataW.weightsEach,List.all_append,Bool.and_eq_true] at hw
    obtain ⟨pa,ha1,ha2,ha3⟩ := ih f.type (by simpa using hS.1) _ x hx hw.1
    obtain ⟨pb,hb1,hb2,hb3⟩ := qu ih fs (o + P.cellsOf f.type) cs r hl.2 hS.2 (by omega) hr hw.2
    refine ⟨pa ++ pb,⟨pa,pb,rfl,ha1,hb1⟩,?_,by rw [nM]; simp only [List.map_cons,List.sum_cons]; omega⟩
    have := ha2.append hb2
    rw [hoff] at this
    have e : (cs.drop o).take (P.cellsOf f.type) ++ cs.drop (o + P.cellsOf f.type) = cs.drop o := by
     rw [← List.drop_drop]; exact List.take_append_drop _ _
    rwa [e] at this
theorem absB_rows {n : Nat} {e : TypeId} (ih : ∀ (cs : List Value) x,DataW.trod enc P W 0 (fun _=>true) true n e cs = some x → (x.1.weights P e).all (· ≤ reachBytes) = true → ∃ pvs,Sh P n e pvs ∧ au P (iE W) false pvs cs ∧ aG pvs ≤ B H x.1)
  {b o c : Nat} : ∀ (elems : List (DataW H × List MemPlace)) (k : Nat),(∀ j,j < elems.length → ((W.cells? 0 ((⟨b,o,none⟩ : Addr).add ((k + j) * c)) c).bind (DataW.trod enc P W 0 (fun _=>true) true n e)) = elems[j]?) →
   (DataW.weightsAll P e (elems.map (·.1))).all (· ≤ reachBytes) = true → ∃ rows : List (List PV),rows.length = elems.length ∧ (∀ r ∈ rows,Sh P n e r) ∧ cj P (iE W) c b (o + k * c) rows ∧ cI rows ≤ ((elems.map (·.1)).map (B H)).sum
 | [],k,_,_=>⟨[],rfl,by simp,by simp [cj],by simp [cI]⟩
 | x :: r,k,hj,hw=>by
  simp only [List.map_cons,DataW.weightsAll,List.all_append,Bool.and_eq_true] at hw
  have h0 := hj 0 (by simp)
  simp only [Nat.add_zero,List.getElem?_cons_zero] at h0
  cases hcs : W.cells? 0 ((⟨b,o,none⟩ : Addr).add (k * c)) c with
  | none=>rw [hcs] at h0; cases h0
  | some cs =>
   rw [hcs] at h0
   simp only [Option.bind_some] at h0
   obtain ⟨pv,hp1,hp2,hp3⟩ := ih cs x h0 hw.1
   obtain ⟨_,hlen,hcell⟩ := World.cells?_some hcs
   obtain ⟨rows,hr1,hr2,hr3,hr4⟩ := absB_rows ih r (k + 1) (fun j hj'=>by
    have := hj (j + 1) (by simpa using hj')
    rw [show k + (j + 1) = k + 1 + j from by omega] at this
    simpa using this) hw.2
   refine ⟨pv :: rows,by simp [hr1],?_,?_,by simp only [cI,List.map_cons,List.sum_cons]; omega⟩
   ·intro q hq
    rcases List.mem_cons.1 hq with rfl | hq
    ·exact hp1
    ·exact hr2 q hq
   ·simp only [cj]
    have hpl : pv.length = c := by rw [← hlen]; exact (hp2.length).symm
    have hone : ∀ y ∈ cs,y.oneCell' = true := au.oneCell hp1.one hp2
    refine ⟨hpl,cf.of_cells hp2 hone fun j hj'=>?_,?_⟩
    ·have := hcell j (by omega)
     rw [← this,dK,dK]
    ·rw [show o + (k + 1) * c = o + k * c + c from by rw [Nat.add_mul]; omega] at hr3
     exact hr3
theorem absB (hB : IsBulk B) (hS : S.all (okT P S) = true) (hinf : ∀ t ∈ S,∃ i,P.info? t = some i ∧ i.bytes = P.bytesOf t ∧ i.size = P.cellsOf t) : ∀ (n : Nat) (t : TypeId),t ∈ S → ∀ (cs : List Value) x,DataW.trod enc P W 0 (fun _=>true) true n t cs = some x →
  (x.1.weights P t).all (· ≤ reachBytes) = true → ∃ pvs,Sh P n t pvs ∧ au P (iE W) false pvs cs ∧ aG pvs ≤ B H x.1 := by
 intro n
 induction n with
 | zero=>intro t _ cs x h; simp [DataW.trod] at h
 | succ n ih =>
  intro t ht cs x h hw
  have hok := List.all_eq_true.1 hS t ht
  unfold okT at hok
  simp only [Sh]
  split at hok
  ·rename_i hu
   obtain ⟨b,rfl⟩ := trod_bool_some hu h
   exact ⟨_,⟨b,rfl⟩,by simp [au,Rep],by simp only [aG,PV.bulk]; exact hB.one _ _⟩
  ·rename_i k hu
   obtain ⟨m,rfl,hm⟩ := trod_int_some hu h
   exact ⟨_,⟨m,rfl,hm⟩,by simp [au,Rep],by simp only [aG,PV.bulk]; exact hB.one _ _⟩
  ·rename_i hu
   obtain ⟨s,rfl,hx⟩ := trod_str_some hu h
   rw [hx] at hw
   simp only [DataW.weights,List.all_cons,List.all_nil,Bool.and_true,decide_eq_true_eq] at hw
   have hle : s.data.toList.length ≤ 2 ^ 47 := Nat.le_trans hw (by unfold reachBytes; omega)
   refine ⟨_,⟨s.data.toList,rfl,hle⟩,?_,by simp only [aG,PV.bulk]; rw [hx]; exact hB.str _ _⟩
   simp only [au,Rep]
   exact ⟨_,[],rfl,⟨by simp,Nat.le_trans hle (by unfold ji; omega)⟩,rfl⟩
  ·rename_i e hu
   simp only [Bool.and_eq_true] at hok
   have he : e ∈ S := by simpa using hok.1
   obtain ⟨i,hi1,hi2,hi3⟩ := hinf e he
   rcases qQ hu h with ⟨rfl,rfl⟩ | ⟨a,len,cap,elems,rest,rfl,hlc,hcm,hel,hre,hx⟩
   ·refine ⟨_,⟨[],rfl,by simp⟩,?_,by simp only [aG,PV.bulk,cI]; exact hB.one _ _⟩
    simp only [au,Rep]
    exact ⟨_,[],rfl,⟨none,0,i,rfl,by simp,by simp,hi1,by simp,by simp⟩,rfl⟩
   ·have hlen : elems.length = len := by simpa using mapM_some_length hel
    have hrlen : rest.length = cap - len := by simpa using mapM_some_length hre
    rw [hx] at hw
    simp only [DataW.weights,hu,List.all_cons,List.all_append,zl,Bool.and_eq_true,decide_eq_true_eq] at hw
    have hpos : 0 < P.cellsOf e := by simpa [Nat.blt_eq] using hok.2
    have hget : ∀ j,j < elems.length → (W.cells? 0 (a.add (j * P.cellsOf e)) (P.cellsOf e)).bind (DataW.trod enc P W 0 (fun _=>true) true n e) = elems[j]? := fun j hj=>mapM_some_get hel j j (List.getElem?_range (by omega))
    have hsp : elems ≠ [] → a.spot = none := fun hne=>by
     have h0 := hget 0 (List.length_pos_iff.2 hne)
     rw [Nat.zero_mul] at h0
     cases hcs : W.cells? 0 (a.add 0) (P.cellsOf e) with
     | none=>rw [hcs] at h0; cases elems with
      | nil=>exact absurd rfl hne
      | cons _ _=>cases h0
     | some cs =>
      obtain ⟨_,hl,hc⟩ := World.cells?_some hcs
      have := hc 0 hpos
      cases hs : a.spot with
      | none=>rfl
      | some q =>
       have h1 : W.cell? ((a.add 0).add 0) = none := by
        simp only [World.cell?,Addr.add,hs,if_true]
        split <;> simp
       rw [h1] at this
       have := List.getElem?_eq_none_iff.1 this.symm
       omega
    have hby : len * i.bytes ≤ 2 ^ 47 := by
     have h1 := hw.1
     rw [hi2]
     have : len * P.bytesOf e ≤ (elems.length + rest.length) * P.bytesOf e := Nat.mul_le_mul_right _ (by omega)
     unfold reachBytes at h1
     omega
    by_cases hne : elems = []
    ·subst hne
     refine ⟨_,⟨[],rfl,by simp⟩,?_,by simp only [aG,PV.bulk,cI]; exact hB.one _ _⟩
     simp only [List.length_nil] at hlen
     subst hlen
     simp only [au,Rep]
     exact ⟨_,[],rfl,⟨some a,cap,i,rfl,by simp,hcm,hi1,by simp,by simp⟩,rfl⟩
    ·obtain ⟨b,o,sp⟩ := a
     have := hsp hne
     simp only at this
     subst this
     obtain ⟨rows,hr1,hr2,hr3,hr4⟩ := absB_rows (B := B) (fun cs x hx hw=>ih e he cs x hx hw) elems 0 (fun j hj=>by rw [Nat.zero_add]; exact hget j hj) hw.2.1
     refine ⟨_,⟨rows,rfl,hr2⟩,?_,by simp only [aG,PV.bulk]; rw [hx]; exact Nat.le_trans (by omega) (hB.slice _ _ _)⟩
     simp only [au,Rep]
     have hrl : rows.length = len := by omega
     rw [hrl]
     refine ⟨_,[],rfl,⟨some ⟨b,o,none⟩,cap,i,rfl,hlc,hcm,hi1,hby,fun _=>⟨b,o,rfl,?_⟩⟩,rfl⟩
     rw [hi3]
     simpa using hr3
  ·rename_i fs hu
   simp only [Bool.and_eq_true] at hok
   obtain ⟨hl,xs,hm,hx⟩ := qK hu h
   rw [hx] at hw
   simp only [DataW.weights,hu] at hw
   have hsum := Nat.eq_of_beq_eq_true hok.2
   obtain ⟨pvs,h1,h2,h3⟩ := qu (B := B) ih fs.toList 0 cs xs hok.1.1 hok.1.2 (by rw [hsum,hl]; omega) hm hw
   exact ⟨pvs,h1,by simpa using h2,by rw [hx]; exact Nat.le_trans h3 (hB.agg _ _)⟩
  ·cases hok
omit enc W S in
theorem argPV_bulk (hB : IsBulk B) (t : TypeId) (pvs : List PV) : (iG P t pvs).bulk ≤ max (aG pvs) 1 := by
 have _ := hB
 unfold iG
 split
 ·simp only [PV.bulk]; omega
 ·cases pvs with
  | nil=>simp [PV.bulk,aG]
  | cons p ps=>simp only [List.headD_cons,aG]; omega
theorem absB_val (hB : IsBulk B) (hS : S.all (okT P S) = true) (hinf : ∀ t ∈ S,∃ i,P.info? t = some i ∧ i.bytes = P.bytesOf t ∧ i.size = P.cellsOf t) {base : Nat} {t : TypeId} (ht : t ∈ S) {v : Value} {d : DataW H} {ps : List MemPlace}
  (hv : Value.okWide P W .any base t v) (h : DataW.Trod enc P W 0 (fun _=>true) true t v d ps) (hw : (d.weights P t).all (· ≤ reachBytes) = true) : ∃ n pvs,Sh P n t pvs ∧ Rep P (iE W) true (iG P t pvs) v ∧ (iG P t pvs).bulk ≤ B H d := by
 obtain ⟨n,hn⟩ := h
 obtain ⟨pvs,h1,h2,hb⟩ := absB hB hS hinf n t ht _ (d,ps) hn hw
 refine ⟨n,pvs,h1,?_,Nat.le_trans (argPV_bulk hB t pvs) (Nat.max_le.2 ⟨hb,hB.one _ _⟩)⟩
 have h2' := au.slot h2
 have hok := List.all_eq_true.1 hS t ht
 unfold okT at hok
 unfold iG
 have one : v.cells = #[v] → Rep P (iE W) true (pvs.headD .any) v := by
  intro e
  rw [e] at h2'
  cases pvs with
  | nil=>simp [au] at h2'
  | cons p ps =>
   simp only [au] at h2'
   obtain ⟨x,xs,hx,hp,_⟩ := h2'
   simp only [List.cons.injEq] at hx
   rw [hx.1]
   exact hp
 cases hu : P.underlying t with
 | none=>rw [hu] at hok; cases hok
 | some td =>
  rw [hu] at hok
  cases td <;> first | (simp only [Bool.false_eq_true] at hok; done) | skip
  case bool=>obtain ⟨b,rfl⟩ := WideShapes.okWide_bool hu hv; exact one rfl
  case int k=>obtain ⟨m,rfl⟩ := WideShapes.okWide_int hu hv; exact one rfl
  case string=>obtain ⟨s,rfl⟩ := WideShapes.okWide_string hu hv; exact one rfl
  case slice e=>obtain ⟨a,len,cap,rfl⟩ := WideShapes.okWide_slice hu hv; exact one rfl
  case struct fs =>
   obtain ⟨cs,rfl,_⟩ := WideShapes.okWide_struct hu hv
   simp only [Rep]
   exact ⟨cs,rfl,h2'⟩
theorem absB_args (hB : IsBulk B) (hS : S.all (okT P S) = true) (hinf : ∀ t ∈ S,∃ i,P.info? t = some i ∧ i.bytes = P.bytesOf t ∧ i.size = P.cellsOf t) {base : Nat} : ∀ {ts : List TypeId} {vs : List Value} {ds : List (DataW H)} {ps : List MemPlace},(∀ t ∈ ts,t ∈ S) →
  (∀ (j : Nat) t v,ts[j]? = some t → vs[j]? = some v → Value.okWide P W .any base t v) → DataW.TrodAll enc P W 0 (fun _=>true) true ts vs ds ps → (DataW.weightsEach P ts ds).all (· ≤ reachBytes) = true →
  ∃ av0,ArgsSh P ts av0 ∧ au P (iE W) true av0 vs ∧ aG av0 ≤ (ds.map (B H)).sum
 | [],_,_,_,_,_,h,_=>by
  obtain ⟨rfl,rfl,rfl⟩ := trodAll_nil h
  exact ⟨[],rfl,by simp [au],by simp [aG]⟩
 | t :: ts,_,_,_,hm,hv,h,hw=>by
  obtain ⟨v,vs,d,ds,p,q,rfl,rfl,rfl,h1,h2⟩ := trodAll_cons h
  simp only [DataW.weightsEach,List.all_append,Bool.and_eq_true] at hw
  obtain ⟨n,pvs,a1,a2,a3⟩ := absB_val hB hS hinf (hm t (by simp)) (hv 0 t v rfl rfl) h1 hw.1
  obtain ⟨av0,b1,b2,b3⟩ := absB_args hB hS hinf (fun t ht=>hm t (by simp [ht])) (fun j t v ht hv'=>hv (j + 1) t v (by simpa using ht) (by simpa using hv')) h2 hw.2
  refine ⟨iG P t pvs :: av0,⟨n,pvs,av0,rfl,a1,b1⟩,?_,by simp only [aG,List.map_cons,List.sum_cons]; omega⟩
  simp only [au]
  exact ⟨v,vs,rfl,a2,b2⟩
theorem law_callsB {N : Nat} (hB : IsBulk B) (hl : laidOutB P = true) {f : FuncId} {fn : Func} {s : ChangeSpec} {fresh handsOn again : Bool} {tb : TypeId} (hvars : s.vars = []) (hr : ∀ t ∈ fn.params.toList,P.readableRec t = true ∧ t < P.types.size) (hres : fn.resultTypes = #[tb]) (htb : P.underlying tb = some .bool)
  (hfn : ∀ ds : List (DataW H),ds.length = fn.params.toList.length → s.fn H ds = { results := [.lit (.bool true)],args := ds })
  (hS : S.all (okT P S) = true) (hinf : ∀ t ∈ S,∃ i,P.info? t = some i ∧ i.bytes = P.bytesOf t ∧ i.size = P.cellsOf t) (hm : ∀ t ∈ fn.params.toList,t ∈ S)
  (hspec : ∀ av0,ArgsSh P fn.params.toList av0 → aG av0 ≤ N → aJ P f av0 (.val (.bool true)))
  {base : Nat} {args : Array Value} {ds gs : List (DataW H)} {before : List MemPlace} (hval : ∀ (j : Nat) t v,fn.params[j]? = some t → args[j]? = some v → Value.okWide P W .any base t v)
  (hW : DataW.Whole enc P fn.params.toList s.vars false W args.toList ds gs before) (hg : Gl W []) (hsz : (DataW.weightsEach P (fn.params.toList ++ s.plain.varTypes P) (ds ++ gs)).all (· ≤ reachBytes) = true) (hN : ((ds ++ gs).map (B H)).sum ≤ N) :
  Calls P f args W fun e W'=>∃ v,e = .returned v ∧ s.post enc P fn false fresh handsOn again W args v W' := by
 have hlt := hW.lt
 have hW' := hW
 obtain ⟨p,q,hA,hV,rfl,hz,hn⟩ := hW
 have hV' := hV
 rw [hvars] at hV
 obtain ⟨rfl,rfl⟩ := trodVars_none hV
 have hvt : s.plain.varTypes P = [] := by simp [DataSpec.varTypes,ChangeSpec.plain,hvars]
 rw [hvt,List.append_nil,List.append_nil] at hsz
 rw [List.append_nil] at hN
 have hlen : ds.length = fn.params.toList.length := qr hA
 obtain ⟨av0,h1,h2,h3⟩ := absB_args hB hS hinf hm (fun j t v ht hv=>hval j t v (by simpa using ht) (by simpa using hv)) hA hsz
 refine (hspec av0 h1 (Nat.le_trans h3 hN) W (iE W) [] hg args (InvH.start W hg) h2).mono ?_
 rintro e W' ⟨v,u,H',M',rfl,⟨rfl,rfl⟩,hi,hrep⟩
 simp only [Rep] at hrep
 subst hrep
 have hb := hi.below
 refine ⟨_,rfl,?_⟩
 have hfn' : s.fn H (ds ++ []) = { results := [.lit (.bool true)],args := ds } := by rw [List.append_nil]; exact hfn ds hlen
 have hargs : ∀ sp : Nat → Bool,(∀ x ∈ p ++ [],sp x.block = true) → DataW.TrodAll enc P W' 0 sp true fn.params.toList args.toList ds p := fun sp hsp =>
  pi hl hb hr hA (fun x hx=>hlt x (by simp [hx])) (fun x hx=>hsp x (by simp [hx]))
 have hres' : ∀ (b : Nat) (sp : Nat → Bool) (hd : Bool),DataW.TrodAll enc P W' b sp hd fn.resultTypes.toList ((Value.bool true).resultList fn.resultTypes.size) [.lit (.bool true)] [] := by
  intro b sp hd
  rw [hres]
  refine trodAll_mk1 ⟨1,?_⟩
  show DataW.trod enc P W' b sp hd 1 tb [.bool true] = _
  unfold DataW.trod
  rw [htb]
 have hvs : ∀ sp : Nat → Bool,DataW.TrodVars enc P W' sp s.vars ([] : List (DataW H)) [] := fun sp=>by rw [hvars]; simp [DataW.TrodVars]
 have hold : ∀ x ∈ p ++ [],(fun b=>decide (b < W.heap.size)) x.block = true := fun x hx=>by simpa using hlt x hx
 refine ⟨ds,[],p ++ [],[],p,[],hW',?_,?_,?_,hb.frame _,fun _=>⟨RowKit.ok_one hres rfl (RowKit.okWide_bool_mk htb true),[.lit (.bool true)] ++ ds,[],([] ++ p) ++ [],⟨[] ++ p,[],?_,hvs _,rfl,?_,fun h=>by cases h⟩,?_⟩⟩
 ·rw [hfn']; exact hres' _ _ _
 ·rw [hfn']; exact hargs _ hold
 ·rw [hfn']; exact hvs _
 ·exact trodAll_append (hargs _ fun _ _=>rfl) (hres' _ _ _)
 ·intro b off hx
  have hx' : MemPlace.cell b off ∈ p ++ [] := by simpa using hx
  rw [hb.frozen (hlt _ hx')]
  exact hz b off hx'
 ·intro x hx _
  simpa using hx
end
end
end Go.Ab

namespace Go.Ab
noncomputable section
open Go
theorem joined_of {P : Program} {f : FuncId} {fn : Func} {s : ChangeSpec} {c : OpenClaim}
  (h_wf : (c.wf (OpenSpec.ofChange s)) = true)
  (h_laid : (laidOutB P) = true)
  (h_mapsRowed : (mapsRowed P) = true)
  (h_rr : (fn.params.all (P.readableRec ·)) = true)
  (h_nt : (namedTie P c.named s.vars) = true)
  (h_st : ((c.stops == []) && (P.stops == []) && (c.knobs == []) && (P.stopKnobs == [])) = true)
  (h_inPlace : (c.inPlace == P.inPlace f) = true)
  (h_unf : (c.unfollowed == P.unfollowed f) = true)
  (h_rec : (c.recurses == P.recurses f) = true)
  (h_named : (c.named == P.varsNamed f) = true)
  (h_maps : ((c.maps == (fn.params.toList ++ s.plain.varTypes P).any (P.mapsRec ·)) && (c.ifaces == (fn.params.toList ++ s.plain.varTypes P).any (P.ifacesRec ·)) && (c.mapsOut == P.mapsAmong fn.resultTypes.toList)) = true)
  (h_loops : ((c.loops == (fn.params.toList ++ s.plain.varTypes P).any (P.loopsFrom ·))) = true)
  (h_wide : ((c.wideKeys == (fn.params.toList ++ s.plain.varTypes P ++ fn.resultTypes.toList).any (P.wideKeysFrom ·))) = true)
  (h_rest1 : (s.vars.all (P.varReadable ·) && fn.resultTypes.all (fun t=>P.readableRec t && decide (t < P.types.size)) && (c.ifacesOut == fn.resultTypes.toList.any (P.ifacesRec ·)) && (c.loopsOut == fn.resultTypes.toList.any (P.loopsFrom ·))) = true)
  (h_plainKeys : (c.plainKeys == P.plainKeys) = true)
  (h_rest2 : (c.shortTexts.isNone && P.stopsHeard && P.mayEnter && (c.lifted == P.liftsFinal) && (P.make == some c.make)) = true)
  (h_kinds : ((c.kinds == (if c.domain.isEmpty then [] else fn.params.toList.map fun t=>match P.underlying t with | some (.int k)=>some k | _=>none)) && (c.pinned == c.pinnedBy)) = true)
  (h_veil : ((c.veiled == (fn.params.toList ++ s.plain.varTypes P ++ fn.resultTypes.toList).any (P.veiledRec ·)) && c.veiledFits P fn.params.toList (fn.params.toList ++ s.plain.varTypes P ++ fn.resultTypes.toList)) = true)
  : joinedFacts P f fn s c = true := by
 simp only [Bool.and_eq_true] at h_st h_maps h_rest1 h_rest2 h_kinds h_veil
 simp only [joinedFacts,Bool.and_eq_true]
 exact ⟨⟨⟨⟨⟨⟨⟨⟨⟨⟨⟨⟨⟨⟨⟨⟨⟨⟨⟨⟨⟨⟨⟨⟨⟨⟨⟨⟨⟨⟨⟨h_wf,h_laid⟩,h_mapsRowed⟩,h_rr⟩,h_nt⟩,h_st.1.1.1⟩,h_st.1.1.2⟩,h_st.1.2⟩,h_st.2⟩,h_inPlace⟩,h_unf⟩,h_rec⟩,h_named⟩,h_maps.1.1⟩,h_maps.1.2⟩,h_maps.2⟩,h_loops⟩,h_wide⟩,h_rest1.1.1.1⟩,h_rest1.1.1.2⟩,h_rest1.1.2⟩,h_rest1.2⟩,h_plainKeys⟩,h_rest2.1.1.1.1⟩,h_rest2.1.1.1.2⟩,h_rest2.1.1.2⟩,h_rest2.1.2⟩,h_rest2.2⟩,h_kinds.1⟩,h_kinds.2⟩,h_veil.1⟩,h_veil.2⟩
end
end Go.Ab

namespace Go.Ab
noncomputable section
section
variable {P : Program} {ops : Array Oper} {rest : List Oper} {o : Oper} {n : Nat} {s s' : Nat → PV} {bx : Nat → Option Box} {ob : Nat → Option Obj} {K : PState → Prop} {T : TT}
abbrev jp (xs : List UInt8) : List (List PV) := xs.map fun c=>[.val (.int .u8 c.toNat)]
end
def af {α β : Type} (o : Option α) (k : α → Option β) : Option β := match o with
 | some a=>k a
 | none=>none
def bL {α β : Type} (a : α) (k : α → β) : β := k a
inductive Flow (σ ρ : Type) where
 | next (s : σ)
 | brk (s : σ)
 | ret (r : ρ)
def Flow.thenR {σ ρ : Type} (fl : Flow σ ρ) (k : σ → Option ρ) : Option ρ := match fl with
 | .next s=>k s
 | .brk s=>k s
 | .ret r=>some r
def Flow.thenF {σ τ ρ : Type} (fl : Flow σ ρ) (k : σ → Option (Flow τ ρ)) : Option (Flow τ ρ) := match fl with
 | .next s=>k s
 | .brk s=>k s
 | .ret r=>some (.ret r)
def aC {α σ ρ : Type} (step : Nat → α → σ → Option (Flow σ ρ)) : Nat → List α → σ → Option (Flow σ ρ)
 | _,[],s=>some (.next s)
 | j,x :: xs,s=>match step j x s with
  | none=>none
  | some (.next s')=>aC step (j + 1) xs s'
  | some (.brk s')=>some (.next s')
  | some (.ret r)=>some (.ret r)
def gN {σ ρ : Type} (step : σ → Option (Flow σ ρ)) : Nat → σ → Option (Flow σ ρ)
 | 0,_=>none
 | n + 1,s=>match step s with
  | none=>none
  | some (.next s')=>gN step n s'
  | some (.brk s')=>some (.next s')
  | some (.ret r)=>some (.ret r)
open Classical in
def gD {σ ρ : Type} (step : σ → Option (Flow σ ρ)) (s : σ) : Option (Flow σ ρ) :=
 if h : ∃ r,∃ n,gN step n s = some r then some h.choose else none
theorem iterM_le {σ ρ : Type} {step : σ → Option (Flow σ ρ)} : ∀ {n m : Nat} {s : σ} {r : Flow σ ρ},gN step n s = some r → n ≤ m → gN step m s = some r
 | 0,_,_,_,h,_=>by simp [gN] at h
 | n + 1,0,_,_,_,hm=>by omega
 | n + 1,m + 1,s,r,h,hm=>by
  simp only [gN] at h ⊢
  split at h
  ·cases h
  ·exact iterM_le h (by omega)
  ·exact h
  ·exact h
theorem whileM_iff {σ ρ : Type} {step : σ → Option (Flow σ ρ)} {s : σ} {r : Flow σ ρ} : gD step s = some r ↔ ∃ n,gN step n s = some r := by
 unfold gD
 constructor
 ·intro h
  split at h
  ·rename_i hx
   obtain ⟨n,hn⟩ := hx.choose_spec
   exact ⟨n,by rw [hn]; exact h⟩
  ·cases h
 ·rintro ⟨n,hn⟩
  have hx : ∃ r,∃ n,gN step n s = some r := ⟨r,n,hn⟩
  rw [dif_pos hx]
  obtain ⟨m,hm⟩ := hx.choose_spec
  have h1 := iterM_le hn (Nat.le_max_left n m)
  have h2 := iterM_le hm (Nat.le_max_right n m)
  rw [h1] at h2
  exact h2.symm
theorem gm {σ ρ : Type} {step : σ → Option (Flow σ ρ)} {s : σ} {fl r : Flow σ ρ} (h : step s = some fl) (hr : match fl with | .next s'=>gD step s' = some r | .brk s'=>r = .next s' | .ret x=>r = .ret x) : gD step s = some r := by
 rw [whileM_iff]
 cases fl with
 | next s' =>
  obtain ⟨n,hn⟩ := whileM_iff.1 hr
  exact ⟨n + 1,by simp only [gN,h,hn]⟩
 | brk s'=>exact ⟨1,by simp only [gN,h,hr]⟩
 | ret x=>exact ⟨1,by simp only [gN,h,hr]⟩
theorem av {α β : Type} {o : Option α} {k : α → Option β} {r : β} (h : af o k = some r) : ∃ a,o = some a ∧ k a = some r := by
 cases o with
 | none=>cases h
 | some a=>exact ⟨a,rfl,h⟩
theorem ef {α β : Type} {a : α} {k : α → β} {r : β} (h : bL a k = r) : ∃ x,a = x ∧ k x = r := ⟨a,rfl,h⟩
theorem condT {α : Type} {c : Bool} {A B r : α} (h : c = true) (H : cond c A B = r) : A = r := by subst h; exact H
theorem condF {α : Type} {c : Bool} {A B r : α} (h : c = false) (H : cond c A B = r) : B = r := by subst h; exact H
theorem aK {P : Program} {fn : Func} {R : PV → Heap → Prop} {k : List KI} {st : PState} {c : Operand} {x y : Code} {b : Bool} (hc : evS st.s c = .val (.bool b)) {α : Type} {A B r : α} (H : (bif b then A else B) = r) (ht : A = r → V P fn R (.code x :: k) st) (hf : B = r → V P fn R (.code y :: k) st) : V P fn R (.code (.cond c x y) :: k) st := co hc (fun h=>ht (Go.Ab.condT h H)) (fun h=>hf (Go.Ab.condF h H))
theorem aR {P : Program} {ops : Array Oper} {o : Oper} {rest : List Oper} {n : Nat} {s : Nat → PV} {bx : Nat → Option Box} {ob : Nat → Option Obj} {K : PState → Prop} {j : Nat} {want b : Bool} {d : Nat} (hg : o.guard = some (j,want)) (hd : (ops[j]?).bind (·.dst) = some d) (hs : s d = .val (.bool b)) {α : Type} {A B r : α} (H : cond b A B = r)
  (ht : A = r → Ao P ops (o :: rest) ⟨n,upd s d (.val (.bool true)),bx,ob⟩ K) (hf : B = r → Ao P ops (o :: rest) ⟨n,upd s d (.val (.bool false)),bx,ob⟩ K) : Ao P ops (o :: rest) ⟨n,s,bx,ob⟩ K := ia hg hd hs (fun h=>ht (condT h H)) (fun h=>hf (condF h H))
theorem Do.sH {P : Program} {T : TT} {rb : RB} {ops : Array Oper} {o : Oper} {k : Nat} {L : List Nat} {n : Nat} {s : Nat → PV} {bx : Nat → Option Box} {ob : Nat → Option Obj} {K : PState → Prop} {j : Nat} {want b : Bool} {d : Nat} (ho : ops[k]? = some o) (hg : o.guard = some (j,want)) (hd : (ops[j]?).bind (·.dst) = some d) (hs : s d = .val (.bool b)) {α : Type} {A B r : α} (H : cond b A B = r)
  (ht : A = r → Do P T rb ops (k :: L) ⟨n,upd s d (.val (.bool true)),bx,ob⟩ K) (hf : B = r → Do P T rb ops (k :: L) ⟨n,upd s d (.val (.bool false)),bx,ob⟩ K) : Do P T rb ops (k :: L) ⟨n,s,bx,ob⟩ K := oH ho hg hd hs (fun h=>ht (condT h H)) (fun h=>hf (condF h H))
theorem lJ {P : Program} {T : TT} {rb : RB} {ops : Array Oper} {o : Oper} {k : Nat} {L : List Nat} {n : Nat} {s : Nat → PV} {bx : Nat → Option Box} {ob : Nat → Option Obj} {K : PState → Prop} {j : Nat} {want b : Bool} {d : Nat} {α : Type} {A B r : α} (H : cond b A B = r) (ht : A = r → Do P T rb ops (k :: L) ⟨n,upd s d (.val (.bool true)),bx,ob⟩ K) (hf : B = r → Do P T rb ops (k :: L) ⟨n,upd s d (.val (.bool false)),bx,ob⟩ K) (ho : ops[k]? = some o := by exact rfl) (hg : o.guard = some (j,want) := by exact rfl) (hd : (ops[j]?).bind (·.dst) = some d := by exact rfl) (hs : s d = .val (.bool b) := by exact rfl) : Do P T rb ops (k :: L) ⟨n,s,bx,ob⟩ K := Do.sH ho hg hd hs H ht hf
theorem nk {σ τ ρ : Type} {r : ρ} {k : σ → Option (Flow τ ρ)} {x : Flow τ ρ} (h : Flow.thenF (.ret r) k = some x) : x = .ret r := (Option.some.inj h).symm
theorem aU {σ ρ : Type} {r x : ρ} {k : σ → Option ρ} (h : Flow.thenR (.ret r) k = some x) : r = x := Option.some.inj h
theorem aD {α : Type} {a b : α} (h : some a = some b) : a = b := Option.some.inj h
def ln {α σ ρ : Type} (step : Nat → α → σ → Option (Flow σ ρ)) (xs : List α) (j : Nat) (res : Flow σ ρ) : Flow σ ρ → Prop
 | .next s'=>aC step (j + 1) (xs.drop (j + 1)) s' = some res
 | .brk s'=>res = .next s'
 | .ret r=>res = .ret r
theorem rMc {α σ ρ : Type} {step : Nat → α → σ → Option (Flow σ ρ)} {xs : List α} {j : Nat} {s : σ} {res : Flow σ ρ} (hj : j < xs.length) (h : aC step j (xs.drop j) s = some res) :
  ∃ x fl,xs[j]? = some x ∧ step j x s = some fl ∧ ln step xs j res fl := by
 rw [List.drop_eq_getElem_cons hj,aC] at h
 refine ⟨xs[j],?_⟩
 split at h
 ·cases h
 ·rename_i s' hs; exact ⟨_,ze hj,hs,h⟩
 ·rename_i s' hs; exact ⟨_,ze hj,hs,(Option.some.inj h).symm⟩
 ·rename_i s' hs; exact ⟨_,ze hj,hs,(Option.some.inj h).symm⟩
theorem rMd {α σ ρ : Type} {step : Nat → α → σ → Option (Flow σ ρ)} {xs : List α} {j : Nat} {s : σ} {res : Flow σ ρ} (hj : xs.length ≤ j) (h : aC step j (xs.drop j) s = some res) : res = .next s := by
 rw [List.drop_eq_nil_of_le hj,aC] at h
 exact (Option.some.inj h).symm
def iterGo {σ ρ : Type} (step : σ → Option (Flow σ ρ)) (n : Nat) (res : Flow σ ρ) : Flow σ ρ → Prop
 | .next s'=>gN step n s' = some res
 | .brk s'=>res = .next s'
 | .ret r=>res = .ret r
theorem kF {σ ρ : Type} {step : σ → Option (Flow σ ρ)} {n : Nat} {s : σ} {res : Flow σ ρ} (h : gN step (n + 1) s = some res) : ∃ fl,step s = some fl ∧ iterGo step n res fl := by
 rw [gN] at h
 split at h
 ·cases h
 ·rename_i s' hs; exact ⟨_,hs,h⟩
 ·rename_i s' hs; exact ⟨_,hs,(Option.some.inj h).symm⟩
 ·rename_i s' hs; exact ⟨_,hs,(Option.some.inj h).symm⟩
section
variable {P : Program} {fn : Func} {R : PV → Heap → Prop} {k : List KI} {n : Nat} {s : Nat → PV} {bx : Nat → Option Box} {ob : Nat → Option Obj} {T : TT} {st : PState}
theorem ik {τ γ : Type} (J : τ → γ → PState) (Gd : τ → Prop) {c : Code} (h : V P fn R (.code c :: .stop (fun st'=>∃ t g,Gd t ∧ st' = J t g) :: k) st) (hk : ∀ t g,Gd t → V P fn R k (J t g)) :
  V P fn R (.code c :: k) st := by
 intro C M a w hi
 have := h C M a w hi
 simp only [after] at this ⊢
 refine wp_mono this ?_
 intro e a w he
 cases e with
 | normal =>
  obtain ⟨st',M',⟨t,g,hG,rfl⟩,hi'⟩ := he
  exact hk t g hG C M' a w hi'
 | _=>exact he
theorem aS {τ γ : Type} {J : τ → γ → PState} {Gd : τ → Prop} (t : τ) (g : γ) (hG : Gd t) (h : Gh P st (J t g)) : V P fn R (.stop (fun st'=>∃ t g,Gd t ∧ st' = J t g) :: k) st :=
 jU h (rd ⟨t,g,hG,rfl⟩)
theorem fm {τ γ β : Type} {x : Option τ} {f : τ → Option β} {r : β} (J : τ → γ → PState) {c : Code} (H : af x f = some r) (h : ∀ u,x = some u → V P fn R (.code c :: .stop (fun st'=>∃ t g,t = u ∧ st' = J t g) :: k) st)
  (hk : ∀ t g,f t = some r → V P fn R k (J t g)) : V P fn R (.code c :: k) st := by
 obtain ⟨u,h1,h2⟩ := av H
 exact ik J (fun t=>t = u) (h u h1) (fun t g e=>hk t g (e ▸ h2))
theorem eF {τ γ β : Type} {x : τ} {f : τ → β} {r : β} (J : τ → γ → PState) {c : Code} (H : bL x f = r) (h : ∀ u,x = u → V P fn R (.code c :: .stop (fun st'=>∃ t g,t = u ∧ st' = J t g) :: k) st)
  (hk : ∀ t g,f t = r → V P fn R k (J t g)) : V P fn R (.code c :: k) st := by
 obtain ⟨u,h1,h2⟩ := ef H
 exact ik J (fun t=>t = u) (h u h1) (fun t g e=>hk t g (e ▸ h2))
theorem V.cutR {σ γ β : Type} {x : Option (Flow σ β)} {f : σ → Option β} {r : β} (J : σ → γ → PState) {c : Code} (H : af x (fun fl=>fl.thenR f) = some r) (h : ∀ u,x = some u → u.thenR f = some r → V P fn R (.code c :: .stop (fun st'=>∃ t g,u = .next t ∧ st' = J t g) :: k) st)
  (hk : ∀ t g,f t = some r → V P fn R k (J t g)) : V P fn R (.code c :: k) st := by
 obtain ⟨u,h1,h2⟩ := av H
 exact ik J (fun t=>u = .next t) (h u h1 h2) (fun t g e=>hk t g (by subst e; exact h2))
theorem jo {α σ ρ γ : Type} {step : Nat → α → σ → Option (Flow σ ρ)} {xs : List α} {res : Flow σ ρ} (F : Nat → σ → γ → PState) {s₀ : σ} (g₀ : γ) {c : Code}
  (hres : aC step 0 xs s₀ = some res) (h₀ : Gh P st (F 0 s₀ g₀))
  (round : ∀ j s g,j ≤ xs.length → aC step j (xs.drop j) s = some res →
   V P fn R (.code c :: .stop (fun st'=>∃ s' g',(j + 1 ≤ xs.length ∧ aC step (j + 1) (xs.drop (j + 1)) s' = some res) ∧ st' = F (j + 1) s' g') :: k) (F j s g)) :
  V P fn R (.code (.loop c) :: k) st := by
 refine js (X := Nat × σ × γ) (fun X=>F X.1 X.2.1 X.2.2) (fun X=>X.1 ≤ xs.length ∧ aC step X.1 (xs.drop X.1) X.2.1 = some res) (fun X=>xs.length - X.1) (0,s₀,g₀) ⟨Nat.zero_le _,by simpa using hres⟩ h₀ ?_
 rintro ⟨j,s,g⟩ ⟨h1,h2⟩
 have := round j s g h1 h2
 intro C M a w hi
 have h3 := this C M a w hi
 simp only [after] at h3 ⊢
 refine wp_mono h3 ?_
 intro e a w he
 cases e with
 | normal =>
  obtain ⟨st',M',⟨s',g',⟨h4,h5⟩,rfl⟩,hi'⟩ := he
  exact ⟨_,M',⟨(j + 1,s',g'),by show xs.length - (j + 1) < xs.length - j; omega,⟨h4,h5⟩,rfl⟩,hi'⟩
 | _=>exact he
theorem iH {σ γ : Type} {Q : σ → Prop} {F : σ → γ → PState} (s' : σ) (g' : γ) (hQ : Q s') (h : Gh P st (F s' g')) : V P fn R (.stop (fun st'=>∃ s' g',Q s' ∧ st' = F s' g') :: k) st :=
 jU h (rd ⟨s',g',hQ,rfl⟩)
theorem mS {σ ρ γ : Type} {step : σ → Option (Flow σ ρ)} {res : Flow σ ρ} (F : σ → γ → PState) {s₀ : σ} (g₀ : γ) {c : Code}
  (hres : gD step s₀ = some res) (h₀ : Gh P st (F s₀ g₀))
  (round : ∀ m s g,gN step (m + 1) s = some res → V P fn R (.code c :: .stop (fun st'=>∃ s' g',gN step m s' = some res ∧ st' = F s' g') :: k) (F s g)) :
  V P fn R (.code (.loop c) :: k) st := by
 obtain ⟨m,hm⟩ := whileM_iff.1 hres
 refine js (X := Nat × σ × γ) (fun X=>F X.2.1 X.2.2) (fun X=>gN step X.1 X.2.1 = some res) (fun X=>X.1) (m,s₀,g₀) hm h₀ ?_
 rintro ⟨j,s,g⟩ h2
 cases j with
 | zero=>simp [gN] at h2
 | succ j =>
 have := round j s g h2
 intro C M a w hi
 have h3 := this C M a w hi
 simp only [after] at h3 ⊢
 refine wp_mono h3 ?_
 intro e a w he
 cases e with
 | normal =>
  obtain ⟨st',M',⟨s',g',h5,rfl⟩,hi'⟩ := he
  exact ⟨_,M',⟨(j,s',g'),Nat.lt_succ_self j,h5,rfl⟩,hi'⟩
 | _=>exact he
theorem Gh.cast (d : Nat) {p q : PV} (hs : s d = p) (h : PLe P p q) : Gh P ⟨n,s,bx,ob⟩ ⟨n,upd s d q,bx,ob⟩ := fun _ M _ _ hi =>
 ⟨M,⟨hi.1.1,hi.1.2.1,fun t=>by
  show Rep P M true (upd s d q t) _
  rw [eO]
  split
  ·rename_i e; subst e; have := hi.1.2.2 t; exact h M _ (hs ▸ this)
  ·exact hi.1.2.2 t⟩,hi.2⟩
end
section
variable {α : Type} {f f' : α → List PV}
theorem bd (hE : ∀ x,f' x = f x) {xs : List α} {j : Nat} {x : α} (h : xs[j]? = some x) : (xs.map f')[((j : Nat) : Int).toNat]? = some (f x) := by
 simp [h,hE]
theorem aF (hE : ∀ x,f' x = f x) {xs : List α} {i : Int} {x : α} (h : xs[i.toNat]? = some x) : (xs.map f')[i.toNat]? = some (f x) := by
 simp [h,hE]
theorem fV (hE : ∀ x,f' x = f x) (xs : List α) : xs.map f = xs.map f' := by
 apply List.map_congr_left
 intro x _
 exact (hE x).symm
theorem rowsSubE {xs ys : List α} {a b : Nat} (h : ys = (xs.take b).drop a) : ((xs.map f).take b).drop a = ys.map f := by rw [h]; simp
theorem rowsLt {xs : List α} {j : Nat} (h : decide ((j : Int) < ((xs.length : Nat) : Int)) = true) : j < xs.length := by simpa using h
theorem rowsGe {xs : List α} {j : Nat} (h : decide ((j : Int) < ((xs.length : Nat) : Int)) = false) : xs.length ≤ j := by simpa using h
end
theorem dS.of_eq {P : Program} {a b : List (List PV)} (h : a = b) : dS P a b := h ▸ dS.refl a
theorem dS.trans {P : Program} {a b c : List (List PV)} (h : dS P a b) (h' : dS P b c) : dS P a c := ⟨h.1.trans h'.1,fun M k x o hx=>h'.2 M k x o (h.2 M k x o hx)⟩
def aH {α : Type} (xs : List α) (i : Int) : Option α := if 0 ≤ i then xs[i.toNat]? else none
theorem gIs {α : Type} {xs : List α} {i : Int} {x : α} (h : aH xs i = some x) : 0 ≤ i ∧ xs[i.toNat]? = some x := by
 unfold aH at h
 split at h
 ·rename_i h0; exact ⟨h0,h⟩
 ·cases h
theorem bg {α β : Type} {xs : List α} {i : Int} {k : α → Option β} {r : β} (h : af (aH xs i) k = some r) : ∃ a,(0 ≤ i ∧ xs[i.toNat]? = some a) ∧ k a = some r := by
 obtain ⟨a,h1,h2⟩ := av h
 exact ⟨a,gIs h1,h2⟩
def subI {α : Type} (xs : List α) (a b : Int) : Option (List α) := if 0 ≤ a ∧ a ≤ b ∧ b ≤ xs.length then some ((xs.take b.toNat).drop a.toNat) else none
theorem pK {α : Type} {xs ys : List α} {a b : Int} (h : subI xs a b = some ys) : (0 ≤ a ∧ a ≤ b ∧ b ≤ xs.length) ∧ ys = (xs.take b.toNat).drop a.toNat := by
 unfold subI at h
 split at h
 ·rename_i h0; exact ⟨h0,(Option.some.inj h).symm⟩
 ·cases h
def quoI (a b : Int) : Option Int := if b = 0 then none else some (IntKind.i64.wrap (a.tdiv b))
theorem quoI_some {a b c : Int} (h : quoI a b = some c) : b ≠ 0 ∧ c = IntKind.i64.wrap (a.tdiv b) := by
 unfold quoI at h
 split at h
 ·cases h
 ·rename_i h0; exact ⟨h0,(Option.some.inj h).symm⟩
def remI (a b : Int) : Option Int := if b = 0 then none else some (a.tmod b)
theorem remI_some {a b c : Int} (h : remI a b = some c) : b ≠ 0 ∧ c = a.tmod b := by
 unfold remI at h
 split at h
 ·cases h
 ·rename_i h0; exact ⟨h0,(Option.some.inj h).symm⟩
def cJ {α : Type} (bytes : Nat) (xs ys : List α) : Option (List α) := if (xs.length + ys.length) * bytes ≤ 2 ^ 47 ∧ xs.length + ys.length ≤ maxLen then some (xs ++ ys) else none
theorem ci {α : Type} {bytes : Nat} {xs ys zs : List α} (h : cJ bytes xs ys = some zs) : (xs.length + ys.length) * bytes ≤ 2 ^ 47 ∧ xs.length + ys.length ≤ maxLen ∧ zs = xs ++ ys := by
 unfold cJ at h
 split at h
 ·rename_i h0; exact ⟨h0.1,h0.2,(Option.some.inj h).symm⟩
 ·cases h
theorem cW {α β : Type} {f : α → β} {bytes : Nat} {xs ys : List α} (h : (xs.length + ys.length) * bytes ≤ 2 ^ 47) : ((xs.map f).length + (ys.map f).length) * bytes ≤ 2 ^ 47 := by simpa using h
theorem cX {α β : Type} {f : α → β} {xs ys : List α} (h : xs.length + ys.length ≤ maxLen) : (xs.map f).length + (ys.map f).length ≤ maxLen := by simpa using h
theorem cY {α β : Type} {f : α → β} {xs ys zs : List α} (h : zs = xs ++ ys) : xs.map f ++ ys.map f = zs.map f := by rw [h,List.map_append]
def Flow.thenP {σ β : Type} (fl : Flow σ Empty) (k : σ → Option β) : Option β := match fl with
 | .next s=>k s
 | .brk s=>k s
 | .ret r=>r.elim
theorem fK {σ β : Type} {fl : Flow σ Empty} {t : σ} {k : σ → Option β} {r : β} (h : fl = .next t) (H : fl.thenP k = some r) : k t = some r := by subst h; exact H
theorem oD {σ ρ : Type} {fl : Flow σ ρ} {t : σ} {k : σ → Option ρ} {r : ρ} (h : fl = .next t) (H : fl.thenR k = some r) : k t = some r := by subst h; exact H
theorem thenF_next {σ τ ρ : Type} {fl : Flow σ ρ} {t : σ} {k : σ → Option (Flow τ ρ)} {r : Flow τ ρ} (h : fl = .next t) (H : fl.thenF k = some r) : k t = some r := by subst h; exact H
section
variable {P : Program} {fn : Func} {R : PV → Heap → Prop} {k : List KI} {n : Nat} {s : Nat → PV} {bx : Nat → Option Box} {ob : Nat → Option Obj} {T : TT}
def nB {σ γ : Type} : σ → γ → Nat → Option Box := fun _ _ _=>none
def nO {σ γ : Type} : σ → γ → Nat → Option Obj := fun _ _ _=>none
theorem ra {α σ ρ γ β : Type} {step : Nat → α → σ → Option (Flow σ ρ)} {xs : List α} {s₀ : σ} {th : Flow σ ρ → Option β} {r : β} {rw : α → List PV}
  (hT : T.Ok P) (d : Nat) {e : TypeId} {ei : TInfo} (hei : T.get e = some ei) (hs : s d = .list e (xs.map rw))
  (S : σ → γ → Nat → PV) (B : σ → γ → Nat → Option Box) (O : σ → γ → Nat → Option Obj) (E : (Nat → PV) → Nat → σ → γ → Nat → PV) (g₀ : γ)
  {id rid : Nat} {ops : Array Oper} {o : Oper} {tst : Operand} {rest : Code} {S' : Nat → σ → γ → Nat → PV}
  (H : af (aC step 0 xs s₀) th = some r)
  (h₀ : Gh P ⟨n,s,bx,ob⟩ ⟨n,E (S s₀ g₀) 0 s₀ g₀,B s₀ g₀,O s₀ g₀⟩)
  (ho : ops.toList = [o])
  (hq : ∀ j s g,lZ T ops n (E (S s g) j s g) (B s g) o = some (S' j s g))
  (ht : ∀ j s g,evS (S' j s g) tst = .val (.bool (decide ((j : Int) < ((xs.length : Nat) : Int)))))
  (hx : ∀ j s g,Gh P ⟨n,S' j s g,B s g,O s g⟩ ⟨n,S s g,B s g,O s g⟩)
  (round : ∀ fl,th fl = some r → ∀ j s g,xs.length ≤ maxLen → j < xs.length → ∀ x fb,xs[j]? = some x → step j x s = some fb → ln step xs j fl fb →
   V P fn R (.code rest :: .stop (fun st'=>∃ s' g',(j + 1 ≤ xs.length ∧ aC step (j + 1) (xs.drop (j + 1)) s' = some fl) ∧ st' = ⟨n,E (S s' g') (j + 1) s' g',B s' g',O s' g'⟩) :: .blk id :: .stop (fun st'=>∃ t g,fl = .next t ∧ st' = ⟨n,S t g,B t g,O t g⟩) :: k) ⟨n,S' j s g,B s g,O s g⟩)
  (hk : ∀ t g,th (.next t) = some r → V P fn R k ⟨n,S t g,B t g,O t g⟩) :
  V P fn R (.code (.block id (.loop (.seq (.region rid ops false) (.seq (.cond tst .skip (.exit id)) rest)))) :: k) ⟨n,s,bx,ob⟩ := by
 refine gv hT d hei hs (fun hz _=>?_)
 rw [zl] at hz
 obtain ⟨fl,h1,h2⟩ := av H
 refine ik (fun t g=>⟨n,S t g,B t g,O t g⟩) (fun t=>fl = .next t) ?_ (fun t g e=>hk t g (by subst e; exact h2))
 refine az (jo (fun j s g=>⟨n,E (S s g) j s g,B s g,O s g⟩) g₀ h1 h₀ (fun j s g hj hr=>?_))
 refine ab (aa ?_)
 rw [ho]
 refine ag hT (hq j s g) (ac ?_)
 refine ab (co (ht j s g) (fun h=>?_) (fun h=>?_))
 ·have hl : j < xs.length := by simpa using h
  obtain ⟨x,fb,hx1,H,hg⟩ := rMc hl hr
  exact ao (round fl h2 j s g hz hl x fb hx1 H hg)
 ·have hn := rMd (by simpa using h) hr
  refine ca (k' := .stop (fun st'=>∃ t g,fl = .next t ∧ st' = ⟨n,S t g,B t g,O t g⟩) :: k) ?_ (aS s g hn (hx j s g))
  simp [lC,Nat.beq_refl]
theorem rc {α σ γ β : Type} {step : Nat → α → σ → Option (Flow σ Empty)} {xs : List α} {s₀ : σ} {kk : σ → Option (β)} {r : β} {rw : α → List PV}
  (hT : T.Ok P) (d : Nat) {e : TypeId} {ei : TInfo} (hei : T.get e = some ei) (hs : s d = .list e (xs.map rw))
  (S : σ → γ → Nat → PV) (B : σ → γ → Nat → Option Box) (O : σ → γ → Nat → Option Obj) (E : (Nat → PV) → Nat → σ → γ → Nat → PV) (g₀ : γ)
  {id rid : Nat} {ops : Array Oper} {o : Oper} {tst : Operand} {rest : Code} {S' : Nat → σ → γ → Nat → PV}
  (H : af (aC step 0 xs s₀) (fun fl=>fl.thenP kk) = some r)
  (ho : ops.toList = [o])
  (h₀ : Gh P ⟨n,s,bx,ob⟩ ⟨n,E (S s₀ g₀) 0 s₀ g₀,B s₀ g₀,O s₀ g₀⟩)
  (hq : ∀ j s g,lZ T ops n (E (S s g) j s g) (B s g) o = some (S' j s g))
  (ht : ∀ j s g,evS (S' j s g) tst = .val (.bool (decide ((j : Int) < ((xs.length : Nat) : Int)))))
  (hx : ∀ j s g,Gh P ⟨n,S' j s g,B s g,O s g⟩ ⟨n,S s g,B s g,O s g⟩)
  (round : ∀ fl,fl.thenP kk = some r → ∀ j s g,xs.length ≤ maxLen → j < xs.length → ∀ x fb,xs[j]? = some x → step j x s = some fb → ln step xs j fl fb →
   V P fn R (.code rest :: .stop (fun st'=>∃ s' g',(j + 1 ≤ xs.length ∧ aC step (j + 1) (xs.drop (j + 1)) s' = some fl) ∧ st' = ⟨n,E (S s' g') (j + 1) s' g',B s' g',O s' g'⟩) :: .blk id :: .stop (fun st'=>∃ t g,fl = .next t ∧ st' = ⟨n,S t g,B t g,O t g⟩) :: k) ⟨n,S' j s g,B s g,O s g⟩)
  (hk : ∀ t g,kk t = some r → V P fn R k ⟨n,S t g,B t g,O t g⟩) :
  V P fn R (.code (.block id (.loop (.seq (.region rid ops false) (.seq (.cond tst .skip (.exit id)) rest)))) :: k) ⟨n,s,bx,ob⟩ :=
 ra hT d hei hs S B O E g₀ H h₀ ho hq ht hx round (fun t g e=>hk t g e)
theorem rH {α σ γ β : Type} {step : Nat → α → σ → Option (Flow σ β)} {xs : List α} {s₀ : σ} {kk : σ → Option (β)} {r : β} {rw : α → List PV}
  (hT : T.Ok P) (d : Nat) {e : TypeId} {ei : TInfo} (hei : T.get e = some ei) (hs : s d = .list e (xs.map rw))
  (S : σ → γ → Nat → PV) (B : σ → γ → Nat → Option Box) (O : σ → γ → Nat → Option Obj) (E : (Nat → PV) → Nat → σ → γ → Nat → PV) (g₀ : γ)
  {id rid : Nat} {ops : Array Oper} {o : Oper} {tst : Operand} {rest : Code} {S' : Nat → σ → γ → Nat → PV}
  (H : af (aC step 0 xs s₀) (fun fl=>fl.thenR kk) = some r)
  (ho : ops.toList = [o])
  (h₀ : Gh P ⟨n,s,bx,ob⟩ ⟨n,E (S s₀ g₀) 0 s₀ g₀,B s₀ g₀,O s₀ g₀⟩)
  (hq : ∀ j s g,lZ T ops n (E (S s g) j s g) (B s g) o = some (S' j s g))
  (ht : ∀ j s g,evS (S' j s g) tst = .val (.bool (decide ((j : Int) < ((xs.length : Nat) : Int)))))
  (hx : ∀ j s g,Gh P ⟨n,S' j s g,B s g,O s g⟩ ⟨n,S s g,B s g,O s g⟩)
  (round : ∀ fl,fl.thenR kk = some r → ∀ j s g,xs.length ≤ maxLen → j < xs.length → ∀ x fb,xs[j]? = some x → step j x s = some fb → ln step xs j fl fb →
   V P fn R (.code rest :: .stop (fun st'=>∃ s' g',(j + 1 ≤ xs.length ∧ aC step (j + 1) (xs.drop (j + 1)) s' = some fl) ∧ st' = ⟨n,E (S s' g') (j + 1) s' g',B s' g',O s' g'⟩) :: .blk id :: .stop (fun st'=>∃ t g,fl = .next t ∧ st' = ⟨n,S t g,B t g,O t g⟩) :: k) ⟨n,S' j s g,B s g,O s g⟩)
  (hk : ∀ t g,kk t = some r → V P fn R k ⟨n,S t g,B t g,O t g⟩) :
  V P fn R (.code (.block id (.loop (.seq (.region rid ops false) (.seq (.cond tst .skip (.exit id)) rest)))) :: k) ⟨n,s,bx,ob⟩ :=
 ra hT d hei hs S B O E g₀ H h₀ ho hq ht hx round (fun t g e=>hk t g e)
def eL {α : Type} (i m d : Nat) (ety : TypeId) (xs : List α) (rw : α → List PV) (e : Nat → PV) (j : Nat) : Nat → PV := upd (upd (upd e i (.val (.int .i64 (j : Int)))) m (.val (.int .i64 (xs.length : Int)))) d (.list ety (xs.map rw))
theorem ek {α σ γ β : Type} {step : Nat → α → σ → Option (Flow σ Empty)} {xs : List α} {s₀ : σ} {kk : σ → Option (β)} {r : β} {rw : α → List PV}
  (hT : T.Ok P) (i m d : Nat) {e : TypeId} {ei : TInfo}
  (S : σ → γ → Nat → PV) (B : σ → γ → Nat → Option Box) (O : σ → γ → Nat → Option Obj) (g₀ : γ)
  {id rid : Nat} {ops : Array Oper} {o : Oper} {tst : Operand} {rest : Code} {S' : Nat → σ → γ → Nat → PV}
  (H : af (aC step 0 xs s₀) (fun fl=>fl.thenP kk) = some r)
  (round : ∀ fl,fl.thenP kk = some r → ∀ j s g,xs.length ≤ maxLen → j < xs.length → ∀ x fb,xs[j]? = some x → step j x s = some fb → ln step xs j fl fb →
   V P fn R (.code rest :: .stop (fun st'=>∃ s' g',(j + 1 ≤ xs.length ∧ aC step (j + 1) (xs.drop (j + 1)) s' = some fl) ∧ st' = ⟨n,eL i m d e xs rw (S s' g') (j + 1),B s' g',O s' g'⟩) :: .blk id :: .stop (fun st'=>∃ t g,fl = .next t ∧ st' = ⟨n,S t g,B t g,O t g⟩) :: k) ⟨n,S' j s g,B s g,O s g⟩)
  (hk : ∀ t g,kk t = some r → V P fn R k ⟨n,S t g,B t g,O t g⟩)
  (hs : s d = .list e (xs.map rw) := by exact rfl) (hei : T.get e = some ei := by exact rfl) (ho : ops.toList = [o] := by exact rfl)
  (h₀ : Gh P ⟨n,s,bx,ob⟩ ⟨n,eL i m d e xs rw (S s₀ g₀) 0,B s₀ g₀,O s₀ g₀⟩ := by exact Gh.d)
  (hq : ∀ j s g,lZ T ops n (eL i m d e xs rw (S s g) j) (B s g) o = some (S' j s g) := by exact fun _ _ _=>rfl)
  (ht : ∀ j s g,evS (S' j s g) tst = .val (.bool (decide ((j : Int) < ((xs.length : Nat) : Int)))) := by exact fun _ _ _=>rfl)
  (hx : ∀ j s g,Gh P ⟨n,S' j s g,B s g,O s g⟩ ⟨n,S s g,B s g,O s g⟩ := by exact fun _ _ _=>Gh.d) :
  V P fn R (.code (.block id (.loop (.seq (.region rid ops false) (.seq (.cond tst .skip (.exit id)) rest)))) :: k) ⟨n,s,bx,ob⟩ :=
 rc hT d hei hs S B O (fun e j _ _=>eL i m d _ xs rw e j) g₀ H ho h₀ hq ht hx round hk
theorem dY {α σ γ β : Type} {step : Nat → α → σ → Option (Flow σ β)} {xs : List α} {s₀ : σ} {kk : σ → Option (β)} {r : β} {rw : α → List PV}
  (hT : T.Ok P) (i m d : Nat) {e : TypeId} {ei : TInfo}
  (S : σ → γ → Nat → PV) (B : σ → γ → Nat → Option Box) (O : σ → γ → Nat → Option Obj) (g₀ : γ)
  {id rid : Nat} {ops : Array Oper} {o : Oper} {tst : Operand} {rest : Code} {S' : Nat → σ → γ → Nat → PV}
  (H : af (aC step 0 xs s₀) (fun fl=>fl.thenR kk) = some r)
  (round : ∀ fl,fl.thenR kk = some r → ∀ j s g,xs.length ≤ maxLen → j < xs.length → ∀ x fb,xs[j]? = some x → step j x s = some fb → ln step xs j fl fb →
   V P fn R (.code rest :: .stop (fun st'=>∃ s' g',(j + 1 ≤ xs.length ∧ aC step (j + 1) (xs.drop (j + 1)) s' = some fl) ∧ st' = ⟨n,eL i m d e xs rw (S s' g') (j + 1),B s' g',O s' g'⟩) :: .blk id :: .stop (fun st'=>∃ t g,fl = .next t ∧ st' = ⟨n,S t g,B t g,O t g⟩) :: k) ⟨n,S' j s g,B s g,O s g⟩)
  (hk : ∀ t g,kk t = some r → V P fn R k ⟨n,S t g,B t g,O t g⟩)
  (hs : s d = .list e (xs.map rw) := by exact rfl) (hei : T.get e = some ei := by exact rfl) (ho : ops.toList = [o] := by exact rfl)
  (h₀ : Gh P ⟨n,s,bx,ob⟩ ⟨n,eL i m d e xs rw (S s₀ g₀) 0,B s₀ g₀,O s₀ g₀⟩ := by exact Gh.d)
  (hq : ∀ j s g,lZ T ops n (eL i m d e xs rw (S s g) j) (B s g) o = some (S' j s g) := by exact fun _ _ _=>rfl)
  (ht : ∀ j s g,evS (S' j s g) tst = .val (.bool (decide ((j : Int) < ((xs.length : Nat) : Int)))) := by exact fun _ _ _=>rfl)
  (hx : ∀ j s g,Gh P ⟨n,S' j s g,B s g,O s g⟩ ⟨n,S s g,B s g,O s g⟩ := by exact fun _ _ _=>Gh.d) :
  V P fn R (.code (.block id (.loop (.seq (.region rid ops false) (.seq (.cond tst .skip (.exit id)) rest)))) :: k) ⟨n,s,bx,ob⟩ :=
 rH hT d hei hs S B O (fun e j _ _=>eL i m d _ xs rw e j) g₀ H ho h₀ hq ht hx round hk
end
def resT (s : Nat → PV) : List ResultVar → Option (List PV)
 | []=>some []
 | .tmp t :: l=>match resT s l with | some ps=>some (s t :: ps) | none=>none
 | .cell _ _ :: _=>none
section
variable {P : Program} {fn : Func} {R : PV → Heap → Prop} {k : List KI} {n : Nat} {s : Nat → PV} {bx : Nat → Option Box} {ob : Nat → Option Obj} {T : TT} {st : PState}
theorem resT_all : ∀ {l : List ResultVar} {ps : List PV},resT s l = some ps → ku T ⟨n,s,bx,ob⟩ l ps
 | [],ps,h=>by simp only [resT,zo] at h; exact h.symm
 | .tmp t :: l,ps,h=>by
  simp only [resT] at h
  split at h
  ·rename_i qs hq; cases h; exact ⟨_,_,rfl,rfl,resT_all hq⟩
  ·cases h
 | .cell _ _ :: _,ps,h=>by simp [resT] at h
theorem cE {α : Type} {x y : α} {ps : List PV} {r : PV} (hT : T.Ok P) (H : x = y) (h : resT s fn.results.toList = some ps) (he : x = y → kJ ps = r := by intro e; subst e; rfl) :
  V P fn (fun u H=>u = r ∧ H = Heap.empty) (.code .ret :: k) ⟨n,s,bx,ob⟩ := bc hT rfl (resT_all h) (PLe.q (he H))
theorem aV {α : Type} {x y : α} {ps : List PV} {r : PV} (hT : T.Ok P) (H : some x = some y) (h : resT s fn.results.toList = some ps) (he : x = y → kJ ps = r := by intro e; subst e; rfl) :
  V P fn (fun u H=>u = r ∧ H = Heap.empty) (.code .ret :: k) ⟨n,s,bx,ob⟩ := cE hT (aD H) h he
theorem qX {α : Type} {x y : α} {r p : PV} {a t tag b off : Nat} {ti : TInfo} {cells : List PV} (hT : T.Ok P) (H : x = y) (hr : fn.results = #[.cell a t]) (hti : T.get t = some ti) (hs : s a = .box tag b off) (hb : bx tag = some ⟨b,cells⟩) (hc : ez ti off cells = some p) (he : x = y → p = r := by intro e; subst e; rfl) :
  V P fn (fun u H=>u = r ∧ H = Heap.empty) (.code .ret :: k) ⟨n,s,bx,ob⟩ := bc hT hr (ps := [p]) ⟨_,_,rfl,⟨_,_,_,_,_,hti,hs,hb,hc⟩,rfl⟩ (PLe.q (he H))
theorem gQ {α : Type} {x y : α} {r p : PV} {a t tag b off : Nat} {ti : TInfo} {cells : List PV} (hT : T.Ok P) (H : some x = some y) (hr : fn.results = #[.cell a t]) (hti : T.get t = some ti) (hs : s a = .box tag b off) (hb : bx tag = some ⟨b,cells⟩) (hc : ez ti off cells = some p) (he : x = y → p = r := by intro e; subst e; rfl) :
  V P fn (fun u H=>u = r ∧ H = Heap.empty) (.code .ret :: k) ⟨n,s,bx,ob⟩ := qX hT (aD H) hr hti hs hb hc he
theorem bi {α σ ρ γ : Type} {step : Nat → α → σ → Option (Flow σ ρ)} {xs : List α} {j : Nat} {res fb : Flow σ ρ} {v : σ} {F : σ → γ → PState} (g' : γ) (H : some (Flow.next v) = some fb) (hl : j < xs.length) (hg : ln step xs j res fb) (h : Gh P st (F v g') := by exact Gh.d) :
  V P fn R (.stop (fun st'=>∃ s' g',(j + 1 ≤ xs.length ∧ aC step (j + 1) (xs.drop (j + 1)) s' = some res) ∧ st' = F s' g') :: k) st := by
 cases H
 exact iH v g' ⟨hl,hg⟩ h
end
def nZ (n : Int) : Option Nat := if n ≤ 2 ^ 62 then some n.toNat else none
theorem qx {n : Int} {m : Nat} (h : nZ n = some m) : n ≤ 2 ^ 62 ∧ m = n.toNat := by
 unfold nZ at h
 split at h
 ·rename_i h0; exact ⟨h0,(Option.some.inj h).symm⟩
 ·cases h
section
variable {P : Program} {ops : Array Oper} {rest : List Oper} {o : Oper} {n : Nat} {s s' : Nat → PV} {bx : Nat → Option Box} {ob : Nat → Option Obj} {K : PState → Prop} {T : TT} {rb : RB} {k : Nat} {L : List Nat}
theorem nQ (d : Nat) {p q : PV} (hs : s d = p) (h : PLe P p q) (hV : Ao P ops rest ⟨n,upd s d q,bx,ob⟩ K) : Ao P ops rest ⟨n,s,bx,ob⟩ K := gL (Gh.cast d hs h) hV
theorem Ao.lenL (hT : T.Ok P) (hg : aI ops s o = some true) {x : Operand} {t : TypeId} {ts : List TypeId} (ho : o.op = .call { callee := .builtin .len,args := #[x],argTypes := (t :: ts).toArray }) {ti : TInfo} {e' : TypeId} (hti : T.get t = some ti) (hd : ti.desc = .slice e')
  {e : TypeId} {rows : List (List PV)} (hx : evS s x = .list e rows) {m : Nat} (hm : rows.length = m) (hp : putD n s o.dst (.val (.int .i64 m)) = some s') (h : Ao P ops rest ⟨n,s',bx,ob⟩ K) : Ao P ops (o :: rest) ⟨n,s,bx,ob⟩ K := by
 refine kR hT hg (r := .val (.int .i64 m)) ?_ hp h
 rw [ho]
 simp [fZ,mQ,hti,hd,hx,lenPV,hm]
theorem ax {x : Operand} {t : TypeId} {ts : List TypeId} {ti : TInfo} {e' : TypeId} {e : TypeId} {rows : List (List PV)} {m : Nat} (hT : T.Ok P) (hm : rows.length = m) (h : Ao P ops rest ⟨n,s',bx,ob⟩ K) (hg : aI ops s o = some true := by exact rfl) (ho : o.op = .call { callee := .builtin .len,args := #[x],argTypes := (t :: ts).toArray } := by exact rfl) (hti : T.get t = some ti := by exact rfl) (hd : ti.desc = .slice e' := by exact rfl) (hx : evS s x = .list e rows := by exact rfl) (hp : putD n s o.dst (.val (.int .i64 m)) = some s' := by exact rfl) : Ao P ops (o :: rest) ⟨n,s,bx,ob⟩ K := Ao.lenL hT hg ho hti hd hx hm hp h
theorem Ao.lenO (hT : T.Ok P) (hg : aI ops s o = some true) {x : Operand} {t : TypeId} {ts : List TypeId} (ho : o.op = .call { callee := .builtin .len,args := #[x],argTypes := (t :: ts).toArray }) {ti : TInfo} {e' : TypeId} (hti : T.get t = some ti) (hd : ti.desc = .slice e')
  {tg l : Nat} {g : OwnRef} (hx : evS s x = .own tg g l) {m : Nat} (hm : l = m) (hp : putD n s o.dst (.val (.int .i64 m)) = some s') (h : Ao P ops rest ⟨n,s',bx,ob⟩ K) : Ao P ops (o :: rest) ⟨n,s,bx,ob⟩ K := by
 refine kR hT hg (r := .val (.int .i64 m)) ?_ hp h
 rw [ho]
 simp [fZ,mQ,hti,hd,hx,lenPV,hm]
theorem hZ {x : Operand} {t : TypeId} {ts : List TypeId} {ti : TInfo} {e' : TypeId} {tg l : Nat} {g : OwnRef} {m : Nat} (hT : T.Ok P) (hm : l = m) (h : Ao P ops rest ⟨n,s',bx,ob⟩ K) (hg : aI ops s o = some true := by exact rfl) (ho : o.op = .call { callee := .builtin .len,args := #[x],argTypes := (t :: ts).toArray } := by exact rfl) (hti : T.get t = some ti := by exact rfl) (hd : ti.desc = .slice e' := by exact rfl) (hx : evS s x = .own tg g l := by exact rfl) (hp : putD n s o.dst (.val (.int .i64 m)) = some s' := by exact rfl) : Ao P ops (o :: rest) ⟨n,s,bx,ob⟩ K := Ao.lenO hT hg ho hti hd hx hm hp h
theorem qd (ho : ops[k]? = some o) (hg : aI ops s o = some true) {x : Operand} {t : TypeId} {ts : List TypeId} (hop : o.op = .call { callee := .builtin .len,args := #[x],argTypes := (t :: ts).toArray }) {ti : TInfo} {e' : TypeId} (hti : T.get t = some ti) (hd : ti.desc = .slice e')
  {e : TypeId} {rows : List (List PV)} (hx : evS s x = .list e rows) {m : Nat} (hm : rows.length = m) (hp : putD n s o.dst (.val (.int .i64 m)) = some s') (h : Do P T rb ops L ⟨n,s',bx,ob⟩ K) : Do P T rb ops (k :: L) ⟨n,s,bx,ob⟩ K := by
 refine qT ho hg (by rw [hop]; rfl) (r := .val (.int .i64 m)) ?_ hp h
 rw [hop]
 simp [fP,fZ,mQ,hti,hd,hx,lenPV,hm]
theorem rj (hT : T.Ok P) (hg : aI ops s o = some true) {t : TypeId} {x : Operand} {lo hi : Option Operand} (ho : o.op = .slice t x lo hi none) {ti : TInfo} {e : TypeId} (hti : T.get t = some ti) (hd : ti.desc = .slice e)
  {rows : List (List PV)} (hx : evS s x = .list e rows) {m : Nat} (hm : rows.length = m) {a b : Int} (ha : je (lo.map (evS s)) 0 = some a) (hb : je (hi.map (evS s)) m = some b) (hab : 0 ≤ a ∧ a ≤ b ∧ b ≤ m)
  {rows' : List (List PV)} (hr : (rows.take b.toNat).drop a.toNat = rows') (hp : putD n s o.dst (.list e rows') = some s') (h : Ao P ops rest ⟨n,s',bx,ob⟩ K) : Ao P ops (o :: rest) ⟨n,s,bx,ob⟩ K := by
 subst hm
 refine kR hT hg (r := .list e rows') ?_ hp h
 rw [ho]
 simp only [fZ,hti,hd,hx,nS,Nat.beq_refl,zc,ha,hb]
 rw [zp hab,hr]
theorem Do.subL (ho : ops[k]? = some o) (hg : aI ops s o = some true) {t : TypeId} {x : Operand} {lo hi : Option Operand} (hop : o.op = .slice t x lo hi none) {ti : TInfo} {e : TypeId} (hti : T.get t = some ti) (hd : ti.desc = .slice e)
  {rows : List (List PV)} (hx : evS s x = .list e rows) {m : Nat} (hm : rows.length = m) {a b : Int} (ha : je (lo.map (evS s)) 0 = some a) (hb : je (hi.map (evS s)) m = some b) (hab : 0 ≤ a ∧ a ≤ b ∧ b ≤ m)
  {rows' : List (List PV)} (hr : (rows.take b.toNat).drop a.toNat = rows') (hp : putD n s o.dst (.list e rows') = some s') (h : Do P T rb ops L ⟨n,s',bx,ob⟩ K) : Do P T rb ops (k :: L) ⟨n,s,bx,ob⟩ K := by
 subst hm
 refine qT ho hg (by rw [hop]; rfl) (r := .list e rows') ?_ hp h
 rw [hop]
 simp only [fP,fZ,hti,hd,hx,nS,Nat.beq_refl,zc,ha,hb]
 rw [zp hab,hr]
theorem Ao.quoC (hT : T.Ok P) (hg : aI ops s o = some true) {t t' : TypeId} {x y : Operand} (ho : o.op = .binOp .quo t x y t') {kk : IntKind} {a b : Int} (hx : evS s x = .val (.int kk a)) (hy : evS s y = .val (.int kk b)) (hb : b ≠ 0) {c : Int} (hc : c = kk.wrap (a.tdiv b))
  (hp : putD n s o.dst (.val (.int kk c)) = some s') (h : Ao P ops rest ⟨n,s',bx,ob⟩ K) : Ao P ops (o :: rest) ⟨n,s,bx,ob⟩ K := by
 subst hc
 exact Ao.quo hT hg ho hx hy hb hp h
theorem qW (hT : T.Ok P) (hg : aI ops s o = some true) {t t' : TypeId} {x y : Operand} (ho : o.op = .binOp .rem t x y t') {kk : IntKind} {a b : Int} (hx : evS s x = .val (.int kk a)) (hy : evS s y = .val (.int kk b)) (hb : b ≠ 0) {c : Int} (hc : c = a.tmod b)
  (hp : putD n s o.dst (.val (.int kk c)) = some s') (h : Ao P ops rest ⟨n,s',bx,ob⟩ K) : Ao P ops (o :: rest) ⟨n,s,bx,ob⟩ K := by
 subst hc
 exact Ao.rem hT hg ho hx hy hb hp h
theorem Rep.rowsLe {M : Mem} {b : Bool} {e : TypeId} {rows rows' : List (List PV)} (h : dS P rows rows') {x : Value} (hx : Rep P M b (.list e rows) x) : Rep P M b (.list e rows') x := lT.list h M b x hx
theorem qA (hT : T.Ok P) {o : Oper} {ev : Operand → PV} {H : Heap} {x y : Operand} {t : TypeId} (ho : o.op = .call { callee := .builtin .append,args := #[x,y],argTypes := #[t,t] }) {ti ei : TInfo} {e : TypeId} (hti : T.get t = some ti) (hd : ti.desc = .slice e) (hei : T.get e = some ei)
  (hz : Nat.beq ei.zero.cells.size ei.size = true) (hsz : Nat.blt 0 ei.size = true) {tag : Nat} {g : OwnRef} {len : Nat} {rows rows2 rows2' rows' : List (List PV)} {wr : Bool} (hx : ev x = .own tag g len) (hob : H.ob tag = some ⟨g,e,rows,wr⟩) (hlen : len = rows.length) (hy : ev y = .list e rows2)
  (hle : dS P rows2 rows2') (hby : (rows.length + rows2'.length) * ei.bytes ≤ 2 ^ 47) (hmx : rows.length + rows2'.length ≤ maxLen) (heq : rows ++ rows2' = rows') {K : PV → Heap → Prop} (hk : ∀ g',K (.own tag g' rows'.length) ⟨H.bx,upd H.ob tag (some ⟨g',e,rows',wr⟩)⟩) : Eff P o ev H K := by
 subst heq
 classical
 have hxy : x ≠ y := fun e=>by subst e; rw [hx] at hy; cases hy
 intro C M a w next Q hi he hn
 have key := qC (P := P) (o := o) (ev := fun z=>if z = y then PV.list e rows2' else ev z) (H := H) hT ho hti hd hei hz hsz (rows2 := rows2') (by simp [hxy,hx]) hob hlen (by simp) hby hmx (K := K) hk
 refine key C M a w next Q hi (fun z hz=>?_) hn
 by_cases hzy : z = y
 ·subst hzy
  simp only [if_true]
  have := he z hz
  rw [hy] at this
  exact Rep.rowsLe hle this
 ·simp only [hzy,if_false]
  exact he z hz
theorem cy (hT : T.Ok P) (hg : aI ops s o = some true) {x y : Operand} {t : TypeId} (ho : o.op = .call { callee := .builtin .append,args := #[x,y],argTypes := #[t,t] }) {d : Nat} (hdst : o.dst = some d) (hlt : Nat.blt d n = true) {ti ei : TInfo} {e : TypeId} (hti : T.get t = some ti) (hd : ti.desc = .slice e) (hei : T.get e = some ei)
  (hz : Nat.beq ei.zero.cells.size ei.size = true) (hsz : Nat.blt 0 ei.size = true) {tag : Nat} {g : OwnRef} {len : Nat} {rows rows2 rows2' rows' : List (List PV)} {wr : Bool} (hx : evS s x = .own tag g len) (hob : ob tag = some ⟨g,e,rows,wr⟩) (hlen : len = rows.length) (hy : evS s y = .list e rows2)
  (hle : dS P rows2 rows2') (hby : (rows.length + rows2'.length) * ei.bytes ≤ 2 ^ 47) (hmx : rows.length + rows2'.length ≤ maxLen) (heq : rows ++ rows2' = rows') (h : ∀ g',Ao P ops rest ⟨n,upd s d (.own tag g' rows'.length),bx,upd ob tag (some ⟨g',e,rows',wr⟩)⟩ K) : Ao P ops (o :: rest) ⟨n,s,bx,ob⟩ K :=
 dG hg (qA hT ho hti hd hei hz hsz hx hob hlen hy hle hby hmx heq fun g'=>⟨_,by simp [hdst,putD,hlt],h g'⟩)
theorem Ao.appendCQ {x y : Operand} {t : TypeId} {d : Nat} {ti ei : TInfo} {e : TypeId} {tag : Nat} {g : OwnRef} {len : Nat} {rows rows2 rows2' rows' : List (List PV)} {wr : Bool} (hT : T.Ok P) (hle : dS P rows2 rows2') (hby : (rows.length + rows2'.length) * ei.bytes ≤ 2 ^ 47) (hmx : rows.length + rows2'.length ≤ maxLen) (heq : rows ++ rows2' = rows') (h : ∀ g',Ao P ops rest ⟨n,upd s d (.own tag g' rows'.length),bx,upd ob tag (some ⟨g',e,rows',wr⟩)⟩ K) (hg : aI ops s o = some true := by exact rfl) (ho : o.op = .call { callee := .builtin .append,args := #[x,y],argTypes := #[t,t] } := by exact rfl) (hdst : o.dst = some d := by exact rfl) (hlt : Nat.blt d n = true := by exact rfl) (hti : T.get t = some ti := by exact rfl) (hd : ti.desc = .slice e := by exact rfl) (hei : T.get e = some ei := by exact rfl) (hz : Nat.beq ei.zero.cells.size ei.size = true := by exact rfl) (hsz : Nat.blt 0 ei.size = true := by exact rfl) (hx : evS s x = .own tag g len := by exact rfl) (hob : ob tag = some ⟨g,e,rows,wr⟩ := by exact rfl) (hlen : len = rows.length := by exact rfl) (hy : evS s y = .list e rows2 := by exact rfl) : Ao P ops (o :: rest) ⟨n,s,bx,ob⟩ K := cy hT hg ho hdst hlt hti hd hei hz hsz hx hob hlen hy hle hby hmx heq h
theorem fM (hT : T.Ok P) (ho : ops[k]? = some o) (hg : aI ops s o = some true) {x y : Operand} {t : TypeId} (hop : o.op = .call { callee := .builtin .append,args := #[x,y],argTypes := #[t,t] }) {d : Nat} (hdst : o.dst = some d) (hlt : Nat.blt d n = true) {ti ei : TInfo} {e : TypeId} (hti : T.get t = some ti) (hd : ti.desc = .slice e) (hei : T.get e = some ei)
  (hz : Nat.beq ei.zero.cells.size ei.size = true) (hsz : Nat.blt 0 ei.size = true) {tag : Nat} {g : OwnRef} {len : Nat} {rows rows2 rows2' rows' : List (List PV)} {wr : Bool} (hx : evS s x = .own tag g len) (hob : ob tag = some ⟨g,e,rows,wr⟩) (hlen : len = rows.length) (hy : evS s y = .list e rows2)
  (hle : dS P rows2 rows2') (hby : (rows.length + rows2'.length) * ei.bytes ≤ 2 ^ 47) (hmx : rows.length + rows2'.length ≤ maxLen) (heq : rows ++ rows2' = rows') (h : ∀ g',Do P T rb ops L ⟨n,upd s d (.own tag g' rows'.length),bx,upd ob tag (some ⟨g',e,rows',wr⟩)⟩ K) : Do P T rb ops (k :: L) ⟨n,s,bx,ob⟩ K := by
 refine ⟨o,ho,true,hg,?_⟩
 simp only [if_true,hop,cL]
 exact fun bx'=>qA hT hop hti hd hei hz hsz hx hob hlen hy hle hby hmx heq fun g'=>⟨rfl,_,by simp [hdst,putD,hlt],h g'⟩
theorem Do.appendCQ {x y : Operand} {t : TypeId} {d : Nat} {ti ei : TInfo} {e : TypeId} {tag : Nat} {g : OwnRef} {len : Nat} {rows rows2 rows2' rows' : List (List PV)} {wr : Bool} (hT : T.Ok P) (hle : dS P rows2 rows2') (hby : (rows.length + rows2'.length) * ei.bytes ≤ 2 ^ 47) (hmx : rows.length + rows2'.length ≤ maxLen) (heq : rows ++ rows2' = rows') (h : ∀ g',Do P T rb ops L ⟨n,upd s d (.own tag g' rows'.length),bx,upd ob tag (some ⟨g',e,rows',wr⟩)⟩ K) (ho : ops[k]? = some o := by exact rfl) (hg : aI ops s o = some true := by exact rfl) (hop : o.op = .call { callee := .builtin .append,args := #[x,y],argTypes := #[t,t] } := by exact rfl) (hdst : o.dst = some d := by exact rfl) (hlt : Nat.blt d n = true := by exact rfl) (hti : T.get t = some ti := by exact rfl) (hd : ti.desc = .slice e := by exact rfl) (hei : T.get e = some ei := by exact rfl) (hz : Nat.beq ei.zero.cells.size ei.size = true := by exact rfl) (hsz : Nat.blt 0 ei.size = true := by exact rfl) (hx : evS s x = .own tag g len := by exact rfl) (hob : ob tag = some ⟨g,e,rows,wr⟩ := by exact rfl) (hlen : len = rows.length := by exact rfl) (hy : evS s y = .list e rows2 := by exact rfl) : Do P T rb ops (k :: L) ⟨n,s,bx,ob⟩ K := fM hT ho hg hop hdst hlt hti hd hei hz hsz hx hob hlen hy hle hby hmx heq h
theorem rx (hT : T.Ok P) (hg : aI ops s o = some true) {t e : TypeId} {m : Nat} {ps : Array (Nat × Operand)} (ho : o.op = .buildSlice t m ps) {ti : TInfo} (hti : T.get t = some ti) (hd : ti.desc = .slice e) {rows rows' : List (List PV)}
  (hr : jj T e m (fq (evS s) ps) = some rows) (hle : dS P rows rows') {d : Nat} (hdst : o.dst = some d) (hlt : Nat.blt d n = true) (h : Ao P ops rest ⟨n,upd s d (.list e rows'),bx,ob⟩ K) : Ao P ops (o :: rest) ⟨n,s,bx,ob⟩ K := by
 refine qZ hT hg ho hti hd hr (s' := upd s d (.list e rows)) (by simp [hdst,putD,hlt]) (nQ d (gE _ _ _) (PLe.of2 (lT.list hle)) ?_)
 have : upd (upd s d (PV.list e rows)) d (.list e rows') = upd s d (.list e rows') := by
  funext t
  simp only [eO]
  split <;> rfl
 rw [this]
 exact h
theorem de {t e : TypeId} {m : Nat} {ps : Array (Nat × Operand)} {ti : TInfo} {rows rows' : List (List PV)} {d : Nat} (hT : T.Ok P) (hle : dS P rows rows') (h : Ao P ops rest ⟨n,upd s d (.list e rows'),bx,ob⟩ K) (hg : aI ops s o = some true := by exact rfl) (ho : o.op = .buildSlice t m ps := by exact rfl) (hti : T.get t = some ti := by exact rfl) (hd : ti.desc = .slice e := by exact rfl) (hr : jj T e m (fq (evS s) ps) = some rows := by exact rfl) (hdst : o.dst = some d := by exact rfl) (hlt : Nat.blt d n = true := by exact rfl) : Ao P ops (o :: rest) ⟨n,s,bx,ob⟩ K := rx hT hg ho hti hd hr hle hdst hlt h
end
section
variable {P : Program} {fn : Func} {R : PV → Heap → Prop} {ks : List KI} {n : Nat} {s : Nat → PV} {bx : Nat → Option Box} {ob : Nat → Option Obj} {T : TT}
end
section
variable {P : Program} {C : Ctx} {M : Mem} {H : Heap} {w : World}
theorem InvH.reobj (h : InvH P C M H w) {tag : Nat} {g : OwnRef} {e : TypeId} {rows rows' : List (List PV)} {wr : Bool} (hx : H.ob tag = some ⟨g,e,rows,wr⟩) (hl : rows'.map List.length = rows.map List.length) (hle : fH P rows.flatten rows'.flatten) :
  InvH P C M ⟨H.bx,upd H.ob tag (some ⟨g,e,rows',wr⟩)⟩ w := by
 have hlen : rows'.length = rows.length := by simpa using congrArg List.length hl
 have key : ∀ t y,upd H.ob tag (some ⟨g,e,rows',wr⟩) t = some y → (t = tag ∧ y = ⟨g,e,rows',wr⟩) ∨ H.ob t = some y := by
  intro t y hy
  rw [eO] at hy
  split at hy
  ·rename_i e; exact .inl ⟨e,(Option.some.inj hy).symm⟩
  ·exact .inr hy
 have same : ∀ t y,upd H.ob tag (some ⟨g,e,rows',wr⟩) t = some y → ∃ z,H.ob t = some z ∧ z.g = y.g := by
  intro t y hy
  rcases key t y hy with ⟨rfl,rfl⟩ | hy
  ·exact ⟨_,hx,rfl⟩
  ·exact ⟨y,hy,rfl⟩
 refine ⟨h.mem,h.ext,h.new,h.os,h.tape,h.output,h.size,h.frame,h.boxes,?_,h.dbox,?_,?_⟩
 ·intro t y hy
  rcases key t y hy with ⟨rfl,rfl⟩ | hy
  ·obtain ⟨i,h1,h2,h3,h4⟩ := h.objs _ _ hx
   simp only at h1 h2 h3 h4
   refine ⟨i,h1,?_,?_,?_⟩
   ·simpa only [hlen] using h2
   ·intro r hr
    have : r.length ∈ rows'.map List.length := List.mem_map.2 ⟨r,hr,rfl⟩
    rw [hl] at this
    obtain ⟨q,hq,e1⟩ := List.mem_map.1 this
    rw [← e1]
    exact h3 q hq
   ·rcases h4 with ⟨a,b,c⟩ | ⟨b,cur,h5,h6,h7,h8,h9,h10,h11,h12,h13,h14⟩
    ·refine .inl ⟨a,?_,c⟩
     rw [b] at hlen
     exact List.length_eq_zero_iff.1 hlen
    ·refine .inr ⟨b,cur,h5,h6,h7,h8,?_,h10,?_,?_,h13,?_⟩
     ·simpa only [hlen] using h9
     ·simp only [hlen]; exact hle M false _ h11
     ·simpa only [hlen] using h12
     ·simpa only [hlen] using h14
  ·exact h.objs t y hy
 ·intro t t' y y' b hy hy' hb hb'
  obtain ⟨z,hz,e1⟩ := same t y hy
  obtain ⟨z',hz',e1'⟩ := same t' y' hy'
  exact h.dobj t t' z z' b hz hz' (e1 ▸ hb) (e1' ▸ hb')
 ·intro t t' y y' hy hy' hb
  obtain ⟨z',hz',e1'⟩ := same t' y' hy'
  exact h.dmix t t' y z' hy hz' (e1' ▸ hb)
theorem InvH.cutO (h : InvH P C M H w) {tag : Nat} {g : OwnRef} {e : TypeId} {rows : List (List PV)} (hx : H.ob tag = some ⟨g,e,rows,true⟩) (k : Nat) :
  InvH P C M ⟨H.bx,upd H.ob tag (some ⟨g,e,rows.take k,true⟩)⟩ w := by
 have key : ∀ t y,upd H.ob tag (some ⟨g,e,rows.take k,true⟩) t = some y → (t = tag ∧ y = ⟨g,e,rows.take k,true⟩) ∨ H.ob t = some y := by
  intro t y hy
  rw [eO] at hy
  split at hy
  ·rename_i e; exact .inl ⟨e,(Option.some.inj hy).symm⟩
  ·exact .inr hy
 have same : ∀ t y,upd H.ob tag (some ⟨g,e,rows.take k,true⟩) t = some y → ∃ z,H.ob t = some z ∧ z.g = y.g := by
  intro t y hy
  rcases key t y hy with ⟨rfl,rfl⟩ | hy
  ·exact ⟨_,hx,rfl⟩
  ·exact ⟨y,hy,rfl⟩
 refine ⟨h.mem,h.ext,h.new,h.os,h.tape,h.output,h.size,h.frame,h.boxes,?_,h.dbox,?_,?_⟩
 ·intro t y hy
  rcases key t y hy with ⟨rfl,rfl⟩ | hy
  ·obtain ⟨i,h1,h2,h3,h4⟩ := h.objs _ _ hx
   simp only at h1 h2 h3 h4
   have hle : (rows.take k).length ≤ rows.length := by simp; omega
   refine ⟨i,h1,Nat.le_trans (Nat.mul_le_mul_right _ hle) h2,fun r hr=>h3 r (List.mem_of_mem_take hr),?_⟩
   rcases h4 with ⟨a,b,c⟩ | ⟨b,cur,h5,h6,h7,h8,h9,h10,h11,h12,h13,h14⟩
   ·exact .inl ⟨a,by simp [b],c⟩
   ·refine .inr ⟨b,cur,h5,h6,h7,h8,Nat.le_trans hle h9,h10,?_,?_,fun _=>h13 trivial,?_⟩
    ·have hflat : (rows.take k).flatten = rows.flatten.take ((rows.take k).length * i.size) := by
      have aux : ∀ (l : List (List PV)) (m : Nat),(∀ r ∈ l,r.length = i.size) → (l.take m).flatten = l.flatten.take ((l.take m).length * i.size) := by
       intro l
       induction l with
       | nil=>intro m _; simp
       | cons r l ih =>
        intro m hr
        cases m with
        | zero=>simp
        | succ m =>
         have h1 := hr r (by simp)
         have := ih m fun r hr'=>hr r (by simp [hr'])
         simp only [List.take_succ_cons,List.flatten_cons,List.length_cons]
         have e1 : ((l.take m).length + 1) * i.size = r.length + (l.take m).length * i.size := by rw [Nat.add_mul,h1]; omega
         rw [e1,List.take_length_add_append,this]
      exact aux rows k h3
     rw [hflat]
     have := h11.take ((rows.take k).length * i.size)
     rw [List.take_take,Nat.min_eq_left (Nat.mul_le_mul_right _ hle)] at this
     exact this
    ·intro v hv
     refine h12 v ?_
     have e1 : cur.toList.take ((rows.take k).length * i.size) = (cur.toList.take (rows.length * i.size)).take ((rows.take k).length * i.size) := by
      rw [List.take_take,Nat.min_eq_left (Nat.mul_le_mul_right _ hle)]
     rw [e1] at hv
     exact List.mem_of_mem_take hv
    ·intro o _
     exact h13 trivial o
  ·exact h.objs t y hy
 ·intro t t' y y' b hy hy' hb hb'
  obtain ⟨z,hz,e1⟩ := same t y hy
  obtain ⟨z',hz',e1'⟩ := same t' y' hy'
  exact h.dobj t t' z z' b hz hz' (e1 ▸ hb) (e1' ▸ hb')
 ·intro t t' y y' hy hy' hb
  obtain ⟨z',hz',e1'⟩ := same t' y' hy'
  exact h.dmix t t' y z' hy hz' (e1' ▸ hb)
end
theorem fH.of_eq {P : Program} {a b : List PV} (h : a = b) : fH P a b := h ▸ fH.refl a
theorem fH.trans {P : Program} {a b c : List PV} (h : fH P a b) (h' : fH P b c) : fH P a c := fun M s xs hx=>h' M s xs (h M s xs hx)
def growI (bytes : Nat) (n : Int) : Option Unit := if 0 ≤ n ∧ n.toNat * bytes ≤ 2 ^ 47 ∧ n.toNat ≤ maxLen then some () else none
theorem growI_some {bytes : Nat} {n : Int} {u : Unit} (h : growI bytes n = some u) : 0 ≤ n ∧ n.toNat * bytes ≤ 2 ^ 47 ∧ n.toNat ≤ maxLen := by
 unfold growI at h
 split at h
 ·assumption
 ·cases h
section
variable {P : Program} {ops : Array Oper} {rest : List Oper} {o : Oper} {n : Nat} {s s' : Nat → PV} {bx : Nat → Option Box} {ob : Nat → Option Obj} {K : PState → Prop} {T : TT} {rb : RB} {k : Nat} {L : List Nat}
theorem qG (hT : T.Ok P) (hg : aI ops s o = some true) {t t' : TypeId} {x : Operand} (ho : o.op = .binOp .eql t x (.const (.slice none 0 0)) t') {ti : TInfo} {e : TypeId} (hti : T.get t = some ti) (hd : ti.desc = .slice e) {e' : TypeId} {rows : List (List PV)} (hx : evS s x = .list e' rows) {d : Nat} (hdst : o.dst = some d) (hlt : Nat.blt d n = true)
  (h : ∀ b : Bool,(b = true → rows = []) → Ao P ops rest ⟨n,upd s d (.val (.bool b)),bx,ob⟩ K) : Ao P ops (o :: rest) ⟨n,s,bx,ob⟩ K := by
 refine dG hg (fun C M a w next Q hi he hn=>?_)
 have hxr := he x (by rw [ho]; simp [Op.operands])
 rw [show (⟨n,s,bx,ob⟩ : PState).s = s from rfl,hx] at hxr
 simp only [Rep] at hxr
 obtain ⟨ad,c,i,hv,_,_,_,_,hr⟩ := hxr
 have hu := (hT.get hti).und
 rw [hd] at hu
 have hrun : (execOp a.eval o).run P w = .ok (.value (.bool ad.isNone)) w := by
  have h1 := run_equal_slice_nil (P := P) w t e ad rows.length c hu
  have h2 : (eqGuard .eql t x (.const (.slice none 0 0)) (.slice ad rows.length c) (.slice none 0 0)).run P w = .ok () w := by unfold eqGuard; split <;> simp
  simp only [execOp,ho,hv,show a.eval (.const (.slice none 0 0)) = .slice none 0 0 from rfl,Sem.run_bind,h2,Result.andThen_ok,binOp,h1]
  rfl
 unfold Oper.wp
 rw [hrun]
 refine hn _ (.val (.bool ad.isNone)) ⟨bx,ob⟩ M w ⟨_,by simp [hdst,putD,hlt],h ad.isNone fun hb=>?_⟩ (Mem.le_refl M) hi (by simp only [Rep])
 cases rows with
 | nil=>rfl
 | cons r rows =>
  obtain ⟨b,o,e1,_⟩ := hr (by simp)
  rw [e1] at hb
  cases hb
theorem mA (hT : T.Ok P) (hg : aI ops s o = some true) {t e : TypeId} {m : Nat} {ps : Array (Nat × Operand)} (ho : o.op = .buildSlice t m ps) {d : Nat} (hdst : o.dst = some d) (hlt : Nat.blt d n = true) {ti : TInfo} (hti : T.get t = some ti) (hd : ti.desc = .slice e) {rows rows' : List (List PV)}
  (hr : jj T e m (fq (evS s) ps) = some rows) (hl : rows'.map List.length = rows.map List.length) (hm : rows.length = m) (hle : fH P rows.flatten rows'.flatten) (h : ∀ g,Ao P ops rest ⟨n,upd s d (.own d g rows'.length),bx,upd ob d (some ⟨g,e,rows',true⟩)⟩ K) : Ao P ops (o :: rest) ⟨n,s,bx,ob⟩ K := by
 refine Ao.bsO hT hg ho hdst hlt hti hd hr fun g=>?_
 have hlen : rows'.length = m := by rw [← hm]; simpa using congrArg List.length hl
 have h' := h g
 rw [hlen] at h'
 refine gL (st' := ⟨n,upd s d (.own d g m),bx,upd ob d (some ⟨g,e,rows',true⟩)⟩) ?_ h'
 intro C M a w hi
 refine ⟨M,hi.1,?_⟩
 have := hi.2.reobj (tag := d) (rows' := rows') (gE _ _ _) hl hle
 simp only [PState.heap] at this ⊢
 have e2 : upd (upd ob d (some ⟨g,e,rows,true⟩)) d (some ⟨g,e,rows',true⟩) = upd ob d (some ⟨g,e,rows',true⟩) := by
  funext t
  simp only [eO]
  split <;> rfl
 rwa [e2] at this
theorem rg (hT : T.Ok P) (hg : aI ops s o = some true) {x : Operand} {t : TypeId} {ts : List TypeId} (ho : o.op = .call { callee := .builtin .cap,args := #[x],argTypes := (t :: ts).toArray }) {ti : TInfo} {e : TypeId} (hti : T.get t = some ti) (hd : ti.desc = .slice e)
  (hx : evS s x = .val (.slice none 0 0)) (hp : putD n s o.dst (.val (.int .i64 0)) = some s') (h : Ao P ops rest ⟨n,s',bx,ob⟩ K) : Ao P ops (o :: rest) ⟨n,s,bx,ob⟩ K := by
 refine dG hg (fun C M a w next Q hi he hn=>?_)
 have hxr := he x (by rw [ho]; simp [Op.operands,Call.operands])
 rw [show (⟨n,s,bx,ob⟩ : PState).s = s from rfl,hx] at hxr
 simp only [Rep] at hxr
 have hu := (hT.get hti).und
 rw [hd] at hu
 have hrun : (execOp a.eval o).run P w = .ok (.value (.int .i64 0)) w := by
  simp only [execOp,ho,resolve,Sem.run_bind,Sem.run_pure,Result.andThen_ok,invoke,builtin,List.map_toArray,List.map_cons,List.map_nil,hxr]
  simp [Builtin.cap_,run_underlying hu,goInt]
 unfold Oper.wp
 rw [hrun]
 exact hn _ _ ⟨bx,ob⟩ M w ⟨s',hp,h⟩ (Mem.le_refl M) hi (by simp only [Rep])
theorem Ao.subN (hT : T.Ok P) (hg : aI ops s o = some true) {t : TypeId} {x y : Operand} (ho : o.op = .slice t x none (some y) none) {ti : TInfo} {e : TypeId} (hti : T.get t = some ti) (hd : ti.desc = .slice e) {ei : TInfo} (hei : T.get e = some ei)
  (hx : evS s x = .val (.slice none 0 0)) {kk : IntKind} (hy : evS s y = .val (.int kk 0)) (hp : putD n s o.dst (.val (.slice none 0 0)) = some s') (h : Ao P ops rest ⟨n,s',bx,ob⟩ K) : Ao P ops (o :: rest) ⟨n,s,bx,ob⟩ K := by
 refine dG hg (fun C M a w next Q hi he hn=>?_)
 have hxr := he x (by rw [ho]; simp [Op.operands])
 have hyr := he y (by rw [ho]; simp [Op.operands])
 rw [show (⟨n,s,bx,ob⟩ : PState).s = s from rfl,hx] at hxr
 rw [show (⟨n,s,bx,ob⟩ : PState).s = s from rfl,hy] at hyr
 simp only [Rep] at hxr hyr
 have hu := (hT.get hti).und
 rw [hd] at hu
 have hrun : (execOp a.eval o).run P w = .ok (.value (.slice none 0 0)) w := by
  simp only [execOp,ho,Sem.run_bind,Sem.run_pure,Option.map_some,Option.map_none,hxr,hyr]
  simp [Instr.sliceAt,Instr.slice,run_underlying hu,Instr.sliceBounds,Instr.sliceBound,asIntOf,(hT.get hei).rsize w]
 unfold Oper.wp
 rw [hrun]
 exact hn _ _ ⟨bx,ob⟩ M w ⟨s',hp,h⟩ (Mem.le_refl M) hi (by simp only [Rep])
theorem Ao.cutO (hT : T.Ok P) (hg : aI ops s o = some true) {t : TypeId} {x y : Operand} (ho : o.op = .slice t x none (some y) none) {ti : TInfo} {e : TypeId} (hti : T.get t = some ti) (hd : ti.desc = .slice e) {ei : TInfo} (hei : T.get e = some ei)
  {tag : Nat} {g : OwnRef} {len : Nat} {rows rows' : List (List PV)} (hx : evS s x = .own tag g len) (hob : ob tag = some ⟨g,e,rows,true⟩) (hlen : len = rows.length) {kk : IntKind} {m : Int} (hy : evS s y = .val (.int kk m)) (hm : 0 ≤ m ∧ m.toNat ≤ rows.length) (hr : rows.take m.toNat = rows') {d : Nat} (hdst : o.dst = some d) (hlt : Nat.blt d n = true)
  (h : Ao P ops rest ⟨n,upd s d (.own tag g rows'.length),bx,upd ob tag (some ⟨g,e,rows',true⟩)⟩ K) : Ao P ops (o :: rest) ⟨n,s,bx,ob⟩ K := by
 subst hlen
 subst hr
 refine dG hg (fun C M a w next Q hi he hn=>?_)
 have hxr := he x (by rw [ho]; simp [Op.operands])
 have hyr := he y (by rw [ho]; simp [Op.operands])
 rw [show (⟨n,s,bx,ob⟩ : PState).s = s from rfl,hx] at hxr
 rw [show (⟨n,s,bx,ob⟩ : PState).s = s from rfl,hy] at hyr
 simp only [Rep] at hxr hyr
 have hu := (hT.get hti).und
 rw [hd] at hu
 have hcap : rows.length ≤ g.cap := by
  obtain ⟨i,_,_,_,h4⟩ := hi.objs tag _ hob
  rcases h4 with ⟨_,b,_⟩ | ⟨_,_,_,_,_,_,h9,_⟩
  ·simp only at b; rw [b]; simp
  ·exact h9
 have hmc : m ≤ (g.cap : Int) := by omega
 have hl2 : (rows.take m.toNat).length = m.toNat := by simp; omega
 have hrun : (execOp a.eval o).run P w = .ok (.value (g.val (rows.take m.toNat).length)) w := by
  rw [hl2]
  simp only [execOp,ho,Sem.run_bind,Sem.run_pure,Option.map_some,Option.map_none,hxr.2,hyr,OwnRef.val]
  cases hb : g.blk with
  | none=>simp [Instr.sliceAt,Instr.slice,run_underlying hu,Instr.sliceBounds,Instr.sliceBound,asIntOf,(hT.get hei).rsize w,hm.1,hmc]
  | some b =>
   have e0 : (⟨b,0,none⟩ : Addr).add 0 = ⟨b,0,none⟩ := by rw [dK]
   simp [Instr.sliceAt,Instr.slice,run_underlying hu,Instr.sliceBounds,Instr.sliceBound,asIntOf,(hT.get hei).rsize w,hm.1,hmc,e0]
 unfold Oper.wp
 rw [hrun]
 exact hn _ (.own tag g (rows.take m.toNat).length) ⟨bx,upd ob tag (some ⟨g,e,rows.take m.toNat,true⟩)⟩ M w ⟨_,by simp [hdst,putD,hlt],h⟩ (Mem.le_refl M) (hi.cutO hob m.toNat) (by simp [Rep])
theorem qV (hT : T.Ok P) (hg : aI ops s o = some true) {x y : Operand} {t u : TypeId} (ho : o.op = .call { callee := .builtin .append,args := #[x,y],argTypes := #[t,u] }) {d : Nat} (hdst : o.dst = some d) (hlt : Nat.blt d n = true) {ti ui ei : TInfo} {e : TypeId} (hti : T.get t = some ti) (hd : ti.desc = .slice e) (hui : T.get u = some ui) (hud : ui.desc = .int .i64) (hei : T.get e = some ei)
  (hz : Nat.beq ei.zero.cells.size ei.size = true) (hsz : Nat.blt 0 ei.size = true) (_hf : PV.frozL (cO ei) = true) (h1 : (cO ei).all PV.one = true) (hx : evS s x = .val (.slice none 0 0)) {m : Int} (hy : evS s y = .val (.int .i64 m)) (hm : 0 < m) (hby : m.toNat * ei.bytes ≤ 2 ^ 47) (hmx : m.toNat ≤ maxLen)
  (h : ∀ g,Ao P ops rest ⟨n,upd s d (.own d g (List.replicate m.toNat (cO ei)).length),bx,upd ob d (some ⟨g,e,List.replicate m.toNat (cO ei),true⟩)⟩ K) : Ao P ops (o :: rest) ⟨n,s,bx,ob⟩ K := by
 refine dG hg (fun C M a w next Q hi he hn=>?_)
 have hxr := he x (by rw [ho]; simp [Op.operands,Call.operands])
 have hyr := he y (by rw [ho]; simp [Op.operands,Call.operands])
 rw [show (⟨n,s,bx,ob⟩ : PState).s = s from rfl,hx] at hxr
 rw [show (⟨n,s,bx,ob⟩ : PState).s = s from rfl,hy] at hyr
 simp only [Rep] at hxr hyr
 have hu := (hT.get hti).und
 rw [hd] at hu
 have hu2 := (hT.get hui).und
 rw [hud] at hu2
 have hu3 := (hT.get hei).und
 obtain ⟨i,hinf,hs,hbs,hzero⟩ := (hT.get hei).info
 have hz1 := Nat.eq_of_beq_eq_true hz
 have hsz' : 0 < i.size := by have : 0 < ei.size := by simpa [Nat.blt_eq] using hsz
                              omega
 obtain ⟨k,hk⟩ : ∃ k : Nat,k = m.toNat := ⟨_,rfl⟩
 rw [← hk] at hby hmx h
 have hkm : m = (k : Int) := by omega
 subst hkm
 have hk0 : 0 < k := by omega
 have hwrap : IntKind.i64.wrap (k : Int) = k := by
  simp only [IntKind.wrap,IntKind.bits,IntKind.signed]
  simp
  unfold maxLen at hmx
  omega
 have h63 : ¬ (9223372036854775807 < (k : Int)) := by unfold maxLen at hmx; omega
 have hby2 : k * i.bytes ≤ 140737488355328 := by rw [hbs]; exact hby
 have h48 : ¬ (281474976710656 < Builtin.nextslicecap k 0 * i.bytes) := by rw [nextslicecap_zero hk0]; omega
 have h48' : ¬ (281474976710656 < (k : Int) * (i.bytes : Int)) := by
  have : ((k * i.bytes : Nat) : Int) ≤ 140737488355328 := Int.ofNat_le.2 hby2
  rw [Int.natCast_mul] at this
  omega
 have hne : ¬ (k * i.size = 0) := by
  have := Nat.mul_pos hk0 hsz'
  omega
 have hrun : (Builtin.append_ #[t,u] o.type #[.slice none 0 0,.int .i64 k]).run P w = .ok (.slice (some ⟨w.heap.size,0,none⟩) k (grownCap w k 0 e)) (w.drew.alloc (.cells (Builtin.zeroCells ei.zero.cells k ++ Builtin.zeroCells ei.zero.cells (grownCap w k 0 e - k)) e)) := by
  have hk1 : k ≠ 0 := by omega
  have hk3 : ¬ ((k : Int) < 0) := by omega
  simp [Builtin.append_,run_underlying hu,run_underlying hu2,sizeOf,typeInfo,zeroValue,hinf,hzero,asInt,asIntOf,hwrap,hk1,hk3,h63,h48,h48',Question.forced,run_firstCells_none,newRow,grownCap]
  exact fun h0=>absurd h0 hne
 have hrun' : (execOp a.eval o).run P w = .ok (.value (.slice (some ⟨w.heap.size,0,none⟩) k (grownCap w k 0 e))) (w.drew.alloc (.cells (Builtin.zeroCells ei.zero.cells k ++ Builtin.zeroCells ei.zero.cells (grownCap w k 0 e - k)) e)) := by
  simp only [execOp,ho,resolve,Sem.run_bind,Sem.run_pure,Result.andThen_ok,invoke,builtin,List.map_toArray,List.map_cons,List.map_nil,hxr,hyr]
  rw [hrun]
  rfl
 unfold Oper.wp
 rw [hrun']
 have hge := grownCap_ge w k 0 e
 have hgm : grownCap w k 0 e ≤ maxLen := grownCap_le_maxLen w k 0 e hmx
 have hzl : (cO ei).length = i.size := by simp [cO,hz1,hs]
 have hzc : (Builtin.zeroCells ei.zero.cells k).toList = (List.replicate k ei.zero.cells.toList).flatten := by
  unfold Builtin.zeroCells
  exact lg ei.zero.cells k
 have hzs : (Builtin.zeroCells ei.zero.cells k).toList.length = k * i.size := by
  rw [hzc]; simp [hz1,hs]
 have hrep : au P M false (List.replicate k (cO ei)).flatten (List.replicate k ei.zero.cells.toList).flatten := jK (jv _) k
 have htake : ((Builtin.zeroCells ei.zero.cells k ++ Builtin.zeroCells ei.zero.cells (grownCap w k 0 e - k)).toList.take ((List.replicate k (cO ei)).length * i.size)) = (List.replicate k ei.zero.cells.toList).flatten := by
  rw [List.length_replicate,Array.toList_append,← hzc]
  rw [← hzs]
  exact List.take_left
 refine hn _ (.own d ⟨some w.heap.size,grownCap w k 0 e⟩ (List.replicate k (cO ei)).length) _ M _ ⟨_,by simp [hdst,putD,hlt],h ⟨some w.heap.size,grownCap w k 0 e⟩⟩ (Mem.le_refl M)
  ((show InvH P C M ⟨bx,ob⟩ w.drew from hi.drew).alloc_obj d e (List.replicate k (cO ei)) true _ _ i hinf ?_ ?_ ?_ ?_ hgm ?_ ?_) ?_
 ·rw [List.length_replicate]; exact hby2
 ·intro r hr
  rw [List.eq_of_mem_replicate hr]
  exact hzl
 ·simp only [Array.size_append,size_zeroCells,hz1,← hs,← Nat.add_mul]
  congr 1
  omega
 ·rw [List.length_replicate]; exact hge
 ·rw [htake]; exact hrep
 ·rw [htake]
  refine au.oneCell ?_ hrep
  rw [List.all_flatten]
  rw [List.all_eq_true]
  intro r hr
  rw [List.eq_of_mem_replicate hr]
  exact h1
 ·simp [Rep,OwnRef.val]
end
@[simp] theorem bPs {α β : Type} (a : α) (k : α → Option β) : af (some a) k = k a := rfl
@[simp] theorem bindP_none {α β : Type} (k : α → Option β) : af none k = none := rfl
@[simp] theorem ck {α β : Type} (a : α) (k : α → β) : bL a k = k a := rfl
@[simp] theorem cq {σ β : Type} (s : σ) (k : σ → Option β) : Flow.thenP (.next s) k = k s := rfl
@[simp] theorem jH {σ ρ : Type} (s : σ) (k : σ → Option ρ) : Flow.thenR (.next s) k = k s := rfl
@[simp] theorem thenR_retS {σ ρ : Type} (r : ρ) (k : σ → Option ρ) : Flow.thenR (.ret r) k = some r := rfl
@[simp] theorem thenF_nextS {σ τ ρ : Type} (s : σ) (k : σ → Option (Flow τ ρ)) : Flow.thenF (.next s) k = k s := rfl
@[simp] theorem thenF_retS {σ τ ρ : Type} (r : ρ) (k : σ → Option (Flow τ ρ)) : Flow.thenF (.ret r) k = some (.ret r) := rfl
theorem nX {α : Type} {bytes : Nat} {xs ys : List α} (h1 : (xs.length + ys.length) * bytes ≤ 2 ^ 47) (h2 : xs.length + ys.length ≤ maxLen) : cJ bytes xs ys = some (xs ++ ys) := by
 unfold cJ; rw [zp ⟨h1,h2⟩]
theorem jz {α : Type} {xs : List α} {i : Int} {x : α} (h0 : 0 ≤ i) (h : xs[i.toNat]? = some x) : aH xs i = some x := by unfold aH; rw [zp h0,h]
theorem kY {α : Type} {xs : List α} {j : Nat} {x : α} (h : xs[j]? = some x) : aH xs (j : Int) = some x := jz (by omega) (by simpa using h)
theorem subI_ok {α : Type} {xs : List α} {a b : Int} (h : 0 ≤ a ∧ a ≤ b ∧ b ≤ xs.length) : subI xs a b = some ((xs.take b.toNat).drop a.toNat) := by unfold subI; rw [zp h]
theorem growI_ok {bytes : Nat} {n : Int} (h : 0 ≤ n ∧ n.toNat * bytes ≤ 2 ^ 47 ∧ n.toNat ≤ maxLen) : growI bytes n = some () := by unfold growI; rw [zp h]
theorem smallI_ok {n : Int} (h : n ≤ 2 ^ 62) : nZ n = some n.toNat := by unfold nZ; rw [zp h]
theorem eh {α σ ρ : Type} {step : Nat → α → σ → Option (Flow σ ρ)} (I : Nat → σ → Prop) (Q : ρ → Prop) :
  ∀ (xs : List α) (j : Nat) (s : σ),I j s → (∀ k x s,xs[k]? = some x → I (j + k) s → ∃ fl,step (j + k) x s = some fl ∧ (match fl with | .next s'=>I (j + k + 1) s' | .brk _=>False | .ret r=>Q r)) →
   ∃ fl,aC step j xs s = some fl ∧ (match fl with | .next s'=>I (j + xs.length) s' | .brk _=>False | .ret r=>Q r)
 | [],j,s,h,_=>⟨.next s,rfl,by simpa using h⟩
 | x :: xs,j,s,h,hs=>by
  obtain ⟨fl,h1,h2⟩ := hs 0 x s rfl (by simpa using h)
  rw [Nat.add_zero] at h1
  cases fl with
  | next s' =>
   obtain ⟨fl,h3,h4⟩ := eh I Q xs (j + 1) s' (by simpa using h2) (fun k y t hk hI=>by
    obtain ⟨fl,h5,h6⟩ := hs (k + 1) y t (by simpa using hk) (by rw [show j + (k + 1) = j + 1 + k from by omega]; exact hI)
    rw [show j + (k + 1) = j + 1 + k from by omega] at h5 h6
    exact ⟨fl,h5,h6⟩)
   refine ⟨fl,by rw [aC,h1]; exact h3,?_⟩
   rw [show j + (x :: xs).length = j + 1 + xs.length from by simp; omega]
   exact h4
  | brk s'=>exact absurd h2 (by simp)
  | ret r=>exact ⟨.ret r,by rw [aC,h1],h2⟩
theorem rMa {α σ ρ : Type} {step : Nat → α → σ → Option (Flow σ ρ)} {xs : List α} {s : σ} (S : Nat → σ) (h0 : S 0 = s) (hs : ∀ k x,xs[k]? = some x → step k x (S k) = some (.next (S (k + 1)))) : aC step 0 xs s = some (.next (S xs.length)) := by
 subst h0
 obtain ⟨fl,h1,h2⟩ := eh (step := step) (fun j s=>s = S j) (fun _=>False) xs 0 (S 0) rfl (fun k x s hk hI=>by
  simp only [Nat.zero_add] at hI
  subst hI
  exact ⟨_,by rw [Nat.zero_add]; exact hs k x hk,by simp⟩)
 cases fl with
 | next s'=>simp only [Nat.zero_add] at h2; rw [h1,h2]
 | brk s'=>exact absurd h2 (by simp)
 | ret r=>exact absurd h2 (by simp)
theorem ju {α β ρ : Type} {step : Nat → α → List β → Option (Flow (List β) ρ)} {xs : List α} (f : α → β) (hs : ∀ k x,xs[k]? = some x → step k x ((xs.take k).map f) = some (.next ((xs.take k).map f ++ [f x]))) :
  aC step 0 xs [] = some (.next (xs.map f)) := by
 have := rMa (step := step) (xs := xs) (fun k=>(xs.take k).map f) rfl (fun k x hk=>by
  rw [hs k x hk,List.take_add_one,hk]
  simp)
 simpa using this
theorem nH {α σ ρ : Type} {step : Nat → α → σ → Option (Flow σ ρ)} {xs : List α} {s : σ} (g : σ → α → σ) (hs : ∀ k x,xs[k]? = some x → step k x ((xs.take k).foldl g s) = some (.next (g ((xs.take k).foldl g s) x))) :
  aC step 0 xs s = some (.next (xs.foldl g s)) := by
 have := rMa (step := step) (xs := xs) (fun k=>(xs.take k).foldl g s) rfl (fun k x hk=>by
  rw [hs k x hk,List.take_add_one,hk,List.foldl_append]
  rfl)
 simpa using this
theorem nA {α ρ : Type} {step : Nat → α → Unit → Option (Flow Unit ρ)} (p : α → Bool) (out : Nat → α → ρ) : ∀ (xs : List α) (j : Nat),(∀ k x,xs[k]? = some x → step (j + k) x () = some (if p x then .ret (out (j + k) x) else .next ())) →
  aC step j xs () = some (match xs.findIdx? p with | some i=>(match xs[i]? with | some x=>.ret (out (j + i) x) | none=>.next ()) | none=>.next ())
 | [],j,_=>rfl
 | x :: xs,j,hs=>by
  have h0 := hs 0 x rfl
  rw [Nat.add_zero] at h0
  rw [aC,h0,List.findIdx?_cons]
  cases hp : p x with
  | true=>simp
  | false =>
   simp only [Bool.false_eq_true,if_false]
   rw [nA p out xs (j + 1) (fun k y hk=>by
    have := hs (k + 1) y (by simpa using hk)
    rw [show j + (k + 1) = j + 1 + k from by omega] at this
    exact this)]
   cases xs.findIdx? p with
   | none=>simp
   | some i =>
    simp only [Option.map_some,List.getElem?_cons_succ]
    rw [show j + 1 + i = j + (i + 1) from by omega]
section
variable {P : Program} {T : TT} {M : Mem}
end
def kw {α : Type} (p : Prop) [Decidable p] (a : α) : Option α := if p then some a else none
theorem lE {α : Type} {p : Prop} [Decidable p] {a b : α} (h : kw p a = some b) : p ∧ a = b := by
 unfold kw at h
 split at h
 ·rename_i hp; exact ⟨hp,Option.some.inj h⟩
 ·cases h
@[simp] theorem mw {α : Type} {p : Prop} [Decidable p] {a : α} (h : p) : kw p a = some a := by unfold kw; rw [zp h]
end
end Go.Ab

namespace Go.Ab
noncomputable section
open Go.Proofs
def tS (d : TypeDesc) : TInfo := ⟨d,1,24,.slice none 0 0,[]⟩
def tP (d : TypeDesc) : TInfo := ⟨d,1,8,.pointer none,[]⟩
def tF (d : TypeDesc) : TInfo := ⟨d,1,8,.nilFunc,[]⟩
theorem tO {P : Program} {k : Nat} {v : TInfo} (i : TypeInfo) (h : P.info? k = some i) (e : (i.size,i.bytes,i.zero,v.eqf) = (v.size,v.bytes,some v.zero,[])) (u : P.underlying k = some v.desc) : v.Ok P k := by
 simp only [Prod.mk.injEq] at e
 exact ⟨⟨i,h,e.1,e.2.1,e.2.2.1⟩,u,fun hn=>absurd e.2.2.2 hn⟩
def ti40 : TInfo := ⟨Tryz.t39.desc,2,24,.agg #[.string ⟨#[]⟩,.int .i64 0],[(9,0),(3,1)]⟩
def ti58 : TInfo := ⟨Tryz.t57.desc,3,32,.agg #[.string ⟨#[]⟩,.int .i64 0,.bool false],[(9,0),(3,1),(4,2)]⟩
def ti63 : TInfo := ⟨Tryz.t62.desc,3,32,.agg #[.int .i64 0,.int .i64 0,.string ⟨#[]⟩],[(3,0),(3,1),(9,2)]⟩
def ti88 : TInfo := ⟨Tryz.t87.desc,2,16,.agg #[.int .i64 0,.int .i64 0],[(3,0),(3,1)]⟩
def ti95 : TInfo := ⟨Tryz.t94.desc,3,24,.agg #[.int .i64 0,.int .i64 0,.int .i64 0],[(3,0),(3,1),(3,2)]⟩
def ti152 : TInfo := ⟨Tryz.t151.desc,1,8,.agg #[.int .i64 0],[(3,0)]⟩
def ti191 : TInfo := ⟨Tryz.t190.desc,4,40,.agg #[.int .i64 0,.string ⟨#[]⟩,.int .i64 0,.int .i64 0],[(3,0),(9,1),(3,2),(3,3)]⟩
def ti309 : TInfo := ⟨Tryz.t308.desc,1,16,.agg #[.string ⟨#[]⟩],[(9,0)]⟩
theorem ti40_ok : ti40.Ok Tryz.prog 40 := ⟨⟨Tryz.t40,by kernel_rfl,rfl,rfl,rfl⟩,Tryz.underlying40,fun _=>⟨Tryz.stoodInHeld40,Tryz.eqGuardType40,by simp [bR,Program.fieldsOf,Tryz.underlying40,ti40],by kernel_rfl⟩⟩
theorem ti58_ok : ti58.Ok Tryz.prog 58 := ⟨⟨Tryz.t58,by kernel_rfl,rfl,rfl,rfl⟩,Tryz.underlying58,fun _=>⟨Tryz.stoodInHeld58,Tryz.eqGuardType58,by simp [bR,Program.fieldsOf,Tryz.underlying58,ti58],by kernel_rfl⟩⟩
theorem ti63_ok : ti63.Ok Tryz.prog 63 := ⟨⟨Tryz.t63,by kernel_rfl,rfl,rfl,rfl⟩,Tryz.underlying63,fun _=>⟨Tryz.stoodInHeld63,Tryz.eqGuardType63,by simp [bR,Program.fieldsOf,Tryz.underlying63,ti63],by kernel_rfl⟩⟩
theorem ti88_ok : ti88.Ok Tryz.prog 88 := ⟨⟨Tryz.t88,by kernel_rfl,rfl,rfl,rfl⟩,Tryz.underlying88,fun _=>⟨Tryz.stoodInHeld88,Tryz.eqGuardType88,by simp [bR,Program.fieldsOf,Tryz.underlying88,ti88],by kernel_rfl⟩⟩
theorem ti95_ok : ti95.Ok Tryz.prog 95 := ⟨⟨Tryz.t95,by kernel_rfl,rfl,rfl,rfl⟩,Tryz.underlying95,fun _=>⟨Tryz.stoodInHeld95,Tryz.eqGuardType95,by simp [bR,Program.fieldsOf,Tryz.underlying95,ti95],by kernel_rfl⟩⟩
theorem ti152_ok : ti152.Ok Tryz.prog 152 := ⟨⟨Tryz.t152,by kernel_rfl,rfl,rfl,rfl⟩,Tryz.underlying152,fun _=>⟨Tryz.stoodInHeld152,Tryz.eqGuardType152,by simp [bR,Program.fieldsOf,Tryz.underlying152,ti152],by kernel_rfl⟩⟩
theorem ti191_ok : ti191.Ok Tryz.prog 191 := ⟨⟨Tryz.t191,by kernel_rfl,rfl,rfl,rfl⟩,Tryz.underlying191,fun _=>⟨Tryz.stoodInHeld191,Tryz.eqGuardType191,by simp [bR,Program.fieldsOf,Tryz.underlying191,ti191],by kernel_rfl⟩⟩
theorem ti309_ok : ti309.Ok Tryz.prog 309 := ⟨⟨Tryz.t309,by kernel_rfl,rfl,rfl,rfl⟩,Tryz.underlying309,fun _=>⟨Tryz.stoodInHeld309,Tryz.eqGuardType309,by simp [bR,Program.fieldsOf,Tryz.underlying309,ti309],by kernel_rfl⟩⟩
def tt : TT := (.node 127 ⟨Tryz.t126.desc,7,80,.agg #[.string ⟨#[]⟩,.int .i64 0,.string ⟨#[]⟩,.int .i64 0,.int .i64 0,.int .i64 0,.string ⟨#[]⟩],[]⟩ (.node 48 (tS Tryz.t48.desc) (.node 27 (tS Tryz.t27.desc) (.node 20 ⟨Tryz.t20.desc,1,16,.nilIface,[]⟩ (.node 4 ⟨Tryz.t4.desc,1,1,.bool false,[]⟩ (.node 2 ⟨Tryz.t2.desc,1,8,.int .i64 0,[]⟩ (.node 1 (tF Tryz.t1.desc) .leaf .leaf) (.node 3 ⟨Tryz.t3.desc,1,8,.int .i64 0,[]⟩ .leaf .leaf)) (.node 9 ⟨Tryz.t9.desc,1,16,.string ⟨#[]⟩,[]⟩ (.node 5 ⟨Tryz.t5.desc,1,1,.int .u8 0,[]⟩ .leaf .leaf) .leaf)) (.node 24 (tS Tryz.t24.desc) (.node 22 (tS Tryz.t22.desc) (.node 21 ⟨Tryz.t21.desc,1,4,.int .i32 0,[]⟩ .leaf .leaf) (.node 23 (tS Tryz.t23.desc) .leaf .leaf)) (.node 26 ⟨Tryz.t25.desc,3,72,.agg #[.slice none 0 0,.slice none 0 0,.slice none 0 0],[]⟩ (.node 25 ⟨Tryz.t25.desc,3,72,.agg #[.slice none 0 0,.slice none 0 0,.slice none 0 0],[]⟩ .leaf .leaf) .leaf))) (.node 35 (tS Tryz.t35.desc) (.node 31 (tS Tryz.t31.desc) (.node 29 (tS Tryz.t29.desc) (.node 28 (tS Tryz.t28.desc) .leaf .leaf) (.node 30 (tS Tryz.t30.desc) .leaf .leaf)) (.node 34 ⟨Tryz.t33.desc,9,160,.agg #[.int .i64 0,.string ⟨#[]⟩,.slice none 0 0,.slice none 0 0,.slice none 0 0,.slice none 0 0,.int .i64 0,.int .i64 0,.slice none 0 0],[]⟩ (.node 32 (tS Tryz.t32.desc) .leaf .leaf) .leaf)) (.node 42 (tS Tryz.t42.desc) (.node 41 (tF Tryz.t41.desc) (.node 40 ti40 .leaf .leaf) .leaf) (.node 45 ⟨Tryz.t3.desc,1,8,.int .i64 0,[]⟩ (.node 44 ⟨Tryz.t43.desc,2,48,.agg #[.slice none 0 0,.slice none 0 0],[]⟩ .leaf .leaf) .leaf)))) (.node 88 ti88 (.node 65 (tS Tryz.t65.desc) (.node 61 ⟨Tryz.t60.desc,3,64,.agg #[.string ⟨#[]⟩,.slice none 0 0,.slice none 0 0],[]⟩ (.node 58 ti58 (.node 50 ⟨Tryz.t49.desc,2,32,.agg #[.int .i64 0,.slice none 0 0],[]⟩ .leaf .leaf) (.node 59 (tS Tryz.t59.desc) .leaf .leaf)) (.node 64 (tF Tryz.t64.desc) (.node 63 ti63 .leaf .leaf) .leaf)) (.node 71 (tS Tryz.t70.desc) (.node 67 (tS Tryz.t67.desc) (.node 66 (tS Tryz.t65.desc) .leaf .leaf) (.node 69 ⟨Tryz.t68.desc,2,40,.agg #[.string ⟨#[]⟩,.slice none 0 0],[]⟩ .leaf .leaf)) (.node 86 (tS Tryz.t86.desc) (.node 75 ⟨Tryz.t74.desc,2,48,.agg #[.slice none 0 0,.slice none 0 0],[]⟩ .leaf .leaf) .leaf))) (.node 107 (tF Tryz.t107.desc) (.node 99 ⟨Tryz.t99.desc,1,8,.int .u64 0,[]⟩ (.node 95 ti95 (.node 92 ⟨Tryz.t91.desc,7,88,.agg #[.int .i64 0,.string ⟨#[]⟩,.int .i64 0,.int .i64 0,.int .i64 0,.string ⟨#[]⟩,.slice none 0 0],[]⟩ .leaf .leaf) (.node 97 (tS Tryz.t97.desc) .leaf .leaf)) (.node 102 (tF Tryz.t102.desc) (.node 101 ⟨Tryz.t100.desc,4,48,.agg #[.int .i64 0,.slice none 0 0,.int .i64 0,.bool false],[]⟩ .leaf .leaf) .leaf)) (.node 118 ⟨Tryz.t117.desc,3,56,.agg #[.string ⟨#[]⟩,.string ⟨#[]⟩,.slice none 0 0],[]⟩ (.node 115 (tF Tryz.t115.desc) (.node 108 (tP Tryz.t108.desc) .leaf .leaf) .leaf) (.node 125 (tF Tryz.t125.desc) (.node 121 ⟨Tryz.t120.desc,3,56,.agg #[.string ⟨#[]⟩,.slice none 0 0,.string ⟨#[]⟩],[]⟩ .leaf .leaf) .leaf))))) (.node 205 (tF Tryz.t205.desc) (.node 163 (tF Tryz.t163.desc) (.node 148 (tF Tryz.t148.desc) (.node 143 ⟨Tryz.t143.desc,1,4,.int .u32 0,[]⟩ (.node 134 (tS Tryz.t134.desc) (.node 130 (tF Tryz.t130.desc) .leaf .leaf) (.node 141 (tF Tryz.t141.desc) .leaf .leaf)) (.node 146 (tS Tryz.t146.desc) (.node 145 ⟨Tryz.t145.desc,1,8,.int .u64 0,[]⟩ .leaf .leaf) .leaf)) (.node 157 (tF Tryz.t157.desc) (.node 152 ti152 (.node 150 ⟨Tryz.t149.desc,3,40,.agg #[.slice none 0 0,.int .i64 0,.int .i64 0],[]⟩ .leaf .leaf) (.node 155 (tF Tryz.t155.desc) .leaf .leaf)) (.node 160 (tF Tryz.t160.desc) (.node 159 ⟨Tryz.t158.desc,8,192,.agg #[.slice none 0 0,.slice none 0 0,.slice none 0 0,.slice none 0 0,.slice none 0 0,.slice none 0 0,.slice none 0 0,.slice none 0 0],[]⟩ .leaf .leaf) .leaf))) (.node 188 ⟨Tryz.t188.desc,32,32,.agg #[.int .u8 0,.int .u8 0,.int .u8 0,.int .u8 0,.int .u8 0,.int .u8 0,.int .u8 0,.int .u8 0,.int .u8 0,.int .u8 0,.int .u8 0,.int .u8 0,.int .u8 0,.int .u8 0,.int .u8 0,.int .u8 0,.int .u8 0,.int .u8 0,.int .u8 0,.int .u8 0,.int .u8 0,.int .u8 0,.int .u8 0,.int .u8 0,.int .u8 0,.int .u8 0,.int .u8 0,.int .u8 0,.int .u8 0,.int .u8 0,.int .u8 0,.int .u8 0],[]⟩ (.node 175 ⟨Tryz.t174.desc,4,96,.agg #[.slice none 0 0,.slice none 0 0,.slice none 0 0,.slice none 0 0],[]⟩ (.node 170 (tF Tryz.t170.desc) (.node 165 (tF Tryz.t165.desc) .leaf .leaf) (.node 171 (tF Tryz.t171.desc) .leaf .leaf)) (.node 183 (tF Tryz.t183.desc) (.node 181 (tS Tryz.t181.desc) .leaf .leaf) .leaf)) (.node 198 (tP Tryz.t198.desc) (.node 191 ti191 (.node 189 ⟨Tryz.t189.desc,64,64,.agg #[.int .u8 0,.int .u8 0,.int .u8 0,.int .u8 0,.int .u8 0,.int .u8 0,.int .u8 0,.int .u8 0,.int .u8 0,.int .u8 0,.int .u8 0,.int .u8 0,.int .u8 0,.int .u8 0,.int .u8 0,.int .u8 0,.int .u8 0,.int .u8 0,.int .u8 0,.int .u8 0,.int .u8 0,.int .u8 0,.int .u8 0,.int .u8 0,.int .u8 0,.int .u8 0,.int .u8 0,.int .u8 0,.int .u8 0,.int .u8 0,.int .u8 0,.int .u8 0,.int .u8 0,.int .u8 0,.int .u8 0,.int .u8 0,.int .u8 0,.int .u8 0,.int .u8 0,.int .u8 0,.int .u8 0,.int .u8 0,.int .u8 0,.int .u8 0,.int .u8 0,.int .u8 0,.int .u8 0,.int .u8 0,.int .u8 0,.int .u8 0,.int .u8 0,.int .u8 0,.int .u8 0,.int .u8 0,.int .u8 0,.int .u8 0,.int .u8 0,.int .u8 0,.int .u8 0,.int .u8 0,.int .u8 0,.int .u8 0,.int .u8 0,.int .u8 0],[]⟩ .leaf .leaf) .leaf) (.node 204 (tF Tryz.t204.desc) (.node 201 (tF Tryz.t201.desc) .leaf .leaf) .leaf)))) (.node 254 ⟨Tryz.t253.desc,1,16,.nilIface,[]⟩ (.node 222 ⟨Tryz.t222.desc,8,8,.agg #[.bool false,.bool false,.bool false,.bool false,.bool false,.bool false,.bool false,.bool false],[]⟩ (.node 216 (tF Tryz.t216.desc) (.node 211 (tF Tryz.t211.desc) (.node 209 ⟨Tryz.t208.desc,5,120,.agg #[.slice none 0 0,.slice none 0 0,.slice none 0 0,.slice none 0 0,.slice none 0 0],[]⟩ .leaf .leaf) (.node 214 (tS Tryz.t214.desc) .leaf .leaf)) (.node 221 (tF Tryz.t221.desc) (.node 218 (tF Tryz.t218.desc) .leaf .leaf) .leaf)) (.node 241 (tS Tryz.t241.desc) (.node 224 (tF Tryz.t224.desc) (.node 223 (tF Tryz.t223.desc) .leaf .leaf) (.node 225 (tS Tryz.t225.desc) .leaf .leaf)) (.node 252 (tF Tryz.t252.desc) (.node 246 (tF Tryz.t246.desc) .leaf .leaf) .leaf))) (.node 298 ⟨Tryz.t297.desc,3,48,.agg #[.string ⟨#[]⟩,.string ⟨#[]⟩,.nilIface],[]⟩ (.node 282 ⟨Tryz.t3.desc,1,8,.int .i64 0,[]⟩ (.node 274 (tF Tryz.t274.desc) (.node 259 (tF Tryz.t259.desc) .leaf .leaf) (.node 276 (tF Tryz.t276.desc) .leaf .leaf)) (.node 292 (tF Tryz.t292.desc) (.node 285 (tP Tryz.t285.desc) .leaf .leaf) .leaf)) (.node 307 (tP Tryz.t307.desc) (.node 306 (tP Tryz.t306.desc) (.node 300 ⟨Tryz.t300.desc,24,24,.agg #[.int .u8 0,.int .u8 0,.int .u8 0,.int .u8 0,.int .u8 0,.int .u8 0,.int .u8 0,.int .u8 0,.int .u8 0,.int .u8 0,.int .u8 0,.int .u8 0,.int .u8 0,.int .u8 0,.int .u8 0,.int .u8 0,.int .u8 0,.int .u8 0,.int .u8 0,.int .u8 0,.int .u8 0,.int .u8 0,.int .u8 0,.int .u8 0],[]⟩ .leaf .leaf) .leaf) (.node 311 ⟨Tryz.t311.desc,20,160,.agg #[.int .u64 0,.int .u64 0,.int .u64 0,.int .u64 0,.int .u64 0,.int .u64 0,.int .u64 0,.int .u64 0,.int .u64 0,.int .u64 0,.int .u64 0,.int .u64 0,.int .u64 0,.int .u64 0,.int .u64 0,.int .u64 0,.int .u64 0,.int .u64 0,.int .u64 0,.int .u64 0],[]⟩ (.node 309 ti309 .leaf .leaf) .leaf))))))
theorem tk : tt.Ok Tryz.prog := ⟨tO Tryz.t127 (by kernel_rfl) rfl Tryz.underlying127,⟨tO Tryz.t48 (by kernel_rfl) rfl Tryz.underlying48,⟨tO Tryz.t27 (by kernel_rfl) rfl Tryz.underlying27,⟨tO Tryz.t20 (by kernel_rfl) rfl Tryz.underlying20,⟨tO Tryz.t4 (by kernel_rfl) rfl Tryz.underlying4,⟨tO Tryz.t2 (by kernel_rfl) rfl Tryz.underlying2,⟨tO Tryz.t1 (by kernel_rfl) rfl Tryz.underlying1,trivial,trivial⟩,⟨tO Tryz.t3 (by kernel_rfl) rfl Tryz.underlying3,trivial,trivial⟩⟩,⟨tO Tryz.t9 (by kernel_rfl) rfl Tryz.underlying9,⟨tO Tryz.t5 (by kernel_rfl) rfl Tryz.underlying5,trivial,trivial⟩,trivial⟩⟩,⟨tO Tryz.t24 (by kernel_rfl) rfl Tryz.underlying24,⟨tO Tryz.t22 (by kernel_rfl) rfl Tryz.underlying22,⟨tO Tryz.t21 (by kernel_rfl) rfl Tryz.underlying21,trivial,trivial⟩,⟨tO Tryz.t23 (by kernel_rfl) rfl Tryz.underlying23,trivial,trivial⟩⟩,⟨tO Tryz.t26 (by kernel_rfl) rfl Tryz.underlying26,⟨tO Tryz.t25 (by kernel_rfl) rfl Tryz.underlying25,trivial,trivial⟩,trivial⟩⟩⟩,⟨tO Tryz.t35 (by kernel_rfl) rfl Tryz.underlying35,⟨tO Tryz.t31 (by kernel_rfl) rfl Tryz.underlying31,⟨tO Tryz.t29 (by kernel_rfl) rfl Tryz.underlying29,⟨tO Tryz.t28 (by kernel_rfl) rfl Tryz.underlying28,trivial,trivial⟩,⟨tO Tryz.t30 (by kernel_rfl) rfl Tryz.underlying30,trivial,trivial⟩⟩,⟨tO Tryz.t34 (by kernel_rfl) rfl Tryz.underlying34,⟨tO Tryz.t32 (by kernel_rfl) rfl Tryz.underlying32,trivial,trivial⟩,trivial⟩⟩,⟨tO Tryz.t42 (by kernel_rfl) rfl Tryz.underlying42,⟨tO Tryz.t41 (by kernel_rfl) rfl Tryz.underlying41,⟨ti40_ok,trivial,trivial⟩,trivial⟩,⟨tO Tryz.t45 (by kernel_rfl) rfl Tryz.underlying45,⟨tO Tryz.t44 (by kernel_rfl) rfl Tryz.underlying44,trivial,trivial⟩,trivial⟩⟩⟩⟩,⟨ti88_ok,⟨tO Tryz.t65 (by kernel_rfl) rfl Tryz.underlying65,⟨tO Tryz.t61 (by kernel_rfl) rfl Tryz.underlying61,⟨ti58_ok,⟨tO Tryz.t50 (by kernel_rfl) rfl Tryz.underlying50,trivial,trivial⟩,⟨tO Tryz.t59 (by kernel_rfl) rfl Tryz.underlying59,trivial,trivial⟩⟩,⟨tO Tryz.t64 (by kernel_rfl) rfl Tryz.underlying64,⟨ti63_ok,trivial,trivial⟩,trivial⟩⟩,⟨tO Tryz.t71 (by kernel_rfl) rfl Tryz.underlying71,⟨tO Tryz.t67 (by kernel_rfl) rfl Tryz.underlying67,⟨tO Tryz.t66 (by kernel_rfl) rfl Tryz.underlying66,trivial,trivial⟩,⟨tO Tryz.t69 (by kernel_rfl) rfl Tryz.underlying69,trivial,trivial⟩⟩,⟨tO Tryz.t86 (by kernel_rfl) rfl Tryz.underlying86,⟨tO Tryz.t75 (by kernel_rfl) rfl Tryz.underlying75,trivial,trivial⟩,trivial⟩⟩⟩,⟨tO Tryz.t107 (by kernel_rfl) rfl Tryz.underlying107,⟨tO Tryz.t99 (by kernel_rfl) rfl Tryz.underlying99,⟨ti95_ok,⟨tO Tryz.t92 (by kernel_rfl) rfl Tryz.underlying92,trivial,trivial⟩,⟨tO Tryz.t97 (by kernel_rfl) rfl Tryz.underlying97,trivial,trivial⟩⟩,⟨tO Tryz.t102 (by kernel_rfl) rfl Tryz.underlying102,⟨tO Tryz.t101 (by kernel_rfl) rfl Tryz.underlying101,trivial,trivial⟩,trivial⟩⟩,⟨tO Tryz.t118 (by kernel_rfl) rfl Tryz.underlying118,⟨tO Tryz.t115 (by kernel_rfl) rfl Tryz.underlying115,⟨tO Tryz.t108 (by kernel_rfl) rfl Tryz.underlying108,trivial,trivial⟩,trivial⟩,⟨tO Tryz.t125 (by kernel_rfl) rfl Tryz.underlying125,⟨tO Tryz.t121 (by kernel_rfl) rfl Tryz.underlying121,trivial,trivial⟩,trivial⟩⟩⟩⟩⟩,⟨tO Tryz.t205 (by kernel_rfl) rfl Tryz.underlying205,⟨tO Tryz.t163 (by kernel_rfl) rfl Tryz.underlying163,⟨tO Tryz.t148 (by kernel_rfl) rfl Tryz.underlying148,⟨tO Tryz.t143 (by kernel_rfl) rfl Tryz.underlying143,⟨tO Tryz.t134 (by kernel_rfl) rfl Tryz.underlying134,⟨tO Tryz.t130 (by kernel_rfl) rfl Tryz.underlying130,trivial,trivial⟩,⟨tO Tryz.t141 (by kernel_rfl) rfl Tryz.underlying141,trivial,trivial⟩⟩,⟨tO Tryz.t146 (by kernel_rfl) rfl Tryz.underlying146,⟨tO Tryz.t145 (by kernel_rfl) rfl Tryz.underlying145,trivial,trivial⟩,trivial⟩⟩,⟨tO Tryz.t157 (by kernel_rfl) rfl Tryz.underlying157,⟨ti152_ok,⟨tO Tryz.t150 (by kernel_rfl) rfl Tryz.underlying150,trivial,trivial⟩,⟨tO Tryz.t155 (by kernel_rfl) rfl Tryz.underlying155,trivial,trivial⟩⟩,⟨tO Tryz.t160 (by kernel_rfl) rfl Tryz.underlying160,⟨tO Tryz.t159 (by kernel_rfl) rfl Tryz.underlying159,trivial,trivial⟩,trivial⟩⟩⟩,⟨tO Tryz.t188 (by kernel_rfl) rfl Tryz.underlying188,⟨tO Tryz.t175 (by kernel_rfl) rfl Tryz.underlying175,⟨tO Tryz.t170 (by kernel_rfl) rfl Tryz.underlying170,⟨tO Tryz.t165 (by kernel_rfl) rfl Tryz.underlying165,trivial,trivial⟩,⟨tO Tryz.t171 (by kernel_rfl) rfl Tryz.underlying171,trivial,trivial⟩⟩,⟨tO Tryz.t183 (by kernel_rfl) rfl Tryz.underlying183,⟨tO Tryz.t181 (by kernel_rfl) rfl Tryz.underlying181,trivial,trivial⟩,trivial⟩⟩,⟨tO Tryz.t198 (by kernel_rfl) rfl Tryz.underlying198,⟨ti191_ok,⟨tO Tryz.t189 (by kernel_rfl) rfl Tryz.underlying189,trivial,trivial⟩,trivial⟩,⟨tO Tryz.t204 (by kernel_rfl) rfl Tryz.underlying204,⟨tO Tryz.t201 (by kernel_rfl) rfl Tryz.underlying201,trivial,trivial⟩,trivial⟩⟩⟩⟩,⟨tO Tryz.t254 (by kernel_rfl) rfl Tryz.underlying254,⟨tO Tryz.t222 (by kernel_rfl) rfl Tryz.underlying222,⟨tO Tryz.t216 (by kernel_rfl) rfl Tryz.underlying216,⟨tO Tryz.t211 (by kernel_rfl) rfl Tryz.underlying211,⟨tO Tryz.t209 (by kernel_rfl) rfl Tryz.underlying209,trivial,trivial⟩,⟨tO Tryz.t214 (by kernel_rfl) rfl Tryz.underlying214,trivial,trivial⟩⟩,⟨tO Tryz.t221 (by kernel_rfl) rfl Tryz.underlying221,⟨tO Tryz.t218 (by kernel_rfl) rfl Tryz.underlying218,trivial,trivial⟩,trivial⟩⟩,⟨tO Tryz.t241 (by kernel_rfl) rfl Tryz.underlying241,⟨tO Tryz.t224 (by kernel_rfl) rfl Tryz.underlying224,⟨tO Tryz.t223 (by kernel_rfl) rfl Tryz.underlying223,trivial,trivial⟩,⟨tO Tryz.t225 (by kernel_rfl) rfl Tryz.underlying225,trivial,trivial⟩⟩,⟨tO Tryz.t252 (by kernel_rfl) rfl Tryz.underlying252,⟨tO Tryz.t246 (by kernel_rfl) rfl Tryz.underlying246,trivial,trivial⟩,trivial⟩⟩⟩,⟨tO Tryz.t298 (by kernel_rfl) rfl Tryz.underlying298,⟨tO Tryz.t282 (by kernel_rfl) rfl Tryz.underlying282,⟨tO Tryz.t274 (by kernel_rfl) rfl Tryz.underlying274,⟨tO Tryz.t259 (by kernel_rfl) rfl Tryz.underlying259,trivial,trivial⟩,⟨tO Tryz.t276 (by kernel_rfl) rfl Tryz.underlying276,trivial,trivial⟩⟩,⟨tO Tryz.t292 (by kernel_rfl) rfl Tryz.underlying292,⟨tO Tryz.t285 (by kernel_rfl) rfl Tryz.underlying285,trivial,trivial⟩,trivial⟩⟩,⟨tO Tryz.t307 (by kernel_rfl) rfl Tryz.underlying307,⟨tO Tryz.t306 (by kernel_rfl) rfl Tryz.underlying306,⟨tO Tryz.t300 (by kernel_rfl) rfl Tryz.underlying300,trivial,trivial⟩,trivial⟩,⟨tO Tryz.t311 (by kernel_rfl) rfl Tryz.underlying311,⟨ti309_ok,trivial,trivial⟩,trivial⟩⟩⟩⟩⟩⟩
end
end Go.Ab


namespace Go.Proofs.YtpgalfinchajnaaGreatDoor
noncomputable section
open Go Go.Ab
theorem mok : Tryz.prog.follows .mixedOrders = true := by kernel_rfl
abbrev ah (n : Int) : PV := .val (.int .i64 n)
abbrev ay (b : Bool) : PV := .val (.bool b)
structure LVal where
 kind : Int
 int : Int
 text : List UInt8
 deriving DecidableEq
structure LCol where
 name : List UInt8
 kind : Int
 nullable : Bool
 deriving DecidableEq
inductive LExpr where
 | mk (kind : Int) (name : List UInt8) (index : Int) (value : LVal) (args : List LExpr)
def LExpr.kind : LExpr → Int | .mk k _ _ _ _=>k
def LExpr.name : LExpr → List UInt8 | .mk _ n _ _ _=>n
def LExpr.index : LExpr → Int | .mk _ _ i _ _=>i
def LExpr.value : LExpr → LVal | .mk _ _ _ v _=>v
def LExpr.args : LExpr → List LExpr | .mk _ _ _ _ a=>a
structure LEnv where
 cols : List LCol
 row : List LVal
 params : List LVal
 vnames : List (List UInt8)
 vvals : List LVal
def LVal.nul : LVal := ⟨0,0,[]⟩
@[simp] def fO (v : LVal) : List PV := [ah v.kind,ah v.int,.str v.text]
@[simp] def aT (c : LCol) : List PV := [.str c.name,ah c.kind,ay c.nullable]
mutual
def aE : LExpr → List PV
 | .mk k n i v a=>[ah k,.str n,ah i,ah v.kind,ah v.int,.str v.text,.list 92 (oF a)]
def oF : List LExpr → List (List PV)
 | []=>[]
 | e :: r=>aE e :: oF r
end
theorem pJ : ∀ l,oF l = l.map aE
 | []=>rfl
 | e :: r=>by simp [oF,pJ r]
def bE (e : LExpr) : List PV := [ah e.kind,.str e.name,ah e.index,ah e.value.kind,ah e.value.int,.str e.value.text,.list 92 (e.args.map aE)]
theorem bj (e : LExpr) : aE e = bE e := by
 cases e
 simp [aE,bE,pJ,LExpr.kind,LExpr.name,LExpr.index,LExpr.value,LExpr.args]
abbrev pval (v : LVal) : PV := .agg (fO v)
abbrev pcol (c : LCol) : PV := .agg (aT c)
abbrev jM (e : LExpr) : PV := .agg (bE e)
abbrev pvals (l : List LVal) : PV := .list 63 (l.map fO)
abbrev ip (l : List LCol) : PV := .list 58 (l.map aT)
abbrev pexprs (l : List LExpr) : PV := .list 92 (l.map aE)
abbrev pstrs (l : List (List UInt8)) : PV := .list 9 (l.map fun s=>[.str s])
abbrev pints (l : List Int) : PV := .list 3 (l.map fun n=>[ah n])
@[simp] def encEnv (v : LEnv) : List PV := [ip v.cols,pvals v.row,pvals v.params,pstrs v.vnames,pvals v.vvals]
theorem getExpr {l : List LExpr} {j : Nat} (h : j < l.length) : (l.map aE)[((j : Nat) : Int).toNat]? = some (bE l[j]) := by
 simp [h,bj]
def bZ {α : Type} (p : α → Bool) (l : List α) : Int := match l.findIdx? p with
 | some i=>i
 | none=>-1
theorem idxOf_at {α : Type} {p : α → Bool} {l : List α} {j : Nat} (hlt : j < l.length) (hpre : ∀ x ∈ l.take j,p x = false) (h : p l[j] = true) : bZ p l = (j : Int) := by
 have : l.findIdx? p = some j := by
  rw [List.findIdx?_eq_some_iff_getElem]
  refine ⟨hlt,h,fun i hi=>?_⟩
  have := hpre l[i] (List.mem_take_iff_getElem.2 ⟨i,by omega,rfl⟩)
  simp [this]
 simp [bZ,this]
theorem mg {α : Type} {p : α → Bool} {l : List α} (hpre : ∀ x ∈ l,p x = false) : bZ p l = -1 := by
 have : l.findIdx? p = none := by
  rw [List.findIdx?_eq_none_iff]
  exact hpre
 simp [bZ,this]
theorem oK {α : Type} {p : α → Bool} {l : List α} {j : Nat} (hlt : j < l.length) (hpre : ∀ x ∈ l.take j,p x = false) (h : p l[j] = false) : ∀ x ∈ l.take (j + 1),p x = false := by
 intro x hx
 rw [List.take_add_one,ze hlt] at hx
 simp only [Option.toList,List.mem_append,List.mem_singleton] at hx
 rcases hx with hx | rfl
 ·exact hpre x hx
 ·exact h
theorem bT {n : Int} (h1 : -9223372036854775808 ≤ n) (h2 : n ≤ 9223372036854775807) : IntKind.i64.wrap n = n := by
 simp only [IntKind.wrap,IntKind.bits,IntKind.signed]
 simp
 omega
theorem fu {j : Nat} (h : j < maxLen) : ah (IntKind.i64.wrap ((j : Int) + 1)) = ah ((j + 1 : Nat) : Int) := by
 rw [bT (by omega) (by simp [maxLen] at h; omega)]
 simp
theorem nn {α : Type} {p : α → Bool} {l : List α} : (decide (bZ p l ≥ 0)) = l.any p := by
 rw [Bool.eq_iff_iff]
 simp only [decide_eq_true_eq,List.any_eq_true]
 cases h : l.findIdx? p with
 | none =>
  have e : bZ p l = -1 := by simp [bZ,h]
  rw [List.findIdx?_eq_none_iff] at h
  rw [e]
  constructor
  ·intro h'; omega
  ·rintro ⟨x,hx,hp⟩; rw [h x hx] at hp; cases hp
 | some i =>
  have e : bZ p l = (i : Int) := by simp [bZ,h]
  rw [List.findIdx?_eq_some_iff_getElem] at h
  rw [e]
  exact ⟨fun _=>⟨_,List.getElem_mem h.1,h.2.1⟩,fun _=>by omega⟩
abbrev Rq := List LVal
abbrev Rz := List (List LVal)
abbrev aY : Int → List PV := fun n=>[ah n]
abbrev jb : Bool → List PV := fun b=>[ay b]
abbrev bm : List UInt8 → List PV := fun s=>[.str s]
abbrev fg {α : Type} (e : TypeId) (f : α → List PV) : List α → List PV := fun l=>[.list e (l.map f)]
theorem natLt {n : Int} {m j : Nat} (hm : n ≤ 2 ^ 62 ∧ m = n.toNat) (h : decide ((j : Int) < n) = true) : j < (List.range m).length := by
 have := of_decide_eq_true h
 simp
 omega
theorem natGe {n : Int} {m j : Nat} (hm : n ≤ 2 ^ 62 ∧ m = n.toNat) (h : decide ((j : Int) < n) = false) : (List.range m).length ≤ j := by
 have := of_decide_eq_false h
 simp
 omega
theorem natX {m j x : Nat} (h : (List.range m)[j]? = some x) : j = x := by
 have := zg.1 h
 obtain ⟨h1,h2⟩ := this
 simpa using h2
theorem pint_succN {n : Int} {m j : Nat} (hm : n ≤ 2 ^ 62 ∧ m = n.toNat) (h : j < (List.range m).length) : ah (IntKind.i64.wrap ((j : Int) + 1)) = ah ((j + 1 : Nat) : Int) := by
 rw [bT (by omega) (by simp at h; omega)]
 simp
end
end Go.Proofs.YtpgalfinchajnaaGreatDoor

namespace Go.Proofs.YtpgalfinchajnaaGreatDoor
noncomputable section
open Go Go.Ab
attribute [local irreducible] V Ao Gh Eff PH
set_option maxRecDepth 4000
theorem indexCol {g : FuncId} {caps : List PV} {p : LCol → Bool} (xs : List LCol) (hg : ∀ (vs : Array Value) (w : World),(callFunc g vs).run Tryz.prog w = .ok (.enter g vs) w) (hp : ∀ x ∈ xs,aJ Tryz.prog g (.agg (aT x) :: caps) (ay (p x))) :
  aJ Tryz.prog 124 [.list 58 (xs.map aT),.fn g caps] (ah (bZ p xs)) := by
 refine PH.ap Tryz.func124 Tryz.ntmps124 ?_
 repeat (first | refine ag tk rfl ?_ | refine ac ?_ | refine ab ?_ | refine aa ?_ | refine az ?_)
 refine gv tk 0 rfl rfl fun hl _=>?_
 refine js (X := Nat) (fun j=>⟨19,upd (upd (upd (upd (fun _=>.any) 0 (.list 58 (xs.map aT))) 1 (.fn g caps)) 7 (ah (xs.map aT).length)) 8 (ah j),fun _=>none,fun _=>none⟩)
  (fun j=>j ≤ xs.length ∧ ∀ x ∈ xs.take j,p x = false) (fun j=>xs.length - j) 0 ⟨Nat.zero_le _,by simp⟩ (Gh.le (aQ (aQ (aQ (aQ bY)))) bu bv) ?_
 rintro j ⟨hj,hpre⟩
 repeat (first | refine ag tk rfl ?_ | refine ac ?_ | refine ab ?_ | refine aa ?_)
 refine co rfl (fun h=>?_) (fun h=>?_)
 ·have hlt : j < xs.length := by simpa using h
  have hget : xs[j]? = some xs[j] := ze hlt
  repeat (first | refine ag tk rfl ?_ | refine ac ?_ | refine ab ?_ | refine aa ?_ | refine ao ?_ | refine az ?_)
  refine pG tk rfl rfl rfl rfl rfl rfl (zn j) (r := aT xs[j]) (by simp [hget]) rfl ?_
  repeat (refine ag tk rfl ?_)
  refine ak hg (fG.r) (hp xs[j] (List.getElem_mem hlt)) ?_
  repeat (refine ac ?_)
  refine co rfl (fun h=>?_) (fun h=>?_)
  ·repeat (first | refine ag tk rfl ?_ | refine ac ?_ | refine ab ?_ | refine aa ?_)
   refine db tk (PLe.q ?_)
   rw [idxOf_at hlt hpre h]
  ·repeat (first | refine ag tk rfl ?_ | refine ac ?_ | refine aa ?_ | refine ao ?_ | refine aP ?_)
   refine jX (j + 1) (by omega) ⟨hlt,?_⟩ (Gh.le (cm (PLe.q ?_) (aQ (aQ (aQ bY)))) bu bv)
   ·exact oK hlt hpre h
   ·exact fu (by simp at hl; omega)
 ·have hge : j = xs.length := by have : ¬ j < xs.length := by simpa using h
                                 omega
  repeat (first | refine ag tk rfl ?_ | refine ac ?_ | refine ab ?_ | refine aa ?_ | refine ca rfl ?_)
  refine db tk (PLe.q ?_)
  rw [mg (by rw [hge] at hpre; simpa using hpre)]
theorem indexInt {g : FuncId} {caps : List PV} {p : Int → Bool} (xs : List Int) (hg : ∀ (vs : Array Value) (w : World),(callFunc g vs).run Tryz.prog w = .ok (.enter g vs) w) (hp : ∀ x ∈ xs,aJ Tryz.prog g (ah x :: caps) (ay (p x))) :
  aJ Tryz.prog 235 [.list 3 (xs.map fun x=>[ah x]),.fn g caps] (ah (bZ p xs)) := by
 refine PH.ap Tryz.func235 Tryz.ntmps235 ?_
 repeat (first | refine ag tk rfl ?_ | refine ac ?_ | refine ab ?_ | refine aa ?_ | refine az ?_)
 refine gv tk 0 rfl rfl fun hl _=>?_
 refine js (X := Nat) (fun j=>⟨19,upd (upd (upd (upd (fun _=>.any) 0 (.list 3 (xs.map fun x=>[ah x]))) 1 (.fn g caps)) 7 (ah (xs.map fun x=>[ah x]).length)) 8 (ah j),fun _=>none,fun _=>none⟩)
  (fun j=>j ≤ xs.length ∧ ∀ x ∈ xs.take j,p x = false) (fun j=>xs.length - j) 0 ⟨Nat.zero_le _,by simp⟩ (Gh.le (aQ (aQ (aQ (aQ bY)))) bu bv) ?_
 rintro j ⟨hj,hpre⟩
 repeat (first | refine ag tk rfl ?_ | refine ac ?_ | refine ab ?_ | refine aa ?_)
 refine co rfl (fun h=>?_) (fun h=>?_)
 ·have hlt : j < xs.length := by simpa using h
  have hget : xs[j]? = some xs[j] := ze hlt
  repeat (first | refine ag tk rfl ?_ | refine ac ?_ | refine ab ?_ | refine aa ?_ | refine ao ?_ | refine az ?_)
  refine pG tk rfl rfl rfl rfl rfl rfl (zn j) (r := [ah xs[j]]) (by simp [hget]) rfl ?_
  repeat (refine ag tk rfl ?_)
  refine ak hg (fG.r) (hp xs[j] (List.getElem_mem hlt)) ?_
  repeat (refine ac ?_)
  refine co rfl (fun h=>?_) (fun h=>?_)
  ·repeat (first | refine ag tk rfl ?_ | refine ac ?_ | refine ab ?_ | refine aa ?_)
   refine db tk (PLe.q ?_)
   rw [idxOf_at hlt hpre h]
  ·repeat (first | refine ag tk rfl ?_ | refine ac ?_ | refine aa ?_ | refine ao ?_ | refine aP ?_)
   refine jX (j + 1) (by omega) ⟨hlt,?_⟩ (Gh.le (cm (PLe.q ?_) (aQ (aQ (aQ bY)))) bu bv)
   ·exact oK hlt hpre h
   ·exact fu (by simp at hl; omega)
 ·have hge : j = xs.length := by have : ¬ j < xs.length := by simpa using h
                                 omega
  repeat (first | refine ag tk rfl ?_ | refine ac ?_ | refine ab ?_ | refine aa ?_ | refine ca rfl ?_)
  refine db tk (PLe.q ?_)
  rw [mg (by rw [hge] at hpre; simpa using hpre)]
theorem containsInt {g : FuncId} {caps : List PV} {p : Int → Bool} (xs : List Int) (hg : ∀ (vs : Array Value) (w : World),(callFunc g vs).run Tryz.prog w = .ok (.enter g vs) w) (hp : ∀ x ∈ xs,aJ Tryz.prog g (ah x :: caps) (ay (p x))) :
  aJ Tryz.prog 223 [.list 3 (xs.map fun x=>[ah x]),.fn g caps] (ay (xs.any p)) := by
 refine PH.ap Tryz.func223 Tryz.ntmps223 ?_
 repeat (first | refine ag tk rfl ?_ | refine ac ?_ | refine ab ?_ | refine aa ?_)
 refine ak Tryz.call235 (fG.r) (indexInt xs hg hp) ?_
 repeat (first | refine ag tk rfl ?_ | refine ac ?_)
 refine db tk (PLe.q ?_)
 rw [nn]
theorem indexStr (s : List UInt8) (xs : List (List UInt8)) :
  aJ Tryz.prog 97 [pstrs xs,.str s] (ah (bZ (fun x=>s == x) xs)) := by
 refine PH.ap Tryz.func97 Tryz.ntmps97 ?_
 repeat (first | refine ag tk rfl ?_ | refine ac ?_ | refine ab ?_ | refine aa ?_ | refine az ?_)
 refine gv tk 0 rfl rfl fun hl _=>?_
 refine js (X := Nat) (fun j=>⟨19,upd (upd (upd (upd (fun _=>.any) 0 (pstrs xs)) 1 (.str s)) 7 (ah (xs.map fun s=>[PV.str s]).length)) 8 (ah j),fun _=>none,fun _=>none⟩)
  (fun j=>j ≤ xs.length ∧ ∀ x ∈ xs.take j,(s == x) = false) (fun j=>xs.length - j) 0 ⟨Nat.zero_le _,by simp⟩ (Gh.le (aQ (aQ (aQ (aQ bY)))) bu bv) ?_
 rintro j ⟨hj,hpre⟩
 repeat (first | refine ag tk rfl ?_ | refine ac ?_ | refine ab ?_ | refine aa ?_)
 refine co rfl (fun h=>?_) (fun h=>?_)
 ·have hlt : j < xs.length := by simpa using h
  have hget : xs[j]? = some xs[j] := ze hlt
  repeat (first | refine ag tk rfl ?_ | refine ac ?_ | refine ab ?_ | refine aa ?_ | refine ao ?_ | refine az ?_)
  refine pG tk rfl rfl rfl rfl rfl rfl (zn j) (r := [.str xs[j]]) (by simp [hget]) rfl ?_
  repeat (first | refine ag tk rfl ?_ | refine ac ?_)
  refine co rfl (fun h=>?_) (fun h=>?_)
  ·repeat (first | refine ag tk rfl ?_ | refine ac ?_ | refine ab ?_ | refine aa ?_)
   refine db tk (PLe.q ?_)
   rw [idxOf_at hlt hpre h]
  ·repeat (first | refine ag tk rfl ?_ | refine ac ?_ | refine aa ?_ | refine ao ?_ | refine aP ?_)
   refine jX (j + 1) (by omega) ⟨hlt,?_⟩ (Gh.le (cm (PLe.q ?_) (aQ (aQ (aQ bY)))) bu bv)
   ·exact oK (p := fun x=>s == x) hlt hpre h
   ·exact fu (by simp at hl; omega)
 ·have hge : j = xs.length := by have : ¬ j < xs.length := by simpa using h
                                 omega
  repeat (first | refine ag tk rfl ?_ | refine ac ?_ | refine ab ?_ | refine aa ?_ | refine ca rfl ?_)
  refine db tk (PLe.q ?_)
  rw [mg (by rw [hge] at hpre; simpa using hpre)]
def validV (v : LVal) : Bool :=
 if v.kind = 0 then decide (v = ⟨0,0,[]⟩) else if v.kind = 1 then v.text == [] && decide (v.int ≥ -1000000000000) && decide (v.int ≤ 1000000000000)
 else if v.kind = 2 then v.text == [] && (v.int == 0 || v.int == 1) else if v.kind = 3 then v.int == 0 && decide (v.text.length ≤ 24) else false
theorem validV_spec (v : LVal) : aJ Tryz.prog 109 [pval v] (ay (validV v)) := by
 refine PH.ap Tryz.func109 Tryz.ntmps109 ?_
 repeat' (first | refine ag tk rfl ?_ | refine ac ?_ | refine ab ?_ | refine aa ?_ | refine ao ?_ | refine az ?_ | refine aP ?_ | refine aB ?_ | refine co rfl (fun h=>?_) (fun h=>?_) | ((fail_if_success refine gY rfl ?_); refine ia rfl rfl rfl (fun h=>?_) (fun h=>?_)))
 all_goals refine db tk (PLe.q ?_)
 all_goals cases v
 all_goals simp_all [validV]
 ·rename_i x _
  rw [Bool.eq_iff_iff]
  cases x <;> simp
 ·omega
 ·omega
def nW (v : LVal) : Bool := v.kind == 2 && v.int == 1
theorem isTS (v : LVal) : aJ Tryz.prog 93 [pval v] (ay (nW v)) := by
 refine PH.ap Tryz.func93 Tryz.ntmps93 ?_
 repeat' (first | refine ag tk rfl ?_ | refine ac ?_ | refine ab ?_ | refine aa ?_ | refine aB ?_ | ((fail_if_success refine gY rfl ?_); refine ia rfl rfl rfl (fun h=>?_) (fun h=>?_)))
 all_goals refine db tk (PLe.q ?_)
 all_goals simp_all [nW]
def wr (n : Int) : Int := IntKind.i64.wrap n
end
end Go.Proofs.YtpgalfinchajnaaGreatDoor

namespace Go.Proofs.YtpgalfinchajnaaGreatDoor
noncomputable section
open Go Go.Ab
attribute [local irreducible] V Ao Do Gh Eff PH IntKind.wrap
set_option maxRecDepth 4000
def iV : List (List UInt8) := [[43],[45],[42],[61],[60],[60,61],[97,110,100],[111,114],[110,111,116],[124,124],[105,115,32,110,117,108,108],[108,101,110,103,116,104],[105,102]]
def opArity : List Int := [2,2,2,2,2,2,2,2,1,2,1,1,3]
theorem opsS : aJ Tryz.prog 181 [] (.tup [pstrs iV,pints opArity]) := by
 refine PH.ap Tryz.func181 Tryz.ntmps181 ?_
 repeat (first | refine ag tk rfl ?_ | refine ac ?_ | refine ab ?_ | refine aa ?_ | refine qZ tk rfl rfl rfl rfl rfl rfl ?_)
 refine rA tk rfl rfl rfl (PLe.q ?_)
 rfl
def mz (name : List UInt8) : Option Nat :=
 if name == [43] || name == [45] || name == [42] || name == [61] || name == [60] || name == [60,61] || name == [97,110,100] || name == [111,114] || name == [124,124] then some 2
 else if name == [110,111,116] || name == [105,115,32,110,117,108,108] || name == [108,101,110,103,116,104] then some 1
 else if name == [105,102] then some 3 else none
theorem len2 {α : Type} : ∀ {l : List α},l.length = 2 → ∃ a b,l = [a,b]
 | [a,b],_=>⟨a,b,rfl⟩
theorem len3 {α : Type} : ∀ {l : List α},l.length = 3 → ∃ a b c,l = [a,b,c]
 | [a,b,c],_=>⟨a,b,c,rfl⟩
def lit (v : LVal) : LExpr := .mk 1 [] 0 v []
def kX (acc r : Int × Int) : Int × Int := (wr (acc.1 + r.1),if r.2 > acc.2 then r.2 else acc.2)
mutual
def gg : LExpr → Int × Int
 | .mk _ _ _ _ args=>let r := (sizesE args).foldl kX (1,0); (r.1,wr (r.2 + 1))
def sizesE : List LExpr → List (Int × Int)
 | []=>[]
 | e :: r=>gg e :: sizesE r
end
theorem sizesE_map : ∀ l,sizesE l = l.map gg
 | []=>rfl
 | e :: r=>by simp [sizesE,sizesE_map r]
theorem sizeE_eq (e : LExpr) : gg e = (((e.args.map gg).foldl kX (1,0)).1,wr (((e.args.map gg).foldl kX (1,0)).2 + 1)) := by
 cases e
 rw [gg,sizesE_map]
 rfl
theorem foldl_take {α β : Type} (g : β → α → β) (z : β) {l : List α} {j : Nat} (h : j < l.length) : (l.take (j + 1)).foldl g z = g ((l.take j).foldl g z) l[j] := by
 rw [List.take_add_one,ze h,List.foldl_append]
 rfl
theorem sizeStep_spec (e : LExpr) (ih : ∀ a ∈ e.args,aJ Tryz.prog 193 [jM a] (.tup [ah (gg a).1,ah (gg a).2])) :
  aJ Tryz.prog 193 [jM e] (.tup [ah (gg e).1,ah (gg e).2]) := by
 refine PH.ap Tryz.func193 Tryz.ntmps193 ?_
 repeat (first | refine ag tk rfl ?_ | refine ac ?_ | refine ab ?_ | refine aa ?_ | refine az ?_ | refine aB ?_)
 refine gv tk 11 rfl rfl fun hl _=>?_
 rw [zl] at hl
 refine js (X := Nat) (fun j=>⟨32,upd (upd (upd (upd (upd (fun _=>.any) 5 (ah (((e.args.map gg).take j).foldl kX (1,0)).2)) 4 (ah (((e.args.map gg).take j).foldl kX (1,0)).1)) 11 (pexprs e.args)) 12 (ah (e.args.map aE).length)) 13 (ah j),fun _=>none,fun _=>none⟩)
  (fun j=>j ≤ e.args.length) (fun j=>e.args.length - j) 0 (Nat.zero_le _) (Gh.le (aQ (aQ (aQ (aQ (aQ bY))))) bu bv) ?_
 intro j hj
 repeat (first | refine ag tk rfl ?_ | refine ac ?_ | refine ab ?_ | refine aa ?_)
 refine co rfl (fun h=>?_) (fun h=>?_)
 ·have hlt : j < e.args.length := by simpa using h
  repeat (first | refine ab ?_ | refine aa ?_ | refine ao ?_ | refine az ?_)
  refine aN tk (zn j) (getExpr hlt) ?_
  repeat (first | refine ag tk rfl ?_ | refine ac ?_ | refine ab ?_ | refine aa ?_ | refine aq tk ?_ | (refine jR tk rfl rfl rfl rfl rfl rfl ?_; intro bk) | refine am tk ?_)
  refine ak Tryz.call193 (fG.r) (ih _ (List.getElem_mem hlt)) ?_
  repeat (first | refine ag tk rfl ?_ | refine ac ?_ | refine aa ?_ | refine aP ?_)
  have e1 := foldl_take kX (1,0) (l := e.args.map gg) (j := j) (by simpa using hlt)
  rw [List.getElem_map] at e1
  refine jX (j + 1) (by omega) hlt (Gh.le (cm (PLe.q (fu (by omega))) (aQ (aQ (cm (PLe.q (by rw [e1]; rfl)) (cm (PLe.q (by rw [e1]; rfl)) bY))))) bu bv)
 have hge : j = e.args.length := by have : ¬ j < e.args.length := by simpa using h
                                    omega
 subst hge
 rw [show (e.args.map gg).take e.args.length = e.args.map gg from by rw [List.take_of_length_le]; simp]
 repeat (first | refine ag tk rfl ?_ | refine ac ?_ | refine ab ?_ | refine aa ?_ | refine ca rfl ?_)
 refine rA tk rfl rfl rfl (PLe.q ?_)
 rw [sizeE_eq]
 rfl
theorem size_spec : ∀ e : LExpr,aJ Tryz.prog 193 [jM e] (.tup [ah (gg e).1,ah (gg e).2])
 | .mk k n i x args=>sizeStep_spec (.mk k n i x args) fun a ha=>by
  have ha' : a ∈ args := ha
  exact size_spec a
def mU (c : UInt8) : Bool := (decide ((c.toNat : Int) ≥ 97) && decide ((c.toNat : Int) ≤ 122)) || (decide ((c.toNat : Int) ≥ 48) && decide ((c.toNat : Int) ≤ 57))
theorem inner_spec (c : UInt8) : aJ Tryz.prog 137 [.val (.int .u8 c.toNat)] (ay (mU c)) := by
 refine PH.ap Tryz.func137 Tryz.ntmps137 ?_
 repeat' (first | (show Ao _ _ _ _ _; first | refine ag tk rfl ?_ | refine ac ?_ | ((fail_if_success refine gY rfl ?_); refine ia rfl rfl rfl (fun h=>?_) (fun h=>?_))) | (show V _ _ _ _ _; first | refine ab ?_ | refine aa ?_))
 all_goals refine db tk (PLe.q ?_)
 all_goals simp_all [mU]
 all_goals omega
theorem colIs_spec (c : LCol) (name : List UInt8) : aJ Tryz.prog 221 [pcol c,.ptr [.str name]] (ay (c.name == name)) := by
 refine PH.ap Tryz.func221 Tryz.ntmps221 ?_
 repeat' (first | (show Ao _ _ _ _ _; first | refine ag tk rfl ?_ | refine ac ?_ | refine aB ?_) | (show V _ _ _ _ _; first | refine ab ?_ | refine aa ?_))
 all_goals refine db tk (PLe.q rfl)
def findV (l : List LCol) (name : List UInt8) : LCol × Bool :=
 let i := bZ (fun c : LCol=>c.name == name) l
 if i < 0 then (⟨[],0,false⟩,false) else (l.getD i.toNat ⟨[],0,false⟩,true)
theorem getCol {l : List LCol} {j : Int} (h0 : 0 ≤ j) (h : j < l.length) : (l.map aT)[j.toNat]? = some (aT (l.getD j.toNat ⟨[],0,false⟩)) := by
 have : j.toNat < l.length := by omega
 simp [this]
theorem idxOf_lt {α : Type} {p : α → Bool} {l : List α} : bZ p l < l.length := by
 simp only [bZ]
 split
 ·rename_i i h
  have := (List.findIdx?_eq_some_iff_getElem.1 h).1
  omega
 ·omega
theorem find_spec (l : List LCol) (name : List UInt8) : aJ Tryz.prog 210 [ip l,.str name] (.tup [pcol (findV l name).1,ay (findV l name).2]) := by
 refine PH.ap Tryz.func210 Tryz.ntmps210 ?_
 repeat' (first | (show Ao _ _ _ _ _; first | refine ag tk rfl ?_ | refine ac ?_ | refine aB ?_ | (refine jR tk rfl rfl rfl rfl rfl rfl ?_; intro bk) | refine am tk ?_ | refine ak Tryz.call124 (fG.r) (indexCol (p := fun c=>c.name == name) _ Tryz.call221 fun c _=>colIs_spec c name) ?_ | refine pG tk rfl rfl rfl rfl rfl rfl (Int.not_lt.1 (of_decide_eq_false (by assumption))) (getCol (Int.not_lt.1 (of_decide_eq_false (by assumption))) idxOf_lt) rfl ?_) | (show V _ _ _ _ _; first | refine ab ?_ | refine aa ?_ | refine ao ?_ | refine co rfl (fun h=>?_) (fun h=>?_)))
 all_goals refine V.retCT tk rfl rfl rfl rfl rfl rfl (PLe.q ?_)
 all_goals simp_all [findV]
 all_goals rw [zy (by omega)]
 all_goals exact ⟨⟨rfl,rfl,rfl⟩,rfl⟩
def cN (s : List UInt8) : Bool := decide (1 ≤ s.length) && decide (s.length ≤ 12) && (match s with | []=>false | c :: _=>decide (c.toNat ≥ 97) && decide (c.toNat ≤ 122)) && s.all mU
theorem idxStrAt {l : List UInt8} {j : Nat} (h : j < l.length) : l[((j : Nat) : Int).toNat]? = some l[j] := by simp [h]
theorem kD (s : List UInt8) : aJ Tryz.prog 191 [.str s] (ay (cN s)) := by
 cases s with
 | nil =>
  refine PH.ap Tryz.func191 Tryz.ntmps191 ?_
  repeat' (first | (show Ao _ _ _ _ _; first | refine ag tk rfl ?_ | refine ac ?_) | (show V _ _ _ _ _; first | refine ab ?_ | refine aa ?_ | refine bU rfl ?_))
  all_goals refine db tk (PLe.q rfl)
 | cons c s =>
  refine PH.ap Tryz.func191 Tryz.ntmps191 ?_
  refine V.strF 0 rfl fun hl=>?_
  repeat' (first | (show Ao _ _ _ _ _; first | refine ag tk rfl ?_ | refine ac ?_ | ((fail_if_success refine gY rfl ?_); refine ia rfl rfl rfl (fun h=>?_) (fun h=>?_))) | (show V _ _ _ _ _; first | refine ab ?_ | refine aa ?_ | refine ao ?_ | refine bU rfl ?_ | refine az ?_ | refine co rfl (fun h=>?_) (fun h=>?_)))
  case cons.refine_1 =>
   refine db tk (PLe.q ?_)
   have : ¬ (c :: s).length ≤ 12 := by simp only [decide_eq_true_eq] at h; omega
   have : cN (c :: s) = false := by simp only [cN,this]; simp
   rw [this]
  case cons.refine_2.refine_1 =>
   refine db tk (PLe.q ?_)
   have : ¬ c.toNat ≥ 97 := by simp only [decide_eq_true_eq] at h; omega
   simp [cN,this]
  case cons.refine_2.refine_2.refine_1 =>
   refine db tk (PLe.q ?_)
   have : ¬ c.toNat ≤ 122 := by simp only [decide_eq_true_eq] at h; omega
   simp [cN,this]
  rename_i h1 h2
  have hs : cN (c :: s) = (c :: s).all mU := by
   simp only [decide_eq_false_iff_not] at h1 h2 h
   have e1 : (c :: s).length ≤ 12 := by omega
   have e2 : c.toNat ≥ 97 := by omega
   have e3 : c.toNat ≤ 122 := by omega
   simp only [cN,e1,e2,e3]
   simp
  rw [hs]
  clear hs h h1 h2
  generalize hL : c :: s = L at *
  refine js (X := Nat) (fun j=>⟨33,upd (upd (upd (fun _=>.any) 0 (.str L)) 23 (ah L.length)) 24 (ah j),fun _=>none,fun _=>none⟩)
   (fun j=>j ≤ L.length ∧ ∀ x ∈ L.take j,mU x = true) (fun j=>L.length - j) 0 ⟨Nat.zero_le _,by simp⟩ (Gh.le (aQ (aQ (aQ bY))) bu bv) ?_
  rintro j ⟨hj,hpre⟩
  repeat (first | refine ag tk rfl ?_ | refine ac ?_ | refine ab ?_ | refine aa ?_)
  refine co rfl (fun h=>?_) (fun h=>?_)
  ·have hlt : j < L.length := by simpa using h
   repeat (first | refine ag tk rfl ?_ | refine ac ?_ | refine ab ?_ | refine aa ?_ | refine ao ?_ | refine az ?_)
   refine qU tk rfl rfl rfl rfl rfl rfl (zn j) (idxStrAt hlt) rfl ?_
   skip
   refine ak Tryz.call137 (fG.r) (inner_spec _) ?_
   repeat (first | refine ag tk rfl ?_ | refine ac ?_)
   refine co rfl (fun h=>?_) (fun h=>?_)
   ·repeat (first | refine ag tk rfl ?_ | refine ac ?_ | refine ab ?_ | refine aa ?_)
    refine db tk (PLe.q ?_)
    have : L.all mU = false := by
     rw [List.all_eq_false]
     exact ⟨L[j],List.getElem_mem hlt,by simpa using h⟩
    rw [this]
   ·repeat (first | refine ag tk rfl ?_ | refine ac ?_ | refine aa ?_ | refine ao ?_ | refine aP ?_)
    refine jX (j + 1) (by omega) ⟨hlt,?_⟩ (Gh.le (cm (PLe.q (fu (by unfold maxLen; unfold ji at hl; omega))) (aQ (aQ bY))) bu bv)
    intro x hx
    rw [List.take_add_one,ze hlt] at hx
    simp only [Option.toList,List.mem_append,List.mem_singleton] at hx
    rcases hx with hx | rfl
    ·exact hpre x hx
    ·simpa using h
  have hge : j = L.length := by have : ¬ j < L.length := by simpa using h
                                omega
  repeat (first | refine ag tk rfl ?_ | refine ac ?_ | refine ab ?_ | refine aa ?_ | refine ca rfl ?_)
  refine db tk (PLe.q ?_)
  have : L.all mU = true := by
   rw [List.all_eq_true]
   rw [hge] at hpre
   simpa using hpre
  rw [this]
abbrev KR := Int × Bool × Int
abbrev pkr (r : KR) : PV := .tup [ah r.1,ay r.2.1,ah r.2.2]
def lF (kind : Int) (nullable ok : Bool) : KR := if ok then (kind,nullable,0) else (0,false,7)
theorem dW (kind : Int) (nullable ok : Bool) : aJ Tryz.prog 226 [ah kind,ay nullable,ay ok] (pkr (lF kind nullable ok)) := by
 refine PH.ap Tryz.func226 Tryz.ntmps226 ?_
 repeat' (first | (show Ao _ _ _ _ _; first | refine ag tk rfl ?_ | refine ac ?_) | (show V _ _ _ _ _; first | refine ab ?_ | refine aa ?_ | refine ao ?_ | refine co rfl (fun h=>?_) (fun h=>?_)))
 all_goals refine dI tk (PLe.q ?_)
 all_goals simp_all [lF]
def alikeB (a b : Int) : Bool := a == b || a == 0 || b == 0
theorem me (a b : Int) : aJ Tryz.prog 225 [ah a,ah b] (ay (alikeB a b)) := by
 refine PH.ap Tryz.func225 Tryz.ntmps225 ?_
 repeat' (first | (show Ao _ _ _ _ _; first | refine ag tk rfl ?_ | refine ac ?_ | ((fail_if_success refine gY rfl ?_); refine ia rfl rfl rfl (fun h=>?_) (fun h=>?_))) | (show V _ _ _ _ _; first | refine ab ?_ | refine aa ?_))
 all_goals refine db tk (PLe.q ?_)
 all_goals simp_all [alikeB]
theorem allOf1_spec (n want : Int) : aJ Tryz.prog 224 [ah n,.ptr [ah want]] (ay (n != want && n != 0)) := by
 refine PH.ap Tryz.func224 Tryz.ntmps224 ?_
 repeat' (first | (show Ao _ _ _ _ _; first | refine ag tk rfl ?_ | refine ac ?_ | ((fail_if_success refine gY rfl ?_); refine ia rfl rfl rfl (fun h=>?_) (fun h=>?_))) | (show V _ _ _ _ _; first | refine ab ?_ | refine aa ?_))
 all_goals refine db tk (PLe.q ?_)
 all_goals simp_all
def allOf (want : Int) (l : List Int) : Bool := !(l.any fun n=>n != want && n != 0)
theorem hM (want : Int) (l : List Int) : aJ Tryz.prog 222 [ah want,.ptr [pints l]] (ay (allOf want l)) := by
 refine PH.ap Tryz.func222 Tryz.ntmps222 ?_
 repeat' (first | (show Ao _ _ _ _ _; first | refine ag tk rfl ?_ | refine ac ?_ | refine aB ?_ | refine ak Tryz.call223 (fG.r) (containsInt (p := fun n=>n != want && n != 0) l Tryz.call224 fun n _=>allOf1_spec n want) ?_) | (show V _ _ _ _ _; first | refine ab ?_ | refine aa ?_))
 all_goals refine db tk (PLe.q rfl)
def iZ (x : Int) : KR := (0,false,x)
def fT (name : List UInt8) (kinds : List Int) (nullable : Bool) : KR :=
 if name == [43] || name == [45] || name == [42] then lF 1 true (allOf 1 kinds)
 else if name == [124,124] then lF 3 true (allOf 3 kinds)
 else if name == [108,101,110,103,116,104] then lF 1 nullable (allOf 3 kinds)
 else if name == [97,110,100] || name == [111,114] || name == [110,111,116] then lF 2 nullable (allOf 2 kinds)
 else if name == [105,115,32,110,117,108,108] then (2,false,0)
 else if name == [105,102] then lF (if kinds.getD 2 0 > kinds.getD 1 0 then kinds.getD 2 0 else kinds.getD 1 0) nullable (alikeB (kinds.getD 0 0) 2 && alikeB (kinds.getD 1 0) (kinds.getD 2 0))
 else lF 2 nullable (alikeB (kinds.getD 0 0) (kinds.getD 1 0))
def jB (name : List UInt8) (i : Int) (x : LVal) (ks : List KR) : KR :=
 if mz name ≠ some ks.length ∨ i ≠ 0 ∨ x ≠ .nul then iZ 3
 else match ks.find? fun r=>r.2.2 != 0 with
  | some r=>iZ r.2.2
  | none=>fT name (ks.map (·.1)) (ks.any (·.2.1))
mutual
def dH (cols vars : List LCol) : LExpr → KR
 | .mk k n i x args =>
  if k ≠ 5 ∧ 0 < args.length then iZ 3
  else if k == 1 then (if validV x && n == [] && i == 0 then (x.kind,x.kind == 0,0) else iZ 3)
  else if k == 3 then (if i < 0 ∨ i ≥ 8 ∨ n ≠ [] ∨ x.kind < 1 ∨ x.kind > 3 ∨ x ≠ ⟨x.kind,0,[]⟩ then iZ 3 else (x.kind,true,0))
  else if k == 2 || k == 4 then
   (if cN n && i == 0 && decide (x = .nul) then
    (let r := findV (if k == 4 then vars else cols) n
     if r.2 then (r.1.kind,r.1.nullable,0) else iZ 23)
    else iZ 3)
  else if k == 5 then jB n i x (kindsE cols vars args)
  else iZ 3
def kindsE (cols vars : List LCol) : List LExpr → List KR
 | []=>[]
 | e :: r=>dH cols vars e :: kindsE cols vars r
end
theorem kindsE_map (cols vars : List LCol) : ∀ l,kindsE cols vars l = l.map (dH cols vars)
 | []=>rfl
 | e :: r=>by simp [kindsE,kindsE_map cols vars r]
theorem arity_of_idx (name : List UInt8) : (bZ (fun x=>name == x) iV < 0 ∧ mz name = none) ∨
  ∃ a : Nat,0 ≤ bZ (fun x=>name == x) iV ∧ (opArity.map fun n=>[ah n])[(bZ (fun x=>name == x) iV).toNat]? = some [ah a] ∧ mz name = some a := by
 by_cases hn : name ∈ iV
 ·refine .inr ?_
  simp only [iV,List.mem_cons,List.mem_nil_iff,or_false] at hn
  rcases hn with rfl | rfl | rfl | rfl | rfl | rfl | rfl | rfl | rfl | rfl | rfl | rfl | rfl <;> exact ⟨_,by decide,rfl,rfl⟩
 ·refine .inl ⟨?_,?_⟩
  ·rw [mg fun x hx=>by
    cases hb : name == x with
    | false=>rfl
    | true=>exact absurd (by rw [eq_of_beq hb]; exact hx) hn]
   decide
  ·simp only [iV,List.mem_cons,List.mem_nil_iff,or_false,not_or] at hn
   simp [mz,hn]
theorem find_at {α : Type} {p : α → Bool} {l : List α} {j : Nat} (hlt : j < l.length) (hpre : ∀ x ∈ l.take j,p x = false) (h : p l[j] = true) : l.find? p = some l[j] := by
 rw [List.find?_eq_some_iff_getElem]
 refine ⟨h,j,hlt,rfl,fun i hi=>?_⟩
 have := hpre l[i] (List.mem_take_iff_getElem.2 ⟨i,by omega,rfl⟩)
 simp [this]
theorem kindRows {cols vars : List LCol} {args : List LExpr} {j : Nat} (h : j < args.length) : ((args.take j).map (dH cols vars)).map (fun r=>[ah r.1]) ++ [[ah (dH cols vars args[j]).1]] = ((args.take (j + 1)).map (dH cols vars)).map fun r=>[ah r.1] := by
 rw [List.take_add_one,ze h]
 simp only [List.map_append,Option.toList,List.map_cons,List.map_nil]
theorem kindAny {cols vars : List LCol} {args : List LExpr} {j : Nat} (h : j < args.length) : ((args.take (j + 1)).map (dH cols vars)).any (·.2.1) = (((args.take j).map (dH cols vars)).any (·.2.1) || (dH cols vars args[j]).2.1) := by
 rw [List.take_add_one,ze h]
 simp only [List.map_append,List.any_append,Option.toList,List.map_cons,List.map_nil,List.any_cons,List.any_nil,Bool.or_false]
theorem opKind_spec (cols vars : List LCol) (e : LExpr) (ih : ∀ a ∈ e.args,aJ Tryz.prog 194 [ip cols,ip vars,jM a] (pkr (dH cols vars a))) :
  aJ Tryz.prog 211 [ip cols,ip vars,jM e] (pkr (jB e.name e.index e.value (e.args.map (dH cols vars)))) := by
 rcases arity_of_idx e.name with ⟨hK,ha⟩ | ⟨ar,hK,hr,ha⟩
 ·refine PH.ap Tryz.func211 Tryz.ntmps211 ?_
  repeat' (first | (show Ao _ _ _ _ _; first | refine ag tk rfl ?_ | refine ac ?_ | refine aB ?_ | refine ak Tryz.call181 (fG.r) (opsS) ?_ | refine ak Tryz.call97 (fG.r) (indexStr _ _) ?_) | (show V _ _ _ _ _; first | refine ab ?_ | refine aa ?_ | refine bU rfl ?_ | (show V _ _ _ (.code (.region 3 _ true) :: _) _; refine bn tk mok ⟨false,false,[]⟩ [0,1,2,3,4,5,6,7,8,9,10,11,12,13,14,15,16,17,18,19,20,21,22] rfl (by decide +kernel) rfl ?_)) | (show Do _ _ _ _ _ _ _; first | refine bt rfl ?_ | refine bf ?_ | ((fail_if_success refine oY rfl rfl ?_); refine oH rfl rfl rfl rfl (fun h=>?_) (fun h=>?_))))
  all_goals try (exfalso; simp_all <;> omega; done)
  all_goals refine dI tk (PLe.q ?_)
  all_goals (have : jB e.name e.index e.value (e.args.map (dH cols vars)) = iZ 3 := by simp [jB,ha])
  all_goals (rw [this]; rfl)
 ·refine PH.ap Tryz.func211 Tryz.ntmps211 ?_
  repeat' (first | (show Ao _ _ _ _ _; first | refine ag tk rfl ?_ | refine ac ?_ | refine aB ?_ | (refine jR tk rfl rfl rfl rfl rfl rfl ?_; intro bk) | refine ak Tryz.call181 (fG.r) (opsS) ?_ | refine ak Tryz.call97 (fG.r) (indexStr _ _) ?_) | (show V _ _ _ _ _; first | refine ab ?_ | refine aa ?_ | refine ao ?_ | refine bU rfl ?_ | refine az ?_ | (show V _ _ _ (.code (.region 3 _ true) :: _) _; refine bn tk mok ⟨false,false,[]⟩ [0,1,2,3,4,5,6,7,8,9,10,11,12,13,14,15,16,17,18,19,20,21,22] rfl (by decide +kernel) rfl ?_) | refine co rfl (fun h=>?_) (fun h=>?_)) | (show Do _ _ _ _ _ _ _; first | refine bt rfl ?_ | refine bf ?_ | refine aZ hK hr ?_ | ((fail_if_success refine oY rfl rfl ?_); refine oH rfl rfl rfl rfl (fun h=>?_) (fun h=>?_))))
  all_goals try (exfalso; simp_all <;> omega; done)
  case inr.refine_2.refine_1 =>
   refine dI tk (PLe.q ?_)
   rw [jB,zp (.inl (by rw [ha]; simp at h ⊢; omega))]
   rfl
  case inr.refine_2.refine_2.refine_1 =>
   refine dI tk (PLe.q ?_)
   rw [jB,zp (.inr (.inl (by simpa using h)))]
   rfl
  case inr.refine_2.refine_2.refine_2.refine_1 =>
   refine dI tk (PLe.q ?_)
   rw [jB,zp (.inr (.inr (by intro hh; rw [hh] at h; simp [LVal.nul] at h)))]
   rfl
  rename_i h0 h1 h2
  have hlen : e.args.length = ar := by
   simp at h1
   omega
  have hgood : ¬ (mz e.name ≠ some (e.args.map (dH cols vars)).length ∨ e.index ≠ 0 ∨ e.value ≠ .nul) := by
   rw [ha]
   rintro (h3 | h3 | h3)
   ·simp [hlen] at h3
   ·exact h3 (by simpa using h2)
   ·apply h3
    cases hv : e.value
    rw [hv] at h
    simp at h
    simp [LVal.nul,h]
  rw [jB,zy hgood]
  refine gv tk 53 rfl rfl fun hl hby=>?_
  rw [zl] at hl hby
  have hby' : e.args.length * 88 ≤ 2 ^ 47 := hby
  refine jq tk 12 0 12 (e := 3) rfl rfl rfl rfl ?_
  refine js (X := Nat × OwnRef) (fun X=>⟨164,upd (upd (upd (upd (upd (upd (upd (upd (fun _=>.any) 13 (ay (((e.args.take X.1).map (dH cols vars)).any (·.2.1)))) 12 (.box 12 bk 0)) 5 (.ptr (bE e))) 1 (ip vars)) 0 (ip cols)) 53 (pexprs e.args)) 54 (ah (e.args.map aE).length)) 55 (ah X.1),upd (fun _=>none) 12 (some ⟨bk,[.own 12 X.2 (((e.args.take X.1).map (dH cols vars)).map fun r=>[ah r.1]).length]⟩),upd (fun _=>none) 12 (some ⟨X.2,3,((e.args.take X.1).map (dH cols vars)).map fun r=>[ah r.1],true⟩)⟩)
   (fun X=>X.1 ≤ e.args.length ∧ ∀ x ∈ (e.args.map (dH cols vars)).take X.1,(x.2.2 != 0) = false) (fun X=>e.args.length - X.1) (0,⟨none,0⟩) ⟨Nat.zero_le _,by simp⟩ (Gh.le (aQ (aQ (aQ (aQ (aQ (aQ (aQ (aQ bY)))))))) (be rfl (fG.r) bu) (dp bv)) ?_
  rintro ⟨j,g⟩ ⟨hj,hpre⟩
  replace hj : j ≤ e.args.length := hj
  replace hpre : ∀ x ∈ (e.args.map (dH cols vars)).take j,(x.2.2 != 0) = false := hpre
  repeat (first | refine ag tk rfl ?_ | refine ac ?_ | refine ab ?_ | refine aa ?_)
  refine co rfl (fun h=>?_) (fun h=>?_)
  ·have hlt : j < e.args.length := by simpa using h
   have hlt' : j < (e.args.map (dH cols vars)).length := by simpa using hlt
   repeat (first | refine ab ?_ | refine aa ?_ | refine ao ?_ | refine az ?_)
   refine aN tk (zn j) (getExpr hlt) ?_
   repeat (first | refine ag tk rfl ?_ | refine ac ?_ | refine ab ?_ | refine aa ?_ | refine aq tk ?_ | (refine jR tk rfl rfl rfl rfl rfl rfl ?_; intro bk) | refine am tk ?_)
   refine ak Tryz.call194 (fG.r) (ih _ (List.getElem_mem hlt)) ?_
   repeat (first | refine ag tk rfl ?_ | refine ac ?_ | refine ab ?_ | refine aa ?_)
   refine co rfl (fun h=>?_) (fun h=>?_)
   ·repeat (first | refine ag tk rfl ?_ | refine ac ?_ | refine ab ?_ | refine aa ?_)
    refine dI tk (PLe.q ?_)
    rw [find_at hlt' hpre (by simpa using h),List.getElem_map]
    rfl
   ·repeat (first | refine ag tk rfl ?_ | refine aa ?_ | refine ao ?_ | refine aq tk ?_ | refine qZ tk rfl rfl rfl rfl rfl rfl ?_)
    refine rl (rows2 := [[ah (dH cols vars e.args[j]).1]]) tk rfl rfl rfl rfl rfl rfl rfl rfl rfl rfl rfl rfl rfl ?_ ?_ fun g'=>?_
    ·simp only [zl,List.length_take,List.length_cons,List.length_nil]
     rw [Nat.min_eq_left hj]
     show (j + 1) * 8 ≤ 2 ^ 47
     omega
    ·simp only [zl,List.length_take,List.length_cons,List.length_nil]
     omega
    repeat (refine ag tk rfl ?_)
    have hpre' : ∀ x ∈ (e.args.map (dH cols vars)).take (j + 1),(x.2.2 != 0) = false := oK (p := fun x : KR=>x.2.2 != 0) hlt' hpre (by rw [List.getElem_map]; exact h)
    have hany := kindAny (cols := cols) (vars := vars) hlt
    refine ia rfl rfl rfl (fun hn=>?_) (fun hn=>?_)
    ·repeat (first | refine ag tk rfl ?_ | refine ac ?_ | refine aa ?_ | refine aP ?_ | refine am tk ?_)
     rw [kindRows hlt]
     refine jX (j + 1,g') ?_ ⟨hlt,hpre'⟩ (Gh.le (cm (PLe.q (fu (by omega))) (aQ (aQ (aQ (aQ (aQ (aQ (cm (PLe.q (by rw [hany,hn]; rfl)) bY)))))))) (be rfl (fG.r) bu) (dp bv))
     show e.args.length - (j + 1) < e.args.length - j
     omega
    ·repeat (first | refine ag tk rfl ?_ | refine ac ?_ | refine aa ?_ | refine aP ?_ | refine am tk ?_)
     rw [kindRows hlt]
     refine jX (j + 1,g') ?_ ⟨hlt,hpre'⟩ (Gh.le (cm (PLe.q (fu (by omega))) (aQ (aQ (aQ (aQ (aQ (aQ (cm (PLe.q (by rw [hany,hn]; rfl)) bY)))))))) (be rfl (fG.r) bu) (dp bv))
     show e.args.length - (j + 1) < e.args.length - j
     omega
  have hge : j = e.args.length := by have : ¬ j < e.args.length := by simpa using h
                                     omega
  subst hge
  refine fL 12 0 rfl rfl rfl rfl rfl (fN 12 ?_)
  have hks : (e.args.map (dH cols vars)).find? (fun r=>r.2.2 != 0) = none := by
   rw [List.find?_eq_none]
   intro x hx
   have := hpre x (by rw [List.take_of_length_le (by simp)]; exact hx)
   simp [this]
  rw [hks]
  simp only [List.take_length]
  have hlk : (e.args.map (dH cols vars)).length = ar := by simp [hlen]
  generalize e.args.map (dH cols vars) = KS at hlk
  refine jU (st' := ⟨164,upd (upd (upd (fun _=>.any) 13 (ay (KS.any (·.2.1)))) 12 (.ptr [pints (KS.map (·.1))])) 5 (.ptr [ah e.kind,.str e.name,ah e.index,ah e.value.kind,ah e.value.int,.str e.value.text,pexprs e.args]),fun _=>none,fun _=>none⟩) (Gh.le (aQ (cm (PLe.q (show PV.ptr [.list 3 (KS.map fun r=>[ah r.1])] = _ from by simp)) (aQ bY))) bu bv) ?_
  replace hlk : (KS.map (·.1)).length = ar := by simpa using hlk
  generalize KS.map (·.1) = kinds at hlk
  generalize KS.any (·.2.1) = nl
  generalize e.name = name at ha
  clear hpre hks hgood h0 h1 h2 h hr hK ih hlen
  by_cases hn : name ∈ iV
  ·simp only [iV,List.mem_cons,List.mem_nil_iff,or_false] at hn
   rcases hn with rfl | rfl | rfl | rfl | rfl | rfl | rfl | rfl | rfl | rfl | rfl | rfl | rfl
   ·have har : ar = 2 := by have : some 2 = some ar := ha; exact (Option.some.inj this).symm
    subst har
    obtain ⟨a,b,rfl⟩ := len2 hlk
    repeat' (first | (show Ao _ _ _ _ _; first | refine ag tk rfl ?_ | refine ac ?_ | refine ak Tryz.call222 (fG.r) (hM _ _) ?_ | refine ak Tryz.call226 (fG.r) (dW _ _ _) ?_) | (show V _ _ _ _ _; first | refine ab ?_ | refine aa ?_ | refine ao ?_ | refine bU rfl ?_ | refine az ?_ | refine ca rfl ?_))
    all_goals refine dI tk (PLe.q ?_)
    all_goals simp_all [fT]
   ·have har : ar = 2 := by have : some 2 = some ar := ha; exact (Option.some.inj this).symm
    subst har
    obtain ⟨a,b,rfl⟩ := len2 hlk
    repeat' (first | (show Ao _ _ _ _ _; first | refine ag tk rfl ?_ | refine ac ?_ | refine ak Tryz.call222 (fG.r) (hM _ _) ?_ | refine ak Tryz.call226 (fG.r) (dW _ _ _) ?_) | (show V _ _ _ _ _; first | refine ab ?_ | refine aa ?_ | refine ao ?_ | refine bU rfl ?_ | refine dl rfl ?_ | refine az ?_ | refine ca rfl ?_))
    all_goals refine dI tk (PLe.q ?_)
    all_goals simp_all [fT]
   ·have har : ar = 2 := by have : some 2 = some ar := ha; exact (Option.some.inj this).symm
    subst har
    obtain ⟨a,b,rfl⟩ := len2 hlk
    repeat' (first | (show Ao _ _ _ _ _; first | refine ag tk rfl ?_ | refine ac ?_ | refine ak Tryz.call222 (fG.r) (hM _ _) ?_ | refine ak Tryz.call226 (fG.r) (dW _ _ _) ?_) | (show V _ _ _ _ _; first | refine ab ?_ | refine aa ?_ | refine bU rfl ?_ | refine dl rfl ?_ | refine az ?_ | refine ca rfl ?_))
    all_goals refine dI tk (PLe.q ?_)
    all_goals simp_all [fT]
   ·have har : ar = 2 := by have : some 2 = some ar := ha; exact (Option.some.inj this).symm
    subst har
    obtain ⟨a,b,rfl⟩ := len2 hlk
    repeat' (first | (show Ao _ _ _ _ _; first | refine ag tk rfl ?_ | refine ac ?_) | (show V _ _ _ _ _; first | refine ab ?_ | refine aa ?_ | refine ao ?_ | refine dl rfl ?_ | refine az ?_ | refine aP ?_ | refine ca rfl ?_ | (show V _ _ _ (.code (.region 34 _ true) :: _) _; refine bn tk mok ⟨false,false,[]⟩ [0,1,2,3,4,5,6,7,8,9,10,11,12,13,14,15] rfl (by decide +kernel) rfl ?_)) | (show Do _ _ _ _ _ _ _; first | refine bt rfl ?_ | refine bf ?_ | refine bq Tryz.call225 (fG.r) (me _ _) ?_ | refine bq Tryz.call226 (fG.r) (dW _ _ _) ?_))
    all_goals refine dI tk (PLe.q ?_)
    all_goals simp_all [fT]
   ·have har : ar = 2 := by have : some 2 = some ar := ha; exact (Option.some.inj this).symm
    subst har
    obtain ⟨a,b,rfl⟩ := len2 hlk
    repeat' (first | (show Ao _ _ _ _ _; first | refine ag tk rfl ?_ | refine ac ?_) | (show V _ _ _ _ _; first | refine ab ?_ | refine aa ?_ | refine ao ?_ | refine dl rfl ?_ | refine az ?_ | refine aP ?_ | refine ca rfl ?_ | (show V _ _ _ (.code (.region 34 _ true) :: _) _; refine bn tk mok ⟨false,false,[]⟩ [0,1,2,3,4,5,6,7,8,9,10,11,12,13,14,15] rfl (by decide +kernel) rfl ?_)) | (show Do _ _ _ _ _ _ _; first | refine bt rfl ?_ | refine bf ?_ | refine bq Tryz.call225 (fG.r) (me _ _) ?_ | refine bq Tryz.call226 (fG.r) (dW _ _ _) ?_))
    all_goals refine dI tk (PLe.q ?_)
    all_goals simp_all [fT]
   ·have har : ar = 2 := by have : some 2 = some ar := ha; exact (Option.some.inj this).symm
    subst har
    obtain ⟨a,b,rfl⟩ := len2 hlk
    repeat' (first | (show Ao _ _ _ _ _; first | refine ag tk rfl ?_ | refine ac ?_) | (show V _ _ _ _ _; first | refine ab ?_ | refine aa ?_ | refine ao ?_ | refine dl rfl ?_ | refine az ?_ | refine aP ?_ | refine ca rfl ?_ | (show V _ _ _ (.code (.region 34 _ true) :: _) _; refine bn tk mok ⟨false,false,[]⟩ [0,1,2,3,4,5,6,7,8,9,10,11,12,13,14,15] rfl (by decide +kernel) rfl ?_)) | (show Do _ _ _ _ _ _ _; first | refine bt rfl ?_ | refine bf ?_ | refine bq Tryz.call225 (fG.r) (me _ _) ?_ | refine bq Tryz.call226 (fG.r) (dW _ _ _) ?_))
    all_goals refine dI tk (PLe.q ?_)
    all_goals simp_all [fT]
   ·have har : ar = 2 := by have : some 2 = some ar := ha; exact (Option.some.inj this).symm
    subst har
    obtain ⟨a,b,rfl⟩ := len2 hlk
    repeat' (first | (show Ao _ _ _ _ _; first | refine ag tk rfl ?_ | refine ac ?_ | refine ak Tryz.call222 (fG.r) (hM _ _) ?_ | refine ak Tryz.call226 (fG.r) (dW _ _ _) ?_) | (show V _ _ _ _ _; first | refine ab ?_ | refine aa ?_ | refine ao ?_ | refine bU rfl ?_ | refine dl rfl ?_ | refine az ?_ | refine ca rfl ?_))
    all_goals refine dI tk (PLe.q ?_)
    all_goals simp_all [fT]
   ·have har : ar = 2 := by have : some 2 = some ar := ha; exact (Option.some.inj this).symm
    subst har
    obtain ⟨a,b,rfl⟩ := len2 hlk
    repeat' (first | (show Ao _ _ _ _ _; first | refine ag tk rfl ?_ | refine ac ?_ | refine ak Tryz.call222 (fG.r) (hM _ _) ?_ | refine ak Tryz.call226 (fG.r) (dW _ _ _) ?_) | (show V _ _ _ _ _; first | refine ab ?_ | refine aa ?_ | refine ao ?_ | refine bU rfl ?_ | refine dl rfl ?_ | refine az ?_ | refine ca rfl ?_))
    all_goals refine dI tk (PLe.q ?_)
    all_goals simp_all [fT]
   ·have har : ar = 1 := by have : some 1 = some ar := ha; exact (Option.some.inj this).symm
    subst har
    obtain ⟨a,rfl⟩ := List.length_eq_one_iff.1 hlk
    repeat' (first | (show Ao _ _ _ _ _; first | refine ag tk rfl ?_ | refine ac ?_ | refine ak Tryz.call222 (fG.r) (hM _ _) ?_ | refine ak Tryz.call226 (fG.r) (dW _ _ _) ?_) | (show V _ _ _ _ _; first | refine ab ?_ | refine aa ?_ | refine bU rfl ?_ | refine dl rfl ?_ | refine az ?_ | refine ca rfl ?_))
    all_goals refine dI tk (PLe.q ?_)
    all_goals simp_all [fT]
   ·have har : ar = 2 := by have : some 2 = some ar := ha; exact (Option.some.inj this).symm
    subst har
    obtain ⟨a,b,rfl⟩ := len2 hlk
    repeat' (first | (show Ao _ _ _ _ _; first | refine ag tk rfl ?_ | refine ac ?_ | refine ak Tryz.call222 (fG.r) (hM _ _) ?_ | refine ak Tryz.call226 (fG.r) (dW _ _ _) ?_) | (show V _ _ _ _ _; first | refine ab ?_ | refine aa ?_ | refine bU rfl ?_ | refine dl rfl ?_ | refine az ?_ | refine ca rfl ?_))
    all_goals refine dI tk (PLe.q ?_)
    all_goals simp_all [fT]
   ·have har : ar = 1 := by have : some 1 = some ar := ha; exact (Option.some.inj this).symm
    subst har
    obtain ⟨a,rfl⟩ := List.length_eq_one_iff.1 hlk
    repeat' (first | (show Ao _ _ _ _ _; first | refine ag tk rfl ?_ | refine ac ?_) | (show V _ _ _ _ _; first | refine ab ?_ | refine aa ?_ | refine bU rfl ?_ | refine dl rfl ?_ | refine az ?_ | refine ca rfl ?_))
    all_goals refine dI tk (PLe.q ?_)
    all_goals simp_all [fT]
   ·have har : ar = 1 := by have : some 1 = some ar := ha; exact (Option.some.inj this).symm
    subst har
    obtain ⟨a,rfl⟩ := List.length_eq_one_iff.1 hlk
    repeat' (first | (show Ao _ _ _ _ _; first | refine ag tk rfl ?_ | refine ac ?_ | refine ak Tryz.call222 (fG.r) (hM _ _) ?_ | refine ak Tryz.call226 (fG.r) (dW _ _ _) ?_) | (show V _ _ _ _ _; first | refine ab ?_ | refine aa ?_ | refine bU rfl ?_ | refine dl rfl ?_ | refine az ?_ | refine ca rfl ?_))
    all_goals refine dI tk (PLe.q ?_)
    all_goals simp_all [fT]
   ·have har : ar = 3 := by have : some 3 = some ar := ha; exact (Option.some.inj this).symm
    subst har
    obtain ⟨a,b,c,rfl⟩ := len3 hlk
    repeat' (first | (show Ao _ _ _ _ _; first | refine ag tk rfl ?_ | refine ac ?_) | (show V _ _ _ _ _; first | refine ab ?_ | refine aa ?_ | refine bU rfl ?_ | refine dl rfl ?_ | refine az ?_ | refine ca rfl ?_ | (show V _ _ _ (.code (.region 33 _ true) :: _) _; refine bn tk mok ⟨false,false,[]⟩ [0,1,2,3,4,5,6,7,8,9,10,11,12,13,14,15,16,17,18,19,20,21,22,23,24,25,26,27,28,29] rfl (by decide +kernel) rfl ?_)) | (show Do _ _ _ _ _ _ _; first | refine bt rfl ?_ | refine bf ?_ | refine bq Tryz.call225 (fG.r) (me _ _) ?_ | refine bq Tryz.call226 (fG.r) (dW _ _ _) ?_ | ((fail_if_success refine oY rfl rfl ?_); refine oH rfl rfl rfl rfl (fun h=>?_) (fun h=>?_))))
    all_goals refine dI tk (PLe.q ?_)
    all_goals simp_all [fT]
  ·simp only [iV,List.mem_cons,List.mem_nil_iff,or_false,not_or] at hn
   simp [mz,hn] at ha
theorem kindE_eq (cols vars : List LCol) (e : LExpr) : dH cols vars e =
  if e.kind ≠ 5 ∧ 0 < e.args.length then iZ 3
  else if e.kind == 1 then (if validV e.value && e.name == [] && e.index == 0 then (e.value.kind,e.value.kind == 0,0) else iZ 3)
  else if e.kind == 3 then (if e.index < 0 ∨ e.index ≥ 8 ∨ e.name ≠ [] ∨ e.value.kind < 1 ∨ e.value.kind > 3 ∨ e.value ≠ ⟨e.value.kind,0,[]⟩ then iZ 3 else (e.value.kind,true,0))
  else if e.kind == 2 || e.kind == 4 then
   (if cN e.name && e.index == 0 && decide (e.value = .nul) then
    (if (findV (if e.kind == 4 then vars else cols) e.name).2 then ((findV (if e.kind == 4 then vars else cols) e.name).1.kind,(findV (if e.kind == 4 then vars else cols) e.name).1.nullable,0) else iZ 23)
    else iZ 3)
  else if e.kind == 5 then jB e.name e.index e.value (e.args.map (dH cols vars))
  else iZ 3 := by
 cases e
 rw [dH,kindsE_map]
 rfl
theorem valNul_iff (x : LVal) : x = .nul ↔ x.kind = 0 ∧ x.int = 0 ∧ x.text = [] := by
 cases x
 simp [LVal.nul]
theorem valK_iff (x : LVal) : x = ⟨x.kind,0,[]⟩ ↔ x.int = 0 ∧ x.text = [] := by
 cases x
 simp
theorem kindStep (cols vars : List LCol) (e : LExpr) (ih : ∀ a ∈ e.args,aJ Tryz.prog 194 [ip cols,ip vars,jM a] (pkr (dH cols vars a))) :
  aJ Tryz.prog 194 [ip cols,ip vars,jM e] (pkr (dH cols vars e)) := by
 refine PH.ap Tryz.func194 Tryz.ntmps194 ?_
 repeat' (first | (show Ao _ _ _ _ _; first | refine ag tk rfl ?_ | refine ac ?_ | refine aB ?_ | (refine jR tk rfl rfl rfl rfl rfl rfl ?_; intro bk) | refine am tk ?_ | refine ak Tryz.call109 (fG.r) (validV_spec _) ?_ | refine ak Tryz.call191 (fG.r) (kD _) ?_ | refine ak Tryz.call210 (fG.r) (find_spec _ _) ?_ | refine ak Tryz.call211 (fG.r) (opKind_spec cols vars e ih) ?_ | ((fail_if_success refine gY rfl ?_); refine ia rfl rfl rfl (fun h=>?_) (fun h=>?_))) | (show V _ _ _ _ _; first | refine ab ?_ | refine aa ?_ | refine ao ?_ | refine bU rfl ?_ | refine dl rfl ?_ | refine az ?_ | refine aP ?_ | (show V _ _ _ (.code (.region 7 _ true) :: _) _; refine bn tk mok ⟨true,false,[]⟩ [0,1,2,3,4,5,6,7,8,9] rfl (by decide +kernel) rfl ?_) | (show V _ _ _ (.code (.region 22 _ true) :: _) _; refine bn tk mok ⟨true,false,[]⟩ [0,1,2,3,4,5,6] rfl (by decide +kernel) rfl ?_) | refine co rfl (fun h=>?_) (fun h=>?_)) | (show Do _ _ _ _ _ _ _; first | refine bt rfl ?_ | refine bf ?_ | refine bI ?_))
 all_goals refine dI tk (PLe.q ?_)
 all_goals rw [kindE_eq]
 all_goals (simp only [zl,Bool.not_eq_true',decide_eq_true_eq,decide_eq_false_iff_not,bne_iff_ne,beq_iff_eq,ne_eq,beq_eq_false_iff_ne,bne_eq_false_iff_eq] at *)
 all_goals try simp_all [iZ,valNul_iff,valK_iff]
 all_goals (rw [zy (by first | omega | (rintro ⟨q1,q2,q3⟩; exact h q1 q2 q3))]; exact ⟨rfl,rfl,rfl⟩)
theorem kind_spec (cols vars : List LCol) : ∀ e : LExpr,aJ Tryz.prog 194 [ip cols,ip vars,jM e] (pkr (dH cols vars e))
 | .mk k n i x args=>kindStep cols vars (.mk k n i x args) fun a ha=>by
  have ha' : a ∈ args := ha
  exact kind_spec cols vars a
def el (cols vars : List LCol) (e : LExpr) : KR := if (gg e).1 > 60 ∨ (gg e).2 > 12 then iZ 2 else dH cols vars e
theorem lA (cols vars : List LCol) (e : LExpr) : aJ Tryz.prog 169 [ip cols,ip vars,jM e] (pkr (el cols vars e)) := by
 refine PH.ap Tryz.func169 Tryz.ntmps169 ?_
 repeat' (first | (show Ao _ _ _ _ _; first | refine ag tk rfl ?_ | refine ac ?_ | refine aB ?_ | refine ak Tryz.call193 (fG.r) (size_spec _) ?_ | refine ak Tryz.call194 (fG.r) (kind_spec _ _ _) ?_ | ((fail_if_success refine gY rfl ?_); refine ia rfl rfl rfl (fun h=>?_) (fun h=>?_))) | (show V _ _ _ _ _; first | refine ab ?_ | refine aa ?_ | refine ao ?_ | refine bU rfl ?_ | refine co rfl (fun h=>?_) (fun h=>?_)))
 all_goals refine dI tk (PLe.q ?_)
 all_goals simp_all [el,iZ]
 rw [zy (by omega)]
 exact ⟨rfl,rfl,rfl⟩
mutual
def gw : LExpr → Int → Int
 | .mk _ _ _ _ args,m=>kL args m
def kL : List LExpr → Int → Int
 | [],m=>m
 | a :: r,m=>if wr (m - 1) < 0 then -1 else if gw a (wr (m - 1)) < 0 then -1 else kL r (gw a (wr (m - 1)))
end
theorem nodesE_eq (e : LExpr) (m : Int) : gw e m = kL e.args m := by
 cases e
 rw [gw]
 rfl
theorem nodesStep (e : LExpr) (most : Int) (ih : ∀ a ∈ e.args,∀ m,aJ Tryz.prog 41 [jM a,ah m] (ah (gw a m))) :
  aJ Tryz.prog 41 [jM e,ah most] (ah (gw e most)) := by
 rw [nodesE_eq]
 refine PH.ap Tryz.func41 Tryz.ntmps41 ?_
 repeat (first | refine ag tk rfl ?_ | refine ac ?_ | refine ab ?_ | refine aa ?_ | refine az ?_ | refine aB ?_)
 refine gv tk 8 rfl rfl fun hl _=>?_
 rw [zl] at hl
 refine js (X := Nat × Int) (fun X=>⟨25,upd (upd (upd (upd (fun _=>.any) 1 (ah X.2)) 8 (pexprs e.args)) 9 (ah (e.args.map aE).length)) 10 (ah X.1),fun _=>none,fun _=>none⟩)
  (fun X=>X.1 ≤ e.args.length ∧ kL (e.args.drop X.1) X.2 = kL e.args most) (fun X=>e.args.length - X.1) (0,most) ⟨Nat.zero_le _,rfl⟩ (Gh.le (aQ (aQ (aQ (aQ bY)))) bu bv) ?_
 rintro ⟨j,m⟩ ⟨hj,hm⟩
 replace hj : j ≤ e.args.length := hj
 replace hm : kL (e.args.drop j) m = kL e.args most := hm
 rw [← hm]
 repeat (first | refine ag tk rfl ?_ | refine ac ?_ | refine ab ?_ | refine aa ?_)
 refine co rfl (fun h=>?_) (fun h=>?_)
 ·have hlt : j < e.args.length := by simpa using h
  have hd : e.args.drop j = e.args[j] :: e.args.drop (j + 1) := List.drop_eq_getElem_cons hlt
  rw [hd,kL]
  repeat (first | refine ab ?_ | refine aa ?_ | refine ao ?_ | refine az ?_)
  refine aN tk (zn j) (getExpr hlt) ?_
  repeat (first | refine ag tk rfl ?_ | refine ac ?_ | refine ab ?_ | refine aa ?_ | (refine jR tk rfl rfl rfl rfl rfl rfl ?_; intro bk) | refine am tk ?_)
  refine co rfl (fun h1=>?_) (fun h1=>?_)
  ·repeat (first | refine ag tk rfl ?_ | refine ac ?_ | refine ab ?_ | refine aa ?_)
   refine db tk (PLe.q ?_)
   rw [zp (by simpa [wr] using h1)]
  ·rw [zy (by simpa [wr] using h1)]
   repeat (first | refine ag tk rfl ?_ | refine ab ?_ | refine aa ?_ | refine ao ?_ | refine aq tk ?_)
   refine ak Tryz.call41 (fG.r) (ih _ (List.getElem_mem hlt) _) ?_
   repeat (first | refine ag tk rfl ?_ | refine ac ?_ | refine ab ?_ | refine aa ?_)
   refine co rfl (fun h2=>?_) (fun h2=>?_)
   ·repeat (first | refine ag tk rfl ?_ | refine ac ?_ | refine ab ?_ | refine aa ?_)
    refine db tk (PLe.q ?_)
    rw [zp (by simpa [wr] using h2)]
   ·repeat (first | refine ag tk rfl ?_ | refine ac ?_ | refine aa ?_ | refine ao ?_ | refine aP ?_)
    refine jX (j + 1,gw e.args[j] (wr (m - 1))) ?_ ⟨hlt,?_⟩ (Gh.le (cm (PLe.q (fu (by omega))) (aQ (aQ (aQ bY)))) bu bv)
    ·show e.args.length - (j + 1) < e.args.length - j
     omega
    ·rw [zy (by simpa [wr] using h2)]
 have hge : j = e.args.length := by have : ¬ j < e.args.length := by simpa using h
                                    omega
 repeat (first | refine ag tk rfl ?_ | refine ac ?_ | refine ab ?_ | refine aa ?_ | refine ca rfl ?_)
 refine db tk (PLe.q ?_)
 rw [hge,List.drop_length,kL]
theorem oX : ∀ (e : LExpr) (m : Int),aJ Tryz.prog 41 [jM e,ah m] (ah (gw e m))
 | .mk k n i x args,m=>nodesStep (.mk k n i x args) m fun a ha m=>by
  have ha' : a ∈ args := ha
  exact oX a m
end
end Go.Proofs.YtpgalfinchajnaaGreatDoor

namespace Go.Proofs.YtpgalfinchajnaaGreatDoor
noncomputable section
open Go Go.Ab
structure LTable where
 name : List UInt8
 columns : List LCol
 primaryKey : List Int
 deriving DecidableEq
@[simp] def bS (x : LTable) : List PV := [(.str x.name),(.list 58 (x.columns.map aT)),(.list 3 (x.primaryKey.map aY))]
structure LForeignKey where
 table : List UInt8
 columns : List Int
 refTable : List UInt8
 deriving DecidableEq
@[simp] def im (x : LForeignKey) : List PV := [(.str x.table),(.list 3 (x.columns.map aY)),(.str x.refTable)]
structure LConstraint where
 table : List UInt8
 left : Int
 op : List UInt8
 right : Int
 value : LVal
 deriving DecidableEq
@[simp] def jy (x : LConstraint) : List PV := [(.str x.table),(ah x.left),(.str x.op),(ah x.right),(ah x.value.kind),(ah x.value.int),(.str x.value.text)]
structure LSchema where
 tables : List LTable
 foreignKeys : List LForeignKey
 constraints : List LConstraint
 deriving DecidableEq
@[simp] def bs (x : LSchema) : List PV := [(.list 61 (x.tables.map bS)),(.list 121 (x.foreignKeys.map im)),(.list 127 (x.constraints.map jy))]
structure LAggregateCall where
 name : List UInt8
 function : List UInt8
 args : List LExpr
@[simp] def eT (x : LAggregateCall) : List PV := [(.str x.name),(.str x.function),(.list 92 (x.args.map aE))]
inductive LQuery where
 | mk (kind : Int) (table : List UInt8) (names : List (List UInt8)) (exprs : List LExpr) (aggregates : List LAggregateCall) (descending : List Bool) (count : Int) (offset : Int) (inputs : List LQuery)
def LQuery.kind : LQuery → Int | .mk a _ _ _ _ _ _ _ _=>a
def LQuery.table : LQuery → List UInt8 | .mk _ a _ _ _ _ _ _ _=>a
def LQuery.names : LQuery → List (List UInt8) | .mk _ _ a _ _ _ _ _ _=>a
def LQuery.exprs : LQuery → List LExpr | .mk _ _ _ a _ _ _ _ _=>a
def LQuery.aggregates : LQuery → List LAggregateCall | .mk _ _ _ _ a _ _ _ _=>a
def LQuery.descending : LQuery → List Bool | .mk _ _ _ _ _ a _ _ _=>a
def LQuery.count : LQuery → Int | .mk _ _ _ _ _ _ a _ _=>a
def LQuery.offset : LQuery → Int | .mk _ _ _ _ _ _ _ a _=>a
def LQuery.inputs : LQuery → List LQuery | .mk _ _ _ _ _ _ _ _ a=>a
mutual
def bp : LQuery → List PV
 | .mk f0 f1 f2 f3 f4 f5 f6 f7 f8=>[(ah f0),(.str f1),(.list 9 (f2.map bm)),(.list 92 (f3.map aE)),(.list 118 (f4.map eT)),(.list 4 (f5.map jb)),(ah f6),(ah f7),.list 34 (nw f8)]
def nw : List LQuery → List (List PV)
 | []=>[]
 | e :: r=>bp e :: nw r
end
theorem pg : ∀ l,nw l = l.map bp
 | []=>rfl
 | e :: r=>by simp [nw,pg r]
def aw (x : LQuery) : List PV := [(ah x.kind),(.str x.table),(.list 9 (x.names.map bm)),(.list 92 (x.exprs.map aE)),(.list 118 (x.aggregates.map eT)),(.list 4 (x.descending.map jb)),(ah x.count),(ah x.offset),(.list 34 (x.inputs.map bp))]
theorem bw (x : LQuery) : bp x = aw x := by
 cases x
 simp [bp,aw,pg,LQuery.kind,LQuery.table,LQuery.names,LQuery.exprs,LQuery.aggregates,LQuery.descending,LQuery.count,LQuery.offset,LQuery.inputs]
structure LCardinalityTableSize where
 table : List UInt8
 rows : Int
 deriving DecidableEq
@[simp] def aX (x : LCardinalityTableSize) : List PV := [(.str x.table),(ah x.rows)]
structure LJoinorderSelectivity where
 a : Int
 b : Int
 divisor : Int
 deriving DecidableEq
@[simp] def bG (x : LJoinorderSelectivity) : List PV := [(ah x.a),(ah x.b),(ah x.divisor)]
structure LJoinorderGraph where
 sizes : List Int
 selectivities : List LJoinorderSelectivity
 deriving DecidableEq
@[simp] def ba (x : LJoinorderGraph) : List PV := [(.list 3 (x.sizes.map aY)),(.list 95 (x.selectivities.map bG))]
inductive LJoinorderTree where
 | mk (leaf : Int) (children : List LJoinorderTree)
def LJoinorderTree.leaf : LJoinorderTree → Int | .mk a _=>a
def LJoinorderTree.children : LJoinorderTree → List LJoinorderTree | .mk _ a=>a
mutual
def aA : LJoinorderTree → List PV
 | .mk f0 f1=>[(ah f0),.list 50 (il f1)]
def il : List LJoinorderTree → List (List PV)
 | []=>[]
 | e :: r=>aA e :: il r
end
theorem kf : ∀ l,il l = l.map aA
 | []=>rfl
 | e :: r=>by simp [il,kf r]
def aW (x : LJoinorderTree) : List PV := [(ah x.leaf),(.list 50 (x.children.map aA))]
theorem bO (x : LJoinorderTree) : aA x = aW x := by
 cases x
 simp [aA,aW,kf,LJoinorderTree.leaf,LJoinorderTree.children]
structure LRelation where
 table : List UInt8
 rows : Rz
 deriving DecidableEq
@[simp] def encRelation (x : LRelation) : List PV := [(.str x.table),(.list 66 (x.rows.map (fg 63 fO)))]
structure LResult where
 columns : List LCol
 rows : Rz
 deriving DecidableEq
@[simp] def encResult (x : LResult) : List PV := [(.list 58 (x.columns.map aT)),(.list 66 (x.rows.map (fg 63 fO)))]
structure LCardinalityBounds where
 low : Int
 high : Int
 deriving DecidableEq
@[simp] def br (x : LCardinalityBounds) : List PV := [(ah x.low),(ah x.high)]
structure LJoinorderBest where
 tree : LJoinorderTree
 cost : Int
 ok : Bool
@[simp] def bN (x : LJoinorderBest) : List PV := [(ah x.tree.leaf),(.list 50 (x.tree.children.map aA)),(ah x.cost),(ay x.ok)]
structure LRun where
 s : LSchema
 st : List LRelation
 args : Rq
 vars : List LCol
 names : List (List UInt8)
 vals : Rq
 deriving DecidableEq
@[simp] def encRun (x : LRun) : List PV := [(.list 61 (x.s.tables.map bS)),(.list 121 (x.s.foreignKeys.map im)),(.list 127 (x.s.constraints.map jy)),(.list 69 (x.st.map encRelation)),(.list 63 (x.args.map fO)),(.list 58 (x.vars.map aT)),(.list 9 (x.names.map bm)),(.list 63 (x.vals.map fO))]
structure LChecker where
 s : LSchema
 vars : List LCol
 deriving DecidableEq
@[simp] def cM (x : LChecker) : List PV := [(.list 61 (x.s.tables.map bS)),(.list 121 (x.s.foreignKeys.map im)),(.list 127 (x.s.constraints.map jy)),(.list 58 (x.vars.map aT))]
end
end Go.Proofs.YtpgalfinchajnaaGreatDoor

namespace Go.Ab
noncomputable section
section
variable {P : Program} {T : TT}
theorem detS_idxO (hT : T.Ok P) {o : Oper} {ev : Operand → PV} {H : Heap} {t : TypeId} {x i : Operand} (ho : o.op = .indexAddr t x i) {ti ei : TInfo} {e : TypeId} (hti : T.get t = some ti) (hd : ti.desc = .slice e) (hei : T.get e = some ei)
  {tag : Nat} {g : OwnRef} {len : Nat} (hx : ev x = .own tag g len) {k : IntKind} {j : Int} (hi : ev i = .val (.int k j)) (hj : 0 ≤ j ∧ j.toNat < len) (hb : ∃ b,g.blk = some b) : DetS P o ev H (.optr tag g ei.size j.toNat 0) := by
 intro C M a w _ he
 have hxr := he x (by rw [ho]; simp [Op.operands])
 have hir := he i (by rw [ho]; simp [Op.operands])
 rw [hx] at hxr
 rw [hi] at hir
 simp only [Rep] at hxr hir
 obtain ⟨b,hb⟩ := hb
 have hu := (hT.get hti).rund w
 rw [hd] at hu
 have hsz := (hT.get hei).rsize w
 have h2 : j < (len : Int) := by omega
 refine ⟨.pointer (some ⟨b,j.toNat * ei.size,none⟩),?_,?_⟩
 ·simp [execOp,ho,Instr.indexAt,hir,hxr.2,OwnRef.val,hb,asIntOf,hu,hj.1,h2,hsz,dK]
 ·simp only [Rep]
  exact ⟨trivial,b,hb,by simp⟩
theorem lY {k : Nat} : ∀ {rows : List (List PV)} {j : Nat} {r : List PV},(∀ q ∈ rows,q.length = k) → rows[j]? = some r → ∀ i p,r[i]? = some p → rows.flatten[j * k + i]? = some p
 | [],j,r,_,h,_,_,_=>by simp at h
 | q :: rows,0,r,hl,h,i,p,hp=>by
  simp only [List.getElem?_cons_zero,zo] at h
  subst h
  simp only [List.flatten_cons,Nat.zero_mul,Nat.zero_add]
  rw [List.getElem?_append_left (zg.1 hp).1]
  exact hp
 | q :: rows,j + 1,r,hl,h,i,p,hp=>by
  have hq := hl q (by simp)
  have := lY (rows := rows) (j := j) (fun q hq=>hl q (by simp [hq])) (by simpa using h) i p hp
  simp only [List.flatten_cons]
  rw [List.getElem?_append_right (by rw [hq,Nat.add_mul]; omega),hq,show (j + 1) * k + i - k = j * k + i from by rw [Nat.add_mul]; omega]
  exact this
theorem detS_loadO (hT : T.Ok P) {o : Oper} {ev : Operand → PV} {H : Heap} {t : TypeId} {x : Operand} (ho : o.op = .load t x) {ti : TInfo} (hti : T.get t = some ti) {tag : Nat} {g : OwnRef} {k row off : Nat} (hx : ev x = .optr tag g k row off)
  {e : TypeId} {rows : List (List PV)} {wr : Bool} (hob : H.ob tag = some ⟨g,e,rows,wr⟩) {ei : TInfo} (hei : T.get e = some ei) (hk : k = ei.size) {cells : List PV} (hr : rows[row]? = some cells) {r : PV} (hc : fy ti off cells = some r) : DetS P o ev H r := by
 intro C M a w hi he
 have hxr := he x (by rw [ho]; simp [Op.operands])
 rw [hx] at hxr
 simp only [Rep] at hxr
 obtain ⟨_,b,hb,hv⟩ := hxr
 obtain ⟨i,h1,h2,h3,h4⟩ := hi.objs tag _ hob
 obtain ⟨i',h5,h6,_,_⟩ := (hT.get hei).info
 simp only at h1 h3 h4
 rw [h1] at h5
 cases h5
 rcases h4 with ⟨hn,_⟩ | ⟨b',cur,hb',hm,hcur,hcs,hlc,hcm,hcr,h1c,_,_⟩
 ·rw [hb] at hn; cases hn
 ·rw [hb] at hb'
  cases hb'
  have hlt : row < rows.length := (zg.1 hr).1
  have hcl : cells.length = i.size := h3 cells (List.mem_of_getElem? hr)
  have hks : k = i.size := by rw [hk,h6]
  subst hks
  -- the cells of that row
  have hflat : rows.flatten.length = rows.length * i.size := by
   have : ∀ l : List (List PV),(∀ q ∈ l,q.length = i.size) → l.flatten.length = l.length * i.size := by
    intro l
    induction l with
    | nil=>simp
    | cons q l ih=>intro hl; simp [ih fun q hq=>hl q (by simp [hq]),hl q (by simp),Nat.add_mul]; omega
   exact this rows h3
  have hseg : au P M false cells ((cur.toList.take (rows.length * i.size)).drop (row * i.size) |>.take i.size) := by
   have h7 := (hcr.drop (row * i.size)).take i.size
   have e1 : (rows.flatten.drop (row * i.size)).take i.size = cells := by
    apply List.ext_getElem?
    intro m
    rw [List.getElem?_take]
    split
    ·rename_i hm
     rw [List.getElem?_drop]
     have hcm : cells[m]? = some cells[m] := ze (by omega)
     rw [hcm]
     exact lY h3 hr m _ hcm
    ·rw [List.getElem?_eq_none (by omega)]
   rwa [e1] at h7
  obtain ⟨v,h8,h9⟩ := kZ (hT.get hti) w b (row * i.size) off cells _ hseg (fun j y hj=>by
   rw [cell_of_row w b (row * i.size + j) cur e (0,0) hcur]
   rw [List.getElem?_take] at hj
   split at hj
   ·rw [List.getElem?_drop,List.getElem?_take] at hj
    split at hj
    ·simpa using hj
    ·cases hj
   ·cases hj) hc
  refine ⟨v,?_,h9.slot⟩
  simp [execOp,ho,hv,Instr.loadAt,Instr.sureAddr,h8]
theorem splice_seg {α : Type} (X Y Z cs : List α) (off : Nat) (h : off + cs.length ≤ Y.length) :
  X ++ (Y.take off ++ cs ++ Y.drop (off + cs.length)) ++ Z = (X ++ (Y ++ Z)).take (X.length + off) ++ cs ++ (X ++ (Y ++ Z)).drop (X.length + off + cs.length) := by
 rw [List.take_length_add_append,List.take_append_of_le_length (by omega),show X.length + off + cs.length = X.length + (off + cs.length) from by omega,List.drop_length_add_append,List.drop_append_of_le_length h]
 simp
theorem splice_take {α : Type} (l cs : List α) (p N : Nat) (h : p + cs.length ≤ N) (hN : N ≤ l.length) :
  (l.take p ++ cs ++ l.drop (p + cs.length)).take N = (l.take N).take p ++ cs ++ (l.take N).drop (p + cs.length) := by
 obtain ⟨U,hU⟩ : ∃ U,U = l.take N := ⟨_,rfl⟩
 obtain ⟨W,hW⟩ : ∃ W,W = l.drop N := ⟨_,rfl⟩
 have hl : l = U ++ W := by rw [hU,hW,List.take_append_drop]
 have hUl : U.length = N := by rw [hU]; simp; omega
 rw [← hU,hl,List.take_append_of_le_length (l₁ := U) (i := p) (by omega),List.drop_append_of_le_length (l₁ := U) (i := p + cs.length) (by omega)]
 rw [← List.append_assoc]
 have e : (U.take p ++ cs ++ U.drop (p + cs.length)).length = N := by simp; omega
 rw [← e,List.take_left]
def setRow (rows : List (List PV)) (row off : Nat) (cs : List PV) : List (List PV) := rows.set row (splice (rows.getD row []) off cs)
theorem set_flat {k : Nat} : ∀ {rows : List (List PV)} {j : Nat} {q : List PV},(∀ r ∈ rows,r.length = k) → q.length = k → j < rows.length → (rows.set j q).flatten = rows.flatten.take (j * k) ++ q ++ rows.flatten.drop (j * k + k)
 | [],j,q,_,_,h=>by simp at h
 | r :: rows,0,q,hl,hq,_=>by
  have hr := hl r (by simp)
  simp only [List.set_cons_zero,List.flatten_cons,Nat.zero_mul,List.take_zero,List.nil_append,Nat.zero_add]
  rw [← hr,List.drop_left]
 | r :: rows,j + 1,q,hl,hq,h=>by
  have hr := hl r (by simp)
  have ih := set_flat (rows := rows) (j := j) (q := q) (fun r hr=>hl r (by simp [hr])) hq (by simpa using h)
  simp only [List.set_cons_succ,List.flatten_cons,ih]
  have e1 : (j + 1) * k = r.length + j * k := by rw [Nat.add_mul,hr]; omega
  have e2 : r.length + j * k + k = r.length + (j * k + k) := by omega
  rw [e1,List.take_length_add_append,e2,List.drop_length_add_append]
  simp
theorem eff_storeO (hT : T.Ok P) {o : Oper} {ev : Operand → PV} {H : Heap} {t : TypeId} {x y : Operand} (ho : o.op = .store t x y) {ti : TInfo} (hti : T.get t = some ti) {tag : Nat} {g : OwnRef} {k row off : Nat} (hx : ev x = .optr tag g k row off)
  {e : TypeId} {rows : List (List PV)} (hob : H.ob tag = some ⟨g,e,rows,true⟩) {ei : TInfo} (hei : T.get e = some ei) (hk : k = ei.size) (hrow : row < rows.length) {py : PV} (hy : PLe P (ev y) py) {cs : List PV} (hc : cx py = some cs) (hf : PV.frozL cs = true) (h1 : cs.all PV.one = true) (hl : cs.length = ti.size) (hle : off + ti.size ≤ ei.size)
  {K : PV → Heap → Prop} (hK : K .any ⟨H.bx,upd H.ob tag (some ⟨g,e,setRow rows row off cs,true⟩)⟩) : Eff P o ev H K := by
 intro C M a w next Q hi he hn
 have hxr := he x (by rw [ho]; simp [Op.operands])
 have hyr := he y (by rw [ho]; simp [Op.operands])
 rw [hx] at hxr
 simp only [Rep] at hxr
 obtain ⟨_,b,hb,hv⟩ := hxr
 have hr := iP hc (hy M _ hyr)
 have hone := au.oneCell h1 hr
 have hrf := au.unslot hf hr
 have hvs : (a.eval y).cells.size = ti.size := by have := hr.length; simp at this; omega
 obtain ⟨i,g1,g2,g3,g4⟩ := hi.objs tag _ hob
 obtain ⟨i',g5,g6,_,_⟩ := (hT.get hei).info
 simp only at g1 g2 g3 g4
 rw [g1] at g5
 cases g5
 rcases g4 with ⟨hn',_⟩ | ⟨b',cur,hb',hm,hcur,hcs,hlc,hcm,hcr,h1c,hw1,hw2⟩
 ·rw [hb] at hn'; cases hn'
 rw [hb] at hb'
 cases hb'
 have hks : k = i.size := by rw [hk,g6]
 subst hks
 rw [← g6] at hle
 have hfit : row * i.size + i.size ≤ rows.length * i.size := by
  have := Nat.mul_le_mul_right i.size (show row + 1 ≤ rows.length from hrow)
  rw [Nat.add_mul] at this
  omega
 have hcap : rows.length * i.size ≤ cur.size := by rw [hcs]; exact Nat.mul_le_mul_right _ hlc
 have hvl : (a.eval y).cells.toList.length = ti.size := by simpa using hvs
 have hst := run_storeCells_at P b (row * i.size + off) e (a.eval y).cells.toList 0 cur w hcur (by rw [hvl]; omega) hone
 simp only [Nat.add_zero] at hst
 have hrun : (execOp a.eval o).run P w = .ok .skip (w.setRow b (cur.toList.take (row * i.size + off) ++ (a.eval y).cells.toList ++ cur.toList.drop (row * i.size + off + (a.eval y).cells.toList.length)).toArray) := by
  simp only [execOp,ho,Instr.storeAt,hv,Instr.sureAddr,Sem.run_bind,Sem.run_pure,Result.andThen_ok,storeVar,(hT.get hti).rsize w,hvs]
  simp only [ne_eq,not_true_eq_false,if_false]
  rw [hst]
  rfl
 unfold Oper.wp
 rw [hrun]
 have hgetD : rows.getD row [] = rows[row] := by simp [hrow]
 have hrl : (rows.getD row []).length = i.size := by rw [hgetD]; exact g3 _ (List.getElem_mem hrow)
 have hspl : (splice (rows.getD row []) off cs).length = i.size := by
  unfold splice
  rw [List.length_append,List.length_append,List.length_take,List.length_drop,hrl,hl]
  omega
 have hlens : ∀ r ∈ setRow rows row off cs,r.length = i.size := by
  intro r hr'
  rcases List.mem_or_eq_of_mem_set hr' with h | h
  ·exact g3 r h
  ·rw [h]; exact hspl
 have hlen : (setRow rows row off cs).length = rows.length := by simp [setRow]
 have hflat : rows.flatten.length = rows.length * i.size := by
  have : ∀ l : List (List PV),(∀ q ∈ l,q.length = i.size) → l.flatten.length = l.length * i.size := by
   intro l
   induction l with
   | nil=>simp
   | cons q l ih=>intro hl; simp [ih fun q hq=>hl q (by simp [hq]),hl q (by simp),Nat.add_mul]; omega
  exact this rows g3
 have hrl2 : rows[row].length = i.size := g3 _ (List.getElem_mem hrow)
 have hrowcells : (rows.flatten.drop (row * i.size)).take i.size = rows.getD row [] := by
  rw [hgetD]
  apply List.ext_getElem?
  intro m
  rw [List.getElem?_take]
  split
  ·rename_i hm'
   rw [List.getElem?_drop]
   have hml : m < rows[row].length := by rw [hrl2]; exact hm'
   have hcm' : rows[row][m]? = some (rows[row][m]'hml) := ze hml
   rw [hcm']
   exact lY g3 (ze hrow) m _ hcm'
  ·rw [List.getElem?_eq_none (by rw [hrl2]; omega)]
 have hpv : (setRow rows row off cs).flatten = splice rows.flatten (row * i.size + off) cs := by
  unfold setRow
  rw [set_flat g3 hspl hrow,← hrowcells]
  have hA : (rows.flatten.take (row * i.size)).length = row * i.size := by rw [List.length_take,hflat]; omega
  have hY : ((rows.flatten.drop (row * i.size)).take i.size).length = i.size := by rw [List.length_take,List.length_drop,hflat]; omega
  have hdec : rows.flatten = rows.flatten.take (row * i.size) ++ ((rows.flatten.drop (row * i.size)).take i.size ++ rows.flatten.drop (row * i.size + i.size)) := by
   rw [← List.drop_drop,List.take_append_drop,List.take_append_drop]
  have key := splice_seg (rows.flatten.take (row * i.size)) ((rows.flatten.drop (row * i.size)).take i.size) (rows.flatten.drop (row * i.size + i.size)) cs off (by rw [hY,hl]; omega)
  rw [← hdec,hA] at key
  exact key
 have hvlist : (cur.toList.take (row * i.size + off) ++ (a.eval y).cells.toList ++ cur.toList.drop (row * i.size + off + (a.eval y).cells.toList.length)).take (rows.length * i.size) =
   (cur.toList.take (rows.length * i.size)).take (row * i.size + off) ++ (a.eval y).cells.toList ++ (cur.toList.take (rows.length * i.size)).drop (row * i.size + off + (a.eval y).cells.toList.length) := by
  exact splice_take cur.toList (a.eval y).cells.toList (row * i.size + off) (rows.length * i.size) (by rw [hvl]; omega) (by simpa using hcap)
 refine hn undef _ _ M _ hK (Mem.le_refl M) (hi.set_obj tag _ hob b hb (setRow rows row off cs) true _ i g1 ?_ hlens ?_ ?_ hcm ?_ ?_ ?_ (fun _=>hw1 trivial) ?_) (by simp [Rep])
 ·rw [hlen]; exact g2
 ·simp only [List.size_toArray,List.length_append,List.length_take,List.length_drop,Array.length_toList,hvl]
  omega
 ·rw [hlen]; exact hlc
 ·rw [hlen,hpv]
  simp only
  rw [hvlist]
  exact oZ hcr hrf (row * i.size + off)
 ·rw [hlen]
  simp only
  rw [hvlist]
  intro v hv'
  simp only [List.mem_append] at hv'
  rcases hv' with (h | h) | h
  ·exact h1c v (List.mem_of_mem_take h)
  ·exact hone v h
  ·exact h1c v (List.mem_of_mem_drop h)
 ·intro o' v' hm'
  rw [hw1 trivial o'] at hm'
  cases hm'
 ·intro o' _
  exact hw1 trivial o'
end
section
variable {P : Program} {ops : Array Oper} {rest : List Oper} {o : Oper} {n : Nat} {s s' : Nat → PV} {bx : Nat → Option Box} {ob : Nat → Option Obj} {K : PState → Prop} {T : TT} {rb : RB} {k : Nat} {L : List Nat}
theorem kg (hg : aI ops s o = some true) {r : PV} (hd : DetS P o (evS s) ⟨bx,ob⟩ r) (hp : putD n s o.dst r = some s') (h : Ao P ops rest ⟨n,s',bx,ob⟩ K) : Ao P ops (o :: rest) ⟨n,s,bx,ob⟩ K :=
 dG hg (fun C M a w next Q hi he hn=>by
  obtain ⟨v,hrun,hr⟩ := hd C M a w hi he
  unfold Oper.wp
  rw [hrun]
  exact hn v r ⟨bx,ob⟩ M w ⟨s',hp,h⟩ (Mem.le_refl M) hi hr)
theorem nP (ho : ops[k]? = some o) (hg : aI ops s o = some true) (hc : cL o.op = .det) {r : PV} (hd : ∀ bx',DetS P o (evS s) ⟨bx',if rb.o o && eS o.op then ob else fun _=>none⟩ r) (hp : putD n s o.dst r = some s')
  (h : Do P T rb ops L ⟨n,s',bx,ob⟩ K) : Do P T rb ops (k :: L) ⟨n,s,bx,ob⟩ K := by
 refine ⟨o,ho,true,hg,?_⟩
 simp only [if_true,hc]
 exact ⟨r,s',.inr hd,hp,h⟩
theorem Ao.idxO (hT : T.Ok P) (hg : aI ops s o = some true) {t : TypeId} {x i : Operand} (ho : o.op = .indexAddr t x i) {ti ei : TInfo} {e : TypeId} (hti : T.get t = some ti) (hd : ti.desc = .slice e) (hei : T.get e = some ei)
  {tag : Nat} {g : OwnRef} {len : Nat} (hx : evS s x = .own tag g len) {kk : IntKind} {j : Int} (hi : evS s i = .val (.int kk j)) (hj : 0 ≤ j ∧ j.toNat < len) (hb : ∃ b,g.blk = some b) (hp : putD n s o.dst (.optr tag g ei.size j.toNat 0) = some s') (h : Ao P ops rest ⟨n,s',bx,ob⟩ K) :
  Ao P ops (o :: rest) ⟨n,s,bx,ob⟩ K := kg hg (detS_idxO hT ho hti hd hei hx hi hj hb) hp h
theorem ib {t : TypeId} {x i : Operand} {ti ei : TInfo} {e : TypeId} {tag : Nat} {g : OwnRef} {len : Nat} {kk : IntKind} {j : Int} (hT : T.Ok P) (hj : 0 ≤ j ∧ j.toNat < len) (hb : ∃ b,g.blk = some b) (h : Ao P ops rest ⟨n,s',bx,ob⟩ K) (hg : aI ops s o = some true := by exact rfl) (ho : o.op = .indexAddr t x i := by exact rfl) (hti : T.get t = some ti := by exact rfl) (hd : ti.desc = .slice e := by exact rfl) (hei : T.get e = some ei := by exact rfl) (hx : evS s x = .own tag g len := by exact rfl) (hi : evS s i = .val (.int kk j) := by exact rfl) (hp : putD n s o.dst (.optr tag g ei.size j.toNat 0) = some s' := by exact rfl) : Ao P ops (o :: rest) ⟨n,s,bx,ob⟩ K := Ao.idxO hT hg ho hti hd hei hx hi hj hb hp h
theorem Do.idxO (hT : T.Ok P) (ho : ops[k]? = some o) (hg : aI ops s o = some true) {t : TypeId} {x i : Operand} (hop : o.op = .indexAddr t x i) {ti ei : TInfo} {e : TypeId} (hti : T.get t = some ti) (hd : ti.desc = .slice e) (hei : T.get e = some ei)
  {tag : Nat} {g : OwnRef} {len : Nat} (hx : evS s x = .own tag g len) {kk : IntKind} {j : Int} (hi : evS s i = .val (.int kk j)) (hj : 0 ≤ j ∧ j.toNat < len) (hb : ∃ b,g.blk = some b) (hp : putD n s o.dst (.optr tag g ei.size j.toNat 0) = some s') (h : Do P T rb ops L ⟨n,s',bx,ob⟩ K) :
  Do P T rb ops (k :: L) ⟨n,s,bx,ob⟩ K := nP ho hg (by rw [hop]; rfl) (fun _=>detS_idxO hT hop hti hd hei hx hi hj hb) hp h
theorem iF {t : TypeId} {x i : Operand} {ti ei : TInfo} {e : TypeId} {tag : Nat} {g : OwnRef} {len : Nat} {kk : IntKind} {j : Int} (hT : T.Ok P) (hj : 0 ≤ j ∧ j.toNat < len) (hb : ∃ b,g.blk = some b) (h : Do P T rb ops L ⟨n,s',bx,ob⟩ K) (ho : ops[k]? = some o := by exact rfl) (hg : aI ops s o = some true := by exact rfl) (hop : o.op = .indexAddr t x i := by exact rfl) (hti : T.get t = some ti := by exact rfl) (hd : ti.desc = .slice e := by exact rfl) (hei : T.get e = some ei := by exact rfl) (hx : evS s x = .own tag g len := by exact rfl) (hi : evS s i = .val (.int kk j) := by exact rfl) (hp : putD n s o.dst (.optr tag g ei.size j.toNat 0) = some s' := by exact rfl) : Do P T rb ops (k :: L) ⟨n,s,bx,ob⟩ K := Do.idxO hT ho hg hop hti hd hei hx hi hj hb hp h
theorem lm (hT : T.Ok P) (hg : aI ops s o = some true) {t : TypeId} {x : Operand} (ho : o.op = .load t x) {ti : TInfo} (hti : T.get t = some ti) {tag : Nat} {g : OwnRef} {kz row off : Nat} (hx : evS s x = .optr tag g kz row off)
  {e : TypeId} {rows : List (List PV)} {wr : Bool} (hob : ob tag = some ⟨g,e,rows,wr⟩) {ei : TInfo} (hei : T.get e = some ei) (hk : kz = ei.size) {cells : List PV} (hr : rows[row]? = some cells) {r : PV} (hc : fy ti off cells = some r) (hp : putD n s o.dst r = some s') (h : Ao P ops rest ⟨n,s',bx,ob⟩ K) :
  Ao P ops (o :: rest) ⟨n,s,bx,ob⟩ K := kg hg (detS_loadO hT ho hti hx hob hei hk hr hc) hp h
theorem lf (hT : T.Ok P) (ho : ops[k]? = some o) (hro : rb.o o = true) (hg : aI ops s o = some true) {t : TypeId} {x : Operand} (hop : o.op = .load t x) {ti : TInfo} (hti : T.get t = some ti) {tag : Nat} {g : OwnRef} {kz row off : Nat} (hx : evS s x = .optr tag g kz row off)
  {e : TypeId} {rows : List (List PV)} {wr : Bool} (hob : ob tag = some ⟨g,e,rows,wr⟩) {ei : TInfo} (hei : T.get e = some ei) (hk : kz = ei.size) {cells : List PV} (hr : rows[row]? = some cells) {r : PV} (hc : fy ti off cells = some r) (hp : putD n s o.dst r = some s') (h : Do P T rb ops L ⟨n,s',bx,ob⟩ K) :
  Do P T rb ops (k :: L) ⟨n,s,bx,ob⟩ K := by
 refine nP ho hg (by rw [hop]; rfl) (fun bx'=>?_) hp h
 have : (rb.o o && eS o.op) = true := by rw [hro,hop]; rfl
 rw [this]
 exact detS_loadO hT hop hti hx hob hei hk hr hc
theorem nj (hT : T.Ok P) (hg : aI ops s o = some true) {t : TypeId} {x y : Operand} (ho : o.op = .store t x y) (hdst : o.dst = none) {ti : TInfo} (hti : T.get t = some ti) {tag : Nat} {g : OwnRef} {kz row off : Nat} (hx : evS s x = .optr tag g kz row off)
  {e : TypeId} {rows rows' : List (List PV)} (hob : ob tag = some ⟨g,e,rows,true⟩) {ei : TInfo} (hei : T.get e = some ei) (hk : kz = ei.size) (hrow : row < rows.length) {py : PV} (hy : PLe P (evS s y) py) {cs : List PV} (hc : cx py = some cs) (hf : PV.frozL cs = true) (h1 : cs.all PV.one = true) (hl : cs.length = ti.size) (hle : off + ti.size ≤ ei.size)
  (hr : setRow rows row off cs = rows') (h : Ao P ops rest ⟨n,s,bx,upd ob tag (some ⟨g,e,rows',true⟩)⟩ K) : Ao P ops (o :: rest) ⟨n,s,bx,ob⟩ K := by
 subst hr
 exact dG hg (eff_storeO hT ho hti hx hob hei hk hrow hy hc hf h1 hl hle ⟨s,by simp [hdst,putD],h⟩)
theorem pF (hT : T.Ok P) (ho : ops[k]? = some o) (hg : aI ops s o = some true) {t : TypeId} {x y : Operand} (hop : o.op = .store t x y) (hdst : o.dst = none) {ti : TInfo} (hti : T.get t = some ti) {tag : Nat} {g : OwnRef} {kz row off : Nat} (hx : evS s x = .optr tag g kz row off)
  {e : TypeId} {rows rows' : List (List PV)} (hob : ob tag = some ⟨g,e,rows,true⟩) {ei : TInfo} (hei : T.get e = some ei) (hk : kz = ei.size) (hrow : row < rows.length) {py : PV} (hy : PLe P (evS s y) py) {cs : List PV} (hc : cx py = some cs) (hf : PV.frozL cs = true) (h1 : cs.all PV.one = true) (hl : cs.length = ti.size) (hle : off + ti.size ≤ ei.size)
  (hr : setRow rows row off cs = rows') (h : Do P T rb ops L ⟨n,s,bx,upd ob tag (some ⟨g,e,rows',true⟩)⟩ K) : Do P T rb ops (k :: L) ⟨n,s,bx,ob⟩ K := by
 subst hr
 refine ⟨o,ho,true,hg,?_⟩
 simp only [if_true,hop,cL]
 exact ⟨hdst,.inr fun bx'=>eff_storeO hT hop hti hx hob hei hk hrow hy hc hf h1 hl hle ⟨rfl,h⟩⟩
theorem fe {α β : Type} {f : α → β} {xs : List α} {j : Nat} {x : α} (h : xs[j]? = some x) : j < (xs.map f).length := by
 have := (zg.1 h).1
 simpa using this
theorem eY {α : Type} {f : α → List PV} {xs : List α} {j : Nat} {x : α} {g : OwnRef} (ho : xs.map f ≠ [] → ∃ b,g.blk = some b) (h : xs[j]? = some x) : ∃ b,g.blk = some b := by
 refine ho fun e=>?_
 have := (zg.1 h).1
 rw [List.map_eq_nil_iff] at e
 rw [e] at this
 simp at this
theorem iL {α : Type} {f f' : α → List PV} (hE : ∀ x,f' x = f x) {xs ys : List α} {j off : Nat} {x v : α} {cs : List PV} (h : xs[j]? = some x) (hs : splice (f x) off cs = f v) (hy : xs.set j v = ys) : setRow (xs.map f') j off cs = ys.map f' := by
 subst hy
 have hlt := (zg.1 h).1
 unfold setRow
 have e : (xs.map f').getD j [] = f x := by simp [h,hE]
 rw [e,hs,← hE v,List.map_set]
theorem lu {α β : Type} {f : α → β} {xs ys : List α} {j : Nat} {v : α} (hy : xs.set j v = ys) : (xs.map f).length = (ys.map f).length := by subst hy; simp
theorem nT {fn : Func} {R : PV → Heap → Prop} {ks : List KI} {tag : Nat} {g : OwnRef} {e : TypeId} {rows : List (List PV)} {wr : Bool} (hob : ob tag = some ⟨g,e,rows,wr⟩) (h : (rows ≠ [] → ∃ b,g.blk = some b) → V P fn R ks ⟨n,s,bx,ob⟩) : V P fn R ks ⟨n,s,bx,ob⟩ := fun C M a w hi=>by
 refine h (fun hne=>?_) C M a w hi
 obtain ⟨_,_,_,_,h4⟩ := hi.2.objs tag _ hob
 rcases h4 with ⟨_,h5,_⟩ | ⟨b,_,h5,_⟩
 ·exact absurd h5 hne
 ·exact ⟨b,h5⟩
end
def mt (bx : Nat → Option Box) (m : List (Nat × Nat)) : Nat → Option Box := fun t=>match m.find? (fun p=>Nat.beq p.2 t) with
 | some p=>bx p.1
 | none=>none
def mc (ob : Nat → Option Obj) (m : List (Nat × Nat)) : Nat → Option Obj := fun t=>match m.find? (fun p=>Nat.beq p.2 t) with
 | some p=>ob p.1
 | none=>none
theorem beqC (a b : Nat) : Nat.beq a b = Nat.beq b a := by
 cases h : Nat.beq a b with
 | true=>rw [Nat.eq_of_beq_eq_true h]; exact (Nat.beq_refl b).symm
 | false =>
  cases h' : Nat.beq b a with
  | true=>rw [Nat.eq_of_beq_eq_true h'] at h; rw [show Nat.beq a a = true from Nat.beq_refl a] at h; cases h
  | false=>rfl
theorem iA (bx : Nat → Option Box) : mt bx [] = fun _=>none := rfl
theorem iB (ob : Nat → Option Obj) : mc ob [] = fun _=>none := rfl
theorem eI (bx : Nat → Option Box) (c k : Nat) (m : List (Nat × Nat)) : mt bx ((c,k) :: m) = upd (mt bx m) k (bx c) := by
 funext t
 simp only [mt,upd,List.find?_cons]
 rw [beqC t k]
 cases Nat.beq k t <;> rfl
theorem gZ (ob : Nat → Option Obj) (c k : Nat) (m : List (Nat × Nat)) : mc ob ((c,k) :: m) = upd (mc ob m) k (ob c) := by
 funext t
 simp only [mc,upd,List.find?_cons]
 rw [beqC t k]
 cases Nat.beq k t <;> rfl
def backB (bx : Nat → Option Box) (m : List (Nat × Nat)) (bx' : Nat → Option Box) : Nat → Option Box := fun t=>match m.find? (fun p=>Nat.beq p.1 t) with
 | some p=>bx' p.2
 | none=>bx t
def backO (ob : Nat → Option Obj) (m : List (Nat × Nat)) (ob' : Nat → Option Obj) : Nat → Option Obj := fun t=>match m.find? (fun p=>Nat.beq p.1 t) with
 | some p=>ob' p.2
 | none=>ob t
def cR : List Nat → Bool
 | []=>true
 | a :: l=>l.all (fun b=>!Nat.beq a b) && cR l
theorem gI {f : Nat × Nat → Nat} : ∀ {m : List (Nat × Nat)} {p : Nat × Nat},cR (m.map f) = true → p ∈ m → m.find? (fun q=>Nat.beq (f q) (f p)) = some p
 | [],_,_,h=>by simp at h
 | q :: m,p,hd,h=>by
  simp only [List.map_cons,cR,Bool.and_eq_true] at hd
  rw [List.find?_cons]
  rcases List.mem_cons.1 h with rfl | h
  ·rw [show Nat.beq (f p) (f p) = true from Nat.beq_refl _]
  ·have hne : Nat.beq (f q) (f p) = false := by
    have := (List.all_eq_true.1 hd.1) (f p) (List.mem_map.2 ⟨p,h,rfl⟩)
    simpa using this
   rw [hne]
   exact gI hd.2 h
theorem oz {f : Nat × Nat → Nat} {m : List (Nat × Nat)} {t : Nat} {p : Nat × Nat} (h : m.find? (fun q=>Nat.beq (f q) t) = some p) : p ∈ m ∧ f p = t :=
 ⟨List.mem_of_find?_eq_some h,by
  have := List.find?_some h
  exact Nat.eq_of_beq_eq_true this⟩
def gk (H : Heap) (mb mo : List (Nat × Nat)) : List Nat := mb.filterMap (fun p=>(H.bx p.1).map Box.b) ++ mo.filterMap (fun p=>(H.ob p.1).bind fun x=>x.g.blk)
theorem nq {H : Heap} {mb mo : List (Nat × Nat)} {b : Nat} (h : b ∈ gk H mb mo) : (∃ p x,p ∈ mb ∧ H.bx p.1 = some x ∧ x.b = b) ∨ ∃ p x,p ∈ mo ∧ H.ob p.1 = some x ∧ x.g.blk = some b := by
 simp only [gk,List.mem_append,List.mem_filterMap] at h
 rcases h with ⟨p,hp,h⟩ | ⟨p,hp,h⟩
 ·rw [Option.map_eq_some_iff] at h
  obtain ⟨x,hx,rfl⟩ := h
  exact .inl ⟨p,x,hp,hx,rfl⟩
 ·rw [Option.bind_eq_some_iff] at h
  obtain ⟨x,hx,h⟩ := h
  exact .inr ⟨p,x,hp,hx,h⟩
theorem ownOf_box {H : Heap} {mb mo : List (Nat × Nat)} {p : Nat × Nat} {x : Box} (hp : p ∈ mb) (hx : H.bx p.1 = some x) : x.b ∈ gk H mb mo := by
 simp only [gk,List.mem_append,List.mem_filterMap]
 exact .inl ⟨p,hp,by rw [hx]; rfl⟩
theorem ownOf_obj {H : Heap} {mb mo : List (Nat × Nat)} {p : Nat × Nat} {x : Obj} {b : Nat} (hp : p ∈ mo) (hx : H.ob p.1 = some x) (hb : x.g.blk = some b) : b ∈ gk H mb mo := by
 simp only [gk,List.mem_append,List.mem_filterMap]
 exact .inr ⟨p,hp,by rw [hx]; exact hb⟩
section
variable {P : Program} {C : Ctx} {M : Mem} {H : Heap} {w : World} {mb mo : List (Nat × Nat)}
theorem mf {bx : Nat → Option Box} {m : List (Nat × Nat)} {t : Nat} {x : Box} (h : mt bx m t = some x) : ∃ p,p ∈ m ∧ p.2 = t ∧ bx p.1 = some x := by
 unfold mt at h
 split at h
 ·rename_i p hp
  obtain ⟨h1,h2⟩ := oz (f := Prod.snd) hp
  exact ⟨p,h1,h2,h⟩
 ·cases h
theorem mq {ob : Nat → Option Obj} {m : List (Nat × Nat)} {t : Nat} {x : Obj} (h : mc ob m t = some x) : ∃ p,p ∈ m ∧ p.2 = t ∧ ob p.1 = some x := by
 unfold mc at h
 split at h
 ·rename_i p hp
  obtain ⟨h1,h2⟩ := oz (f := Prod.snd) hp
  exact ⟨p,h1,h2,h⟩
 ·cases h
theorem fst_inj {m : List (Nat × Nat)} (hd : cR (m.map Prod.fst) = true) {p q : Nat × Nat} (hp : p ∈ m) (hq : q ∈ m) (h : p.1 = q.1) : p = q := by
 have h1 := gI (f := Prod.fst) hd hp
 have h2 := gI (f := Prod.fst) hd hq
 rw [h] at h1
 rw [h1] at h2
 exact Option.some.inj h2
theorem InvH.ownMine (h : InvH P C M H w) : ∀ b ∈ gk H mb mo,C.mine b := by
 intro b hb
 rcases nq hb with ⟨p,x,_,hx,rfl⟩ | ⟨p,x,_,hx,hb⟩
 ·exact (h.boxes _ _ hx).1
 ·obtain ⟨_,_,_,_,h4⟩ := h.objs _ _ hx
  rcases h4 with ⟨h5,_⟩ | ⟨b',_,h5,h6,_⟩
  ·rw [h5] at hb; cases hb
  ·rw [h5] at hb; cases hb; exact h6
theorem InvH.enterH (h : InvH P C M H w) (hb1 : cR (mb.map Prod.fst) = true) (ho1 : cR (mo.map Prod.fst) = true) : InvH P ⟨w,gk H mb mo,M,h.gl h.ownMine⟩ M ⟨mt H.bx mb,mc H.ob mo⟩ w := by
 refine ⟨h.mem,Mem.le_refl M,fun _ _ _ hm=>.inl hm,rfl,rfl,rfl,Nat.le_refl _,fun _ _ _=>rfl,?_,?_,?_,?_,?_⟩
 ·intro t x hx
  obtain ⟨p,hp,_,hx⟩ := mf hx
  obtain ⟨_,h2,h3⟩ := h.boxes _ _ hx
  exact ⟨.inr (ownOf_box hp hx),h2,h3⟩
 ·intro t x hx
  obtain ⟨p,hp,_,hx⟩ := mq hx
  obtain ⟨i,h1,h2,h3,h4⟩ := h.objs _ _ hx
  refine ⟨i,h1,h2,h3,?_⟩
  rcases h4 with h4 | ⟨b,cur,hb,_,h5⟩
  ·exact .inl h4
  ·exact .inr ⟨b,cur,hb,.inr (ownOf_obj hp hx hb),h5⟩
 ·intro t t' x x' hx hx' hb
  obtain ⟨p,hp,e1,hy⟩ := mf hx
  obtain ⟨q,hq,e2,hy'⟩ := mf hx'
  rw [← e1,← e2,fst_inj hb1 hp hq (h.dbox _ _ x x' hy hy' hb)]
 ·intro t t' x x' b hx hx' hb hb'
  obtain ⟨p,hp,e1,hy⟩ := mq hx
  obtain ⟨q,hq,e2,hy'⟩ := mq hx'
  rw [← e1,← e2,fst_inj ho1 hp hq (h.dobj _ _ x x' b hy hy' hb hb')]
 ·intro t t' x x' hx hx' hb
  obtain ⟨p,hp,_,hy⟩ := mf hx
  obtain ⟨q,hq,_,hy'⟩ := mq hx'
  exact h.dmix _ _ x x' hy hy' hb
theorem InvH.afterH {M' : Mem} {H' : Heap} {w' : World} (h : InvH P C M H w) (_hb1 : cR (mb.map Prod.fst) = true) (hb2 : cR (mb.map Prod.snd) = true) (_ho1 : cR (mo.map Prod.fst) = true) (ho2 : cR (mo.map Prod.snd) = true)
  {hg : Gl w (gk H mb mo)} (h' : InvH P ⟨w,gk H mb mo,M,hg⟩ M' H' w') : InvH P C M' ⟨backB H.bx mb H'.bx,backO H.ob mo H'.ob⟩ w' := by
 have hown : ∀ b,b ∈ gk H mb mo → C.mine b := by
  intro b hb
  rcases nq hb with ⟨p,x,_,hx,rfl⟩ | ⟨p,x,_,hx,hb⟩
  ·exact (h.boxes _ _ hx).1
  ·obtain ⟨_,_,_,_,h4⟩ := h.objs _ _ hx
   rcases h4 with ⟨h5,_⟩ | ⟨b',_,h5,h6,_⟩
   ·rw [h5] at hb; cases hb
   ·rw [h5] at hb; cases hb; exact h6
 have hup : ∀ b,(⟨w,gk H mb mo,M,hg⟩ : Ctx).mine b → C.mine b := fun b hb=>by
  rcases hb with hb | hb
  ·exact .inl (Nat.le_trans h.size hb)
  ·exact hown b hb
 have hnone : ∀ b o,b < w.heap.size → b ∉ gk H mb mo → M b o = none → M' b o = none := by
  intro b o hb hno hn
  cases hm : M' b o with
  | none=>rfl
  | some v =>
   rcases h'.new b o v hm with h1 | h1 | h1
   ·rw [show M b o = some v from h1] at hn; cases hn
   ·exact absurd hb (Nat.not_lt.2 h1)
   ·exact absurd h1 hno
 have kb : ∀ t x,backB H.bx mb H'.bx t = some x → (∃ p,p ∈ mb ∧ p.1 = t ∧ H'.bx p.2 = some x) ∨ ((∀ p ∈ mb,p.1 ≠ t) ∧ H.bx t = some x) := by
  intro t x hx
  unfold backB at hx
  split at hx
  ·rename_i p hp
   obtain ⟨h1,h2⟩ := oz (f := Prod.fst) hp
   exact .inl ⟨p,h1,h2,hx⟩
  ·rename_i hp
   rw [List.find?_eq_none] at hp
   exact .inr ⟨fun p hp' e=>hp p hp' (by rw [e]; exact Nat.beq_refl _),hx⟩
 have ko : ∀ t x,backO H.ob mo H'.ob t = some x → (∃ p,p ∈ mo ∧ p.1 = t ∧ H'.ob p.2 = some x) ∨ ((∀ p ∈ mo,p.1 ≠ t) ∧ H.ob t = some x) := by
  intro t x hx
  unfold backO at hx
  split at hx
  ·rename_i p hp
   obtain ⟨h1,h2⟩ := oz (f := Prod.fst) hp
   exact .inl ⟨p,h1,h2,hx⟩
  ·rename_i hp
   rw [List.find?_eq_none] at hp
   exact .inr ⟨fun p hp' e=>hp p hp' (by rw [e]; exact Nat.beq_refl _),hx⟩
 -- what was kept is not among what was handed over
 have nb : ∀ t x,(∀ p ∈ mb,p.1 ≠ t) → H.bx t = some x → x.b ∉ gk H mb mo := by
  intro t x hn hx hm
  rcases nq hm with ⟨p,y,hp,hy,e⟩ | ⟨p,y,hp,hy,e⟩
  ·exact hn p hp (h.dbox _ _ y x hy hx e)
  ·exact h.dmix _ _ x y hx hy e
 have no : ∀ t x b,(∀ p ∈ mo,p.1 ≠ t) → H.ob t = some x → x.g.blk = some b → b ∉ gk H mb mo := by
  intro t x b hn hx hb hm
  rcases nq hm with ⟨p,y,hp,hy,e⟩ | ⟨p,y,hp,hy,e⟩
  ·exact h.dmix _ _ y x hy hx (by rw [hb,e])
  ·exact hn p hp (h.dobj _ _ y x b hy hx e hb)
 have mb' : ∀ t x,H'.bx t = some x → w.heap.size ≤ x.b ∨ x.b ∈ gk H mb mo := fun t x hx=>(h'.boxes t x hx).1
 have mo' : ∀ t x b,H'.ob t = some x → x.g.blk = some b → w.heap.size ≤ b ∨ b ∈ gk H mb mo := by
  intro t x b hx hb
  obtain ⟨_,_,_,_,h4⟩ := h'.objs t x hx
  rcases h4 with ⟨h5,_⟩ | ⟨b',_,h5,h6,_⟩
  ·rw [h5] at hb; cases hb
  ·rw [h5] at hb; cases hb; exact h6
 have bz : ∀ t x b,H.ob t = some x → x.g.blk = some b → b < w.heap.size := fun t x b hx hb=>h.obj_lt hx hb
 have snd_eq : ∀ {m : List (Nat × Nat)},cR (m.map Prod.snd) = true → ∀ {p q : Nat × Nat},p ∈ m → q ∈ m → p.2 = q.2 → p = q := by
  intro m hd p q hp hq e
  have h1 := gI (f := Prod.snd) hd hp
  have h2 := gI (f := Prod.snd) hd hq
  rw [e] at h1
  rw [h1] at h2
  exact Option.some.inj h2
 refine ⟨h'.mem,Mem.le_trans h.ext h'.ext,?_,h'.os.trans h.os,h'.tape.trans h.tape,h'.output.trans h.output,Nat.le_trans h.size h'.size,?_,?_,?_,?_,?_,?_⟩
 ·intro b o v hm
  rcases h'.new b o v hm with h1 | h1
  ·exact h.new b o v h1
  ·exact .inr (hup b h1)
 ·intro b hb hn
  have hno : b ∉ gk H mb mo := fun hm=>by
   rcases hown b hm with h1 | h1
   ·omega
   ·exact hn h1
  exact (h'.frame b (Nat.lt_of_lt_of_le hb h.size) hno).trans (h.frame b hb hn)
 ·intro t x hx
  rcases kb t x hx with ⟨p,hp,_,hx⟩ | ⟨hn,hx⟩
  ·obtain ⟨h1,h2,h3⟩ := h'.boxes _ _ hx
   exact ⟨hup _ h1,h2,h3⟩
  ·have hno := nb t x hn hx
   exact (h.boxes t x hx).keep h'.ext (fun o ho=>hnone _ o (h.box_lt hx) hno ho) (h'.frame _ (h.box_lt hx) hno)
 ·intro t x hx
  rcases ko t x hx with ⟨p,hp,_,hx⟩ | ⟨hn,hx⟩
  ·obtain ⟨i,h1,h2,h3,h4⟩ := h'.objs _ _ hx
   refine ⟨i,h1,h2,h3,?_⟩
   rcases h4 with h4 | ⟨b,cur,h5,h6,h7⟩
   ·exact .inl h4
   ·exact .inr ⟨b,cur,h5,hup _ h6,h7⟩
  ·exact (h.objs t x hx).keep h'.ext (fun b o hb ho=>hnone _ o (h.obj_lt hx hb) (no t x b hn hx hb) ho) (fun b hb=>h'.frame _ (h.obj_lt hx hb) (no t x b hn hx hb))
 ·intro t t' x x' hx hx' hb
  rcases kb t x hx with ⟨p,hp,e,hx⟩ | ⟨hn,hx⟩ <;> rcases kb t' x' hx' with ⟨q,hq,e',hx'⟩ | ⟨hn',hx'⟩
  ·have := snd_eq hb2 hp hq (h'.dbox _ _ x x' hx hx' hb)
   rw [← e,← e',this]
  ·rcases mb' _ _ hx with h1 | h1
   ·have := h.box_lt hx'; omega
   ·exact absurd (hb ▸ h1) (nb t' x' hn' hx')
  ·rcases mb' _ _ hx' with h1 | h1
   ·have := h.box_lt hx; omega
   ·exact absurd (hb ▸ h1) (nb t x hn hx)
  ·exact h.dbox t t' x x' hx hx' hb
 ·intro t t' x x' b hx hx' hb hb'
  rcases ko t x hx with ⟨p,hp,e,hx⟩ | ⟨hn,hx⟩ <;> rcases ko t' x' hx' with ⟨q,hq,e',hx'⟩ | ⟨hn',hx'⟩
  ·have := snd_eq ho2 hp hq (h'.dobj _ _ x x' b hx hx' hb hb')
   rw [← e,← e',this]
  ·rcases mo' _ _ b hx hb with h1 | h1
   ·have := h.obj_lt hx' hb'; omega
   ·exact absurd h1 (no t' x' b hn' hx' hb')
  ·rcases mo' _ _ b hx' hb' with h1 | h1
   ·have := h.obj_lt hx hb; omega
   ·exact absurd h1 (no t x b hn hx hb)
  ·exact h.dobj t t' x x' b hx hx' hb hb'
 ·intro t t' x x' hx hx' hb
  rcases kb t x hx with ⟨p,hp,e,hx⟩ | ⟨hn,hx⟩ <;> rcases ko t' x' hx' with ⟨q,hq,e',hx'⟩ | ⟨hn',hx'⟩
  ·exact h'.dmix _ _ x x' hx hx' hb
  ·rcases mb' _ _ hx with h1 | h1
   ·have := h.obj_lt hx' hb; omega
   ·exact no t' x' _ hn' hx' hb h1
  ·rcases mo' _ _ _ hx' hb with h1 | h1
   ·have := h.box_lt hx; omega
   ·exact nb t x hn hx h1
  ·exact h.dmix t t' x x' hx hx' hb
theorem eff_callH {o : Oper} {ev : Operand → PV} {H : Heap} {fx : Operand} {av0 : Array Operand} {ts : Array TypeId} (ho : o.op = .call { callee := .value fx,args := av0,argTypes := ts }) {g : FuncId} {caps : List PV}
  (hf : ev fx = .fn g caps) (hcall : ∀ vs w,(callFunc g vs).run P w = .ok (.enter g vs) w) (mb mo : List (Nat × Nat)) (hb1 : cR (mb.map Prod.fst) = true) (hb2 : cR (mb.map Prod.snd) = true) (ho1 : cR (mo.map Prod.fst) = true) (ho2 : cR (mo.map Prod.snd) = true)
  {args : List PV} (hle : fG P (av0.toList.map ev ++ caps) args) {R : PV → Heap → Prop} (hc : PH P g args ⟨mt H.bx mb,mc H.ob mo⟩ R)
  {K : PV → Heap → Prop} (hk : ∀ u H',R u H' → K u ⟨backB H.bx mb H'.bx,backO H.ob mo H'.ob⟩) : Eff P o ev H K := by
 intro C M a w next Q hi he hn
 have hfr := he fx (by rw [ho]; simp [Op.operands,Call.operands])
 rw [hf] at hfr
 simp only [Rep] at hfr
 obtain ⟨cs,hv,hcaps⟩ := hfr
 have hargs : au P M true (av0.toList.map ev) (av0.map a.eval).toList := by
  simpa using mn av0.toList fun x hx=>he x (by rw [ho]; simp_all [Op.operands,Call.operands])
 have hrep := hle M _ (hargs.append hcaps)
 have hrun : (execOp a.eval o).run P w = .ok (.enter g (av0.map a.eval ++ cs)) w := by
  simp [execOp,ho,resolve,hv,Deferred.ofValue,invoke,hcall]
 unfold Oper.wp
 rw [hrun]
 simp only [Oper.upon]
 refine (hc w M (gk H mb mo) (hi.gl hi.ownMine) _ (hi.enterH hb1 ho1) (by simpa using hrep)).mono ?_
 rintro e w' ⟨v,u,H',M',rfl,hR,hi',hr⟩
 exact hn v u _ M' w' (hk u H' hR) hi'.ext (hi.afterH hb1 hb2 ho1 ho2 hi') hr
end
section
variable {P : Program} {ops : Array Oper} {rest : List Oper} {o : Oper} {n : Nat} {s s' : Nat → PV} {bx bx1 : Nat → Option Box} {ob ob1 : Nat → Option Obj} {K : PState → Prop} {T : TT} {rb : RB} {k : Nat} {L : List Nat}
theorem jl (hg : aI ops s o = some true) {fx : Operand} {av0 : Array Operand} {ts : Array TypeId} (ho : o.op = .call { callee := .value fx,args := av0,argTypes := ts }) {g : FuncId} {caps : List PV}
  (hf : evS s fx = .fn g caps) (hcall : ∀ vs w,(callFunc g vs).run P w = .ok (.enter g vs) w) (mb mo : List (Nat × Nat)) (hb1 : cR (mb.map Prod.fst) = true) (hb2 : cR (mb.map Prod.snd) = true) (ho1 : cR (mo.map Prod.fst) = true) (ho2 : cR (mo.map Prod.snd) = true)
  {args : List PV} (hle : fG P (av0.toList.map (evS s) ++ caps) args) {Hin : Heap} (hin : Hin = ⟨mt bx mb,mc ob mo⟩) {R : PV → Heap → Prop} (hc : PH P g args Hin R)
  (h : ∀ u H',R u H' → ∃ s',putD n s o.dst u = some s' ∧ Ao P ops rest ⟨n,s',backB bx mb H'.bx,backO ob mo H'.ob⟩ K) : Ao P ops (o :: rest) ⟨n,s,bx,ob⟩ K :=
 dG hg (eff_callH ho hf hcall mb mo hb1 hb2 ho1 ho2 hle (hin ▸ hc) h)
theorem lT.own {t t' : Nat} {g : OwnRef} {l l' : Nat} (h : l = l') : lT P (.own t g l) (.own t' g l') := by
 subst h
 intro M s x hx
 simpa only [Rep] using hx
theorem lT.boxT {t t' b o : Nat} : lT P (.box t b o) (.box t' b o) := by
 intro M s x hx
 simpa only [Rep] using hx
theorem oj {fn : Func} {R : PV → Heap → Prop} {ks : List KI} {T : TT} (hT : T.Ok P) {rs : Array ResultVar} (hres : fn.results = rs) {ps : List PV} (h : ku T ⟨n,s,bx,ob⟩ rs.toList ps) {u : PV} (hu : PLe P (kJ ps) u) (hR : R u ⟨bx,ob⟩) :
  V P fn R (.code .ret :: ks) ⟨n,s,bx,ob⟩ := V.ret hT hres h hu ⟨fun _ _ hx=>hx,fun _ _ hx=>hx⟩ hR
theorem V.endH {fn : Func} {R : PV → Heap → Prop} (hres : fn.results = #[]) {u : PV} (hu : PLe P (.tup []) u) (hR : R u ⟨bx,ob⟩) : V P fn R [] ⟨n,s,bx,ob⟩ := by
 intro C M a w hi
 have hr : (results fn a.tmps).run P w = .ok (.tuple #[]) w := by
  rw [oL hres]
  simp
 exact ⟨hi.1.2.1,.tuple #[],hr,.tuple #[],u,⟨bx,ob⟩,M,rfl,hR,hi.2,hu M _ (by simp [Rep,au])⟩
end
end
end Go.Ab

namespace Go.Ab
noncomputable section
open Classical in
def eH {β : Type} (F : Nat → Option β) : Option β :=
 if h : ∃ r,∃ n,∀ m,n ≤ m → F m = some r then some h.choose else none
theorem dU {β : Type} {F : Nat → Option β} {r : β} (h : eH F = some r) : ∃ n,F n = some r := by
 unfold eH at h
 split at h
 ·next hx =>
  obtain ⟨n,hn⟩ := hx.choose_spec
  exact ⟨n,by rw [hn n (Nat.le_refl n)]; exact h⟩
 ·cases h
theorem ix {β : Type} {F : Nat → Option β} {r : β} (n : Nat) (h : ∀ m,n ≤ m → F m = some r) : eH F = some r := by
 have hx : ∃ r,∃ n,∀ m,n ≤ m → F m = some r := ⟨r,n,h⟩
 unfold eH
 rw [dif_pos hx]
 obtain ⟨k,hk⟩ := hx.choose_spec
 have e1 := hk (max n k) (Nat.le_max_right n k)
 have e2 := h (max n k) (Nat.le_max_left n k)
 rw [← e1,e2]
theorem limN_ev {β : Type} {F : Nat → Option β} {r : β} (h : eH F = some r) : ∃ n,∀ m,n ≤ m → F m = some r := by
 unfold eH at h
 split at h
 ·next hx =>
  obtain ⟨n,hn⟩ := hx.choose_spec
  exact ⟨n,fun m hm=>by rw [hn m hm]; exact h⟩
 ·cases h
end
end Go.Ab

namespace Go.Ab
noncomputable section
def delI {α : Type} (xs : List α) (i j : Int) : Option (List α) := if 0 ≤ i ∧ i ≤ j ∧ j.toNat ≤ xs.length then some (xs.take i.toNat ++ xs.drop j.toNat) else none
theorem delI_some {α : Type} {xs ys : List α} {i j : Int} (h : delI xs i j = some ys) : 0 ≤ i ∧ i ≤ j ∧ j.toNat ≤ xs.length ∧ ys = xs.take i.toNat ++ xs.drop j.toNat := by
 unfold delI at h
 split at h
 ·rename_i h0; exact ⟨h0.1,h0.2.1,h0.2.2,(Option.some.inj h).symm⟩
 ·cases h
def OwnRef.sub (g : OwnRef) (k lo hi mx : Nat) : Value := .slice (if mx = lo then g.blk.map (fun b=>⟨b,0,none⟩) else (g.blk.map fun b=>(⟨b,0,none⟩ : Addr)).map (·.add (lo * k))) (hi - lo) (mx - lo)
section
variable {P : Program} {T : TT}
def lD (ev : Operand → PV) (o : Option Operand) (dflt n : Nat) : Prop := match o with
 | none=>n = dflt
 | some x=>∃ kk z,ev x = .val (.int kk z) ∧ z = (n : Int)
theorem detS_subV (hT : T.Ok P) {o : Oper} {ev : Operand → PV} {H : Heap} {t : TypeId} {x : Operand} {lo hi mx : Option Operand} (ho : o.op = .slice t x lo hi mx) {ti ei : TInfo} {e : TypeId} (hti : T.get t = some ti) (hd : ti.desc = .slice e) (hei : T.get e = some ei)
  {tag : Nat} {g : OwnRef} {len : Nat} (hx : ev x = .own tag g len) {l h m : Nat} (hl : lD ev lo 0 l) (hh : lD ev hi len h) (hm : lD ev mx g.cap m) (hs : mx.isSome = true → hi.isSome = true) (h1 : l ≤ h) (h2 : h ≤ m) (h3 : m ≤ g.cap) :
  DetS P o ev H (.val (g.sub ei.size l h m)) := by
 intro C M a w _ he
 have hxr := he x (by rw [ho]; cases lo <;> cases hi <;> cases mx <;> simp [Op.operands])
 rw [hx] at hxr
 simp only [Rep] at hxr
 have hu := (hT.get hti).und
 rw [hd] at hu
 refine ⟨g.sub ei.size l h m,?_,by simp only [Rep]⟩
 have hbnd : ∀ (z y : Nat) (kk : IntKind) (c : BoundsCode),z ≤ y → (Instr.sliceBound (.int kk (z : Int)) y c).run P w = .ok z w := by
  intro z y kk c hzy
  have : (0 : Int) ≤ (z : Int) ∧ (z : Int) ≤ (y : Int) := ⟨by omega,by omega⟩
  simp [Instr.sliceBound,asIntOf,hzy]
 have get : ∀ y,y ∈ lo ∨ y ∈ hi ∨ y ∈ mx → Rep P M true (ev y) (a.eval y) := by
  intro y hy
  refine he y ?_
  rw [ho]
  clear he hl hh hm hs ho
  cases lo <;> cases hi <;> cases mx <;> simp [Op.operands] at hy ⊢ <;> (first | exact .inr (hy.imp Eq.symm Eq.symm) | exact .inr (hy.imp Eq.symm (Or.imp Eq.symm Eq.symm)) | exact .inr hy.symm | (rcases hy with h | h | h <;> simp [h]) | (rcases hy with h | h <;> simp [h]))
 have hsz := (hT.get hei).rsize w
 have key : ∀ (lv hv mv : Option Value),(match lv with | none=>l = 0 | some v=>∃ kk,v = .int kk (l : Int)) → (match hv with | none=>h = len | some v=>∃ kk,v = .int kk (h : Int)) →
   (match mv with | none=>m = g.cap | some v=>∃ kk,v = .int kk (m : Int)) → (mv.isSome = true → hv.isSome = true) → (Instr.slice t (g.val len) lv hv mv).run P w = .ok (g.sub ei.size l h m) w := by
  intro lv hv mv p1 p2 p3 p4
  have b : (Instr.sliceBounds true len g.cap lv hv mv).run P w = .ok (l,h,m) w := by
   cases mv with
   | none =>
    simp only at p3
    subst p3
    cases hv with
    | none =>
     simp only at p2
     subst p2
     cases lv with
     | none=>simp only at p1; subst p1; simp [Instr.sliceBounds]
     | some v=>obtain ⟨kk,rfl⟩ := p1; simp [Instr.sliceBounds,hbnd _ _ _ _ h1]
    | some v' =>
     obtain ⟨kk',rfl⟩ := p2
     cases lv with
     | none=>simp only at p1; subst p1; simp [Instr.sliceBounds,hbnd _ _ _ _ h2]
     | some v=>obtain ⟨kk,rfl⟩ := p1; simp [Instr.sliceBounds,hbnd _ _ _ _ h1,hbnd _ _ _ _ h2]
   | some v2 =>
    obtain ⟨k2,rfl⟩ := p3
    cases hv with
    | none=>exact absurd (p4 rfl) (by simp)
    | some v' =>
     obtain ⟨kk',rfl⟩ := p2
     cases lv with
     | none=>simp only at p1; subst p1; simp [Instr.sliceBounds,hbnd _ _ _ _ h2,hbnd _ _ _ _ h3]
     | some v=>obtain ⟨kk,rfl⟩ := p1; simp [Instr.sliceBounds,hbnd _ _ _ _ h1,hbnd _ _ _ _ h2,hbnd _ _ _ _ h3]
  simp only [Instr.slice,OwnRef.val,run_underlying hu,Sem.run_bind,Result.andThen_ok,b,hsz]
  rfl
 have gl : ∀ (oo : Option Operand) (df n : Nat),(∀ y,y ∈ oo → Rep P M true (ev y) (a.eval y)) → lD ev oo df n → (match oo.map a.eval with | none=>n = df | some v=>∃ kk,v = .int kk (n : Int)) := by
  intro oo df n hr ha
  cases oo with
  | none=>exact ha
  | some y =>
   obtain ⟨kk,z,e1,rfl⟩ := ha
   have := hr y rfl
   rw [e1] at this
   simp only [Rep] at this
   exact ⟨kk,this⟩
 have := key (lo.map a.eval) (hi.map a.eval) (mx.map a.eval) (gl lo 0 l (fun y hy=>get y (.inl hy)) hl) (gl hi len h (fun y hy=>get y (.inr (.inl hy))) hh) (gl mx g.cap m (fun y hy=>get y (.inr (.inr hy))) hm) (by simpa using hs)
 simp only [execOp,ho,Instr.sliceAt,hxr.2]
 rw [Sem.run_bind,Sem.run_bind,run_underlying hu]
 simp only [Result.andThen_ok]
 rw [this]
 rfl
theorem eff_appendIn (hT : T.Ok P) {o : Oper} {ev : Operand → PV} {H : Heap} {x y : Operand} {t : TypeId} (ho : o.op = .call { callee := .builtin .append,args := #[x,y],argTypes := #[t,t] }) {ti ei : TInfo} {e : TypeId} (hti : T.get t = some ti) (hd : ti.desc = .slice e) (hei : T.get e = some ei)
  {tag : Nat} {g : OwnRef} {rows : List (List PV)} (hob : H.ob tag = some ⟨g,e,rows,true⟩) {p q : Nat} (hpq : p ≤ q) (hq : q ≤ rows.length) (hx : ev x = .val (g.sub ei.size 0 p g.cap)) (hy : ev y = .val (g.sub ei.size q rows.length g.cap))
  {K : PV → Heap → Prop} (hk : K (.own tag g (rows.take p ++ rows.drop q).length) ⟨H.bx,upd H.ob tag (some ⟨g,e,rows.take p ++ rows.drop q,true⟩)⟩) : Eff P o ev H K := by
 intro C M a w next Q hi he hn
 have hxr := he x (by rw [ho]; simp [Op.operands,Call.operands])
 have hyr := he y (by rw [ho]; simp [Op.operands,Call.operands])
 rw [hx] at hxr
 rw [hy] at hyr
 simp only [Rep] at hxr hyr
 obtain ⟨i,g1,g2,g3,g4⟩ := hi.objs tag _ hob
 obtain ⟨i',g5,g6,_,_⟩ := (hT.get hei).info
 simp only at g1 g2 g3 g4
 rw [g1] at g5
 cases g5
 have hu := (hT.get hti).und
 rw [hd] at hu
 have hbase : (if g.cap = 0 then g.blk.map (fun b=>(⟨b,0,none⟩ : Addr)) else (g.blk.map fun b=>(⟨b,0,none⟩ : Addr)).map (·.add (0 * ei.size))) = g.blk.map fun b=>⟨b,0,none⟩ := by
  split
  ·rfl
  ·rw [Nat.zero_mul]
   cases g.blk <;> simp [Addr.add]
 have hlen : (rows.take p ++ rows.drop q).length = p + (rows.length - q) := by simp; omega
 have fin : ∀ w',(Builtin.append_ #[t,t] o.type #[g.sub ei.size 0 p g.cap,g.sub ei.size q rows.length g.cap]).run P w = .ok (g.val (p + (rows.length - q))) w' →
   InvH P C M ⟨H.bx,upd H.ob tag (some ⟨g,e,rows.take p ++ rows.drop q,true⟩)⟩ w' → Oper.wp P o a w next Q := by
  intro w' hr hi'
  have hrun' : (execOp a.eval o).run P w = .ok (.value (g.val (rows.take p ++ rows.drop q).length)) w' := by
   rw [hlen]
   simp only [execOp,ho,resolve,Sem.run_bind,Sem.run_pure,Result.andThen_ok,invoke,builtin,List.map_toArray,List.map_cons,List.map_nil,hxr,hyr]
   rw [hr]
   rfl
  unfold Oper.wp
  rw [hrun']
  exact hn _ _ _ M w' hk (Mem.le_refl M) hi' (by simp [Rep])
 have hcap : rows.length ≤ g.cap := by
  rcases g4 with ⟨_,b,_⟩ | ⟨_,_,_,_,_,_,h9,_⟩
  ·rw [b]; simp
  ·exact h9
 by_cases h0 : rows.length - q = 0
 ·refine fin w ?_ ?_
  ·have e1 : g.sub ei.size 0 p g.cap = .slice (g.blk.map fun b=>⟨b,0,none⟩) p g.cap := by unfold OwnRef.sub; rw [hbase]; simp
   have e2 : g.sub ei.size q rows.length g.cap = .slice (if g.cap = q then g.blk.map (fun b=>⟨b,0,none⟩) else (g.blk.map fun b=>(⟨b,0,none⟩ : Addr)).map (·.add (q * ei.size))) 0 (g.cap - q) := by unfold OwnRef.sub; rw [h0]
   rw [e1,e2,kC (w := w) t o.type e i hu g1 _ _ p g.cap _ (by omega),h0]
   rfl
  ·have e1 : rows.take p ++ rows.drop q = rows.take p := by rw [List.drop_of_length_le (by omega)]; simp
   rw [e1]
   exact hi.cutO hob p
 ·rcases g4 with ⟨_,hn',_⟩ | ⟨b,cur,hb,hm,hcur,hcs,hlc,hcm,hcr,h1c,hw1,hw2⟩
  ·rw [hn'] at h0; simp at h0
  ·have hqc : ¬ g.cap = q := by omega
   have hcs2 : cur.toList.length = g.cap * i.size := by rw [Array.length_toList]; exact hcs
   have e1 : g.sub ei.size 0 p g.cap = .slice (some ⟨b,0,none⟩) p g.cap := by unfold OwnRef.sub; rw [hbase,hb]; simp
   have e2 : g.sub ei.size q rows.length g.cap = .slice (some ⟨b,q * i.size,none⟩) (rows.length - q) (g.cap - q) := by unfold OwnRef.sub; rw [zy hqc,hb,g6]; simp [dK]
   have hflat : ∀ l : List (List PV),(∀ r ∈ l,r.length = i.size) → l.flatten.length = l.length * i.size := by
    intro l
    induction l with
    | nil=>simp
    | cons r l ih=>intro hl; simp [ih fun r hr=>hl r (by simp [hr]),hl r (by simp),Nat.add_mul]; omega
   have hold : (cur.toList.take (rows.length * i.size)).length = rows.length * i.size := by rw [hcr.length,hflat rows g3]
   have hcl : rows.length * i.size ≤ cur.size := by rw [hcs]; exact Nat.mul_le_mul_right _ hlc
   have hmulq : q * i.size ≤ rows.length * i.size := Nat.mul_le_mul_right _ hq
   have hmulp : p * i.size ≤ q * i.size := Nat.mul_le_mul_right _ hpq
   obtain ⟨news,hnews⟩ : ∃ news,news = (cur.toList.take (rows.length * i.size)).drop (q * i.size) := ⟨_,rfl⟩
   have hnl : news.length = (rows.length - q) * i.size := by rw [hnews,List.length_drop,hold,Nat.sub_mul]
   have hac : ∀ j u,news[j]? = some u → w.cell? ((⟨b,q * i.size,none⟩ : Addr).add j) = some u := by
    intro j u hj
    rw [dK,cell_of_row w b (q * i.size + j) cur e (0,0) hcur]
    rw [hnews,List.getElem?_drop,List.getElem?_take] at hj
    split at hj
    ·simpa using hj
    ·cases hj
   have hone : ∀ u ∈ news,u.oneCell' = true := fun u hu'=>h1c u (by rw [hnews] at hu'; exact List.mem_of_mem_drop hu')
   have hsum : (p + (rows.length - q)) * i.size = p * i.size + (rows.length - q) * i.size := Nat.add_mul _ _ _
   have hsub : (rows.length - q) * i.size = rows.length * i.size - q * i.size := Nat.sub_mul _ _ _
   have hfit : p * i.size + news.length ≤ cur.size := by rw [hnl]; omega
   have hr := run_append_room (P := P) w t o.type e i hu g1 b p g.cap cur hcur ⟨b,q * i.size,none⟩ (rows.length - q) (g.cap - q) news hnl hac hone (by omega) hfit
   have htk : (rows.take p).flatten = rows.flatten.take (p * i.size) := by
    have e3 : rows.flatten = (rows.take p).flatten ++ (rows.drop p).flatten := by rw [← List.flatten_append,List.take_append_drop]
    have e4 : (rows.take p).flatten.length = p * i.size := by rw [hflat _ fun r hr=>g3 r (List.mem_of_mem_take hr),List.length_take,Nat.min_eq_left (by omega)]
    rw [e3,← e4,List.take_left]
   have hdk : (rows.drop q).flatten = rows.flatten.drop (q * i.size) := by
    have e3 : rows.flatten = (rows.take q).flatten ++ (rows.drop q).flatten := by rw [← List.flatten_append,List.take_append_drop]
    have e4 : (rows.take q).flatten.length = q * i.size := by rw [hflat _ fun r hr=>g3 r (List.mem_of_mem_take hr),List.length_take,Nat.min_eq_left (by omega)]
    rw [e3,← e4,List.drop_left]
   have hcp : cur.toList.take (p * i.size) = (cur.toList.take (rows.length * i.size)).take (p * i.size) := by rw [List.take_take,Nat.min_eq_left (by omega)]
   have hlist : (cur.toList.take (p * i.size) ++ news ++ cur.toList.drop (p * i.size + news.length)).take ((p + (rows.length - q)) * i.size) = cur.toList.take (p * i.size) ++ news := by
    rw [show (p + (rows.length - q)) * i.size = (cur.toList.take (p * i.size) ++ news).length from by
     rw [List.length_append,List.length_take,hnl,hsum,Array.length_toList,Nat.min_eq_left (by omega)]]
    exact List.take_left
   refine fin (w.setRow b (cur.toList.take (p * i.size) ++ news ++ cur.toList.drop (p * i.size + news.length)).toArray) (by rw [e1,e2,hr]; simp [OwnRef.val,hb]) (hi.set_obj tag _ hob b hb (rows.take p ++ rows.drop q) true (cur.toList.take (p * i.size) ++ news ++ cur.toList.drop (p * i.size + news.length)).toArray i g1 ?_ ?_ ?_ ?_ hcm ?_ ?_ ?_ (fun _=>hw1 trivial) (fun o' _=>hw1 trivial o'))
   ·rw [hlen]
    exact Nat.le_trans (Nat.mul_le_mul_right _ (by omega)) g2
   ·intro r hr'
    rcases List.mem_append.1 hr' with h | h
    ·exact g3 r (List.mem_of_mem_take h)
    ·exact g3 r (List.mem_of_mem_drop h)
   ·have e9 : (cur.toList.take (p * i.size) ++ news ++ cur.toList.drop (p * i.size + news.length)).length = g.cap * i.size := by
     rw [List.length_append,List.length_append,List.length_take,List.length_drop,hcs2]
     have : p * i.size + news.length ≤ g.cap * i.size := by rw [← hcs]; exact hfit
     omega
    simpa using e9
   ·rw [hlen]; exact (by omega : p + (rows.length - q) ≤ g.cap)
   ·rw [hlen]
    simp only
    rw [hlist,List.flatten_append,htk,hdk,hcp,hnews]
    exact (hcr.take _).append (hcr.drop _)
   ·rw [hlen]
    simp only
    rw [hlist]
    intro v hv
    rcases List.mem_append.1 hv with h | h
    ·rw [hcp] at h; exact h1c v (List.mem_of_mem_take h)
    ·exact hone v h
   ·intro o' v' hm'
    rw [hw1 trivial o'] at hm'
    cases hm'
theorem eff_clearB (hT : T.Ok P) {o : Oper} {ev : Operand → PV} {H : Heap} {x : Operand} {t : TypeId} (ho : o.op = .call { callee := .builtin .clear,args := #[x],argTypes := #[t] }) {ti ei : TInfo} {e : TypeId} (hti : T.get t = some ti) (hd : ti.desc = .slice e) (hei : T.get e = some ei)
  (hz : Nat.beq ei.zero.cells.size ei.size = true) (h1 : (cO ei).all PV.one = true) {tag : Nat} {g : OwnRef} {rows : List (List PV)} (hob : H.ob tag = some ⟨g,e,rows,true⟩) {p q m : Nat} (hp : rows.length ≤ p) (hpq : p ≤ q) (hq : q ≤ m) (hm : m ≤ g.cap)
  (hx : ev x = .val (g.sub ei.size p q m)) {K : PV → Heap → Prop} (hk : K (.tup []) H) : Eff P o ev H K := by
 intro C M a w next Q hi he hn
 have hxr := he x (by rw [ho]; simp [Op.operands,Call.operands])
 rw [hx] at hxr
 simp only [Rep] at hxr
 obtain ⟨i,g1,g2,g3,g4⟩ := hi.objs tag _ hob
 obtain ⟨i',g5,g6,_,hzero⟩ := (hT.get hei).info
 simp only at g1 g2 g3 g4
 rw [g1] at g5
 cases g5
 have hu := (hT.get hti).und
 rw [hd] at hu
 have hself : upd H.ob tag (some ⟨g,e,rows,true⟩) = H.ob := oW _ _ _ hob
 have fin : ∀ w',(Builtin.clear_ #[t] o.type #[g.sub ei.size p q m]).run P w = .ok (.tuple #[]) w' → InvH P C M ⟨H.bx,upd H.ob tag (some ⟨g,e,rows,true⟩)⟩ w' → Oper.wp P o a w next Q := by
  intro w' hr hi'
  have hrun' : (execOp a.eval o).run P w = .ok (.value (.tuple #[])) w' := by
   simp only [execOp,ho,resolve,Sem.run_bind,Sem.run_pure,Result.andThen_ok,invoke,builtin,List.map_toArray,List.map_cons,List.map_nil,hxr]
   rw [hr]
   rfl
  unfold Oper.wp
  rw [hrun']
  rw [hself] at hi'
  exact hn _ _ _ M w' hk (Mem.le_refl M) hi' (by simp [Rep,au])
 by_cases h0 : q - p = 0
 ·refine fin w ?_ (by rw [hself]; exact hi)
  unfold OwnRef.sub
  rw [h0]
  split <;> (cases g.blk <;> simp [Builtin.clear_,run_underlying hu])
 ·rcases g4 with ⟨_,hn',hc0⟩ | ⟨b,cur,hb,hmn,hcur,hcs,hlc,hcm,hcr,h1c,hw1,hw2⟩
  ·omega
  ·have hz1 := Nat.eq_of_beq_eq_true hz
   have hcs' : cur.size = g.cap * i.size := hcs
   have hcs2 : cur.toList.length = g.cap * i.size := by rw [Array.length_toList]; exact hcs
   have e1 : g.sub ei.size p q m = .slice (some ⟨b,p * i.size,none⟩) (q - p) (m - p) := by unfold OwnRef.sub; rw [zy (by omega),hb,g6]; simp [dK]
   have hzl : (cO ei).length = i.size := by simp [cO,hz1,g6]
   have hzc : (Builtin.zeroCells ei.zero.cells (q - p)).toList = (List.replicate (q - p) ei.zero.cells.toList).flatten := by
    unfold Builtin.zeroCells
    exact lg ei.zero.cells (q - p)
   have hzs : (Builtin.zeroCells ei.zero.cells (q - p)).toList.length = (q - p) * i.size := by rw [hzc]; simp [hz1,g6]
   have hrep : au P M false (List.replicate (q - p) (cO ei)).flatten (List.replicate (q - p) ei.zero.cells.toList).flatten := jK (jv _) (q - p)
   have hone : ∀ v ∈ (Builtin.zeroCells ei.zero.cells (q - p)).toList,v.oneCell' = true := by
    rw [hzc]
    refine au.oneCell ?_ hrep
    rw [List.all_eq_true]
    intro x hx
    rw [List.mem_flatten] at hx
    obtain ⟨l,hl,hx⟩ := hx
    rw [List.eq_of_mem_replicate hl] at hx
    exact List.all_eq_true.1 h1 x hx
   have hmq : q * i.size ≤ g.cap * i.size := Nat.mul_le_mul_right _ (by omega)
   have hmp : rows.length * i.size ≤ p * i.size := Nat.mul_le_mul_right _ hp
   have hsub : (q - p) * i.size = q * i.size - p * i.size := Nat.sub_mul _ _ _
   have hpq' : p * i.size ≤ q * i.size := Nat.mul_le_mul_right _ hpq
   have hst := run_storeCells_at P b (p * i.size) e (Builtin.zeroCells ei.zero.cells (q - p)).toList 0 cur w hcur (by rw [hzs]; omega) hone
   simp only [Nat.add_zero] at hst
   obtain ⟨k,hk1⟩ : ∃ k,q - p = k + 1 := ⟨q - p - 1,by omega⟩
   have htake : (cur.toList.take (p * i.size) ++ (Builtin.zeroCells ei.zero.cells (q - p)).toList ++ cur.toList.drop (p * i.size + (Builtin.zeroCells ei.zero.cells (q - p)).toList.length)).take (rows.length * i.size) = cur.toList.take (rows.length * i.size) := by
    rw [List.append_assoc,List.take_append_of_le_length (by rw [List.length_take,hcs2]; omega),List.take_take,Nat.min_eq_left hmp]
   refine fin _ ?_ (hi.set_obj tag _ hob b hb rows true (cur.toList.take (p * i.size) ++ (Builtin.zeroCells ei.zero.cells (q - p)).toList ++ cur.toList.drop (p * i.size + (Builtin.zeroCells ei.zero.cells (q - p)).toList.length)).toArray i g1 g2 g3 ?_ hlc hcm ?_ ?_ ?_ (fun _=>hw1 trivial) (fun o' _=>hw1 trivial o'))
   ·rw [e1]
    have hzv : (zeroValue e).run P w = .ok ei.zero w := by simp [zeroValue,typeInfo,g1,hzero]
    rw [hk1] at hst ⊢
    simp [Builtin.clear_,run_underlying hu,hzv]
    rw [hst]
    simp
   ·have e9 : (cur.toList.take (p * i.size) ++ (Builtin.zeroCells ei.zero.cells (q - p)).toList ++ cur.toList.drop (p * i.size + (Builtin.zeroCells ei.zero.cells (q - p)).toList.length)).length = g.cap * i.size := by
     rw [List.length_append,List.length_append,List.length_take,List.length_drop,hcs2,hzs]
     omega
    simpa using e9
   ·simp only
    rw [htake]
    exact hcr
   ·simp only
    rw [htake]
    exact h1c
   ·intro o' v' hm'
    rw [hw1 trivial o'] at hm'
    cases hm'
end
section
variable {P : Program} {ops : Array Oper} {rest : List Oper} {o : Oper} {n : Nat} {s s' : Nat → PV} {bx : Nat → Option Box} {ob : Nat → Option Obj} {K : PState → Prop} {T : TT} {rb : RB} {k : Nat} {L : List Nat}
theorem rk (hT : T.Ok P) (hg : aI ops s o = some true) {t : TypeId} {x : Operand} {lo hi mx : Option Operand} (ho : o.op = .slice t x lo hi mx) {ti ei : TInfo} {e : TypeId} (hti : T.get t = some ti) (hd : ti.desc = .slice e) (hei : T.get e = some ei)
  {tag : Nat} {g : OwnRef} {len : Nat} (hx : evS s x = .own tag g len) {l h m : Nat} (hl : lD (evS s) lo 0 l) (hh : lD (evS s) hi len h) (hm : lD (evS s) mx g.cap m) (hs : mx.isSome = true → hi.isSome = true) (h1 : l ≤ h) (h2 : h ≤ m) (h3 : m ≤ g.cap)
  (hp : putD n s o.dst (.val (g.sub ei.size l h m)) = some s') (hr : Ao P ops rest ⟨n,s',bx,ob⟩ K) : Ao P ops (o :: rest) ⟨n,s,bx,ob⟩ K :=
 kg hg (detS_subV hT ho hti hd hei hx hl hh hm hs h1 h2 h3) hp hr
theorem rh (hT : T.Ok P) (ho : ops[k]? = some o) (hg : aI ops s o = some true) {t : TypeId} {x : Operand} {lo hi mx : Option Operand} (hop : o.op = .slice t x lo hi mx) {ti ei : TInfo} {e : TypeId} (hti : T.get t = some ti) (hd : ti.desc = .slice e) (hei : T.get e = some ei)
  {tag : Nat} {g : OwnRef} {len : Nat} (hx : evS s x = .own tag g len) {l h m : Nat} (hl : lD (evS s) lo 0 l) (hh : lD (evS s) hi len h) (hm : lD (evS s) mx g.cap m) (hs : mx.isSome = true → hi.isSome = true) (h1 : l ≤ h) (h2 : h ≤ m) (h3 : m ≤ g.cap)
  (hp : putD n s o.dst (.val (g.sub ei.size l h m)) = some s') (hr : Do P T rb ops L ⟨n,s',bx,ob⟩ K) : Do P T rb ops (k :: L) ⟨n,s,bx,ob⟩ K :=
 nP ho hg (by rw [hop]; rfl) (fun _=>detS_subV hT hop hti hd hei hx hl hh hm hs h1 h2 h3) hp hr
theorem ro (hT : T.Ok P) (hg : aI ops s o = some true) {x : Operand} {t : TypeId} (ho : o.op = .call { callee := .builtin .clear,args := #[x],argTypes := #[t] }) (hdst : o.dst = none) {ti ei : TInfo} {e : TypeId} (hti : T.get t = some ti) (hd : ti.desc = .slice e) (hei : T.get e = some ei)
  (hz : Nat.beq ei.zero.cells.size ei.size = true) (h1 : (cO ei).all PV.one = true) {tag : Nat} {g : OwnRef} {rows : List (List PV)} (hob : ob tag = some ⟨g,e,rows,true⟩) {p q m : Nat} (hp : rows.length ≤ p) (hpq : p ≤ q) (hq : q ≤ m) (hm : m ≤ g.cap)
  (hx : evS s x = .val (g.sub ei.size p q m)) (h : Ao P ops rest ⟨n,s,bx,ob⟩ K) : Ao P ops (o :: rest) ⟨n,s,bx,ob⟩ K :=
 dG hg (eff_clearB hT ho hti hd hei hz h1 hob hp hpq hq hm hx ⟨s,by simp [hdst,putD],h⟩)
theorem oe (hg : aI ops s o = some true) {t t' : TypeId} {x y : Operand} (ho : o.op = .binOp .shr t x y t') {kk k2 : IntKind} {a b : Int} (hx : evS s x = .val (.int kk a)) (hy : evS s y = .val (.int k2 b)) (hb : 0 ≤ b) {m : Nat} (hm : min b.toNat kk.bits = m)
  (hp : putD n s o.dst (.val (.int kk (a.fdiv (2 ^ m)))) = some s') (h : Ao P ops rest ⟨n,s',bx,ob⟩ K) : Ao P ops (o :: rest) ⟨n,s,bx,ob⟩ K := by
 refine dG hg (fun C M a' w next Q hi he hn=>?_)
 have hxr := he x (by rw [ho]; simp [Op.operands])
 have hyr := he y (by rw [ho]; simp [Op.operands])
 rw [show (⟨n,s,bx,ob⟩ : PState).s = s from rfl,hx] at hxr
 rw [show (⟨n,s,bx,ob⟩ : PState).s = s from rfl,hy] at hyr
 simp only [Rep] at hxr hyr
 subst hm
 have hrun : (execOp a'.eval o).run P w = .ok (.value (.int kk (a.fdiv (2 ^ (min b.toNat kk.bits))))) w := by
  have h2 : (eqGuard .shr t x y (.int kk a) (.int k2 b)).run P w = .ok () w := by simp [eqGuard]
  have hb' : ¬ b < 0 := by omega
  simp only [execOp,ho,hxr,hyr,Sem.run_bind,h2,Result.andThen_ok,binOp,Op.shift,zy hb']
  rfl
 unfold Oper.wp
 rw [hrun]
 exact hn _ _ ⟨bx,ob⟩ M w ⟨s',hp,h⟩ (Mem.le_refl M) hi (by simp only [Rep])
theorem iU {tag : Nat} {g : OwnRef} {e : TypeId} {rows : List (List PV)} {wr : Bool} (hob : ob tag = some ⟨g,e,rows,wr⟩) (h : (rows ≠ [] → ∃ b,g.blk = some b) → Ao P ops rest ⟨n,s,bx,ob⟩ K) : Ao P ops rest ⟨n,s,bx,ob⟩ K := fun C M a w Q hi hq=>by
 refine h (fun hne=>?_) C M a w Q hi hq
 obtain ⟨_,_,_,_,h4⟩ := hi.2.objs tag _ hob
 rcases h4 with ⟨_,h5,_⟩ | ⟨b,_,h5,_⟩
 ·exact absurd h5 hne
 ·exact ⟨b,h5⟩
theorem V.ownC {fn : Func} {R : PV → Heap → Prop} {ks : List KI} {tag : Nat} {g : OwnRef} {e : TypeId} {rows : List (List PV)} {wr : Bool} (hob : ob tag = some ⟨g,e,rows,wr⟩) (h : rows.length ≤ g.cap → V P fn R ks ⟨n,s,bx,ob⟩) : V P fn R ks ⟨n,s,bx,ob⟩ := fun C M a w hi=>by
 refine h ?_ C M a w hi
 obtain ⟨_,_,_,_,h4⟩ := hi.2.objs tag _ hob
 rcases h4 with ⟨_,h5,h6⟩ | ⟨b,_,h5,_,_,_,h6,h7,_⟩
 ·simp only at h5; rw [h5]; simp
 ·exact h6
theorem re (hT : T.Ok P) (ho : ops[k]? = some o) (hg : aI ops s o = some true) {x y : Operand} {t : TypeId} (hop : o.op = .call { callee := .builtin .append,args := #[x,y],argTypes := #[t,t] }) {ti ei : TInfo} {e : TypeId} (hti : T.get t = some ti) (hd : ti.desc = .slice e) (hei : T.get e = some ei)
  {tag : Nat} {g : OwnRef} {rows rows' : List (List PV)} (hob : ob tag = some ⟨g,e,rows,true⟩) {p q : Nat} (hpq : p ≤ q) (hq : q ≤ rows.length) (hx : evS s x = .val (g.sub ei.size 0 p g.cap)) (hy : evS s y = .val (g.sub ei.size q rows.length g.cap)) (hr : rows.take p ++ rows.drop q = rows')
  (hp : putD n s o.dst (.own tag g rows'.length) = some s') (h : Do P T rb ops L ⟨n,s',bx,upd ob tag (some ⟨g,e,rows',true⟩)⟩ K) : Do P T rb ops (k :: L) ⟨n,s,bx,ob⟩ K := by
 subst hr
 refine ⟨o,ho,true,hg,?_⟩
 simp only [if_true,hop,cL]
 exact fun bx'=>eff_appendIn hT hop hti hd hei hob hpq hq hx hy ⟨rfl,s',hp,h⟩
end
def kU (T : TT) : List (Nat × Nat) → List PV → List PV → Option Bool
 | [],_,_=>some true
 | (t,off) :: r,xs,ys=>match T.get t with
  | some ti=>match (bif ti.eqf.isEmpty then (match xs[off]?,ys[off]? with | some p,some q=>ot ti.desc p q | _,_=>none) else jw T ti.eqf ((xs.drop off).take ti.size) ((ys.drop off).take ti.size)),kU T r xs ys with
   | some b,some c=>some (b && c)
   | _,_=>none
  | none=>none
section
variable {P : Program} {T : TT}
theorem nY (hT : T.Ok P) (w : World) {M : Mem} {d : Nat} {xs ys : List PV} {cs ds : Array Value} (hx : au P M true xs cs.toList) (hy : au P M true ys ds.toList) :
  ∀ (fs : List Field) (eqf : List (Nat × Nat)) (b : Bool),bR fs eqf → kU T eqf xs ys = some b → (Op.eqFields (d + 2) cs ds fs).run P w = .ok b w
 | [],[],b,_,h=>by simp only [kU,zo] at h; subst h; simp [Op.eqFields]
 | f :: fs,(t,o) :: r,b,hm,h=>by
  simp only [bR] at hm
  obtain ⟨hn,rfl,rfl,hm⟩ := hm
  simp only [kU] at h
  split at h
  ·rename_i ti hti
   split at h
   ·rename_i b1 b2 h1 h2
    simp only [zo] at h
    subst h
    have ih := nY hT w (d := d) hx hy fs r b2 hm h2
    cases he : ti.eqf.isEmpty with
    | true =>
     simp only [he,zc] at h1
     split at h1
     ·rename_i p q hp hq
      obtain ⟨x,hx1,hx2⟩ := hx.get _ _ hp
      obtain ⟨y,hy1,hy2⟩ := hy.get _ _ hq
      obtain ⟨hag,heq⟩ := oc w (d := d + 1) (hT.get hti) hx2 hy2 h1
      have hpx : ∀ (c : Array Value) (z : Value),c.toList[f.offset]? = some z → (part f.type c f.offset).run P w = .ok z w := by
       intro c z hz
       rw [Array.getElem?_toList] at hz
       simp [part,(hT.get hti).ragg w,hag,hz]
      simp only [Op.eqFields, zp (show f.name ≠ "_" from hn), Sem.run_bind, hpx _ _ hx1, hpx _ _ hy1, Result.andThen_ok, heq]
      cases b1 <;> simp [ih]
     ·cases h1
    | false =>
     simp only [he,zd] at h1
     obtain ⟨k1,k2,k3,k4⟩ := (hT.get hti).eqs (by intro h0; simp [h0] at he)
     have hag : jd ti.desc = true := by
      have hu := (hT.get hti).und
      rw [k4] at hu
      rw [← Option.some.inj hu]
      rfl
     have hpx : ∀ (c : Array Value),(part f.type c f.offset).run P w = .ok (.agg (c.extract f.offset (f.offset + ti.size))) w := by
      intro c
      simp [part,(hT.get hti).ragg w,hag,(hT.get hti).rsize w]
     have hsub : ∀ (zs : List PV) (c : Array Value),au P M true zs c.toList → au P M true ((zs.drop f.offset).take ti.size) (c.extract f.offset (f.offset + ti.size)).toList := by
      intro zs c hz
      have e : (c.extract f.offset (f.offset + ti.size)).toList = (c.toList.drop f.offset).take ti.size := by
       rw [Array.toList_extract]
       simp [List.extract_eq_take_drop]
      rw [e]
      exact (hz.drop _).take _
     have heq : (Op.equalIn (d + 2) f.type (.agg (cs.extract f.offset (f.offset + ti.size))) (.agg (ds.extract f.offset (f.offset + ti.size)))).run P w = .ok b1 w := by
      rw [run_equalIn_agg w (d + 1) f.type _ _ k4 k1]
      exact jQ hT w (d := d) (hsub _ _ hx) (hsub _ _ hy) _ _ b1 k3 h1
     simp only [Op.eqFields, zp (show f.name ≠ "_" from hn), Sem.run_bind, hpx, Result.andThen_ok, heq]
     cases b1 <;> simp [ih]
   ·cases h
  ·cases h
 | [],_ :: _,b,hm,_=>by simp [bR] at hm
 | _ :: _,[],b,hm,_=>by simp [bR] at hm
theorem detS_eqNest (hT : T.Ok P) {o : Oper} {ev : Operand → PV} {H : Heap} {t t' : TypeId} {x y : Operand} (ho : o.op = .binOp .eql t x y t') {xs ys : List PV} (hx : ev x = .agg xs) (hy : ev y = .agg ys) (h1 : P.stoodInHeld t = false) (h2 : P.eqGuardType P.depth t = false)
  {eqf : List (Nat × Nat)} (h3 : bR (P.fieldsOf t).toList eqf) (h4 : P.underlying t = some (.struct (P.fieldsOf t))) {b : Bool} (hb : kU T eqf xs ys = some b) : DetS P o ev H (.val (.bool b)) := by
 intro C M a w _ he
 have hxr := he x (by rw [ho]; simp [Op.operands])
 have hyr := he y (by rw [ho]; simp [Op.operands])
 rw [hx] at hxr
 rw [hy] at hyr
 simp only [Rep] at hxr hyr
 obtain ⟨cs,ex,hc⟩ := hxr
 obtain ⟨ds,ey,hd⟩ := hyr
 refine ⟨.bool b,?_,by simp only [Rep]⟩
 have key : (binOp .eql t (.agg cs) (.agg ds)).run P w = .ok (.bool b) w := by
  rw [run_eql_struct w t cs ds,show (10000 : Nat) = 9997 + 2 + 1 from rfl,run_equalIn_agg w (9997 + 2) t cs ds h4 h1,nY hT w (d := 9997) hc hd _ _ b h3 hb]
  rfl
 have hg := run_eqGuard_agg (P := P) w .eql t x y cs ds h2
 simp only [execOp,ho,ex,ey]
 simp only [Sem.run_bind,hg,Result.andThen_ok,key]
 rfl
end
section
variable {P : Program} {ops : Array Oper} {rest : List Oper} {o : Oper} {n : Nat} {s s' : Nat → PV} {bx : Nat → Option Box} {ob : Nat → Option Obj} {K : PState → Prop} {T : TT} {rb : RB} {k : Nat} {L : List Nat}
theorem rr (hT : T.Ok P) (ho : ops[k]? = some o) (hg : aI ops s o = some true) {t t' : TypeId} {x y : Operand} (hop : o.op = .binOp .eql t x y t') {xs ys : List PV} (hx : evS s x = .agg xs) (hy : evS s y = .agg ys) (h1 : P.stoodInHeld t = false) (h2 : P.eqGuardType P.depth t = false)
  {eqf : List (Nat × Nat)} (h3 : bR (P.fieldsOf t).toList eqf) (h4 : P.underlying t = some (.struct (P.fieldsOf t))) {b : Bool} (hb : kU T eqf xs ys = some b) (hp : putD n s o.dst (.val (.bool b)) = some s') (h : Do P T rb ops L ⟨n,s',bx,ob⟩ K) : Do P T rb ops (k :: L) ⟨n,s,bx,ob⟩ K :=
 nP ho hg (by rw [hop]; rfl) (fun _=>detS_eqNest hT hop hx hy h1 h2 h3 h4 hb) hp h
end
end
end Go.Ab
