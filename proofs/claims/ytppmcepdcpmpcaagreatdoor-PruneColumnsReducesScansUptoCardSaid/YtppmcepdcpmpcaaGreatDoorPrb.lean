/- pruneColumnsReducesScansUpto_holds, part 2: the layer, the plain functions and what they compute; conditions as in the statement. -/
import Derived.Test.YtppmcepdcpmpcaaGreatDoorPra
set_option maxHeartbeats 4000000
namespace Go.Ab
noncomputable section
open Go.ChangeShapes
def kv (P : Program) (t : TypeId) (pvs : List PV) : PV :=
 match P.underlying t with
 | some (.struct _)=>.agg pvs
 | _=>pvs.headD .any
def ArgsSh (P : Program) : List TypeId → List PV → Prop
 | [],av0=>av0 = []
 | t :: ts,av0=>∃ n pvs rest,av0 = kv P t pvs :: rest ∧ Sh P n t pvs ∧ ArgsSh P ts rest
section
variable {H : Type} {enc : TypeId × Value → H} {P : Program} {W : World} {S : List TypeId}
theorem qd (hl : laidOutB P = true) {W' : World} (hb : RowKit.Below W.heap.size W W') {sp : Nat → Bool} : ∀ {ts : List TypeId} {vs : List Value} {ds : List (DataW H)} {ps : List MemPlace},(∀ t ∈ ts,P.readableRec t = true ∧ t < P.types.size) →
  DataW.TrodAll enc P W 0 (fun _=>true) true ts vs ds ps → (∀ x ∈ ps,x.block < W.heap.size) → (∀ x ∈ ps,sp x.block = true) → DataW.TrodAll enc P W' 0 sp true ts vs ds ps
 | [],_,_,_,_,h,_,_=>by
  obtain ⟨rfl,rfl,rfl⟩ := trodAll_nil h
  exact trodAll_mk0
 | t :: ts,_,_,_,hr,h,hlt,hsp=>by
  obtain ⟨v,vs,d,ds,p,q,rfl,rfl,rfl,h1,h2⟩ := trodAll_cons h
  exact ⟨p,q,WideElems.Trod_stays hl (hr t (by simp)).1 (hr t (by simp)).2 h1 (fun x hx=>hb.same (hlt x (by simp [hx]))) (fun x hx=>hsp x (by simp [hx])),
   qd hl hb (fun t ht=>hr t (by simp [ht])) h2 (fun x hx=>hlt x (by simp [hx])) (fun x hx=>hsp x (by simp [hx])),rfl⟩
theorem rn {sp : Nat → Bool} {hd : Bool} : ∀ {ts : List TypeId} {vs : List Value} {ds : List (DataW H)} {ps : List MemPlace},DataW.TrodAll enc P W 0 sp hd ts vs ds ps → ds.length = ts.length
 | [],_,_,_,h=>by
  obtain ⟨_,rfl,_⟩ := trodAll_nil h
  rfl
 | t :: ts,_,_,_,h=>by
  obtain ⟨v,vs,d,ds,p,q,rfl,rfl,rfl,_,h2⟩ := trodAll_cons h
  simp [rn h2]
theorem InvH.start (W : World) (hg : Gl W []) : InvH P ⟨W,[],jq W,hg⟩ (jq W) Heap.empty W :=
 ⟨fun _ _ _ h=>h,Mem.le_refl _,fun _ _ _ h=>.inl h,rfl,rfl,rfl,Nat.le_refl _,fun _ _ _=>rfl,fun _ _ h=>by simp [Heap.empty] at h,fun _ _ h=>by simp [Heap.empty] at h,
  fun _ _ _ _ h=>by simp [Heap.empty] at h,fun _ _ _ _ _ h=>by simp [Heap.empty] at h,fun _ _ _ _ h=>by simp [Heap.empty] at h⟩
theorem InvH.below {hg : Gl W []} {M : Mem} {Hp : Heap} {W' : World} (h : InvH P ⟨W,[],jq W,hg⟩ M Hp W') : RowKit.Below W.heap.size W W' :=
 ⟨h.os,h.tape,h.output,h.size,fun k hk=>h.frame k hk (by simp)⟩
end
mutual
def PV.bulk : PV → Nat
 | .str l=>l.length + 1
 | .list _ rows=>dc rows + 1
 | .agg cs=>aO cs
 | .any=>1
 | .val _=>1
 | .tup _=>1
 | .ptr _=>1
 | .fn _ _=>1
 | .box _ _ _=>1
 | .own _ _ _=>1
 | .optr _ _ _ _ _=>1
 | .err _=>1
def aO : List PV → Nat
 | []=>0
 | p :: ps=>p.bulk + aO ps
def dc : List (List PV) → Nat
 | []=>0
 | r :: rs=>aO r + dc rs
end
theorem oW : ∀ a b : List PV,aO (a ++ b) = aO a + aO b
 | [],b=>by simp [aO]
 | p :: a,b=>by simp only [List.cons_append,aO,oW a b]; omega
structure IsBulk (B : (H : Type) → DataW H → Nat) : Prop where
 one : ∀ H d,1 ≤ B H d
 str : ∀ H l,l.length + 1 ≤ B H (.lit (.string l))
 slice : ∀ H (a b : List (DataW H)),(a.map (B H)).sum + 1 ≤ B H (.slice a b)
 agg : ∀ H (a : List (DataW H)),(a.map (B H)).sum ≤ B H (.agg a)
theorem Sh.up {P : Program} : ∀ {n : Nat} {t : TypeId} {pvs : List PV},Sh P n t pvs → Sh P (n + 1) t pvs := by
 intro n
 induction n with
 | zero=>intro t pvs h; simp [Sh] at h
 | succ n ih =>
  intro t pvs h
  rw [Sh] at h ⊢
  split at h
  ·exact h
  ·exact h
  ·exact h
  ·obtain ⟨rows,rfl,hr⟩ := h
   exact ⟨rows,rfl,fun r hq=>ih (hr r hq)⟩
  ·rename_i fs hu
   have key : ∀ (ts : List TypeId) (l : List PV),gc (Sh P n) ts l → gc (Sh P (n + 1)) ts l := by
    intro ts
    induction ts with
    | nil=>intro l h; simp only [gc] at h ⊢; exact h
    | cons t ts iht =>
     intro l h
     simp only [gc] at h ⊢
     obtain ⟨a,b,h1,h2,h3⟩ := h
     exact ⟨a,b,h1,ih h2,iht b h3⟩
   exact key _ _ h
  ·cases h
theorem Sh.cast {P : Program} {n : Nat} {t t' : TypeId} {pvs : List PV} (h : P.underlying t = P.underlying t') (hs : Sh P n t pvs) : Sh P n t' pvs := by
 cases n with
 | zero=>simp [Sh] at hs
 | succ n=>rw [Sh] at hs ⊢; rwa [h] at hs
theorem jT {α : Type} {f : α → List PV} : ∀ {rows : List (List PV)},(∀ r ∈ rows,∃ x,r = f x) → ∃ xs : List α,rows = xs.map f
 | [],_=>⟨[],rfl⟩
 | r :: rs,h=>by
  obtain ⟨x,rfl⟩ := h r (by simp)
  obtain ⟨xs,rfl⟩ := jT (rows := rs) fun q hq=>h q (by simp [hq])
  exact ⟨x :: xs,rfl⟩
theorem rowsUp {α : Type} {f : α → List PV} {P : Program} {n : Nat} {e t : TypeId} (he : P.underlying e = P.underlying t) (ih : ∀ {pvs},Sh P (n + 1) t pvs → ∃ v,pvs = f v) {rows : List (List PV)} (hr : ∀ r ∈ rows,Sh P n e r) : ∃ xs : List α,rows = xs.map f :=
 jT fun r hq=>ih (Sh.up (Sh.cast he (hr r hq)))
def infosB (P : Program) (S : List TypeId) : Bool := S.all fun t=>match P.info? t with
 | some i=>Nat.beq i.bytes (P.bytesOf t) && Nat.beq i.size (P.cellsOf t)
 | none=>false
theorem infos_of {P : Program} {S : List TypeId} (h : infosB P S = true) : ∀ t ∈ S,∃ i,P.info? t = some i ∧ i.bytes = P.bytesOf t ∧ i.size = P.cellsOf t := by
 intro t ht
 have := List.all_eq_true.1 h t ht
 cases hi : P.info? t with
 | none=>rw [hi] at this; cases this
 | some i =>
  rw [hi] at this
  simp only [Bool.and_eq_true] at this
  exact ⟨i,rfl,Nat.eq_of_beq_eq_true this.1,Nat.eq_of_beq_eq_true this.2⟩
section
variable {B : (H : Type) → DataW H → Nat} {H : Type} {enc : TypeId × Value → H} {P : Program} {W : World} {S : List TypeId}
theorem ru {n : Nat} (ih : ∀ t ∈ S,∀ (cs : List Value) x,DataW.trod enc P W 0 (fun _=>true) true n t cs = some x → (x.1.weights P t).all (· ≤ reachBytes) = true → ∃ pvs,Sh P n t pvs ∧ aw P (jq W) false pvs cs ∧ aO pvs ≤ B H x.1) :
  ∀ (fs : List Field) (o : Nat) (cs : List Value) (xs : List (DataW H × List MemPlace)),laidFs P o fs = true → fs.all (fun f=>S.contains f.type) = true → o + (fs.map fun f=>P.cellsOf f.type).sum = cs.length →
   (fs.mapM fun f=>DataW.trod enc P W 0 (fun _=>true) true n f.type ((cs.drop f.offset).take (P.cellsOf f.type))) = some xs →
   (DataW.weightsEach P (fs.map (·.type)) (xs.map (·.1))).all (· ≤ reachBytes) = true → ∃ pvs,gc (Sh P n) (fs.map (·.type)) pvs ∧ aw P (jq W) false pvs (cs.drop o) ∧ aO pvs ≤ ((xs.map (·.1)).map (B H)).sum
 | [],o,cs,xs,_,_,hlen,_,_=>by
  refine ⟨[],by simp [gc],?_,by simp [aO]⟩
  simp only [aw]
  exact List.drop_eq_nil_of_le (by simp at hlen; omega)
 | f :: fs,o,cs,xs,hl,hS,hlen,hm,hw=>by
  simp only [laidFs,Bool.and_eq_true] at hl
  simp only [List.all_cons,Bool.and_eq_true] at hS
  simp only [List.map_cons,List.sum_cons] at hlen
  have hoff : f.offset = o := Nat.eq_of_beq_eq_true hl.1
  rw [List.mapM_cons] at hm
  cases hx : DataW.trod enc P W 0 (fun _=>true) true n f.type ((cs.drop f.offset).take (P.cellsOf f.type)) with
  | none=>rw [hx] at hm; cases hm
  | some x =>
   rw [hx] at hm
   cases hr : (fs.mapM fun f=>DataW.trod enc P W 0 (fun _=>true) true n f.type ((cs.drop f.offset).take (P.cellsOf f.type))) with
   | none=>rw [hr] at hm; cases hm
   | some r =>
    rw [hr] at hm
    have hm' : x :: r = xs := Option.some.inj hm
    subst hm'
    simp only [List.map_cons,DataW.weightsEach,List.all_append,Bool.and_eq_true] at hw
    obtain ⟨pa,ha1,ha2,ha3⟩ := ih f.type (by simpa using hS.1) _ x hx hw.1
    obtain ⟨pb,hb1,hb2,hb3⟩ := ru ih fs (o + P.cellsOf f.type) cs r hl.2 hS.2 (by omega) hr hw.2
    refine ⟨pa ++ pb,⟨pa,pb,rfl,ha1,hb1⟩,?_,by rw [oW]; simp only [List.map_cons,List.sum_cons]; omega⟩
    have := ha2.append hb2
    rw [hoff] at this
    have e : (cs.drop o).take (P.cellsOf f.type) ++ cs.drop (o + P.cellsOf f.type) = cs.drop o := by
     rw [← List.drop_drop]; exact List.take_append_drop _ _
    rwa [e] at this
theorem absB_rows {n : Nat} {e : TypeId} (ih : ∀ (cs : List Value) x,DataW.trod enc P W 0 (fun _=>true) true n e cs = some x → (x.1.weights P e).all (· ≤ reachBytes) = true → ∃ pvs,Sh P n e pvs ∧ aw P (jq W) false pvs cs ∧ aO pvs ≤ B H x.1)
  {b o c : Nat} : ∀ (elems : List (DataW H × List MemPlace)) (k : Nat),(∀ j,j < elems.length → ((W.cells? 0 ((⟨b,o,none⟩ : Addr).add ((k + j) * c)) c).bind (DataW.trod enc P W 0 (fun _=>true) true n e)) = elems[j]?) →
   (DataW.weightsAll P e (elems.map (·.1))).all (· ≤ reachBytes) = true → ∃ rows : List (List PV),rows.length = elems.length ∧ (∀ r ∈ rows,Sh P n e r) ∧ cR P (jq W) c b (o + k * c) rows ∧ dc rows ≤ ((elems.map (·.1)).map (B H)).sum
 | [],k,_,_=>⟨[],rfl,by simp,by simp [cR],by simp [dc]⟩
 | x :: r,k,hj,hw=>by
  simp only [List.map_cons,DataW.weightsAll,List.all_append,Bool.and_eq_true] at hw
  have h0 := hj 0 (by simp)
  simp only [Nat.add_zero,List.getElem?_cons_zero] at h0
  cases hcs : W.cells? 0 ((⟨b,o,none⟩ : Addr).add (k * c)) c with
  | none=>rw [hcs] at h0; cases h0
  | some cs =>
   rw [hcs] at h0
   simp only [Option.bind_some] at h0
   obtain ⟨pv,hp1,hp2,hp3⟩ := ih cs x h0 hw.1
   obtain ⟨_,hlen,hcell⟩ := World.cells?_some hcs
   obtain ⟨rows,hr1,hr2,hr3,hr4⟩ := absB_rows ih r (k + 1) (fun j hj'=>by
    have := hj (j + 1) (by simpa using hj')
    rw [show k + (j + 1) = k + 1 + j from by omega] at this
    simpa using this) hw.2
   refine ⟨pv :: rows,by simp [hr1],?_,?_,by simp only [dc,List.map_cons,List.sum_cons]; omega⟩
   ·intro q hq
    rcases List.mem_cons.1 hq with rfl | hq
    ·exact hp1
    ·exact hr2 q hq
   ·simp only [cR]
    have hpl : pv.length = c := by rw [← hlen]; exact (hp2.length).symm
    have hone : ∀ y ∈ cs,y.oneCell' = true := aw.oneCell hp1.one hp2
    refine ⟨hpl,cO.of_cells hp2 hone fun j hj'=>?_,?_⟩
    ·have := hcell j (by omega)
     rw [← this,fh,fh]
    ·rw [show o + (k + 1) * c = o + k * c + c from by rw [Nat.add_mul]; omega] at hr3
     exact hr3
theorem absB (hB : IsBulk B) (hS : S.all (okT P S) = true) (hinf : ∀ t ∈ S,∃ i,P.info? t = some i ∧ i.bytes = P.bytesOf t ∧ i.size = P.cellsOf t) : ∀ (n : Nat) (t : TypeId),t ∈ S → ∀ (cs : List Value) x,DataW.trod enc P W 0 (fun _=>true) true n t cs = some x →
  (x.1.weights P t).all (· ≤ reachBytes) = true → ∃ pvs,Sh P n t pvs ∧ aw P (jq W) false pvs cs ∧ aO pvs ≤ B H x.1 := by
 intro n
 induction n with
 | zero=>intro t _ cs x h; simp [DataW.trod] at h
 | succ n ih =>
  intro t ht cs x h hw
  have hok := List.all_eq_true.1 hS t ht
  unfold okT at hok
  simp only [Sh]
  split at hok
  ·rename_i hu
   obtain ⟨b,rfl⟩ := trod_bool_some hu h
   exact ⟨_,⟨b,rfl⟩,by simp [aw,Rep],by simp only [aO,PV.bulk]; exact hB.one _ _⟩
  ·rename_i k hu
   obtain ⟨m,rfl,hm⟩ := trod_int_some hu h
   exact ⟨_,⟨m,rfl,hm⟩,by simp [aw,Rep],by simp only [aO,PV.bulk]; exact hB.one _ _⟩
  ·rename_i hu
   obtain ⟨s,rfl,hx⟩ := trod_str_some hu h
   rw [hx] at hw
   simp only [DataW.weights,List.all_cons,List.all_nil,Bool.and_true,decide_eq_true_eq] at hw
   have hle : s.data.toList.length ≤ 2 ^ 47 := Nat.le_trans hw (by unfold reachBytes; omega)
   refine ⟨_,⟨s.data.toList,rfl,hle⟩,?_,by simp only [aO,PV.bulk]; rw [hx]; exact hB.str _ _⟩
   simp only [aw,Rep]
   exact ⟨_,[],rfl,⟨by simp,Nat.le_trans hle (by unfold kg; omega)⟩,rfl⟩
  ·rename_i e hu
   simp only [Bool.and_eq_true] at hok
   have he : e ∈ S := by simpa using hok.1
   obtain ⟨i,hi1,hi2,hi3⟩ := hinf e he
   rcases rL hu h with ⟨rfl,rfl⟩ | ⟨a,len,cap,elems,rest,rfl,hlc,hcm,hel,hre,hx⟩
   ·refine ⟨_,⟨[],rfl,by simp⟩,?_,by simp only [aO,PV.bulk,dc]; exact hB.one _ _⟩
    simp only [aw,Rep]
    exact ⟨_,[],rfl,⟨none,0,i,rfl,by simp,by simp,hi1,by simp,by simp⟩,rfl⟩
   ·have hlen : elems.length = len := by simpa using mapM_some_length hel
    have hrlen : rest.length = cap - len := by simpa using mapM_some_length hre
    rw [hx] at hw
    simp only [DataW.weights,hu,List.all_cons,List.all_append,zl,Bool.and_eq_true,decide_eq_true_eq] at hw
    have hpos : 0 < P.cellsOf e := by simpa [Nat.blt_eq] using hok.2
    have hget : ∀ j,j < elems.length → (W.cells? 0 (a.add (j * P.cellsOf e)) (P.cellsOf e)).bind (DataW.trod enc P W 0 (fun _=>true) true n e) = elems[j]? := fun j hj=>mapM_some_get hel j j (List.getElem?_range (by omega))
    have hsp : elems ≠ [] → a.spot = none := fun hne=>by
     have h0 := hget 0 (List.length_pos_iff.2 hne)
     rw [Nat.zero_mul] at h0
     cases hcs : W.cells? 0 (a.add 0) (P.cellsOf e) with
     | none=>rw [hcs] at h0; cases elems with
      | nil=>exact absurd rfl hne
      | cons _ _=>cases h0
     | some cs =>
      obtain ⟨_,hl,hc⟩ := World.cells?_some hcs
      have := hc 0 hpos
      cases hs : a.spot with
      | none=>rfl
      | some q =>
       have h1 : W.cell? ((a.add 0).add 0) = none := by
        simp only [World.cell?,Addr.add,hs,if_true]
        split <;> simp
       rw [h1] at this
       have := List.getElem?_eq_none_iff.1 this.symm
       omega
    have hby : len * i.bytes ≤ 2 ^ 47 := by
     have h1 := hw.1
     rw [hi2]
     have : len * P.bytesOf e ≤ (elems.length + rest.length) * P.bytesOf e := Nat.mul_le_mul_right _ (by omega)
     unfold reachBytes at h1
     omega
    by_cases hne : elems = []
    ·subst hne
     refine ⟨_,⟨[],rfl,by simp⟩,?_,by simp only [aO,PV.bulk,dc]; exact hB.one _ _⟩
     simp only [List.length_nil] at hlen
     subst hlen
     simp only [aw,Rep]
     exact ⟨_,[],rfl,⟨some a,cap,i,rfl,by simp,hcm,hi1,by simp,by simp⟩,rfl⟩
    ·obtain ⟨b,o,sp⟩ := a
     have := hsp hne
     simp only at this
     subst this
     obtain ⟨rows,hr1,hr2,hr3,hr4⟩ := absB_rows (B := B) (fun cs x hx hw=>ih e he cs x hx hw) elems 0 (fun j hj=>by rw [Nat.zero_add]; exact hget j hj) hw.2.1
     refine ⟨_,⟨rows,rfl,hr2⟩,?_,by simp only [aO,PV.bulk]; rw [hx]; exact Nat.le_trans (by omega) (hB.slice _ _ _)⟩
     simp only [aw,Rep]
     have hrl : rows.length = len := by omega
     rw [hrl]
     refine ⟨_,[],rfl,⟨some ⟨b,o,none⟩,cap,i,rfl,hlc,hcm,hi1,hby,fun _=>⟨b,o,rfl,?_⟩⟩,rfl⟩
     rw [hi3]
     simpa using hr3
  ·rename_i fs hu
   simp only [Bool.and_eq_true] at hok
   obtain ⟨hl,xs,hm,hx⟩ := rG hu h
   rw [hx] at hw
   simp only [DataW.weights,hu] at hw
   have hsum := Nat.eq_of_beq_eq_true hok.2
   obtain ⟨pvs,h1,h2,h3⟩ := ru (B := B) ih fs.toList 0 cs xs hok.1.1 hok.1.2 (by rw [hsum,hl]; omega) hm hw
   exact ⟨pvs,h1,by simpa using h2,by rw [hx]; exact Nat.le_trans h3 (hB.agg _ _)⟩
  ·cases hok
omit enc W S in
theorem argPV_bulk (hB : IsBulk B) (t : TypeId) (pvs : List PV) : (kv P t pvs).bulk ≤ max (aO pvs) 1 := by
 have _ := hB
 unfold kv
 split
 ·simp only [PV.bulk]; omega
 ·cases pvs with
  | nil=>simp [PV.bulk,aO]
  | cons p ps=>simp only [List.headD_cons,aO]; omega
theorem absB_val (hB : IsBulk B) (hS : S.all (okT P S) = true) (hinf : ∀ t ∈ S,∃ i,P.info? t = some i ∧ i.bytes = P.bytesOf t ∧ i.size = P.cellsOf t) {base : Nat} {t : TypeId} (ht : t ∈ S) {v : Value} {d : DataW H} {ps : List MemPlace}
  (hv : Value.okWide P W .any base t v) (h : DataW.Trod enc P W 0 (fun _=>true) true t v d ps) (hw : (d.weights P t).all (· ≤ reachBytes) = true) : ∃ n pvs,Sh P n t pvs ∧ Rep P (jq W) true (kv P t pvs) v ∧ (kv P t pvs).bulk ≤ B H d := by
 obtain ⟨n,hn⟩ := h
 obtain ⟨pvs,h1,h2,hb⟩ := absB hB hS hinf n t ht _ (d,ps) hn hw
 refine ⟨n,pvs,h1,?_,Nat.le_trans (argPV_bulk hB t pvs) (Nat.max_le.2 ⟨hb,hB.one _ _⟩)⟩
 have h2' := aw.slot h2
 have hok := List.all_eq_true.1 hS t ht
 unfold okT at hok
 unfold kv
 have one : v.cells = #[v] → Rep P (jq W) true (pvs.headD .any) v := by
  intro e
  rw [e] at h2'
  cases pvs with
  | nil=>simp [aw] at h2'
  | cons p ps =>
   simp only [aw] at h2'
   obtain ⟨x,xs,hx,hp,_⟩ := h2'
   simp only [List.cons.injEq] at hx
   rw [hx.1]
   exact hp
 cases hu : P.underlying t with
 | none=>rw [hu] at hok; cases hok
 | some td =>
  rw [hu] at hok
  cases td <;> first | (simp only [Bool.false_eq_true] at hok; done) | skip
  case bool=>obtain ⟨b,rfl⟩ := WideShapes.okWide_bool hu hv; exact one rfl
  case int k=>obtain ⟨m,rfl⟩ := WideShapes.okWide_int hu hv; exact one rfl
  case string=>obtain ⟨s,rfl⟩ := WideShapes.okWide_string hu hv; exact one rfl
  case slice e=>obtain ⟨a,len,cap,rfl⟩ := WideShapes.okWide_slice hu hv; exact one rfl
  case struct fs =>
   obtain ⟨cs,rfl,_⟩ := WideShapes.okWide_struct hu hv
   simp only [Rep]
   exact ⟨cs,rfl,h2'⟩
theorem absB_args (hB : IsBulk B) (hS : S.all (okT P S) = true) (hinf : ∀ t ∈ S,∃ i,P.info? t = some i ∧ i.bytes = P.bytesOf t ∧ i.size = P.cellsOf t) {base : Nat} : ∀ {ts : List TypeId} {vs : List Value} {ds : List (DataW H)} {ps : List MemPlace},(∀ t ∈ ts,t ∈ S) →
  (∀ (j : Nat) t v,ts[j]? = some t → vs[j]? = some v → Value.okWide P W .any base t v) → DataW.TrodAll enc P W 0 (fun _=>true) true ts vs ds ps → (DataW.weightsEach P ts ds).all (· ≤ reachBytes) = true →
  ∃ av0,ArgsSh P ts av0 ∧ aw P (jq W) true av0 vs ∧ aO av0 ≤ (ds.map (B H)).sum
 | [],_,_,_,_,_,h,_=>by
  obtain ⟨rfl,rfl,rfl⟩ := trodAll_nil h
  exact ⟨[],rfl,by simp [aw],by simp [aO]⟩
 | t :: ts,_,_,_,hm,hv,h,hw=>by
  obtain ⟨v,vs,d,ds,p,q,rfl,rfl,rfl,h1,h2⟩ := trodAll_cons h
  simp only [DataW.weightsEach,List.all_append,Bool.and_eq_true] at hw
  obtain ⟨n,pvs,a1,a2,a3⟩ := absB_val hB hS hinf (hm t (by simp)) (hv 0 t v rfl rfl) h1 hw.1
  obtain ⟨av0,b1,b2,b3⟩ := absB_args hB hS hinf (fun t ht=>hm t (by simp [ht])) (fun j t v ht hv'=>hv (j + 1) t v (by simpa using ht) (by simpa using hv')) h2 hw.2
  refine ⟨kv P t pvs :: av0,⟨n,pvs,av0,rfl,a1,b1⟩,?_,by simp only [aO,List.map_cons,List.sum_cons]; omega⟩
  simp only [aw]
  exact ⟨v,vs,rfl,a2,b2⟩
theorem law_callsB {N : Nat} (hB : IsBulk B) (hl : laidOutB P = true) {f : FuncId} {fn : Func} {s : ChangeSpec} {fresh handsOn again : Bool} {tb : TypeId} (hvars : s.vars = []) (hr : ∀ t ∈ fn.params.toList,P.readableRec t = true ∧ t < P.types.size) (hres : fn.resultTypes = #[tb]) (htb : P.underlying tb = some .bool)
  (hfn : ∀ ds : List (DataW H),ds.length = fn.params.toList.length → s.fn H ds = { results := [.lit (.bool true)],args := ds })
  (hS : S.all (okT P S) = true) (hinf : ∀ t ∈ S,∃ i,P.info? t = some i ∧ i.bytes = P.bytesOf t ∧ i.size = P.cellsOf t) (hm : ∀ t ∈ fn.params.toList,t ∈ S)
  (hspec : ∀ av0,ArgsSh P fn.params.toList av0 → aO av0 ≤ N → ba P f av0 (.val (.bool true)))
  {base : Nat} {args : Array Value} {ds gs : List (DataW H)} {before : List MemPlace} (hval : ∀ (j : Nat) t v,fn.params[j]? = some t → args[j]? = some v → Value.okWide P W .any base t v)
  (hW : DataW.Whole enc P fn.params.toList s.vars false W args.toList ds gs before) (hg : Gl W []) (hsz : (DataW.weightsEach P (fn.params.toList ++ s.plain.varTypes P) (ds ++ gs)).all (· ≤ reachBytes) = true) (hN : ((ds ++ gs).map (B H)).sum ≤ N) :
  Calls P f args W fun e W'=>∃ v,e = .returned v ∧ s.post enc P fn false fresh handsOn again W args v W' := by
 have hlt := hW.lt
 have hW' := hW
 obtain ⟨p,q,hA,hV,rfl,hz,hn⟩ := hW
 have hV' := hV
 rw [hvars] at hV
 obtain ⟨rfl,rfl⟩ := trodVars_none hV
 have hvt : s.plain.varTypes P = [] := by simp [DataSpec.varTypes,ChangeSpec.plain,hvars]
 rw [hvt,List.append_nil,List.append_nil] at hsz
 rw [List.append_nil] at hN
 have hlen : ds.length = fn.params.toList.length := rn hA
 obtain ⟨av0,h1,h2,h3⟩ := absB_args hB hS hinf hm (fun j t v ht hv=>hval j t v (by simpa using ht) (by simpa using hv)) hA hsz
 refine (hspec av0 h1 (Nat.le_trans h3 hN) W (jq W) [] hg args (InvH.start W hg) h2).mono ?_
 rintro e W' ⟨v,u,H',M',rfl,⟨rfl,rfl⟩,hi,hrep⟩
 simp only [Rep] at hrep
 subst hrep
 have hb := hi.below
 refine ⟨_,rfl,?_⟩
 have hfn' : s.fn H (ds ++ []) = { results := [.lit (.bool true)],args := ds } := by rw [List.append_nil]; exact hfn ds hlen
 have hargs : ∀ sp : Nat → Bool,(∀ x ∈ p ++ [],sp x.block = true) → DataW.TrodAll enc P W' 0 sp true fn.params.toList args.toList ds p := fun sp hsp =>
  qd hl hb hr hA (fun x hx=>hlt x (by simp [hx])) (fun x hx=>hsp x (by simp [hx]))
 have hres' : ∀ (b : Nat) (sp : Nat → Bool) (hd : Bool),DataW.TrodAll enc P W' b sp hd fn.resultTypes.toList ((Value.bool true).resultList fn.resultTypes.size) [.lit (.bool true)] [] := by
  intro b sp hd
  rw [hres]
  refine trodAll_mk1 ⟨1,?_⟩
  show DataW.trod enc P W' b sp hd 1 tb [.bool true] = _
  unfold DataW.trod
  rw [htb]
 have hvs : ∀ sp : Nat → Bool,DataW.TrodVars enc P W' sp s.vars ([] : List (DataW H)) [] := fun sp=>by rw [hvars]; simp [DataW.TrodVars]
 have hold : ∀ x ∈ p ++ [],(fun b=>decide (b < W.heap.size)) x.block = true := fun x hx=>by simpa using hlt x hx
 refine ⟨ds,[],p ++ [],[],p,[],hW',?_,?_,?_,hb.frame _,fun _=>⟨RowKit.ok_one hres rfl (RowKit.okWide_bool_mk htb true),[.lit (.bool true)] ++ ds,[],([] ++ p) ++ [],⟨[] ++ p,[],?_,hvs _,rfl,?_,fun h=>by cases h⟩,?_⟩⟩
 ·rw [hfn']; exact hres' _ _ _
 ·rw [hfn']; exact hargs _ hold
 ·rw [hfn']; exact hvs _
 ·exact trodAll_append (hargs _ fun _ _=>rfl) (hres' _ _ _)
 ·intro b off hx
  have hx' : MemPlace.cell b off ∈ p ++ [] := by simpa using hx
  rw [hb.frozen (hlt _ hx')]
  exact hz b off hx'
 ·intro x hx _
  simpa using hx
end
end
end Go.Ab

namespace Go.Ab
noncomputable section
open Go
theorem joined_of {P : Program} {f : FuncId} {fn : Func} {s : ChangeSpec} {c : OpenClaim}
  (h_wf : (c.wf (OpenSpec.ofChange s)) = true)
  (h_laid : (laidOutB P) = true)
  (h_mapsRowed : (mapsRowed P) = true)
  (h_rr : (fn.params.all (P.readableRec ·)) = true)
  (h_nt : (namedTie P c.named s.vars) = true)
  (h_st : ((c.stops == []) && (P.stops == []) && (c.knobs == []) && (P.stopKnobs == [])) = true)
  (h_inPlace : (c.inPlace == P.inPlace f) = true)
  (h_unf : (c.unfollowed == P.unfollowed f) = true)
  (h_rec : (c.recurses == P.recurses f) = true)
  (h_named : (c.named == P.varsNamed f) = true)
  (h_maps : ((c.maps == (fn.params.toList ++ s.plain.varTypes P).any (P.mapsRec ·)) && (c.ifaces == (fn.params.toList ++ s.plain.varTypes P).any (P.ifacesRec ·)) && (c.mapsOut == P.mapsAmong fn.resultTypes.toList)) = true)
  (h_loops : ((c.loops == (fn.params.toList ++ s.plain.varTypes P).any (P.loopsFrom ·))) = true)
  (h_wide : ((c.wideKeys == (fn.params.toList ++ s.plain.varTypes P ++ fn.resultTypes.toList).any (P.wideKeysFrom ·))) = true)
  (h_rest1 : (s.vars.all (P.varReadable ·) && fn.resultTypes.all (fun t=>P.readableRec t && decide (t < P.types.size)) && (c.ifacesOut == fn.resultTypes.toList.any (P.ifacesRec ·)) && (c.loopsOut == fn.resultTypes.toList.any (P.loopsFrom ·))) = true)
  (h_plainKeys : (c.plainKeys == P.plainKeys) = true)
  (h_rest2 : (c.shortTexts.isNone && P.stopsHeard && P.mayEnter && (c.lifted == P.liftsFinal) && (P.make == some c.make)) = true)
  (h_kinds : ((c.kinds == (if c.domain.isEmpty then [] else fn.params.toList.map fun t=>match P.underlying t with | some (.int k)=>some k | _=>none)) && (c.pinned == c.pinnedBy)) = true)
  (h_veil : ((c.veiled == (fn.params.toList ++ s.plain.varTypes P ++ fn.resultTypes.toList).any (P.veiledRec ·)) && c.veiledFits P fn.params.toList (fn.params.toList ++ s.plain.varTypes P ++ fn.resultTypes.toList)) = true)
  : joinedFacts P f fn s c = true := by
 simp only [Bool.and_eq_true] at h_st h_maps h_rest1 h_rest2 h_kinds h_veil
 simp only [joinedFacts,Bool.and_eq_true]
 exact ⟨⟨⟨⟨⟨⟨⟨⟨⟨⟨⟨⟨⟨⟨⟨⟨⟨⟨⟨⟨⟨⟨⟨⟨⟨⟨⟨⟨⟨⟨⟨h_wf,h_laid⟩,h_mapsRowed⟩,h_rr⟩,h_nt⟩,h_st.1.1.1⟩,h_st.1.1.2⟩,h_st.1.2⟩,h_st.2⟩,h_inPlace⟩,h_unf⟩,h_rec⟩,h_named⟩,h_maps.1.1⟩,h_maps.1.2⟩,h_maps.2⟩,h_loops⟩,h_wide⟩,h_rest1.1.1.1⟩,h_rest1.1.1.2⟩,h_rest1.1.2⟩,h_rest1.2⟩,h_plainKeys⟩,h_rest2.1.1.1.1⟩,h_rest2.1.1.1.2⟩,h_rest2.1.1.2⟩,h_rest2.1.2⟩,h_rest2.2⟩,h_kinds.1⟩,h_kinds.2⟩,h_veil.1⟩,h_veil.2⟩
end
end Go.Ab

namespace Go.Ab
noncomputable section
section
variable {P : Program} {ops : Array Oper} {rest : List Oper} {o : Oper} {n : Nat} {s s' : Nat → PV} {bx : Nat → Option Box} {ob : Nat → Option Obj} {K : PState → Prop} {T : TT}
abbrev jU (xs : List UInt8) : List (List PV) := xs.map fun c=>[.val (.int .u8 c.toNat)]
end
def ae {α β : Type} (o : Option α) (k : α → Option β) : Option β := match o with
 | some a=>k a
 | none=>none
def be {α β : Type} (a : α) (k : α → β) : β := k a
inductive Flow (σ ρ : Type) where
 | next (s : σ)
 | brk (s : σ)
 | ret (r : ρ)
def Flow.thenR {σ ρ : Type} (fl : Flow σ ρ) (k : σ → Option ρ) : Option ρ := match fl with
 | .next s=>k s
 | .brk s=>k s
 | .ret r=>some r
def Flow.thenF {σ τ ρ : Type} (fl : Flow σ ρ) (k : σ → Option (Flow τ ρ)) : Option (Flow τ ρ) := match fl with
 | .next s=>k s
 | .brk s=>k s
 | .ret r=>some (.ret r)
def aM {α σ ρ : Type} (step : Nat → α → σ → Option (Flow σ ρ)) : Nat → List α → σ → Option (Flow σ ρ)
 | _,[],s=>some (.next s)
 | j,x :: xs,s=>match step j x s with
  | none=>none
  | some (.next s')=>aM step (j + 1) xs s'
  | some (.brk s')=>some (.next s')
  | some (.ret r)=>some (.ret r)
def ij {σ ρ : Type} (step : σ → Option (Flow σ ρ)) : Nat → σ → Option (Flow σ ρ)
 | 0,_=>none
 | n + 1,s=>match step s with
  | none=>none
  | some (.next s')=>ij step n s'
  | some (.brk s')=>some (.next s')
  | some (.ret r)=>some (.ret r)
open Classical in
def whileM {σ ρ : Type} (step : σ → Option (Flow σ ρ)) (s : σ) : Option (Flow σ ρ) :=
 if h : ∃ r,∃ n,ij step n s = some r then some h.choose else none
theorem iterM_le {σ ρ : Type} {step : σ → Option (Flow σ ρ)} : ∀ {n m : Nat} {s : σ} {r : Flow σ ρ},ij step n s = some r → n ≤ m → ij step m s = some r
 | 0,_,_,_,h,_=>by simp [ij] at h
 | n + 1,0,_,_,_,hm=>by omega
 | n + 1,m + 1,s,r,h,hm=>by
  simp only [ij] at h ⊢
  split at h
  ·cases h
  ·exact iterM_le h (by omega)
  ·exact h
  ·exact h
theorem whileM_iff {σ ρ : Type} {step : σ → Option (Flow σ ρ)} {s : σ} {r : Flow σ ρ} : whileM step s = some r ↔ ∃ n,ij step n s = some r := by
 unfold whileM
 constructor
 ·intro h
  split at h
  ·rename_i hx
   obtain ⟨n,hn⟩ := hx.choose_spec
   exact ⟨n,by rw [hn]; exact h⟩
  ·cases h
 ·rintro ⟨n,hn⟩
  have hx : ∃ r,∃ n,ij step n s = some r := ⟨r,n,hn⟩
  rw [dif_pos hx]
  obtain ⟨m,hm⟩ := hx.choose_spec
  have h1 := iterM_le hn (Nat.le_max_left n m)
  have h2 := iterM_le hm (Nat.le_max_right n m)
  rw [h1] at h2
  exact h2.symm
theorem ek {σ ρ : Type} {step : σ → Option (Flow σ ρ)} {s : σ} {fl r : Flow σ ρ} (h : step s = some fl) (hr : match fl with | .next s'=>whileM step s' = some r | .brk s'=>r = .next s' | .ret x=>r = .ret x) : whileM step s = some r := by
 rw [whileM_iff]
 cases fl with
 | next s' =>
  obtain ⟨n,hn⟩ := whileM_iff.1 hr
  exact ⟨n + 1,by simp only [ij,h,hn]⟩
 | brk s'=>exact ⟨1,by simp only [ij,h,hr]⟩
 | ret x=>exact ⟨1,by simp only [ij,h,hr]⟩
theorem am {α β : Type} {o : Option α} {k : α → Option β} {r : β} (h : ae o k = some r) : ∃ a,o = some a ∧ k a = some r := by
 cases o with
 | none=>cases h
 | some a=>exact ⟨a,rfl,h⟩
theorem bR {α β : Type} {a : α} {k : α → β} {r : β} (h : be a k = r) : ∃ x,a = x ∧ k x = r := ⟨a,rfl,h⟩
theorem condT {α : Type} {c : Bool} {A B r : α} (h : c = true) (H : cond c A B = r) : A = r := by subst h; exact H
theorem condF {α : Type} {c : Bool} {A B r : α} (h : c = false) (H : cond c A B = r) : B = r := by subst h; exact H
theorem aL {P : Program} {fn : Func} {R : PV → Heap → Prop} {k : List KI} {st : PState} {c : Operand} {x y : Code} {b : Bool} (hc : evS st.s c = .val (.bool b)) {α : Type} {A B r : α} (H : (bif b then A else B) = r) (ht : A = r → V P fn R (.code x :: k) st) (hf : B = r → V P fn R (.code y :: k) st) : V P fn R (.code (.cond c x y) :: k) st := du hc (fun h=>ht (Go.Ab.condT h H)) (fun h=>hf (Go.Ab.condF h H))
theorem bw {P : Program} {ops : Array Oper} {o : Oper} {rest : List Oper} {n : Nat} {s : Nat → PV} {bx : Nat → Option Box} {ob : Nat → Option Obj} {K : PState → Prop} {j : Nat} {want b : Bool} {d : Nat} (hg : o.guard = some (j,want)) (hd : (ops[j]?).bind (·.dst) = some d) (hs : s d = .val (.bool b)) {α : Type} {A B r : α} (H : cond b A B = r)
  (ht : A = r → Ao P ops (o :: rest) ⟨n,upd s d (.val (.bool true)),bx,ob⟩ K) (hf : B = r → Ao P ops (o :: rest) ⟨n,upd s d (.val (.bool false)),bx,ob⟩ K) : Ao P ops (o :: rest) ⟨n,s,bx,ob⟩ K := jv hg hd hs (fun h=>ht (condT h H)) (fun h=>hf (condF h H))
theorem Do.sH {P : Program} {T : TT} {rb : RB} {ops : Array Oper} {o : Oper} {k : Nat} {L : List Nat} {n : Nat} {s : Nat → PV} {bx : Nat → Option Box} {ob : Nat → Option Obj} {K : PState → Prop} {j : Nat} {want b : Bool} {d : Nat} (ho : ops[k]? = some o) (hg : o.guard = some (j,want)) (hd : (ops[j]?).bind (·.dst) = some d) (hs : s d = .val (.bool b)) {α : Type} {A B r : α} (H : cond b A B = r)
  (ht : A = r → Do P T rb ops (k :: L) ⟨n,upd s d (.val (.bool true)),bx,ob⟩ K) (hf : B = r → Do P T rb ops (k :: L) ⟨n,upd s d (.val (.bool false)),bx,ob⟩ K) : Do P T rb ops (k :: L) ⟨n,s,bx,ob⟩ K := qb ho hg hd hs (fun h=>ht (condT h H)) (fun h=>hf (condF h H))
theorem ir {P : Program} {T : TT} {rb : RB} {ops : Array Oper} {o : Oper} {k : Nat} {L : List Nat} {n : Nat} {s : Nat → PV} {bx : Nat → Option Box} {ob : Nat → Option Obj} {K : PState → Prop} {j : Nat} {want b : Bool} {d : Nat} {α : Type} {A B r : α} (H : cond b A B = r) (ht : A = r → Do P T rb ops (k :: L) ⟨n,upd s d (.val (.bool true)),bx,ob⟩ K) (hf : B = r → Do P T rb ops (k :: L) ⟨n,upd s d (.val (.bool false)),bx,ob⟩ K) (ho : ops[k]? = some o := by exact rfl) (hg : o.guard = some (j,want) := by exact rfl) (hd : (ops[j]?).bind (·.dst) = some d := by exact rfl) (hs : s d = .val (.bool b) := by exact rfl) : Do P T rb ops (k :: L) ⟨n,s,bx,ob⟩ K := Do.sH ho hg hd hs H ht hf
theorem thenF_ret {σ τ ρ : Type} {r : ρ} {k : σ → Option (Flow τ ρ)} {x : Flow τ ρ} (h : Flow.thenF (.ret r) k = some x) : x = .ret r := (Option.some.inj h).symm
theorem bq {σ ρ : Type} {r x : ρ} {k : σ → Option ρ} (h : Flow.thenR (.ret r) k = some x) : r = x := Option.some.inj h
theorem ax {α : Type} {a b : α} (h : some a = some b) : a = b := Option.some.inj h
def me {α σ ρ : Type} (step : Nat → α → σ → Option (Flow σ ρ)) (xs : List α) (j : Nat) (res : Flow σ ρ) : Flow σ ρ → Prop
 | .next s'=>aM step (j + 1) (xs.drop (j + 1)) s' = some res
 | .brk s'=>res = .next s'
 | .ret r=>res = .ret r
theorem rMc {α σ ρ : Type} {step : Nat → α → σ → Option (Flow σ ρ)} {xs : List α} {j : Nat} {s : σ} {res : Flow σ ρ} (hj : j < xs.length) (h : aM step j (xs.drop j) s = some res) :
  ∃ x fl,xs[j]? = some x ∧ step j x s = some fl ∧ me step xs j res fl := by
 rw [List.drop_eq_getElem_cons hj,aM] at h
 refine ⟨xs[j],?_⟩
 split at h
 ·cases h
 ·rename_i s' hs; exact ⟨_,ze hj,hs,h⟩
 ·rename_i s' hs; exact ⟨_,ze hj,hs,(Option.some.inj h).symm⟩
 ·rename_i s' hs; exact ⟨_,ze hj,hs,(Option.some.inj h).symm⟩
theorem rMd {α σ ρ : Type} {step : Nat → α → σ → Option (Flow σ ρ)} {xs : List α} {j : Nat} {s : σ} {res : Flow σ ρ} (hj : xs.length ≤ j) (h : aM step j (xs.drop j) s = some res) : res = .next s := by
 rw [List.drop_eq_nil_of_le hj,aM] at h
 exact (Option.some.inj h).symm
def iterGo {σ ρ : Type} (step : σ → Option (Flow σ ρ)) (n : Nat) (res : Flow σ ρ) : Flow σ ρ → Prop
 | .next s'=>ij step n s' = some res
 | .brk s'=>res = .next s'
 | .ret r=>res = .ret r
theorem ct {σ ρ : Type} {step : σ → Option (Flow σ ρ)} {n : Nat} {s : σ} {res : Flow σ ρ} (h : ij step (n + 1) s = some res) : ∃ fl,step s = some fl ∧ iterGo step n res fl := by
 rw [ij] at h
 split at h
 ·cases h
 ·rename_i s' hs; exact ⟨_,hs,h⟩
 ·rename_i s' hs; exact ⟨_,hs,(Option.some.inj h).symm⟩
 ·rename_i s' hs; exact ⟨_,hs,(Option.some.inj h).symm⟩
section
variable {P : Program} {fn : Func} {R : PV → Heap → Prop} {k : List KI} {n : Nat} {s : Nat → PV} {bx : Nat → Option Box} {ob : Nat → Option Obj} {T : TT} {st : PState}
theorem dU {τ γ : Type} (J : τ → γ → PState) (Gd : τ → Prop) {c : Code} (h : V P fn R (.code c :: .stop (fun st'=>∃ t g,Gd t ∧ st' = J t g) :: k) st) (hk : ∀ t g,Gd t → V P fn R k (J t g)) :
  V P fn R (.code c :: k) st := by
 intro C M a w hi
 have := h C M a w hi
 simp only [after] at this ⊢
 refine wp_mono this ?_
 intro e a w he
 cases e with
 | normal =>
  obtain ⟨st',M',⟨t,g,hG,rfl⟩,hi'⟩ := he
  exact hk t g hG C M' a w hi'
 | _=>exact he
theorem aQ {τ γ : Type} {J : τ → γ → PState} {Gd : τ → Prop} (t : τ) (g : γ) (hG : Gd t) (h : Gh P st (J t g)) : V P fn R (.stop (fun st'=>∃ t g,Gd t ∧ st' = J t g) :: k) st :=
 cq h (sj ⟨t,g,hG,rfl⟩)
theorem fp {τ γ β : Type} {x : Option τ} {f : τ → Option β} {r : β} (J : τ → γ → PState) {c : Code} (H : ae x f = some r) (h : ∀ u,x = some u → V P fn R (.code c :: .stop (fun st'=>∃ t g,t = u ∧ st' = J t g) :: k) st)
  (hk : ∀ t g,f t = some r → V P fn R k (J t g)) : V P fn R (.code c :: k) st := by
 obtain ⟨u,h1,h2⟩ := am H
 exact dU J (fun t=>t = u) (h u h1) (fun t g e=>hk t g (e ▸ h2))
theorem ff {τ γ β : Type} {x : τ} {f : τ → β} {r : β} (J : τ → γ → PState) {c : Code} (H : be x f = r) (h : ∀ u,x = u → V P fn R (.code c :: .stop (fun st'=>∃ t g,t = u ∧ st' = J t g) :: k) st)
  (hk : ∀ t g,f t = r → V P fn R k (J t g)) : V P fn R (.code c :: k) st := by
 obtain ⟨u,h1,h2⟩ := bR H
 exact dU J (fun t=>t = u) (h u h1) (fun t g e=>hk t g (e ▸ h2))
theorem V.cutR {σ γ β : Type} {x : Option (Flow σ β)} {f : σ → Option β} {r : β} (J : σ → γ → PState) {c : Code} (H : ae x (fun fl=>fl.thenR f) = some r) (h : ∀ u,x = some u → u.thenR f = some r → V P fn R (.code c :: .stop (fun st'=>∃ t g,u = .next t ∧ st' = J t g) :: k) st)
  (hk : ∀ t g,f t = some r → V P fn R k (J t g)) : V P fn R (.code c :: k) st := by
 obtain ⟨u,h1,h2⟩ := am H
 exact dU J (fun t=>u = .next t) (h u h1 h2) (fun t g e=>hk t g (by subst e; exact h2))
theorem V.cutF {σ τ γ β : Type} {x : Option (Flow σ β)} {f : σ → Option (Flow τ β)} {r : Flow τ β} (J : σ → γ → PState) {c : Code} (H : ae x (fun fl=>fl.thenF f) = some r) (h : ∀ u,x = some u → u.thenF f = some r → V P fn R (.code c :: .stop (fun st'=>∃ t g,u = .next t ∧ st' = J t g) :: k) st)
  (hk : ∀ t g,f t = some r → V P fn R k (J t g)) : V P fn R (.code c :: k) st := by
 obtain ⟨u,h1,h2⟩ := am H
 exact dU J (fun t=>u = .next t) (h u h1 h2) (fun t g e=>hk t g (by subst e; exact h2))
theorem km {α σ ρ γ : Type} {step : Nat → α → σ → Option (Flow σ ρ)} {xs : List α} {res : Flow σ ρ} (F : Nat → σ → γ → PState) {s₀ : σ} (g₀ : γ) {c : Code}
  (hres : aM step 0 xs s₀ = some res) (h₀ : Gh P st (F 0 s₀ g₀))
  (round : ∀ j s g,j ≤ xs.length → aM step j (xs.drop j) s = some res →
   V P fn R (.code c :: .stop (fun st'=>∃ s' g',(j + 1 ≤ xs.length ∧ aM step (j + 1) (xs.drop (j + 1)) s' = some res) ∧ st' = F (j + 1) s' g') :: k) (F j s g)) :
  V P fn R (.code (.loop c) :: k) st := by
 refine kr (X := Nat × σ × γ) (fun X=>F X.1 X.2.1 X.2.2) (fun X=>X.1 ≤ xs.length ∧ aM step X.1 (xs.drop X.1) X.2.1 = some res) (fun X=>xs.length - X.1) (0,s₀,g₀) ⟨Nat.zero_le _,by simpa using hres⟩ h₀ ?_
 rintro ⟨j,s,g⟩ ⟨h1,h2⟩
 have := round j s g h1 h2
 intro C M a w hi
 have h3 := this C M a w hi
 simp only [after] at h3 ⊢
 refine wp_mono h3 ?_
 intro e a w he
 cases e with
 | normal =>
  obtain ⟨st',M',⟨s',g',⟨h4,h5⟩,rfl⟩,hi'⟩ := he
  exact ⟨_,M',⟨(j + 1,s',g'),by show xs.length - (j + 1) < xs.length - j; omega,⟨h4,h5⟩,rfl⟩,hi'⟩
 | _=>exact he
theorem cz {σ γ : Type} {Q : σ → Prop} {F : σ → γ → PState} (s' : σ) (g' : γ) (hQ : Q s') (h : Gh P st (F s' g')) : V P fn R (.stop (fun st'=>∃ s' g',Q s' ∧ st' = F s' g') :: k) st :=
 cq h (sj ⟨s',g',hQ,rfl⟩)
theorem dA {σ ρ γ : Type} {step : σ → Option (Flow σ ρ)} {res : Flow σ ρ} (F : σ → γ → PState) {s₀ : σ} (g₀ : γ) {c : Code}
  (hres : whileM step s₀ = some res) (h₀ : Gh P st (F s₀ g₀))
  (round : ∀ m s g,ij step (m + 1) s = some res → V P fn R (.code c :: .stop (fun st'=>∃ s' g',ij step m s' = some res ∧ st' = F s' g') :: k) (F s g)) :
  V P fn R (.code (.loop c) :: k) st := by
 obtain ⟨m,hm⟩ := whileM_iff.1 hres
 refine kr (X := Nat × σ × γ) (fun X=>F X.2.1 X.2.2) (fun X=>ij step X.1 X.2.1 = some res) (fun X=>X.1) (m,s₀,g₀) hm h₀ ?_
 rintro ⟨j,s,g⟩ h2
 cases j with
 | zero=>simp [ij] at h2
 | succ j =>
 have := round j s g h2
 intro C M a w hi
 have h3 := this C M a w hi
 simp only [after] at h3 ⊢
 refine wp_mono h3 ?_
 intro e a w he
 cases e with
 | normal =>
  obtain ⟨st',M',⟨s',g',h5,rfl⟩,hi'⟩ := he
  exact ⟨_,M',⟨(j,s',g'),Nat.lt_succ_self j,h5,rfl⟩,hi'⟩
 | _=>exact he
theorem Gh.refl (st : PState) : Gh P st st := fun _ M _ _ hi=>⟨M,hi⟩
theorem Gh.trans {a b c : PState} (h : Gh P a b) (h' : Gh P b c) : Gh P a c := fun C M x w hi =>
 let ⟨_,h1⟩ := h C M x w hi
 h' C _ x w h1
theorem Gh.cast (d : Nat) {p q : PV} (hs : s d = p) (h : PLe P p q) : Gh P ⟨n,s,bx,ob⟩ ⟨n,upd s d q,bx,ob⟩ := fun _ M _ _ hi =>
 ⟨M,⟨hi.1.1,hi.1.2.1,fun t=>by
  show Rep P M true (upd s d q t) _
  rw [dK]
  split
  ·rename_i e; subst e; have := hi.1.2.2 t; exact h M _ (hs ▸ this)
  ·exact hi.1.2.2 t⟩,hi.2⟩
theorem V.cast (d : Nat) {p q : PV} (hs : s d = p) (h : PLe P p q) (hV : V P fn R k ⟨n,upd s d q,bx,ob⟩) : V P fn R k ⟨n,s,bx,ob⟩ := cq (Gh.cast d hs h) hV
end
section
variable {α : Type} {f f' : α → List PV}
theorem bC (hE : ∀ x,f' x = f x) {xs : List α} {j : Nat} {x : α} (h : xs[j]? = some x) : (xs.map f')[((j : Nat) : Int).toNat]? = some (f x) := by
 simp [h,hE]
theorem aJ (hE : ∀ x,f' x = f x) {xs : List α} {i : Int} {x : α} (h : xs[i.toNat]? = some x) : (xs.map f')[i.toNat]? = some (f x) := by
 simp [h,hE]
theorem jG (hE : ∀ x,f' x = f x) (xs : List α) : xs.map f = xs.map f' := by
 apply List.map_congr_left
 intro x _
 exact (hE x).symm
theorem lV {xs ys : List α} {a b : Nat} (h : ys = (xs.take b).drop a) : ((xs.map f).take b).drop a = ys.map f := by rw [h]; simp
theorem rowsLt {xs : List α} {j : Nat} (h : decide ((j : Int) < ((xs.length : Nat) : Int)) = true) : j < xs.length := by simpa using h
theorem rowsGe {xs : List α} {j : Nat} (h : decide ((j : Int) < ((xs.length : Nat) : Int)) = false) : xs.length ≤ j := by simpa using h
end
theorem eV.of_eq {P : Program} {a b : List (List PV)} (h : a = b) : eV P a b := h ▸ eV.refl a
theorem eV.trans {P : Program} {a b c : List (List PV)} (h : eV P a b) (h' : eV P b c) : eV P a c := ⟨h.1.trans h'.1,fun M k x o hx=>h'.2 M k x o (h.2 M k x o hx)⟩
def aC {α : Type} (xs : List α) (i : Int) : Option α := if 0 ≤ i then xs[i.toNat]? else none
theorem gIs {α : Type} {xs : List α} {i : Int} {x : α} (h : aC xs i = some x) : 0 ≤ i ∧ xs[i.toNat]? = some x := by
 unfold aC at h
 split at h
 ·rename_i h0; exact ⟨h0,h⟩
 ·cases h
theorem aT {α β : Type} {xs : List α} {i : Int} {k : α → Option β} {r : β} (h : ae (aC xs i) k = some r) : ∃ a,(0 ≤ i ∧ xs[i.toNat]? = some a) ∧ k a = some r := by
 obtain ⟨a,h1,h2⟩ := am h
 exact ⟨a,gIs h1,h2⟩
def mi {α : Type} (xs : List α) (a b : Int) : Option (List α) := if 0 ≤ a ∧ a ≤ b ∧ b ≤ xs.length then some ((xs.take b.toNat).drop a.toNat) else none
theorem lb {α : Type} {xs ys : List α} {a b : Int} (h : mi xs a b = some ys) : (0 ≤ a ∧ a ≤ b ∧ b ≤ xs.length) ∧ ys = (xs.take b.toNat).drop a.toNat := by
 unfold mi at h
 split at h
 ·rename_i h0; exact ⟨h0,(Option.some.inj h).symm⟩
 ·cases h
def dF {α : Type} (bytes : Nat) (xs ys : List α) : Option (List α) := if (xs.length + ys.length) * bytes ≤ 2 ^ 47 ∧ xs.length + ys.length ≤ maxLen then some (xs ++ ys) else none
theorem cQ {α : Type} {bytes : Nat} {xs ys zs : List α} (h : dF bytes xs ys = some zs) : (xs.length + ys.length) * bytes ≤ 2 ^ 47 ∧ xs.length + ys.length ≤ maxLen ∧ zs = xs ++ ys := by
 unfold dF at h
 split at h
 ·rename_i h0; exact ⟨h0.1,h0.2,(Option.some.inj h).symm⟩
 ·cases h
theorem eA {α β : Type} {f : α → β} {bytes : Nat} {xs ys : List α} (h : (xs.length + ys.length) * bytes ≤ 2 ^ 47) : ((xs.map f).length + (ys.map f).length) * bytes ≤ 2 ^ 47 := by simpa using h
theorem et {α β : Type} {f : α → β} {xs ys : List α} (h : xs.length + ys.length ≤ maxLen) : (xs.map f).length + (ys.map f).length ≤ maxLen := by simpa using h
theorem eB {α β : Type} {f : α → β} {xs ys zs : List α} (h : zs = xs ++ ys) : xs.map f ++ ys.map f = zs.map f := by rw [h,List.map_append]
def Flow.thenP {σ β : Type} (fl : Flow σ Empty) (k : σ → Option β) : Option β := match fl with
 | .next s=>k s
 | .brk s=>k s
 | .ret r=>r.elim
theorem cw {σ β : Type} {fl : Flow σ Empty} {t : σ} {k : σ → Option β} {r : β} (h : fl = .next t) (H : fl.thenP k = some r) : k t = some r := by subst h; exact H
theorem jx {σ ρ : Type} {fl : Flow σ ρ} {t : σ} {k : σ → Option ρ} {r : ρ} (h : fl = .next t) (H : fl.thenR k = some r) : k t = some r := by subst h; exact H
section
variable {P : Program} {fn : Func} {R : PV → Heap → Prop} {k : List KI} {n : Nat} {s : Nat → PV} {bx : Nat → Option Box} {ob : Nat → Option Obj} {T : TT}
def nB {σ γ : Type} : σ → γ → Nat → Option Box := fun _ _ _=>none
def nO {σ γ : Type} : σ → γ → Nat → Option Obj := fun _ _ _=>none
theorem sh {α σ ρ γ β : Type} {step : Nat → α → σ → Option (Flow σ ρ)} {xs : List α} {s₀ : σ} {th : Flow σ ρ → Option β} {r : β} {rw : α → List PV}
  (hT : T.Ok P) (d : Nat) {e : TypeId} {ei : TInfo} (hei : T.get e = some ei) (hs : s d = .list e (xs.map rw))
  (S : σ → γ → Nat → PV) (B : σ → γ → Nat → Option Box) (O : σ → γ → Nat → Option Obj) (E : (Nat → PV) → Nat → σ → γ → Nat → PV) (g₀ : γ)
  {id rid : Nat} {ops : Array Oper} {o : Oper} {tst : Operand} {rest : Code} {S' : Nat → σ → γ → Nat → PV}
  (H : ae (aM step 0 xs s₀) th = some r)
  (h₀ : Gh P ⟨n,s,bx,ob⟩ ⟨n,E (S s₀ g₀) 0 s₀ g₀,B s₀ g₀,O s₀ g₀⟩)
  (ho : ops.toList = [o])
  (hq : ∀ j s g,nq T ops n (E (S s g) j s g) (B s g) o = some (S' j s g))
  (ht : ∀ j s g,evS (S' j s g) tst = .val (.bool (decide ((j : Int) < ((xs.length : Nat) : Int)))))
  (hx : ∀ j s g,Gh P ⟨n,S' j s g,B s g,O s g⟩ ⟨n,S s g,B s g,O s g⟩)
  (round : ∀ fl,th fl = some r → ∀ j s g,xs.length ≤ maxLen → j < xs.length → ∀ x fb,xs[j]? = some x → step j x s = some fb → me step xs j fl fb →
   V P fn R (.code rest :: .stop (fun st'=>∃ s' g',(j + 1 ≤ xs.length ∧ aM step (j + 1) (xs.drop (j + 1)) s' = some fl) ∧ st' = ⟨n,E (S s' g') (j + 1) s' g',B s' g',O s' g'⟩) :: .blk id :: .stop (fun st'=>∃ t g,fl = .next t ∧ st' = ⟨n,S t g,B t g,O t g⟩) :: k) ⟨n,S' j s g,B s g,O s g⟩)
  (hk : ∀ t g,th (.next t) = some r → V P fn R k ⟨n,S t g,B t g,O t g⟩) :
  V P fn R (.code (.block id (.loop (.seq (.region rid ops false) (.seq (.cond tst .skip (.exit id)) rest)))) :: k) ⟨n,s,bx,ob⟩ := by
 refine iB hT d hei hs (fun hz _=>?_)
 rw [zl] at hz
 obtain ⟨fl,h1,h2⟩ := am H
 refine dU (fun t g=>⟨n,S t g,B t g,O t g⟩) (fun t=>fl = .next t) ?_ (fun t g e=>hk t g (by subst e; exact h2))
 refine az (km (fun j s g=>⟨n,E (S s g) j s g,B s g,O s g⟩) g₀ h1 h₀ (fun j s g hj hr=>?_))
 refine ab (aa ?_)
 rw [ho]
 refine ak hT (hq j s g) (ac ?_)
 refine ab (du (ht j s g) (fun h=>?_) (fun h=>?_))
 ·have hl : j < xs.length := by simpa using h
  obtain ⟨x,fb,hx1,H,hg⟩ := rMc hl hr
  exact au (round fl h2 j s g hz hl x fb hx1 H hg)
 ·have hn := rMd (by simpa using h) hr
  refine bF (k' := .stop (fun st'=>∃ t g,fl = .next t ∧ st' = ⟨n,S t g,B t g,O t g⟩) :: k) ?_ (aQ s g hn (hx j s g))
  simp [mp,Nat.beq_refl]
theorem sM {α σ γ β : Type} {step : Nat → α → σ → Option (Flow σ Empty)} {xs : List α} {s₀ : σ} {kk : σ → Option (β)} {r : β} {rw : α → List PV}
  (hT : T.Ok P) (d : Nat) {e : TypeId} {ei : TInfo} (hei : T.get e = some ei) (hs : s d = .list e (xs.map rw))
  (S : σ → γ → Nat → PV) (B : σ → γ → Nat → Option Box) (O : σ → γ → Nat → Option Obj) (E : (Nat → PV) → Nat → σ → γ → Nat → PV) (g₀ : γ)
  {id rid : Nat} {ops : Array Oper} {o : Oper} {tst : Operand} {rest : Code} {S' : Nat → σ → γ → Nat → PV}
  (H : ae (aM step 0 xs s₀) (fun fl=>fl.thenP kk) = some r)
  (ho : ops.toList = [o])
  (h₀ : Gh P ⟨n,s,bx,ob⟩ ⟨n,E (S s₀ g₀) 0 s₀ g₀,B s₀ g₀,O s₀ g₀⟩)
  (hq : ∀ j s g,nq T ops n (E (S s g) j s g) (B s g) o = some (S' j s g))
  (ht : ∀ j s g,evS (S' j s g) tst = .val (.bool (decide ((j : Int) < ((xs.length : Nat) : Int)))))
  (hx : ∀ j s g,Gh P ⟨n,S' j s g,B s g,O s g⟩ ⟨n,S s g,B s g,O s g⟩)
  (round : ∀ fl,fl.thenP kk = some r → ∀ j s g,xs.length ≤ maxLen → j < xs.length → ∀ x fb,xs[j]? = some x → step j x s = some fb → me step xs j fl fb →
   V P fn R (.code rest :: .stop (fun st'=>∃ s' g',(j + 1 ≤ xs.length ∧ aM step (j + 1) (xs.drop (j + 1)) s' = some fl) ∧ st' = ⟨n,E (S s' g') (j + 1) s' g',B s' g',O s' g'⟩) :: .blk id :: .stop (fun st'=>∃ t g,fl = .next t ∧ st' = ⟨n,S t g,B t g,O t g⟩) :: k) ⟨n,S' j s g,B s g,O s g⟩)
  (hk : ∀ t g,kk t = some r → V P fn R k ⟨n,S t g,B t g,O t g⟩) :
  V P fn R (.code (.block id (.loop (.seq (.region rid ops false) (.seq (.cond tst .skip (.exit id)) rest)))) :: k) ⟨n,s,bx,ob⟩ :=
 sh hT d hei hs S B O E g₀ H h₀ ho hq ht hx round (fun t g e=>hk t g e)
theorem sP {α σ γ β : Type} {step : Nat → α → σ → Option (Flow σ β)} {xs : List α} {s₀ : σ} {kk : σ → Option (β)} {r : β} {rw : α → List PV}
  (hT : T.Ok P) (d : Nat) {e : TypeId} {ei : TInfo} (hei : T.get e = some ei) (hs : s d = .list e (xs.map rw))
  (S : σ → γ → Nat → PV) (B : σ → γ → Nat → Option Box) (O : σ → γ → Nat → Option Obj) (E : (Nat → PV) → Nat → σ → γ → Nat → PV) (g₀ : γ)
  {id rid : Nat} {ops : Array Oper} {o : Oper} {tst : Operand} {rest : Code} {S' : Nat → σ → γ → Nat → PV}
  (H : ae (aM step 0 xs s₀) (fun fl=>fl.thenR kk) = some r)
  (ho : ops.toList = [o])
  (h₀ : Gh P ⟨n,s,bx,ob⟩ ⟨n,E (S s₀ g₀) 0 s₀ g₀,B s₀ g₀,O s₀ g₀⟩)
  (hq : ∀ j s g,nq T ops n (E (S s g) j s g) (B s g) o = some (S' j s g))
  (ht : ∀ j s g,evS (S' j s g) tst = .val (.bool (decide ((j : Int) < ((xs.length : Nat) : Int)))))
  (hx : ∀ j s g,Gh P ⟨n,S' j s g,B s g,O s g⟩ ⟨n,S s g,B s g,O s g⟩)
  (round : ∀ fl,fl.thenR kk = some r → ∀ j s g,xs.length ≤ maxLen → j < xs.length → ∀ x fb,xs[j]? = some x → step j x s = some fb → me step xs j fl fb →
   V P fn R (.code rest :: .stop (fun st'=>∃ s' g',(j + 1 ≤ xs.length ∧ aM step (j + 1) (xs.drop (j + 1)) s' = some fl) ∧ st' = ⟨n,E (S s' g') (j + 1) s' g',B s' g',O s' g'⟩) :: .blk id :: .stop (fun st'=>∃ t g,fl = .next t ∧ st' = ⟨n,S t g,B t g,O t g⟩) :: k) ⟨n,S' j s g,B s g,O s g⟩)
  (hk : ∀ t g,kk t = some r → V P fn R k ⟨n,S t g,B t g,O t g⟩) :
  V P fn R (.code (.block id (.loop (.seq (.region rid ops false) (.seq (.cond tst .skip (.exit id)) rest)))) :: k) ⟨n,s,bx,ob⟩ :=
 sh hT d hei hs S B O E g₀ H h₀ ho hq ht hx round (fun t g e=>hk t g e)
def eL {α : Type} (i m d : Nat) (ety : TypeId) (xs : List α) (rw : α → List PV) (e : Nat → PV) (j : Nat) : Nat → PV := upd (upd (upd e i (.val (.int .i64 (j : Int)))) m (.val (.int .i64 (xs.length : Int)))) d (.list ety (xs.map rw))
theorem fC {α σ γ β : Type} {step : Nat → α → σ → Option (Flow σ Empty)} {xs : List α} {s₀ : σ} {kk : σ → Option (β)} {r : β} {rw : α → List PV}
  (hT : T.Ok P) (i m d : Nat) {e : TypeId} {ei : TInfo}
  (S : σ → γ → Nat → PV) (B : σ → γ → Nat → Option Box) (O : σ → γ → Nat → Option Obj) (g₀ : γ)
  {id rid : Nat} {ops : Array Oper} {o : Oper} {tst : Operand} {rest : Code} {S' : Nat → σ → γ → Nat → PV}
  (H : ae (aM step 0 xs s₀) (fun fl=>fl.thenP kk) = some r)
  (round : ∀ fl,fl.thenP kk = some r → ∀ j s g,xs.length ≤ maxLen → j < xs.length → ∀ x fb,xs[j]? = some x → step j x s = some fb → me step xs j fl fb →
   V P fn R (.code rest :: .stop (fun st'=>∃ s' g',(j + 1 ≤ xs.length ∧ aM step (j + 1) (xs.drop (j + 1)) s' = some fl) ∧ st' = ⟨n,eL i m d e xs rw (S s' g') (j + 1),B s' g',O s' g'⟩) :: .blk id :: .stop (fun st'=>∃ t g,fl = .next t ∧ st' = ⟨n,S t g,B t g,O t g⟩) :: k) ⟨n,S' j s g,B s g,O s g⟩)
  (hk : ∀ t g,kk t = some r → V P fn R k ⟨n,S t g,B t g,O t g⟩)
  (hs : s d = .list e (xs.map rw) := by exact rfl) (hei : T.get e = some ei := by exact rfl) (ho : ops.toList = [o] := by exact rfl)
  (h₀ : Gh P ⟨n,s,bx,ob⟩ ⟨n,eL i m d e xs rw (S s₀ g₀) 0,B s₀ g₀,O s₀ g₀⟩ := by exact Gh.d)
  (hq : ∀ j s g,nq T ops n (eL i m d e xs rw (S s g) j) (B s g) o = some (S' j s g) := by exact fun _ _ _=>rfl)
  (ht : ∀ j s g,evS (S' j s g) tst = .val (.bool (decide ((j : Int) < ((xs.length : Nat) : Int)))) := by exact fun _ _ _=>rfl)
  (hx : ∀ j s g,Gh P ⟨n,S' j s g,B s g,O s g⟩ ⟨n,S s g,B s g,O s g⟩ := by exact fun _ _ _=>Gh.d) :
  V P fn R (.code (.block id (.loop (.seq (.region rid ops false) (.seq (.cond tst .skip (.exit id)) rest)))) :: k) ⟨n,s,bx,ob⟩ :=
 sM hT d hei hs S B O (fun e j _ _=>eL i m d _ xs rw e j) g₀ H ho h₀ hq ht hx round hk
theorem gY {α σ γ β : Type} {step : Nat → α → σ → Option (Flow σ β)} {xs : List α} {s₀ : σ} {kk : σ → Option (β)} {r : β} {rw : α → List PV}
  (hT : T.Ok P) (i m d : Nat) {e : TypeId} {ei : TInfo}
  (S : σ → γ → Nat → PV) (B : σ → γ → Nat → Option Box) (O : σ → γ → Nat → Option Obj) (g₀ : γ)
  {id rid : Nat} {ops : Array Oper} {o : Oper} {tst : Operand} {rest : Code} {S' : Nat → σ → γ → Nat → PV}
  (H : ae (aM step 0 xs s₀) (fun fl=>fl.thenR kk) = some r)
  (round : ∀ fl,fl.thenR kk = some r → ∀ j s g,xs.length ≤ maxLen → j < xs.length → ∀ x fb,xs[j]? = some x → step j x s = some fb → me step xs j fl fb →
   V P fn R (.code rest :: .stop (fun st'=>∃ s' g',(j + 1 ≤ xs.length ∧ aM step (j + 1) (xs.drop (j + 1)) s' = some fl) ∧ st' = ⟨n,eL i m d e xs rw (S s' g') (j + 1),B s' g',O s' g'⟩) :: .blk id :: .stop (fun st'=>∃ t g,fl = .next t ∧ st' = ⟨n,S t g,B t g,O t g⟩) :: k) ⟨n,S' j s g,B s g,O s g⟩)
  (hk : ∀ t g,kk t = some r → V P fn R k ⟨n,S t g,B t g,O t g⟩)
  (hs : s d = .list e (xs.map rw) := by exact rfl) (hei : T.get e = some ei := by exact rfl) (ho : ops.toList = [o] := by exact rfl)
  (h₀ : Gh P ⟨n,s,bx,ob⟩ ⟨n,eL i m d e xs rw (S s₀ g₀) 0,B s₀ g₀,O s₀ g₀⟩ := by exact Gh.d)
  (hq : ∀ j s g,nq T ops n (eL i m d e xs rw (S s g) j) (B s g) o = some (S' j s g) := by exact fun _ _ _=>rfl)
  (ht : ∀ j s g,evS (S' j s g) tst = .val (.bool (decide ((j : Int) < ((xs.length : Nat) : Int)))) := by exact fun _ _ _=>rfl)
  (hx : ∀ j s g,Gh P ⟨n,S' j s g,B s g,O s g⟩ ⟨n,S s g,B s g,O s g⟩ := by exact fun _ _ _=>Gh.d) :
  V P fn R (.code (.block id (.loop (.seq (.region rid ops false) (.seq (.cond tst .skip (.exit id)) rest)))) :: k) ⟨n,s,bx,ob⟩ :=
 sP hT d hei hs S B O (fun e j _ _=>eL i m d _ xs rw e j) g₀ H ho h₀ hq ht hx round hk
end
def resT (s : Nat → PV) : List ResultVar → Option (List PV)
 | []=>some []
 | .tmp t :: l=>match resT s l with | some ps=>some (s t :: ps) | none=>none
 | .cell _ _ :: _=>none
section
variable {P : Program} {fn : Func} {R : PV → Heap → Prop} {k : List KI} {n : Nat} {s : Nat → PV} {bx : Nat → Option Box} {ob : Nat → Option Obj} {T : TT} {st : PState}
theorem resT_all : ∀ {l : List ResultVar} {ps : List PV},resT s l = some ps → kN T ⟨n,s,bx,ob⟩ l ps
 | [],ps,h=>by simp only [resT,zo] at h; exact h.symm
 | .tmp t :: l,ps,h=>by
  simp only [resT] at h
  split at h
  ·rename_i qs hq; cases h; exact ⟨_,_,rfl,rfl,resT_all hq⟩
  ·cases h
 | .cell _ _ :: _,ps,h=>by simp [resT] at h
theorem dP {α : Type} {x y : α} {ps : List PV} {r : PV} (hT : T.Ok P) (H : x = y) (h : resT s fn.results.toList = some ps) (he : x = y → lD ps = r := by intro e; subst e; rfl) :
  V P fn (fun u H=>u = r ∧ H = Heap.empty) (.code .ret :: k) ⟨n,s,bx,ob⟩ := bQ hT rfl (resT_all h) (PLe.q (he H))
theorem bB {α : Type} {x y : α} {ps : List PV} {r : PV} (hT : T.Ok P) (H : some x = some y) (h : resT s fn.results.toList = some ps) (he : x = y → lD ps = r := by intro e; subst e; rfl) :
  V P fn (fun u H=>u = r ∧ H = Heap.empty) (.code .ret :: k) ⟨n,s,bx,ob⟩ := dP hT (ax H) h he
theorem V.rCE {α : Type} {x y : α} {r p : PV} {a t tag b off : Nat} {ti : TInfo} {cells : List PV} (hT : T.Ok P) (H : x = y) (hr : fn.results = #[.cell a t]) (hti : T.get t = some ti) (hs : s a = .box tag b off) (hb : bx tag = some ⟨b,cells⟩) (hc : fJ ti off cells = some p) (he : x = y → p = r := by intro e; subst e; rfl) :
  V P fn (fun u H=>u = r ∧ H = Heap.empty) (.code .ret :: k) ⟨n,s,bx,ob⟩ := bQ hT hr (ps := [p]) ⟨_,_,rfl,⟨_,_,_,_,_,hti,hs,hb,hc⟩,rfl⟩ (PLe.q (he H))
theorem jW {α : Type} {x y : α} {r p : PV} {a t tag b off : Nat} {ti : TInfo} {cells : List PV} (hT : T.Ok P) (H : some x = some y) (hr : fn.results = #[.cell a t]) (hti : T.get t = some ti) (hs : s a = .box tag b off) (hb : bx tag = some ⟨b,cells⟩) (hc : fJ ti off cells = some p) (he : x = y → p = r := by intro e; subst e; rfl) :
  V P fn (fun u H=>u = r ∧ H = Heap.empty) (.code .ret :: k) ⟨n,s,bx,ob⟩ := V.rCE hT (ax H) hr hti hs hb hc he
theorem bO {α σ ρ γ : Type} {step : Nat → α → σ → Option (Flow σ ρ)} {xs : List α} {j : Nat} {res fb : Flow σ ρ} {v : σ} {F : σ → γ → PState} (g' : γ) (H : some (Flow.next v) = some fb) (hl : j < xs.length) (hg : me step xs j res fb) (h : Gh P st (F v g') := by exact Gh.d) :
  V P fn R (.stop (fun st'=>∃ s' g',(j + 1 ≤ xs.length ∧ aM step (j + 1) (xs.drop (j + 1)) s' = some res) ∧ st' = F s' g') :: k) st := by
 cases H
 exact cz v g' ⟨hl,hg⟩ h
end
def mF (n : Int) : Option Nat := if n ≤ 2 ^ 62 then some n.toNat else none
theorem oI {n : Int} {m : Nat} (h : mF n = some m) : n ≤ 2 ^ 62 ∧ m = n.toNat := by
 unfold mF at h
 split at h
 ·rename_i h0; exact ⟨h0,(Option.some.inj h).symm⟩
 ·cases h
section
variable {P : Program} {ops : Array Oper} {rest : List Oper} {o : Oper} {n : Nat} {s s' : Nat → PV} {bx : Nat → Option Box} {ob : Nat → Option Obj} {K : PState → Prop} {T : TT} {rb : RB} {k : Nat} {L : List Nat}
theorem lO (d : Nat) {p q : PV} (hs : s d = p) (h : PLe P p q) (hV : Ao P ops rest ⟨n,upd s d q,bx,ob⟩ K) : Ao P ops rest ⟨n,s,bx,ob⟩ K := cI (Gh.cast d hs h) hV
theorem Ao.lenL (hT : T.Ok P) (hg : aN ops s o = some true) {x : Operand} {t : TypeId} {ts : List TypeId} (ho : o.op = .call { callee := .builtin .len,args := #[x],argTypes := (t :: ts).toArray }) {ti : TInfo} {e' : TypeId} (hti : T.get t = some ti) (hd : ti.desc = .slice e')
  {e : TypeId} {rows : List (List PV)} (hx : evS s x = .list e rows) {m : Nat} (hm : rows.length = m) (hp : putD n s o.dst (.val (.int .i64 m)) = some s') (h : Ao P ops rest ⟨n,s',bx,ob⟩ K) : Ao P ops (o :: rest) ⟨n,s,bx,ob⟩ K := by
 refine mz hT hg (r := .val (.int .i64 m)) ?_ hp h
 rw [ho]
 simp [ix,nI,hti,hd,hx,lenPV,hm]
theorem aK {x : Operand} {t : TypeId} {ts : List TypeId} {ti : TInfo} {e' : TypeId} {e : TypeId} {rows : List (List PV)} {m : Nat} (hT : T.Ok P) (hm : rows.length = m) (h : Ao P ops rest ⟨n,s',bx,ob⟩ K) (hg : aN ops s o = some true := by exact rfl) (ho : o.op = .call { callee := .builtin .len,args := #[x],argTypes := (t :: ts).toArray } := by exact rfl) (hti : T.get t = some ti := by exact rfl) (hd : ti.desc = .slice e' := by exact rfl) (hx : evS s x = .list e rows := by exact rfl) (hp : putD n s o.dst (.val (.int .i64 m)) = some s' := by exact rfl) : Ao P ops (o :: rest) ⟨n,s,bx,ob⟩ K := Ao.lenL hT hg ho hti hd hx hm hp h
theorem Ao.lenO (hT : T.Ok P) (hg : aN ops s o = some true) {x : Operand} {t : TypeId} {ts : List TypeId} (ho : o.op = .call { callee := .builtin .len,args := #[x],argTypes := (t :: ts).toArray }) {ti : TInfo} {e' : TypeId} (hti : T.get t = some ti) (hd : ti.desc = .slice e')
  {tg l : Nat} {g : OwnRef} (hx : evS s x = .own tg g l) {m : Nat} (hm : l = m) (hp : putD n s o.dst (.val (.int .i64 m)) = some s') (h : Ao P ops rest ⟨n,s',bx,ob⟩ K) : Ao P ops (o :: rest) ⟨n,s,bx,ob⟩ K := by
 refine mz hT hg (r := .val (.int .i64 m)) ?_ hp h
 rw [ho]
 simp [ix,nI,hti,hd,hx,lenPV,hm]
theorem io {x : Operand} {t : TypeId} {ts : List TypeId} {ti : TInfo} {e' : TypeId} {tg l : Nat} {g : OwnRef} {m : Nat} (hT : T.Ok P) (hm : l = m) (h : Ao P ops rest ⟨n,s',bx,ob⟩ K) (hg : aN ops s o = some true := by exact rfl) (ho : o.op = .call { callee := .builtin .len,args := #[x],argTypes := (t :: ts).toArray } := by exact rfl) (hti : T.get t = some ti := by exact rfl) (hd : ti.desc = .slice e' := by exact rfl) (hx : evS s x = .own tg g l := by exact rfl) (hp : putD n s o.dst (.val (.int .i64 m)) = some s' := by exact rfl) : Ao P ops (o :: rest) ⟨n,s,bx,ob⟩ K := Ao.lenO hT hg ho hti hd hx hm hp h
theorem Do.lenL (ho : ops[k]? = some o) (hg : aN ops s o = some true) {x : Operand} {t : TypeId} {ts : List TypeId} (hop : o.op = .call { callee := .builtin .len,args := #[x],argTypes := (t :: ts).toArray }) {ti : TInfo} {e' : TypeId} (hti : T.get t = some ti) (hd : ti.desc = .slice e')
  {e : TypeId} {rows : List (List PV)} (hx : evS s x = .list e rows) {m : Nat} (hm : rows.length = m) (hp : putD n s o.dst (.val (.int .i64 m)) = some s') (h : Do P T rb ops L ⟨n,s',bx,ob⟩ K) : Do P T rb ops (k :: L) ⟨n,s,bx,ob⟩ K := by
 refine rQ ho hg (by rw [hop]; rfl) (r := .val (.int .i64 m)) ?_ hp h
 rw [hop]
 simp [hZ,ix,nI,hti,hd,hx,lenPV,hm]
theorem rW (hT : T.Ok P) (hg : aN ops s o = some true) {t : TypeId} {x : Operand} {lo hi : Option Operand} (ho : o.op = .slice t x lo hi none) {ti : TInfo} {e : TypeId} (hti : T.get t = some ti) (hd : ti.desc = .slice e)
  {rows : List (List PV)} (hx : evS s x = .list e rows) {m : Nat} (hm : rows.length = m) {a b : Int} (ha : kp (lo.map (evS s)) 0 = some a) (hb : kp (hi.map (evS s)) m = some b) (hab : 0 ≤ a ∧ a ≤ b ∧ b ≤ m)
  {rows' : List (List PV)} (hr : (rows.take b.toNat).drop a.toNat = rows') (hp : putD n s o.dst (.list e rows') = some s') (h : Ao P ops rest ⟨n,s',bx,ob⟩ K) : Ao P ops (o :: rest) ⟨n,s,bx,ob⟩ K := by
 subst hm
 refine mz hT hg (r := .list e rows') ?_ hp h
 rw [ho]
 simp only [ix,hti,hd,hx,oR,Nat.beq_refl,zc,ha,hb]
 rw [zp hab,hr]
theorem rU (ho : ops[k]? = some o) (hg : aN ops s o = some true) {t : TypeId} {x : Operand} {lo hi : Option Operand} (hop : o.op = .slice t x lo hi none) {ti : TInfo} {e : TypeId} (hti : T.get t = some ti) (hd : ti.desc = .slice e)
  {rows : List (List PV)} (hx : evS s x = .list e rows) {m : Nat} (hm : rows.length = m) {a b : Int} (ha : kp (lo.map (evS s)) 0 = some a) (hb : kp (hi.map (evS s)) m = some b) (hab : 0 ≤ a ∧ a ≤ b ∧ b ≤ m)
  {rows' : List (List PV)} (hr : (rows.take b.toNat).drop a.toNat = rows') (hp : putD n s o.dst (.list e rows') = some s') (h : Do P T rb ops L ⟨n,s',bx,ob⟩ K) : Do P T rb ops (k :: L) ⟨n,s,bx,ob⟩ K := by
 subst hm
 refine rQ ho hg (by rw [hop]; rfl) (r := .list e rows') ?_ hp h
 rw [hop]
 simp only [hZ,ix,hti,hd,hx,oR,Nat.beq_refl,zc,ha,hb]
 rw [zp hab,hr]
theorem Rep.rowsLe {M : Mem} {b : Bool} {e : TypeId} {rows rows' : List (List PV)} (h : eV P rows rows') {x : Value} (hx : Rep P M b (.list e rows) x) : Rep P M b (.list e rows') x := mH.list h M b x hx
theorem rp (hT : T.Ok P) {o : Oper} {ev : Operand → PV} {H : Heap} {x y : Operand} {t : TypeId} (ho : o.op = .call { callee := .builtin .append,args := #[x,y],argTypes := #[t,t] }) {ti ei : TInfo} {e : TypeId} (hti : T.get t = some ti) (hd : ti.desc = .slice e) (hei : T.get e = some ei)
  (hz : Nat.beq ei.zero.cells.size ei.size = true) (hsz : Nat.blt 0 ei.size = true) {tag : Nat} {g : OwnRef} {len : Nat} {rows rows2 rows2' rows' : List (List PV)} {wr : Bool} (hx : ev x = .own tag g len) (hob : H.ob tag = some ⟨g,e,rows,wr⟩) (hlen : len = rows.length) (hy : ev y = .list e rows2)
  (hle : eV P rows2 rows2') (hby : (rows.length + rows2'.length) * ei.bytes ≤ 2 ^ 47) (hmx : rows.length + rows2'.length ≤ maxLen) (heq : rows ++ rows2' = rows') {K : PV → Heap → Prop} (hk : ∀ g',K (.own tag g' rows'.length) ⟨H.bx,upd H.ob tag (some ⟨g',e,rows',wr⟩)⟩) : Eff P o ev H K := by
 subst heq
 classical
 have hxy : x ≠ y := fun e=>by subst e; rw [hx] at hy; cases hy
 intro C M a w next Q hi he hn
 have key := ro (P := P) (o := o) (ev := fun z=>if z = y then PV.list e rows2' else ev z) (H := H) hT ho hti hd hei hz hsz (rows2 := rows2') (by simp [hxy,hx]) hob hlen (by simp) hby hmx (K := K) hk
 refine key C M a w next Q hi (fun z hz=>?_) hn
 by_cases hzy : z = y
 ·subst hzy
  simp only [if_true]
  have := he z hz
  rw [hy] at this
  exact Rep.rowsLe hle this
 ·simp only [hzy,if_false]
  exact he z hz
theorem dq (hT : T.Ok P) (hg : aN ops s o = some true) {x y : Operand} {t : TypeId} (ho : o.op = .call { callee := .builtin .append,args := #[x,y],argTypes := #[t,t] }) {d : Nat} (hdst : o.dst = some d) (hlt : Nat.blt d n = true) {ti ei : TInfo} {e : TypeId} (hti : T.get t = some ti) (hd : ti.desc = .slice e) (hei : T.get e = some ei)
  (hz : Nat.beq ei.zero.cells.size ei.size = true) (hsz : Nat.blt 0 ei.size = true) {tag : Nat} {g : OwnRef} {len : Nat} {rows rows2 rows2' rows' : List (List PV)} {wr : Bool} (hx : evS s x = .own tag g len) (hob : ob tag = some ⟨g,e,rows,wr⟩) (hlen : len = rows.length) (hy : evS s y = .list e rows2)
  (hle : eV P rows2 rows2') (hby : (rows.length + rows2'.length) * ei.bytes ≤ 2 ^ 47) (hmx : rows.length + rows2'.length ≤ maxLen) (heq : rows ++ rows2' = rows') (h : ∀ g',Ao P ops rest ⟨n,upd s d (.own tag g' rows'.length),bx,upd ob tag (some ⟨g',e,rows',wr⟩)⟩ K) : Ao P ops (o :: rest) ⟨n,s,bx,ob⟩ K :=
 fj hg (rp hT ho hti hd hei hz hsz hx hob hlen hy hle hby hmx heq fun g'=>⟨_,by simp [hdst,putD,hlt],h g'⟩)
theorem Ao.appendCQ {x y : Operand} {t : TypeId} {d : Nat} {ti ei : TInfo} {e : TypeId} {tag : Nat} {g : OwnRef} {len : Nat} {rows rows2 rows2' rows' : List (List PV)} {wr : Bool} (hT : T.Ok P) (hle : eV P rows2 rows2') (hby : (rows.length + rows2'.length) * ei.bytes ≤ 2 ^ 47) (hmx : rows.length + rows2'.length ≤ maxLen) (heq : rows ++ rows2' = rows') (h : ∀ g',Ao P ops rest ⟨n,upd s d (.own tag g' rows'.length),bx,upd ob tag (some ⟨g',e,rows',wr⟩)⟩ K) (hg : aN ops s o = some true := by exact rfl) (ho : o.op = .call { callee := .builtin .append,args := #[x,y],argTypes := #[t,t] } := by exact rfl) (hdst : o.dst = some d := by exact rfl) (hlt : Nat.blt d n = true := by exact rfl) (hti : T.get t = some ti := by exact rfl) (hd : ti.desc = .slice e := by exact rfl) (hei : T.get e = some ei := by exact rfl) (hz : Nat.beq ei.zero.cells.size ei.size = true := by exact rfl) (hsz : Nat.blt 0 ei.size = true := by exact rfl) (hx : evS s x = .own tag g len := by exact rfl) (hob : ob tag = some ⟨g,e,rows,wr⟩ := by exact rfl) (hlen : len = rows.length := by exact rfl) (hy : evS s y = .list e rows2 := by exact rfl) : Ao P ops (o :: rest) ⟨n,s,bx,ob⟩ K := dq hT hg ho hdst hlt hti hd hei hz hsz hx hob hlen hy hle hby hmx heq h
theorem gX (hT : T.Ok P) (ho : ops[k]? = some o) (hg : aN ops s o = some true) {x y : Operand} {t : TypeId} (hop : o.op = .call { callee := .builtin .append,args := #[x,y],argTypes := #[t,t] }) {d : Nat} (hdst : o.dst = some d) (hlt : Nat.blt d n = true) {ti ei : TInfo} {e : TypeId} (hti : T.get t = some ti) (hd : ti.desc = .slice e) (hei : T.get e = some ei)
  (hz : Nat.beq ei.zero.cells.size ei.size = true) (hsz : Nat.blt 0 ei.size = true) {tag : Nat} {g : OwnRef} {len : Nat} {rows rows2 rows2' rows' : List (List PV)} {wr : Bool} (hx : evS s x = .own tag g len) (hob : ob tag = some ⟨g,e,rows,wr⟩) (hlen : len = rows.length) (hy : evS s y = .list e rows2)
  (hle : eV P rows2 rows2') (hby : (rows.length + rows2'.length) * ei.bytes ≤ 2 ^ 47) (hmx : rows.length + rows2'.length ≤ maxLen) (heq : rows ++ rows2' = rows') (h : ∀ g',Do P T rb ops L ⟨n,upd s d (.own tag g' rows'.length),bx,upd ob tag (some ⟨g',e,rows',wr⟩)⟩ K) : Do P T rb ops (k :: L) ⟨n,s,bx,ob⟩ K := by
 refine ⟨o,ho,true,hg,?_⟩
 simp only [if_true,hop,dM]
 exact fun bx'=>rp hT hop hti hd hei hz hsz hx hob hlen hy hle hby hmx heq fun g'=>⟨rfl,fun hx=>by simp [ph] at hx,_,by simp [hdst,putD,hlt],h g'⟩
theorem Do.appendCQ {x y : Operand} {t : TypeId} {d : Nat} {ti ei : TInfo} {e : TypeId} {tag : Nat} {g : OwnRef} {len : Nat} {rows rows2 rows2' rows' : List (List PV)} {wr : Bool} (hT : T.Ok P) (hle : eV P rows2 rows2') (hby : (rows.length + rows2'.length) * ei.bytes ≤ 2 ^ 47) (hmx : rows.length + rows2'.length ≤ maxLen) (heq : rows ++ rows2' = rows') (h : ∀ g',Do P T rb ops L ⟨n,upd s d (.own tag g' rows'.length),bx,upd ob tag (some ⟨g',e,rows',wr⟩)⟩ K) (ho : ops[k]? = some o := by exact rfl) (hg : aN ops s o = some true := by exact rfl) (hop : o.op = .call { callee := .builtin .append,args := #[x,y],argTypes := #[t,t] } := by exact rfl) (hdst : o.dst = some d := by exact rfl) (hlt : Nat.blt d n = true := by exact rfl) (hti : T.get t = some ti := by exact rfl) (hd : ti.desc = .slice e := by exact rfl) (hei : T.get e = some ei := by exact rfl) (hz : Nat.beq ei.zero.cells.size ei.size = true := by exact rfl) (hsz : Nat.blt 0 ei.size = true := by exact rfl) (hx : evS s x = .own tag g len := by exact rfl) (hob : ob tag = some ⟨g,e,rows,wr⟩ := by exact rfl) (hlen : len = rows.length := by exact rfl) (hy : evS s y = .list e rows2 := by exact rfl) : Do P T rb ops (k :: L) ⟨n,s,bx,ob⟩ K := gX hT ho hg hop hdst hlt hti hd hei hz hsz hx hob hlen hy hle hby hmx heq h
theorem sI (hT : T.Ok P) (hg : aN ops s o = some true) {t e : TypeId} {m : Nat} {ps : Array (Nat × Operand)} (ho : o.op = .buildSlice t m ps) {ti : TInfo} (hti : T.get t = some ti) (hd : ti.desc = .slice e) {rows rows' : List (List PV)}
  (hr : ke T e m (gB (evS s) ps) = some rows) (hle : eV P rows rows') {d : Nat} (hdst : o.dst = some d) (hlt : Nat.blt d n = true) (h : Ao P ops rest ⟨n,upd s d (.list e rows'),bx,ob⟩ K) : Ao P ops (o :: rest) ⟨n,s,bx,ob⟩ K := by
 refine sf hT hg ho hti hd hr (s' := upd s d (.list e rows)) (by simp [hdst,putD,hlt]) (lO d (gU _ _ _) (PLe.of2 (mH.list hle)) ?_)
 have : upd (upd s d (PV.list e rows)) d (.list e rows') = upd s d (.list e rows') := by
  funext t
  simp only [dK]
  split <;> rfl
 rw [this]
 exact h
theorem ew {t e : TypeId} {m : Nat} {ps : Array (Nat × Operand)} {ti : TInfo} {rows rows' : List (List PV)} {d : Nat} (hT : T.Ok P) (hle : eV P rows rows') (h : Ao P ops rest ⟨n,upd s d (.list e rows'),bx,ob⟩ K) (hg : aN ops s o = some true := by exact rfl) (ho : o.op = .buildSlice t m ps := by exact rfl) (hti : T.get t = some ti := by exact rfl) (hd : ti.desc = .slice e := by exact rfl) (hr : ke T e m (gB (evS s) ps) = some rows := by exact rfl) (hdst : o.dst = some d := by exact rfl) (hlt : Nat.blt d n = true := by exact rfl) : Ao P ops (o :: rest) ⟨n,s,bx,ob⟩ K := sI hT hg ho hti hd hr hle hdst hlt h
end
section
variable {P : Program} {fn : Func} {R : PV → Heap → Prop} {ks : List KI} {n : Nat} {s : Nat → PV} {bx : Nat → Option Box} {ob : Nat → Option Obj} {T : TT}
end
section
variable {P : Program} {C : Ctx} {M : Mem} {H : Heap} {w : World}
theorem InvH.reobj (h : InvH P C M H w) {tag : Nat} {g : OwnRef} {e : TypeId} {rows rows' : List (List PV)} {wr : Bool} (hx : H.ob tag = some ⟨g,e,rows,wr⟩) (hl : rows'.map List.length = rows.map List.length) (hle : ie P rows.flatten rows'.flatten) :
  InvH P C M ⟨H.bx,upd H.ob tag (some ⟨g,e,rows',wr⟩)⟩ w := by
 have hlen : rows'.length = rows.length := by simpa using congrArg List.length hl
 have key : ∀ t y,upd H.ob tag (some ⟨g,e,rows',wr⟩) t = some y → (t = tag ∧ y = ⟨g,e,rows',wr⟩) ∨ H.ob t = some y := by
  intro t y hy
  rw [dK] at hy
  split at hy
  ·rename_i e; exact .inl ⟨e,(Option.some.inj hy).symm⟩
  ·exact .inr hy
 have same : ∀ t y,upd H.ob tag (some ⟨g,e,rows',wr⟩) t = some y → ∃ z,H.ob t = some z ∧ z.g = y.g := by
  intro t y hy
  rcases key t y hy with ⟨rfl,rfl⟩ | hy
  ·exact ⟨_,hx,rfl⟩
  ·exact ⟨y,hy,rfl⟩
 refine ⟨h.mem,h.ext,h.new,h.os,h.tape,h.output,h.size,h.frame,h.boxes,?_,h.dbox,?_,?_⟩
 ·intro t y hy
  rcases key t y hy with ⟨rfl,rfl⟩ | hy
  ·obtain ⟨i,h1,h2,h3,h4⟩ := h.objs _ _ hx
   simp only at h1 h2 h3 h4
   refine ⟨i,h1,?_,?_,?_⟩
   ·simpa only [hlen] using h2
   ·intro r hr
    have : r.length ∈ rows'.map List.length := List.mem_map.2 ⟨r,hr,rfl⟩
    rw [hl] at this
    obtain ⟨q,hq,e1⟩ := List.mem_map.1 this
    rw [← e1]
    exact h3 q hq
   ·rcases h4 with ⟨a,b,c⟩ | ⟨b,cur,h5,h6,h7,h8,h9,h10,h11,h12,h13,h14⟩
    ·refine .inl ⟨a,?_,c⟩
     rw [b] at hlen
     exact List.length_eq_zero_iff.1 hlen
    ·refine .inr ⟨b,cur,h5,h6,h7,h8,?_,h10,?_,?_,h13,?_⟩
     ·simpa only [hlen] using h9
     ·simp only [hlen]; exact hle M false _ h11
     ·simpa only [hlen] using h12
     ·simpa only [hlen] using h14
  ·exact h.objs t y hy
 ·intro t t' y y' b hy hy' hb hb'
  obtain ⟨z,hz,e1⟩ := same t y hy
  obtain ⟨z',hz',e1'⟩ := same t' y' hy'
  exact h.dobj t t' z z' b hz hz' (e1 ▸ hb) (e1' ▸ hb')
 ·intro t t' y y' hy hy' hb
  obtain ⟨z',hz',e1'⟩ := same t' y' hy'
  exact h.dmix t t' y z' hy hz' (e1' ▸ hb)
theorem InvH.cutO (h : InvH P C M H w) {tag : Nat} {g : OwnRef} {e : TypeId} {rows : List (List PV)} (hx : H.ob tag = some ⟨g,e,rows,true⟩) (k : Nat) :
  InvH P C M ⟨H.bx,upd H.ob tag (some ⟨g,e,rows.take k,true⟩)⟩ w := by
 have key : ∀ t y,upd H.ob tag (some ⟨g,e,rows.take k,true⟩) t = some y → (t = tag ∧ y = ⟨g,e,rows.take k,true⟩) ∨ H.ob t = some y := by
  intro t y hy
  rw [dK] at hy
  split at hy
  ·rename_i e; exact .inl ⟨e,(Option.some.inj hy).symm⟩
  ·exact .inr hy
 have same : ∀ t y,upd H.ob tag (some ⟨g,e,rows.take k,true⟩) t = some y → ∃ z,H.ob t = some z ∧ z.g = y.g := by
  intro t y hy
  rcases key t y hy with ⟨rfl,rfl⟩ | hy
  ·exact ⟨_,hx,rfl⟩
  ·exact ⟨y,hy,rfl⟩
 refine ⟨h.mem,h.ext,h.new,h.os,h.tape,h.output,h.size,h.frame,h.boxes,?_,h.dbox,?_,?_⟩
 ·intro t y hy
  rcases key t y hy with ⟨rfl,rfl⟩ | hy
  ·obtain ⟨i,h1,h2,h3,h4⟩ := h.objs _ _ hx
   simp only at h1 h2 h3 h4
   have hle : (rows.take k).length ≤ rows.length := by simp; omega
   refine ⟨i,h1,Nat.le_trans (Nat.mul_le_mul_right _ hle) h2,fun r hr=>h3 r (List.mem_of_mem_take hr),?_⟩
   rcases h4 with ⟨a,b,c⟩ | ⟨b,cur,h5,h6,h7,h8,h9,h10,h11,h12,h13,h14⟩
   ·exact .inl ⟨a,by simp [b],c⟩
   ·refine .inr ⟨b,cur,h5,h6,h7,h8,Nat.le_trans hle h9,h10,?_,?_,fun _=>h13 trivial,?_⟩
    ·have hflat : (rows.take k).flatten = rows.flatten.take ((rows.take k).length * i.size) := by
      have aux : ∀ (l : List (List PV)) (m : Nat),(∀ r ∈ l,r.length = i.size) → (l.take m).flatten = l.flatten.take ((l.take m).length * i.size) := by
       intro l
       induction l with
       | nil=>intro m _; simp
       | cons r l ih =>
        intro m hr
        cases m with
        | zero=>simp
        | succ m =>
         have h1 := hr r (by simp)
         have := ih m fun r hr'=>hr r (by simp [hr'])
         simp only [List.take_succ_cons,List.flatten_cons,List.length_cons]
         have e1 : ((l.take m).length + 1) * i.size = r.length + (l.take m).length * i.size := by rw [Nat.add_mul,h1]; omega
         rw [e1,List.take_length_add_append,this]
      exact aux rows k h3
     rw [hflat]
     have := h11.take ((rows.take k).length * i.size)
     rw [List.take_take,Nat.min_eq_left (Nat.mul_le_mul_right _ hle)] at this
     exact this
    ·intro v hv
     refine h12 v ?_
     have e1 : cur.toList.take ((rows.take k).length * i.size) = (cur.toList.take (rows.length * i.size)).take ((rows.take k).length * i.size) := by
      rw [List.take_take,Nat.min_eq_left (Nat.mul_le_mul_right _ hle)]
     rw [e1] at hv
     exact List.mem_of_mem_take hv
    ·intro o _
     exact h13 trivial o
  ·exact h.objs t y hy
 ·intro t t' y y' b hy hy' hb hb'
  obtain ⟨z,hz,e1⟩ := same t y hy
  obtain ⟨z',hz',e1'⟩ := same t' y' hy'
  exact h.dobj t t' z z' b hz hz' (e1 ▸ hb) (e1' ▸ hb')
 ·intro t t' y y' hy hy' hb
  obtain ⟨z',hz',e1'⟩ := same t' y' hy'
  exact h.dmix t t' y z' hy hz' (e1' ▸ hb)
end
theorem ie.of_eq {P : Program} {a b : List PV} (h : a = b) : ie P a b := h ▸ ie.refl a
theorem ie.trans {P : Program} {a b c : List PV} (h : ie P a b) (h' : ie P b c) : ie P a c := fun M s xs hx=>h' M s xs (h M s xs hx)
def u8of (n : Int) : UInt8 := UInt8.ofNat (IntKind.u8.wrap n).toNat
theorem u8of_eq (n : Int) : IntKind.u8.wrap n = ((u8of n).toNat : Int) := by
 have h1 : 0 ≤ IntKind.u8.wrap n ∧ IntKind.u8.wrap n < 256 := by
  simp only [IntKind.wrap,IntKind.bits,IntKind.signed]
  simp
  omega
 unfold u8of
 rw [UInt8.toNat_ofNat']
 omega
section
variable {P : Program} {ops : Array Oper} {rest : List Oper} {o : Oper} {n : Nat} {s s' : Nat → PV} {bx : Nat → Option Box} {ob : Nat → Option Obj} {K : PState → Prop} {T : TT} {rb : RB} {k : Nat} {L : List Nat}
theorem Ao.toU8 (hT : T.Ok P) (hg : aN ops s o = some true) {src dst : TypeId} {x : Operand} (ho : o.op = .convert src dst x) {si di : TInfo} (hsi : T.get src = some si) (hdi : T.get dst = some di) (hdd : di.desc = .int .u8) {kk : IntKind} {m : Int} (hx : evS s x = .val (.int kk m))
  (hp : putD n s o.dst (.val (.int .u8 ((u8of m).toNat : Int))) = some s') (h : Ao P ops rest ⟨n,s',bx,ob⟩ K) : Ao P ops (o :: rest) ⟨n,s,bx,ob⟩ K := by
 refine mz hT hg (r := .val (.int .u8 ((u8of m).toNat : Int))) ?_ hp h
 rw [ho]
 simp [ix,hsi,hdi,hx,hdd,u8of_eq]
theorem pL (hT : T.Ok P) (hg : aN ops s o = some true) {t t' : TypeId} {x : Operand} (ho : o.op = .binOp .eql t x (.const (.slice none 0 0)) t') {ti : TInfo} {e : TypeId} (hti : T.get t = some ti) (hd : ti.desc = .slice e) {e' : TypeId} {rows : List (List PV)} (hx : evS s x = .list e' rows) {d : Nat} (hdst : o.dst = some d) (hlt : Nat.blt d n = true)
  (h : ∀ b : Bool,(b = true → rows = []) → Ao P ops rest ⟨n,upd s d (.val (.bool b)),bx,ob⟩ K) : Ao P ops (o :: rest) ⟨n,s,bx,ob⟩ K := by
 refine fj hg (fun C M a w next Q hi he hn=>?_)
 have hxr := he x (by rw [ho]; simp [Op.operands])
 rw [show (⟨n,s,bx,ob⟩ : PState).s = s from rfl,hx] at hxr
 simp only [Rep] at hxr
 obtain ⟨ad,c,i,hv,_,_,_,_,hr⟩ := hxr
 have hu := (hT.get hti).und
 rw [hd] at hu
 have hrun : (execOp a.eval o).run P w = .ok (.value (.bool ad.isNone)) w := by
  have h1 := run_equal_slice_nil (P := P) w t e ad rows.length c hu
  have h2 : (eqGuard .eql t x (.const (.slice none 0 0)) (.slice ad rows.length c) (.slice none 0 0)).run P w = .ok () w := by unfold eqGuard; split <;> simp
  simp only [execOp,ho,hv,show a.eval (.const (.slice none 0 0)) = .slice none 0 0 from rfl,Sem.run_bind,h2,Result.andThen_ok,binOp,h1]
  rfl
 unfold Oper.wp
 rw [hrun]
 refine hn _ (.val (.bool ad.isNone)) ⟨bx,ob⟩ M w ⟨_,by simp [hdst,putD,hlt],h ad.isNone fun hb=>?_⟩ (Mem.le_refl M) hi (by simp only [Rep])
 cases rows with
 | nil=>rfl
 | cons r rows =>
  obtain ⟨b,o,e1,_⟩ := hr (by simp)
  rw [e1] at hb
  cases hb
theorem oS (hT : T.Ok P) (hg : aN ops s o = some true) {t e : TypeId} {m : Nat} {ps : Array (Nat × Operand)} (ho : o.op = .buildSlice t m ps) {d : Nat} (hdst : o.dst = some d) (hlt : Nat.blt d n = true) {ti : TInfo} (hti : T.get t = some ti) (hd : ti.desc = .slice e) {rows rows' : List (List PV)}
  (hr : ke T e m (gB (evS s) ps) = some rows) (hl : rows'.map List.length = rows.map List.length) (hm : rows.length = m) (hle : ie P rows.flatten rows'.flatten) (h : ∀ g,Ao P ops rest ⟨n,upd s d (.own d g rows'.length),bx,upd ob d (some ⟨g,e,rows',true⟩)⟩ K) : Ao P ops (o :: rest) ⟨n,s,bx,ob⟩ K := by
 refine Ao.bsO hT hg ho hdst hlt hti hd hr fun g=>?_
 have hlen : rows'.length = m := by rw [← hm]; simpa using congrArg List.length hl
 have h' := h g
 rw [hlen] at h'
 refine cI (st' := ⟨n,upd s d (.own d g m),bx,upd ob d (some ⟨g,e,rows',true⟩)⟩) ?_ h'
 intro C M a w hi
 refine ⟨M,hi.1,?_⟩
 have := hi.2.reobj (tag := d) (rows' := rows') (gU _ _ _) hl hle
 simp only [PState.heap] at this ⊢
 have e2 : upd (upd ob d (some ⟨g,e,rows,true⟩)) d (some ⟨g,e,rows',true⟩) = upd ob d (some ⟨g,e,rows',true⟩) := by
  funext t
  simp only [dK]
  split <;> rfl
 rwa [e2] at this
end
@[simp] theorem bPs {α β : Type} (a : α) (k : α → Option β) : ae (some a) k = k a := rfl
@[simp] theorem bindP_none {α β : Type} (k : α → Option β) : ae none k = none := rfl
@[simp] theorem cj {α β : Type} (a : α) (k : α → β) : be a k = k a := rfl
@[simp] theorem bI {σ β : Type} (s : σ) (k : σ → Option β) : Flow.thenP (.next s) k = k s := rfl
@[simp] theorem kJ {σ ρ : Type} (s : σ) (k : σ → Option ρ) : Flow.thenR (.next s) k = k s := rfl
@[simp] theorem thenR_retS {σ ρ : Type} (r : ρ) (k : σ → Option ρ) : Flow.thenR (.ret r) k = some r := rfl
@[simp] theorem thenF_nextS {σ τ ρ : Type} (s : σ) (k : σ → Option (Flow τ ρ)) : Flow.thenF (.next s) k = k s := rfl
@[simp] theorem thenF_retS {σ τ ρ : Type} (r : ρ) (k : σ → Option (Flow τ ρ)) : Flow.thenF (.ret r) k = some (.ret r) := rfl
theorem appI_ok {α : Type} {bytes : Nat} {xs ys : List α} (h1 : (xs.length + ys.length) * bytes ≤ 2 ^ 47) (h2 : xs.length + ys.length ≤ maxLen) : dF bytes xs ys = some (xs ++ ys) := by
 unfold dF; rw [zp ⟨h1,h2⟩]
theorem nu {α : Type} {xs : List α} {i : Int} {x : α} (h0 : 0 ≤ i) (h : xs[i.toNat]? = some x) : aC xs i = some x := by unfold aC; rw [zp h0,h]
theorem jS {α : Type} {xs : List α} {j : Nat} {x : α} (h : xs[j]? = some x) : aC xs (j : Int) = some x := nu (by omega) (by simpa using h)
theorem pj {α : Type} {xs : List α} {a b : Int} (h : 0 ≤ a ∧ a ≤ b ∧ b ≤ xs.length) : mi xs a b = some ((xs.take b.toNat).drop a.toNat) := by unfold mi; rw [zp h]
theorem qr {n : Int} (h : n ≤ 2 ^ 62) : mF n = some n.toNat := by unfold mF; rw [zp h]
theorem fW {α σ ρ : Type} {step : Nat → α → σ → Option (Flow σ ρ)} (I : Nat → σ → Prop) (Q : ρ → Prop) :
  ∀ (xs : List α) (j : Nat) (s : σ),I j s → (∀ k x s,xs[k]? = some x → I (j + k) s → ∃ fl,step (j + k) x s = some fl ∧ (match fl with | .next s'=>I (j + k + 1) s' | .brk _=>False | .ret r=>Q r)) →
   ∃ fl,aM step j xs s = some fl ∧ (match fl with | .next s'=>I (j + xs.length) s' | .brk _=>False | .ret r=>Q r)
 | [],j,s,h,_=>⟨.next s,rfl,by simpa using h⟩
 | x :: xs,j,s,h,hs=>by
  obtain ⟨fl,h1,h2⟩ := hs 0 x s rfl (by simpa using h)
  rw [Nat.add_zero] at h1
  cases fl with
  | next s' =>
   obtain ⟨fl,h3,h4⟩ := fW I Q xs (j + 1) s' (by simpa using h2) (fun k y t hk hI=>by
    obtain ⟨fl,h5,h6⟩ := hs (k + 1) y t (by simpa using hk) (by rw [show j + (k + 1) = j + 1 + k from by omega]; exact hI)
    rw [show j + (k + 1) = j + 1 + k from by omega] at h5 h6
    exact ⟨fl,h5,h6⟩)
   refine ⟨fl,by rw [aM,h1]; exact h3,?_⟩
   rw [show j + (x :: xs).length = j + 1 + xs.length from by simp; omega]
   exact h4
  | brk s'=>exact absurd h2 (by simp)
  | ret r=>exact ⟨.ret r,by rw [aM,h1],h2⟩
theorem rMa {α σ ρ : Type} {step : Nat → α → σ → Option (Flow σ ρ)} {xs : List α} {s : σ} (S : Nat → σ) (h0 : S 0 = s) (hs : ∀ k x,xs[k]? = some x → step k x (S k) = some (.next (S (k + 1)))) : aM step 0 xs s = some (.next (S xs.length)) := by
 subst h0
 obtain ⟨fl,h1,h2⟩ := fW (step := step) (fun j s=>s = S j) (fun _=>False) xs 0 (S 0) rfl (fun k x s hk hI=>by
  simp only [Nat.zero_add] at hI
  subst hI
  exact ⟨_,by rw [Nat.zero_add]; exact hs k x hk,by simp⟩)
 cases fl with
 | next s'=>simp only [Nat.zero_add] at h2; rw [h1,h2]
 | brk s'=>exact absurd h2 (by simp)
 | ret r=>exact absurd h2 (by simp)
theorem jz {α β ρ : Type} {step : Nat → α → List β → Option (Flow (List β) ρ)} {xs : List α} (f : α → β) (hs : ∀ k x,xs[k]? = some x → step k x ((xs.take k).map f) = some (.next ((xs.take k).map f ++ [f x]))) :
  aM step 0 xs [] = some (.next (xs.map f)) := by
 have := rMa (step := step) (xs := xs) (fun k=>(xs.take k).map f) rfl (fun k x hk=>by
  rw [hs k x hk,List.take_add_one,hk]
  simp)
 simpa using this
theorem oQ {α σ ρ : Type} {step : Nat → α → σ → Option (Flow σ ρ)} {xs : List α} {s : σ} (g : σ → α → σ) (hs : ∀ k x,xs[k]? = some x → step k x ((xs.take k).foldl g s) = some (.next (g ((xs.take k).foldl g s) x))) :
  aM step 0 xs s = some (.next (xs.foldl g s)) := by
 have := rMa (step := step) (xs := xs) (fun k=>(xs.take k).foldl g s) rfl (fun k x hk=>by
  rw [hs k x hk,List.take_add_one,hk,List.foldl_append]
  rfl)
 simpa using this
theorem rr {α ρ : Type} {step : Nat → α → Unit → Option (Flow Unit ρ)} (p : α → Bool) (out : Nat → α → ρ) : ∀ (xs : List α) (j : Nat),(∀ k x,xs[k]? = some x → step (j + k) x () = some (if p x then .ret (out (j + k) x) else .next ())) →
  aM step j xs () = some (match xs.findIdx? p with | some i=>(match xs[i]? with | some x=>.ret (out (j + i) x) | none=>.next ()) | none=>.next ())
 | [],j,_=>rfl
 | x :: xs,j,hs=>by
  have h0 := hs 0 x rfl
  rw [Nat.add_zero] at h0
  rw [aM,h0,List.findIdx?_cons]
  cases hp : p x with
  | true=>simp
  | false =>
   simp only [Bool.false_eq_true,if_false]
   rw [rr p out xs (j + 1) (fun k y hk=>by
    have := hs (k + 1) y (by simpa using hk)
    rw [show j + (k + 1) = j + 1 + k from by omega] at this
    exact this)]
   cases xs.findIdx? p with
   | none=>simp
   | some i =>
    simp only [Option.map_some,List.getElem?_cons_succ]
    rw [show j + 1 + i = j + (i + 1) from by omega]
section
variable {P : Program} {T : TT} {M : Mem}
end
def dC {α : Type} (p : Prop) [Decidable p] (a : α) : Option α := if p then some a else none
theorem bX {α : Type} {p : Prop} [Decidable p] {a b : α} (h : dC p a = some b) : p ∧ a = b := by
 unfold dC at h
 split at h
 ·rename_i hp; exact ⟨hp,Option.some.inj h⟩
 ·cases h
@[simp] theorem cf {α : Type} {p : Prop} [Decidable p] {a : α} (h : p) : dC p a = some a := by unfold dC; rw [zp h]
end
end Go.Ab

namespace Go.Ab
noncomputable section
open Go.Proofs
def tS (d : TypeDesc) : TInfo := ⟨d,1,24,.slice none 0 0,[]⟩
def tP (d : TypeDesc) : TInfo := ⟨d,1,8,.pointer none,[]⟩
def tF (d : TypeDesc) : TInfo := ⟨d,1,8,.nilFunc,[]⟩
theorem tO {P : Program} {k : Nat} {v : TInfo} (i : TypeInfo) (h : P.info? k = some i) (e : (i.size,i.bytes,i.zero,v.eqf) = (v.size,v.bytes,some v.zero,[])) (u : P.underlying k = some v.desc) : v.Ok P k := by
 simp only [Prod.mk.injEq] at e
 exact ⟨⟨i,h,e.1,e.2.1,e.2.2.1⟩,u,fun hn=>absurd e.2.2.2 hn⟩
def ti68 : TInfo := ⟨Tryz.t67.desc,3,32,.agg #[.string ⟨#[]⟩,.int .i64 0,.bool false],[(9,0),(3,1),(4,2)]⟩
def ti73 : TInfo := ⟨Tryz.t72.desc,3,32,.agg #[.int .i64 0,.int .i64 0,.string ⟨#[]⟩],[(3,0),(3,1),(9,2)]⟩
def ti168 : TInfo := ⟨Tryz.t167.desc,1,8,.agg #[.int .i64 0],[(3,0)]⟩
def ti216 : TInfo := ⟨Tryz.t215.desc,4,40,.agg #[.int .i64 0,.string ⟨#[]⟩,.int .i64 0,.int .i64 0],[(3,0),(9,1),(3,2),(3,3)]⟩
def ti363 : TInfo := ⟨Tryz.t362.desc,1,16,.agg #[.string ⟨#[]⟩],[(9,0)]⟩
theorem ti68_ok : ti68.Ok Tryz.prog 68 := ⟨⟨Tryz.t68,by kernel_rfl,rfl,rfl,rfl⟩,Tryz.underlying68,fun _=>⟨Tryz.stoodInHeld68,Tryz.eqGuardType68,by simp [cM,Program.fieldsOf,Tryz.underlying68,ti68],by kernel_rfl⟩⟩
theorem ti73_ok : ti73.Ok Tryz.prog 73 := ⟨⟨Tryz.t73,by kernel_rfl,rfl,rfl,rfl⟩,Tryz.underlying73,fun _=>⟨Tryz.stoodInHeld73,Tryz.eqGuardType73,by simp [cM,Program.fieldsOf,Tryz.underlying73,ti73],by kernel_rfl⟩⟩
theorem ti168_ok : ti168.Ok Tryz.prog 168 := ⟨⟨Tryz.t168,by kernel_rfl,rfl,rfl,rfl⟩,Tryz.underlying168,fun _=>⟨Tryz.stoodInHeld168,Tryz.eqGuardType168,by simp [cM,Program.fieldsOf,Tryz.underlying168,ti168],by kernel_rfl⟩⟩
theorem ti216_ok : ti216.Ok Tryz.prog 216 := ⟨⟨Tryz.t216,by kernel_rfl,rfl,rfl,rfl⟩,Tryz.underlying216,fun _=>⟨Tryz.stoodInHeld216,Tryz.eqGuardType216,by simp [cM,Program.fieldsOf,Tryz.underlying216,ti216],by kernel_rfl⟩⟩
theorem ti363_ok : ti363.Ok Tryz.prog 363 := ⟨⟨Tryz.t363,by kernel_rfl,rfl,rfl,rfl⟩,Tryz.underlying363,fun _=>⟨Tryz.stoodInHeld363,Tryz.eqGuardType363,by simp [cM,Program.fieldsOf,Tryz.underlying363,ti363],by kernel_rfl⟩⟩
def tt : TT := (.node 157 (tF Tryz.t157.desc) (.node 60 (tS Tryz.t60.desc) (.node 26 ⟨Tryz.t25.desc,3,72,.agg #[.slice none 0 0,.slice none 0 0,.slice none 0 0],[]⟩ (.node 20 ⟨Tryz.t20.desc,1,16,.nilIface,[]⟩ (.node 4 ⟨Tryz.t4.desc,1,1,.bool false,[]⟩ (.node 2 ⟨Tryz.t2.desc,1,8,.int .i64 0,[]⟩ (.node 1 (tF Tryz.t1.desc) .leaf .leaf) (.node 3 ⟨Tryz.t3.desc,1,8,.int .i64 0,[]⟩ .leaf .leaf)) (.node 9 ⟨Tryz.t9.desc,1,16,.string ⟨#[]⟩,[]⟩ (.node 5 ⟨Tryz.t5.desc,1,1,.int .u8 0,[]⟩ .leaf .leaf) .leaf)) (.node 23 (tS Tryz.t23.desc) (.node 22 (tS Tryz.t22.desc) (.node 21 ⟨Tryz.t21.desc,1,4,.int .i32 0,[]⟩ .leaf .leaf) .leaf) (.node 25 ⟨Tryz.t25.desc,3,72,.agg #[.slice none 0 0,.slice none 0 0,.slice none 0 0],[]⟩ (.node 24 (tS Tryz.t24.desc) .leaf .leaf) .leaf))) (.node 33 ⟨Tryz.t32.desc,9,160,.agg #[.int .i64 0,.string ⟨#[]⟩,.slice none 0 0,.slice none 0 0,.slice none 0 0,.slice none 0 0,.int .i64 0,.int .i64 0,.slice none 0 0],[]⟩ (.node 29 (tS Tryz.t29.desc) (.node 28 (tS Tryz.t28.desc) (.node 27 (tS Tryz.t27.desc) .leaf .leaf) .leaf) (.node 31 (tS Tryz.t31.desc) (.node 30 (tS Tryz.t30.desc) .leaf .leaf) .leaf)) (.node 43 (tS Tryz.t43.desc) (.node 42 (tS Tryz.t41.desc) (.node 37 (tF Tryz.t37.desc) .leaf .leaf) .leaf) (.node 45 ⟨Tryz.t3.desc,1,8,.int .i64 0,[]⟩ (.node 44 (tS Tryz.t44.desc) .leaf .leaf) .leaf)))) (.node 94 (tF Tryz.t94.desc) (.node 74 (tF Tryz.t74.desc) (.node 68 ti68 (.node 63 ⟨Tryz.t62.desc,2,48,.agg #[.slice none 0 0,.slice none 0 0],[]⟩ (.node 61 (tS Tryz.t61.desc) .leaf .leaf) (.node 66 (tF Tryz.t66.desc) .leaf .leaf)) (.node 73 ti73 (.node 71 ⟨Tryz.t70.desc,3,64,.agg #[.string ⟨#[]⟩,.slice none 0 0,.slice none 0 0],[]⟩ .leaf .leaf) .leaf)) (.node 79 (tF Tryz.t79.desc) (.node 77 ⟨Tryz.t76.desc,2,40,.agg #[.string ⟨#[]⟩,.slice none 0 0],[]⟩ (.node 75 (tS Tryz.t43.desc) .leaf .leaf) .leaf) (.node 91 ⟨Tryz.t90.desc,7,88,.agg #[.int .i64 0,.string ⟨#[]⟩,.int .i64 0,.int .i64 0,.int .i64 0,.string ⟨#[]⟩,.slice none 0 0],[]⟩ (.node 88 ⟨Tryz.t87.desc,3,56,.agg #[.string ⟨#[]⟩,.string ⟨#[]⟩,.slice none 0 0],[]⟩ .leaf .leaf) .leaf))) (.node 124 (tF Tryz.t124.desc) (.node 106 ⟨Tryz.t106.desc,8,8,.agg #[.bool false,.bool false,.bool false,.bool false,.bool false,.bool false,.bool false,.bool false],[]⟩ (.node 103 (tF Tryz.t103.desc) (.node 99 ⟨Tryz.t98.desc,3,72,.agg #[.slice none 0 0,.slice none 0 0,.slice none 0 0],[]⟩ .leaf .leaf) .leaf) (.node 117 (tF Tryz.t117.desc) (.node 107 (tF Tryz.t107.desc) .leaf .leaf) .leaf)) (.node 139 (tF Tryz.t139.desc) (.node 135 ⟨Tryz.t134.desc,3,56,.agg #[.string ⟨#[]⟩,.slice none 0 0,.string ⟨#[]⟩],[]⟩ (.node 125 (tP Tryz.t125.desc) .leaf .leaf) .leaf) (.node 150 (tF Tryz.t150.desc) (.node 141 ⟨Tryz.t140.desc,7,80,.agg #[.string ⟨#[]⟩,.int .i64 0,.string ⟨#[]⟩,.int .i64 0,.int .i64 0,.int .i64 0,.string ⟨#[]⟩],[]⟩ .leaf .leaf) .leaf))))) (.node 263 ⟨Tryz.t263.desc,1,4,.int .u32 0,[]⟩ (.node 223 (tP Tryz.t223.desc) (.node 187 ⟨Tryz.t186.desc,4,96,.agg #[.slice none 0 0,.slice none 0 0,.slice none 0 0,.slice none 0 0],[]⟩ (.node 168 ti168 (.node 164 (tF Tryz.t164.desc) (.node 162 (tS Tryz.t162.desc) .leaf .leaf) (.node 166 ⟨Tryz.t165.desc,3,40,.agg #[.slice none 0 0,.int .i64 0,.int .i64 0],[]⟩ .leaf .leaf)) (.node 173 ⟨Tryz.t172.desc,8,192,.agg #[.slice none 0 0,.slice none 0 0,.slice none 0 0,.slice none 0 0,.slice none 0 0,.slice none 0 0,.slice none 0 0,.slice none 0 0],[]⟩ (.node 171 (tF Tryz.t171.desc) .leaf .leaf) .leaf)) (.node 216 ti216 (.node 202 (tF Tryz.t202.desc) (.node 199 ⟨Tryz.t199.desc,1,8,.int .u64 0,[]⟩ .leaf .leaf) .leaf) (.node 222 (tF Tryz.t222.desc) (.node 220 (tF Tryz.t220.desc) .leaf .leaf) .leaf))) (.node 233 (tF Tryz.t233.desc) (.node 229 (tF Tryz.t229.desc) (.node 227 (tF Tryz.t227.desc) (.node 224 (tF Tryz.t224.desc) .leaf .leaf) .leaf) (.node 231 ⟨Tryz.t230.desc,5,120,.agg #[.slice none 0 0,.slice none 0 0,.slice none 0 0,.slice none 0 0,.slice none 0 0],[]⟩ (.node 230 ⟨Tryz.t230.desc,5,120,.agg #[.slice none 0 0,.slice none 0 0,.slice none 0 0,.slice none 0 0,.slice none 0 0],[]⟩ .leaf .leaf) .leaf)) (.node 240 (tF Tryz.t240.desc) (.node 238 (tF Tryz.t238.desc) (.node 236 (tS Tryz.t236.desc) .leaf .leaf) .leaf) (.node 255 ⟨Tryz.t3.desc,1,8,.int .i64 0,[]⟩ (.node 244 (tS Tryz.t244.desc) .leaf .leaf) .leaf)))) (.node 326 (tF Tryz.t326.desc) (.node 293 ⟨Tryz.t265.desc,1,8,.int .u64 0,[]⟩ (.node 283 (tS Tryz.t283.desc) (.node 271 (tF Tryz.t271.desc) (.node 265 ⟨Tryz.t265.desc,1,8,.int .u64 0,[]⟩ .leaf .leaf) (.node 273 (tF Tryz.t273.desc) .leaf .leaf)) (.node 290 (tF Tryz.t290.desc) (.node 289 (tF Tryz.t289.desc) .leaf .leaf) .leaf)) (.node 312 (tF Tryz.t312.desc) (.node 307 ⟨Tryz.t306.desc,1,16,.nilIface,[]⟩ (.node 297 (tP Tryz.t297.desc) .leaf .leaf) .leaf) (.node 325 (tF Tryz.t325.desc) (.node 322 (tP Tryz.t322.desc) .leaf .leaf) .leaf))) (.node 360 (tP Tryz.t360.desc) (.node 342 (tP Tryz.t342.desc) (.node 339 ⟨Tryz.t3.desc,1,8,.int .i64 0,[]⟩ (.node 332 (tF Tryz.t332.desc) .leaf .leaf) .leaf) (.node 354 ⟨Tryz.t354.desc,24,24,.agg #[.int .u8 0,.int .u8 0,.int .u8 0,.int .u8 0,.int .u8 0,.int .u8 0,.int .u8 0,.int .u8 0,.int .u8 0,.int .u8 0,.int .u8 0,.int .u8 0,.int .u8 0,.int .u8 0,.int .u8 0,.int .u8 0,.int .u8 0,.int .u8 0,.int .u8 0,.int .u8 0,.int .u8 0,.int .u8 0,.int .u8 0,.int .u8 0],[]⟩ (.node 352 ⟨Tryz.t351.desc,3,48,.agg #[.string ⟨#[]⟩,.string ⟨#[]⟩,.nilIface],[]⟩ .leaf .leaf) .leaf)) (.node 365 ⟨Tryz.t365.desc,20,160,.agg #[.int .u64 0,.int .u64 0,.int .u64 0,.int .u64 0,.int .u64 0,.int .u64 0,.int .u64 0,.int .u64 0,.int .u64 0,.int .u64 0,.int .u64 0,.int .u64 0,.int .u64 0,.int .u64 0,.int .u64 0,.int .u64 0,.int .u64 0,.int .u64 0,.int .u64 0,.int .u64 0],[]⟩ (.node 363 ti363 (.node 361 (tP Tryz.t361.desc) .leaf .leaf) .leaf) (.node 368 ⟨Tryz.t368.desc,64,64,.agg #[.int .u8 0,.int .u8 0,.int .u8 0,.int .u8 0,.int .u8 0,.int .u8 0,.int .u8 0,.int .u8 0,.int .u8 0,.int .u8 0,.int .u8 0,.int .u8 0,.int .u8 0,.int .u8 0,.int .u8 0,.int .u8 0,.int .u8 0,.int .u8 0,.int .u8 0,.int .u8 0,.int .u8 0,.int .u8 0,.int .u8 0,.int .u8 0,.int .u8 0,.int .u8 0,.int .u8 0,.int .u8 0,.int .u8 0,.int .u8 0,.int .u8 0,.int .u8 0,.int .u8 0,.int .u8 0,.int .u8 0,.int .u8 0,.int .u8 0,.int .u8 0,.int .u8 0,.int .u8 0,.int .u8 0,.int .u8 0,.int .u8 0,.int .u8 0,.int .u8 0,.int .u8 0,.int .u8 0,.int .u8 0,.int .u8 0,.int .u8 0,.int .u8 0,.int .u8 0,.int .u8 0,.int .u8 0,.int .u8 0,.int .u8 0,.int .u8 0,.int .u8 0,.int .u8 0,.int .u8 0,.int .u8 0,.int .u8 0,.int .u8 0,.int .u8 0],[]⟩ (.node 367 ⟨Tryz.t367.desc,32,32,.agg #[.int .u8 0,.int .u8 0,.int .u8 0,.int .u8 0,.int .u8 0,.int .u8 0,.int .u8 0,.int .u8 0,.int .u8 0,.int .u8 0,.int .u8 0,.int .u8 0,.int .u8 0,.int .u8 0,.int .u8 0,.int .u8 0,.int .u8 0,.int .u8 0,.int .u8 0,.int .u8 0,.int .u8 0,.int .u8 0,.int .u8 0,.int .u8 0,.int .u8 0,.int .u8 0,.int .u8 0,.int .u8 0,.int .u8 0,.int .u8 0,.int .u8 0,.int .u8 0],[]⟩ .leaf .leaf) .leaf))))))
theorem tk : tt.Ok Tryz.prog := ⟨tO Tryz.t157 (by kernel_rfl) rfl Tryz.underlying157,⟨tO Tryz.t60 (by kernel_rfl) rfl Tryz.underlying60,⟨tO Tryz.t26 (by kernel_rfl) rfl Tryz.underlying26,⟨tO Tryz.t20 (by kernel_rfl) rfl Tryz.underlying20,⟨tO Tryz.t4 (by kernel_rfl) rfl Tryz.underlying4,⟨tO Tryz.t2 (by kernel_rfl) rfl Tryz.underlying2,⟨tO Tryz.t1 (by kernel_rfl) rfl Tryz.underlying1,trivial,trivial⟩,⟨tO Tryz.t3 (by kernel_rfl) rfl Tryz.underlying3,trivial,trivial⟩⟩,⟨tO Tryz.t9 (by kernel_rfl) rfl Tryz.underlying9,⟨tO Tryz.t5 (by kernel_rfl) rfl Tryz.underlying5,trivial,trivial⟩,trivial⟩⟩,⟨tO Tryz.t23 (by kernel_rfl) rfl Tryz.underlying23,⟨tO Tryz.t22 (by kernel_rfl) rfl Tryz.underlying22,⟨tO Tryz.t21 (by kernel_rfl) rfl Tryz.underlying21,trivial,trivial⟩,trivial⟩,⟨tO Tryz.t25 (by kernel_rfl) rfl Tryz.underlying25,⟨tO Tryz.t24 (by kernel_rfl) rfl Tryz.underlying24,trivial,trivial⟩,trivial⟩⟩⟩,⟨tO Tryz.t33 (by kernel_rfl) rfl Tryz.underlying33,⟨tO Tryz.t29 (by kernel_rfl) rfl Tryz.underlying29,⟨tO Tryz.t28 (by kernel_rfl) rfl Tryz.underlying28,⟨tO Tryz.t27 (by kernel_rfl) rfl Tryz.underlying27,trivial,trivial⟩,trivial⟩,⟨tO Tryz.t31 (by kernel_rfl) rfl Tryz.underlying31,⟨tO Tryz.t30 (by kernel_rfl) rfl Tryz.underlying30,trivial,trivial⟩,trivial⟩⟩,⟨tO Tryz.t43 (by kernel_rfl) rfl Tryz.underlying43,⟨tO Tryz.t42 (by kernel_rfl) rfl Tryz.underlying42,⟨tO Tryz.t37 (by kernel_rfl) rfl Tryz.underlying37,trivial,trivial⟩,trivial⟩,⟨tO Tryz.t45 (by kernel_rfl) rfl Tryz.underlying45,⟨tO Tryz.t44 (by kernel_rfl) rfl Tryz.underlying44,trivial,trivial⟩,trivial⟩⟩⟩⟩,⟨tO Tryz.t94 (by kernel_rfl) rfl Tryz.underlying94,⟨tO Tryz.t74 (by kernel_rfl) rfl Tryz.underlying74,⟨ti68_ok,⟨tO Tryz.t63 (by kernel_rfl) rfl Tryz.underlying63,⟨tO Tryz.t61 (by kernel_rfl) rfl Tryz.underlying61,trivial,trivial⟩,⟨tO Tryz.t66 (by kernel_rfl) rfl Tryz.underlying66,trivial,trivial⟩⟩,⟨ti73_ok,⟨tO Tryz.t71 (by kernel_rfl) rfl Tryz.underlying71,trivial,trivial⟩,trivial⟩⟩,⟨tO Tryz.t79 (by kernel_rfl) rfl Tryz.underlying79,⟨tO Tryz.t77 (by kernel_rfl) rfl Tryz.underlying77,⟨tO Tryz.t75 (by kernel_rfl) rfl Tryz.underlying75,trivial,trivial⟩,trivial⟩,⟨tO Tryz.t91 (by kernel_rfl) rfl Tryz.underlying91,⟨tO Tryz.t88 (by kernel_rfl) rfl Tryz.underlying88,trivial,trivial⟩,trivial⟩⟩⟩,⟨tO Tryz.t124 (by kernel_rfl) rfl Tryz.underlying124,⟨tO Tryz.t106 (by kernel_rfl) rfl Tryz.underlying106,⟨tO Tryz.t103 (by kernel_rfl) rfl Tryz.underlying103,⟨tO Tryz.t99 (by kernel_rfl) rfl Tryz.underlying99,trivial,trivial⟩,trivial⟩,⟨tO Tryz.t117 (by kernel_rfl) rfl Tryz.underlying117,⟨tO Tryz.t107 (by kernel_rfl) rfl Tryz.underlying107,trivial,trivial⟩,trivial⟩⟩,⟨tO Tryz.t139 (by kernel_rfl) rfl Tryz.underlying139,⟨tO Tryz.t135 (by kernel_rfl) rfl Tryz.underlying135,⟨tO Tryz.t125 (by kernel_rfl) rfl Tryz.underlying125,trivial,trivial⟩,trivial⟩,⟨tO Tryz.t150 (by kernel_rfl) rfl Tryz.underlying150,⟨tO Tryz.t141 (by kernel_rfl) rfl Tryz.underlying141,trivial,trivial⟩,trivial⟩⟩⟩⟩⟩,⟨tO Tryz.t263 (by kernel_rfl) rfl Tryz.underlying263,⟨tO Tryz.t223 (by kernel_rfl) rfl Tryz.underlying223,⟨tO Tryz.t187 (by kernel_rfl) rfl Tryz.underlying187,⟨ti168_ok,⟨tO Tryz.t164 (by kernel_rfl) rfl Tryz.underlying164,⟨tO Tryz.t162 (by kernel_rfl) rfl Tryz.underlying162,trivial,trivial⟩,⟨tO Tryz.t166 (by kernel_rfl) rfl Tryz.underlying166,trivial,trivial⟩⟩,⟨tO Tryz.t173 (by kernel_rfl) rfl Tryz.underlying173,⟨tO Tryz.t171 (by kernel_rfl) rfl Tryz.underlying171,trivial,trivial⟩,trivial⟩⟩,⟨ti216_ok,⟨tO Tryz.t202 (by kernel_rfl) rfl Tryz.underlying202,⟨tO Tryz.t199 (by kernel_rfl) rfl Tryz.underlying199,trivial,trivial⟩,trivial⟩,⟨tO Tryz.t222 (by kernel_rfl) rfl Tryz.underlying222,⟨tO Tryz.t220 (by kernel_rfl) rfl Tryz.underlying220,trivial,trivial⟩,trivial⟩⟩⟩,⟨tO Tryz.t233 (by kernel_rfl) rfl Tryz.underlying233,⟨tO Tryz.t229 (by kernel_rfl) rfl Tryz.underlying229,⟨tO Tryz.t227 (by kernel_rfl) rfl Tryz.underlying227,⟨tO Tryz.t224 (by kernel_rfl) rfl Tryz.underlying224,trivial,trivial⟩,trivial⟩,⟨tO Tryz.t231 (by kernel_rfl) rfl Tryz.underlying231,⟨tO Tryz.t230 (by kernel_rfl) rfl Tryz.underlying230,trivial,trivial⟩,trivial⟩⟩,⟨tO Tryz.t240 (by kernel_rfl) rfl Tryz.underlying240,⟨tO Tryz.t238 (by kernel_rfl) rfl Tryz.underlying238,⟨tO Tryz.t236 (by kernel_rfl) rfl Tryz.underlying236,trivial,trivial⟩,trivial⟩,⟨tO Tryz.t255 (by kernel_rfl) rfl Tryz.underlying255,⟨tO Tryz.t244 (by kernel_rfl) rfl Tryz.underlying244,trivial,trivial⟩,trivial⟩⟩⟩⟩,⟨tO Tryz.t326 (by kernel_rfl) rfl Tryz.underlying326,⟨tO Tryz.t293 (by kernel_rfl) rfl Tryz.underlying293,⟨tO Tryz.t283 (by kernel_rfl) rfl Tryz.underlying283,⟨tO Tryz.t271 (by kernel_rfl) rfl Tryz.underlying271,⟨tO Tryz.t265 (by kernel_rfl) rfl Tryz.underlying265,trivial,trivial⟩,⟨tO Tryz.t273 (by kernel_rfl) rfl Tryz.underlying273,trivial,trivial⟩⟩,⟨tO Tryz.t290 (by kernel_rfl) rfl Tryz.underlying290,⟨tO Tryz.t289 (by kernel_rfl) rfl Tryz.underlying289,trivial,trivial⟩,trivial⟩⟩,⟨tO Tryz.t312 (by kernel_rfl) rfl Tryz.underlying312,⟨tO Tryz.t307 (by kernel_rfl) rfl Tryz.underlying307,⟨tO Tryz.t297 (by kernel_rfl) rfl Tryz.underlying297,trivial,trivial⟩,trivial⟩,⟨tO Tryz.t325 (by kernel_rfl) rfl Tryz.underlying325,⟨tO Tryz.t322 (by kernel_rfl) rfl Tryz.underlying322,trivial,trivial⟩,trivial⟩⟩⟩,⟨tO Tryz.t360 (by kernel_rfl) rfl Tryz.underlying360,⟨tO Tryz.t342 (by kernel_rfl) rfl Tryz.underlying342,⟨tO Tryz.t339 (by kernel_rfl) rfl Tryz.underlying339,⟨tO Tryz.t332 (by kernel_rfl) rfl Tryz.underlying332,trivial,trivial⟩,trivial⟩,⟨tO Tryz.t354 (by kernel_rfl) rfl Tryz.underlying354,⟨tO Tryz.t352 (by kernel_rfl) rfl Tryz.underlying352,trivial,trivial⟩,trivial⟩⟩,⟨tO Tryz.t365 (by kernel_rfl) rfl Tryz.underlying365,⟨ti363_ok,⟨tO Tryz.t361 (by kernel_rfl) rfl Tryz.underlying361,trivial,trivial⟩,trivial⟩,⟨tO Tryz.t368 (by kernel_rfl) rfl Tryz.underlying368,⟨tO Tryz.t367 (by kernel_rfl) rfl Tryz.underlying367,trivial,trivial⟩,trivial⟩⟩⟩⟩⟩⟩
end
end Go.Ab


namespace Go.Proofs.YtppmcepdcpmpcaaGreatDoor
noncomputable section
open Go Go.Ab
theorem mok : Tryz.prog.follows .mixedOrders = true := by kernel_rfl
abbrev af (n : Int) : PV := .val (.int .i64 n)
abbrev aG (b : Bool) : PV := .val (.bool b)
structure LVal where
 kind : Int
 int : Int
 text : List UInt8
 deriving DecidableEq
structure LCol where
 name : List UInt8
 kind : Int
 nullable : Bool
 deriving DecidableEq
inductive LExpr where
 | mk (kind : Int) (name : List UInt8) (index : Int) (value : LVal) (args : List LExpr)
def LExpr.kind : LExpr → Int | .mk k _ _ _ _=>k
def LExpr.name : LExpr → List UInt8 | .mk _ n _ _ _=>n
def LExpr.index : LExpr → Int | .mk _ _ i _ _=>i
def LExpr.value : LExpr → LVal | .mk _ _ _ v _=>v
def LExpr.args : LExpr → List LExpr | .mk _ _ _ _ a=>a
structure LEnv where
 cols : List LCol
 row : List LVal
 params : List LVal
 vnames : List (List UInt8)
 vvals : List LVal
def LVal.nul : LVal := ⟨0,0,[]⟩
@[simp] def hJ (v : LVal) : List PV := [af v.kind,af v.int,.str v.text]
@[simp] def bg (c : LCol) : List PV := [.str c.name,af c.kind,aG c.nullable]
mutual
def aF : LExpr → List PV
 | .mk k n i v a=>[af k,.str n,af i,af v.kind,af v.int,.str v.text,.list 91 (pU a)]
def pU : List LExpr → List (List PV)
 | []=>[]
 | e :: r=>aF e :: pU r
end
theorem qE : ∀ l,pU l = l.map aF
 | []=>rfl
 | e :: r=>by simp [pU,qE r]
def cG (e : LExpr) : List PV := [af e.kind,.str e.name,af e.index,af e.value.kind,af e.value.int,.str e.value.text,.list 91 (e.args.map aF)]
theorem cb (e : LExpr) : aF e = cG e := by
 cases e
 simp [aF,cG,qE,LExpr.kind,LExpr.name,LExpr.index,LExpr.value,LExpr.args]
abbrev pval (v : LVal) : PV := .agg (hJ v)
abbrev pcol (c : LCol) : PV := .agg (bg c)
abbrev kQ (e : LExpr) : PV := .agg (cG e)
abbrev pvals (l : List LVal) : PV := .list 73 (l.map hJ)
abbrev jg (l : List LCol) : PV := .list 68 (l.map bg)
abbrev pexprs (l : List LExpr) : PV := .list 91 (l.map aF)
abbrev pstrs (l : List (List UInt8)) : PV := .list 9 (l.map fun s=>[.str s])
abbrev pints (l : List Int) : PV := .list 3 (l.map fun n=>[af n])
@[simp] def encEnv (v : LEnv) : List PV := [jg v.cols,pvals v.row,pvals v.params,pstrs v.vnames,pvals v.vvals]
theorem getExpr {l : List LExpr} {j : Nat} (h : j < l.length) : (l.map aF)[((j : Nat) : Int).toNat]? = some (cG l[j]) := by
 simp [h,cb]
def cu {α : Type} (p : α → Bool) (l : List α) : Int := match l.findIdx? p with
 | some i=>i
 | none=>-1
theorem idxOf_at {α : Type} {p : α → Bool} {l : List α} {j : Nat} (hlt : j < l.length) (hpre : ∀ x ∈ l.take j,p x = false) (h : p l[j] = true) : cu p l = (j : Int) := by
 have : l.findIdx? p = some j := by
  rw [List.findIdx?_eq_some_iff_getElem]
  refine ⟨hlt,h,fun i hi=>?_⟩
  have := hpre l[i] (List.mem_take_iff_getElem.2 ⟨i,by omega,rfl⟩)
  simp [this]
 simp [cu,this]
theorem mY {α : Type} {p : α → Bool} {l : List α} (hpre : ∀ x ∈ l,p x = false) : cu p l = -1 := by
 have : l.findIdx? p = none := by
  rw [List.findIdx?_eq_none_iff]
  exact hpre
 simp [cu,this]
theorem pT {α : Type} {p : α → Bool} {l : List α} {j : Nat} (hlt : j < l.length) (hpre : ∀ x ∈ l.take j,p x = false) (h : p l[j] = false) : ∀ x ∈ l.take (j + 1),p x = false := by
 intro x hx
 rw [List.take_add_one,ze hlt] at hx
 simp only [Option.toList,List.mem_append,List.mem_singleton] at hx
 rcases hx with hx | rfl
 ·exact hpre x hx
 ·exact h
theorem ep {n : Int} (h1 : -9223372036854775808 ≤ n) (h2 : n ≤ 9223372036854775807) : IntKind.i64.wrap n = n := by
 simp only [IntKind.wrap,IntKind.bits,IntKind.signed]
 simp
 omega
theorem fF {j : Nat} (h : j < maxLen) : af (IntKind.i64.wrap ((j : Int) + 1)) = af ((j + 1 : Nat) : Int) := by
 rw [ep (by omega) (by simp [maxLen] at h; omega)]
 simp
theorem oE {α : Type} {p : α → Bool} {l : List α} : (decide (cu p l ≥ 0)) = l.any p := by
 rw [Bool.eq_iff_iff]
 simp only [decide_eq_true_eq,List.any_eq_true]
 cases h : l.findIdx? p with
 | none =>
  have e : cu p l = -1 := by simp [cu,h]
  rw [List.findIdx?_eq_none_iff] at h
  rw [e]
  constructor
  ·intro h'; omega
  ·rintro ⟨x,hx,hp⟩; rw [h x hx] at hp; cases hp
 | some i =>
  have e : cu p l = (i : Int) := by simp [cu,h]
  rw [List.findIdx?_eq_some_iff_getElem] at h
  rw [e]
  exact ⟨fun _=>⟨_,List.getElem_mem h.1,h.2.1⟩,fun _=>by omega⟩
abbrev Rq := List LVal
abbrev Rz := List (List LVal)
abbrev bP : Int → List PV := fun n=>[af n]
abbrev dl : Bool → List PV := fun b=>[aG b]
abbrev ah : List UInt8 → List PV := fun s=>[.str s]
abbrev kU {α : Type} (e : TypeId) (f : α → List PV) : List α → List PV := fun l=>[.list e (l.map f)]
theorem natLt {n : Int} {m j : Nat} (hm : n ≤ 2 ^ 62 ∧ m = n.toNat) (h : decide ((j : Int) < n) = true) : j < (List.range m).length := by
 have := of_decide_eq_true h
 simp
 omega
theorem natGe {n : Int} {m j : Nat} (hm : n ≤ 2 ^ 62 ∧ m = n.toNat) (h : decide ((j : Int) < n) = false) : (List.range m).length ≤ j := by
 have := of_decide_eq_false h
 simp
 omega
theorem natX {m j x : Nat} (h : (List.range m)[j]? = some x) : j = x := by
 have := zg.1 h
 obtain ⟨h1,h2⟩ := this
 simpa using h2
theorem qa {n : Int} {m j : Nat} (hm : n ≤ 2 ^ 62 ∧ m = n.toNat) (h : j < (List.range m).length) : af (IntKind.i64.wrap ((j : Int) + 1)) = af ((j + 1 : Nat) : Int) := by
 rw [ep (by omega) (by simp at h; omega)]
 simp
end
end Go.Proofs.YtppmcepdcpmpcaaGreatDoor

namespace Go.Proofs.YtppmcepdcpmpcaaGreatDoor
noncomputable section
open Go Go.Ab
attribute [local irreducible] V Ao Gh Eff PH
set_option maxRecDepth 4000
theorem indexCol {g : FuncId} {caps : List PV} {p : LCol → Bool} (xs : List LCol) (hg : ∀ (vs : Array Value) (w : World),(callFunc g vs).run Tryz.prog w = .ok (.enter g vs) w) (hp : ∀ x ∈ xs,ba Tryz.prog g (.agg (bg x) :: caps) (aG (p x))) :
  ba Tryz.prog 163 [.list 68 (xs.map bg),.fn g caps] (af (cu p xs)) := by
 refine PH.ay Tryz.func163 Tryz.ntmps163 ?_
 repeat (first | refine ak tk rfl ?_ | refine ac ?_ | refine ab ?_ | refine aa ?_ | refine az ?_)
 refine iB tk 0 rfl rfl fun hl _=>?_
 refine kr (X := Nat) (fun j=>⟨19,upd (upd (upd (upd (fun _=>.any) 0 (.list 68 (xs.map bg))) 1 (.fn g caps)) 7 (af (xs.map bg).length)) 8 (af j),fun _=>none,fun _=>none⟩)
  (fun j=>j ≤ xs.length ∧ ∀ x ∈ xs.take j,p x = false) (fun j=>xs.length - j) 0 ⟨Nat.zero_le _,by simp⟩ (Gh.le (ao (ao (ao (ao aP)))) aD aE) ?_
 rintro j ⟨hj,hpre⟩
 repeat (first | refine ak tk rfl ?_ | refine ac ?_ | refine ab ?_ | refine aa ?_)
 refine du rfl (fun h=>?_) (fun h=>?_)
 ·have hlt : j < xs.length := by simpa using h
  have hget : xs[j]? = some xs[j] := ze hlt
  repeat (first | refine ak tk rfl ?_ | refine ac ?_ | refine ab ?_ | refine aa ?_ | refine au ?_ | refine az ?_)
  refine qq tk rfl rfl rfl rfl rfl rfl (zn j) (r := bg xs[j]) (by simp [hget]) rfl ?_
  repeat (refine ak tk rfl ?_)
  refine aq hg (dS.r) (hp xs[j] (List.getElem_mem hlt)) ?_
  repeat (refine ac ?_)
  refine du rfl (fun h=>?_) (fun h=>?_)
  ·repeat (first | refine ak tk rfl ?_ | refine ac ?_ | refine ab ?_ | refine aa ?_)
   refine eI tk (PLe.q ?_)
   rw [idxOf_at hlt hpre h]
  ·repeat (first | refine ak tk rfl ?_ | refine ac ?_ | refine aa ?_ | refine au ?_ | refine aR ?_)
   refine li (j + 1) (by omega) ⟨hlt,?_⟩ (Gh.le (bp (PLe.q ?_) (ao (ao (ao aP)))) aD aE)
   ·exact pT hlt hpre h
   ·exact fF (by simp at hl; omega)
 ·have hge : j = xs.length := by have : ¬ j < xs.length := by simpa using h
                                 omega
  repeat (first | refine ak tk rfl ?_ | refine ac ?_ | refine ab ?_ | refine aa ?_ | refine bF rfl ?_)
  refine eI tk (PLe.q ?_)
  rw [mY (by rw [hge] at hpre; simpa using hpre)]
theorem indexInt {g : FuncId} {caps : List PV} {p : Int → Bool} (xs : List Int) (hg : ∀ (vs : Array Value) (w : World),(callFunc g vs).run Tryz.prog w = .ok (.enter g vs) w) (hp : ∀ x ∈ xs,ba Tryz.prog g (af x :: caps) (aG (p x))) :
  ba Tryz.prog 294 [.list 3 (xs.map fun x=>[af x]),.fn g caps] (af (cu p xs)) := by
 refine PH.ay Tryz.func294 Tryz.ntmps294 ?_
 repeat (first | refine ak tk rfl ?_ | refine ac ?_ | refine ab ?_ | refine aa ?_ | refine az ?_)
 refine iB tk 0 rfl rfl fun hl _=>?_
 refine kr (X := Nat) (fun j=>⟨19,upd (upd (upd (upd (fun _=>.any) 0 (.list 3 (xs.map fun x=>[af x]))) 1 (.fn g caps)) 7 (af (xs.map fun x=>[af x]).length)) 8 (af j),fun _=>none,fun _=>none⟩)
  (fun j=>j ≤ xs.length ∧ ∀ x ∈ xs.take j,p x = false) (fun j=>xs.length - j) 0 ⟨Nat.zero_le _,by simp⟩ (Gh.le (ao (ao (ao (ao aP)))) aD aE) ?_
 rintro j ⟨hj,hpre⟩
 repeat (first | refine ak tk rfl ?_ | refine ac ?_ | refine ab ?_ | refine aa ?_)
 refine du rfl (fun h=>?_) (fun h=>?_)
 ·have hlt : j < xs.length := by simpa using h
  have hget : xs[j]? = some xs[j] := ze hlt
  repeat (first | refine ak tk rfl ?_ | refine ac ?_ | refine ab ?_ | refine aa ?_ | refine au ?_ | refine az ?_)
  refine qq tk rfl rfl rfl rfl rfl rfl (zn j) (r := [af xs[j]]) (by simp [hget]) rfl ?_
  repeat (refine ak tk rfl ?_)
  refine aq hg (dS.r) (hp xs[j] (List.getElem_mem hlt)) ?_
  repeat (refine ac ?_)
  refine du rfl (fun h=>?_) (fun h=>?_)
  ·repeat (first | refine ak tk rfl ?_ | refine ac ?_ | refine ab ?_ | refine aa ?_)
   refine eI tk (PLe.q ?_)
   rw [idxOf_at hlt hpre h]
  ·repeat (first | refine ak tk rfl ?_ | refine ac ?_ | refine aa ?_ | refine au ?_ | refine aR ?_)
   refine li (j + 1) (by omega) ⟨hlt,?_⟩ (Gh.le (bp (PLe.q ?_) (ao (ao (ao aP)))) aD aE)
   ·exact pT hlt hpre h
   ·exact fF (by simp at hl; omega)
 ·have hge : j = xs.length := by have : ¬ j < xs.length := by simpa using h
                                 omega
  repeat (first | refine ak tk rfl ?_ | refine ac ?_ | refine ab ?_ | refine aa ?_ | refine bF rfl ?_)
  refine eI tk (PLe.q ?_)
  rw [mY (by rw [hge] at hpre; simpa using hpre)]
theorem containsInt {g : FuncId} {caps : List PV} {p : Int → Bool} (xs : List Int) (hg : ∀ (vs : Array Value) (w : World),(callFunc g vs).run Tryz.prog w = .ok (.enter g vs) w) (hp : ∀ x ∈ xs,ba Tryz.prog g (af x :: caps) (aG (p x))) :
  ba Tryz.prog 272 [.list 3 (xs.map fun x=>[af x]),.fn g caps] (aG (xs.any p)) := by
 refine PH.ay Tryz.func272 Tryz.ntmps272 ?_
 repeat (first | refine ak tk rfl ?_ | refine ac ?_ | refine ab ?_ | refine aa ?_)
 refine aq Tryz.call294 (dS.r) (indexInt xs hg hp) ?_
 repeat (first | refine ak tk rfl ?_ | refine ac ?_)
 refine eI tk (PLe.q ?_)
 rw [oE]
theorem indexStr (s : List UInt8) (xs : List (List UInt8)) :
  ba Tryz.prog 77 [pstrs xs,.str s] (af (cu (fun x=>s == x) xs)) := by
 refine PH.ay Tryz.func77 Tryz.ntmps77 ?_
 repeat (first | refine ak tk rfl ?_ | refine ac ?_ | refine ab ?_ | refine aa ?_ | refine az ?_)
 refine iB tk 0 rfl rfl fun hl _=>?_
 refine kr (X := Nat) (fun j=>⟨19,upd (upd (upd (upd (fun _=>.any) 0 (pstrs xs)) 1 (.str s)) 7 (af (xs.map fun s=>[PV.str s]).length)) 8 (af j),fun _=>none,fun _=>none⟩)
  (fun j=>j ≤ xs.length ∧ ∀ x ∈ xs.take j,(s == x) = false) (fun j=>xs.length - j) 0 ⟨Nat.zero_le _,by simp⟩ (Gh.le (ao (ao (ao (ao aP)))) aD aE) ?_
 rintro j ⟨hj,hpre⟩
 repeat (first | refine ak tk rfl ?_ | refine ac ?_ | refine ab ?_ | refine aa ?_)
 refine du rfl (fun h=>?_) (fun h=>?_)
 ·have hlt : j < xs.length := by simpa using h
  have hget : xs[j]? = some xs[j] := ze hlt
  repeat (first | refine ak tk rfl ?_ | refine ac ?_ | refine ab ?_ | refine aa ?_ | refine au ?_ | refine az ?_)
  refine qq tk rfl rfl rfl rfl rfl rfl (zn j) (r := [.str xs[j]]) (by simp [hget]) rfl ?_
  repeat (first | refine ak tk rfl ?_ | refine ac ?_)
  refine du rfl (fun h=>?_) (fun h=>?_)
  ·repeat (first | refine ak tk rfl ?_ | refine ac ?_ | refine ab ?_ | refine aa ?_)
   refine eI tk (PLe.q ?_)
   rw [idxOf_at hlt hpre h]
  ·repeat (first | refine ak tk rfl ?_ | refine ac ?_ | refine aa ?_ | refine au ?_ | refine aR ?_)
   refine li (j + 1) (by omega) ⟨hlt,?_⟩ (Gh.le (bp (PLe.q ?_) (ao (ao (ao aP)))) aD aE)
   ·exact pT (p := fun x=>s == x) hlt hpre h
   ·exact fF (by simp at hl; omega)
 ·have hge : j = xs.length := by have : ¬ j < xs.length := by simpa using h
                                 omega
  repeat (first | refine ak tk rfl ?_ | refine ac ?_ | refine ab ?_ | refine aa ?_ | refine bF rfl ?_)
  refine eI tk (PLe.q ?_)
  rw [mY (by rw [hge] at hpre; simpa using hpre)]
def validV (v : LVal) : Bool :=
 if v.kind = 0 then decide (v = ⟨0,0,[]⟩) else if v.kind = 1 then v.text == [] && decide (v.int ≥ -1000000000000) && decide (v.int ≤ 1000000000000)
 else if v.kind = 2 then v.text == [] && (v.int == 0 || v.int == 1) else if v.kind = 3 then v.int == 0 && decide (v.text.length ≤ 24) else false
theorem validV_spec (v : LVal) : ba Tryz.prog 50 [pval v] (aG (validV v)) := by
 refine PH.ay Tryz.func50 Tryz.ntmps50 ?_
 repeat' (first | refine ak tk rfl ?_ | refine ac ?_ | refine ab ?_ | refine aa ?_ | refine au ?_ | refine az ?_ | refine aR ?_ | refine aS ?_ | refine du rfl (fun h=>?_) (fun h=>?_) | ((fail_if_success refine jr rfl ?_); refine jv rfl rfl rfl (fun h=>?_) (fun h=>?_)))
 all_goals refine eI tk (PLe.q ?_)
 all_goals cases v
 all_goals simp_all [validV]
 ·rename_i x _
  rw [Bool.eq_iff_iff]
  cases x <;> simp
 ·omega
 ·omega
def wr (n : Int) : Int := IntKind.i64.wrap n
end
end Go.Proofs.YtppmcepdcpmpcaaGreatDoor

namespace Go.Proofs.YtppmcepdcpmpcaaGreatDoor
noncomputable section
open Go Go.Ab
attribute [local irreducible] V Ao Do Gh Eff PH IntKind.wrap
set_option maxRecDepth 4000
def jI : List (List UInt8) := [[43],[45],[42],[61],[60],[60,61],[97,110,100],[111,114],[110,111,116],[124,124],[105,115,32,110,117,108,108],[108,101,110,103,116,104],[105,102]]
def opArity : List Int := [2,2,2,2,2,2,2,2,1,2,1,1,3]
theorem opsS : ba Tryz.prog 259 [] (.tup [pstrs jI,pints opArity]) := by
 refine PH.ay Tryz.func259 Tryz.ntmps259 ?_
 repeat (first | refine ak tk rfl ?_ | refine ac ?_ | refine ab ?_ | refine aa ?_ | refine sf tk rfl rfl rfl rfl rfl rfl ?_)
 refine sE tk rfl rfl rfl (PLe.q ?_)
 rfl
def nr (name : List UInt8) : Option Nat :=
 if name == [43] || name == [45] || name == [42] || name == [61] || name == [60] || name == [60,61] || name == [97,110,100] || name == [111,114] || name == [124,124] then some 2
 else if name == [110,111,116] || name == [105,115,32,110,117,108,108] || name == [108,101,110,103,116,104] then some 1
 else if name == [105,102] then some 3 else none
theorem len2 {α : Type} : ∀ {l : List α},l.length = 2 → ∃ a b,l = [a,b]
 | [a,b],_=>⟨a,b,rfl⟩
theorem len3 {α : Type} : ∀ {l : List α},l.length = 3 → ∃ a b c,l = [a,b,c]
 | [a,b,c],_=>⟨a,b,c,rfl⟩
def lit (v : LVal) : LExpr := .mk 1 [] 0 v []
def lZ (acc r : Int × Int) : Int × Int := (wr (acc.1 + r.1),if r.2 > acc.2 then r.2 else acc.2)
mutual
def iw : LExpr → Int × Int
 | .mk _ _ _ _ args=>let r := (sizesE args).foldl lZ (1,0); (r.1,wr (r.2 + 1))
def sizesE : List LExpr → List (Int × Int)
 | []=>[]
 | e :: r=>iw e :: sizesE r
end
theorem sizesE_map : ∀ l,sizesE l = l.map iw
 | []=>rfl
 | e :: r=>by simp [sizesE,sizesE_map r]
theorem sizeE_eq (e : LExpr) : iw e = (((e.args.map iw).foldl lZ (1,0)).1,wr (((e.args.map iw).foldl lZ (1,0)).2 + 1)) := by
 cases e
 rw [iw,sizesE_map]
 rfl
theorem foldl_take {α β : Type} (g : β → α → β) (z : β) {l : List α} {j : Nat} (h : j < l.length) : (l.take (j + 1)).foldl g z = g ((l.take j).foldl g z) l[j] := by
 rw [List.take_add_one,ze h,List.foldl_append]
 rfl
theorem sizeStep_spec (e : LExpr) (ih : ∀ a ∈ e.args,ba Tryz.prog 199 [kQ a] (.tup [af (iw a).1,af (iw a).2])) :
  ba Tryz.prog 199 [kQ e] (.tup [af (iw e).1,af (iw e).2]) := by
 refine PH.ay Tryz.func199 Tryz.ntmps199 ?_
 repeat (first | refine ak tk rfl ?_ | refine ac ?_ | refine ab ?_ | refine aa ?_ | refine az ?_ | refine aS ?_)
 refine iB tk 11 rfl rfl fun hl _=>?_
 rw [zl] at hl
 refine kr (X := Nat) (fun j=>⟨32,upd (upd (upd (upd (upd (fun _=>.any) 5 (af (((e.args.map iw).take j).foldl lZ (1,0)).2)) 4 (af (((e.args.map iw).take j).foldl lZ (1,0)).1)) 11 (pexprs e.args)) 12 (af (e.args.map aF).length)) 13 (af j),fun _=>none,fun _=>none⟩)
  (fun j=>j ≤ e.args.length) (fun j=>e.args.length - j) 0 (Nat.zero_le _) (Gh.le (ao (ao (ao (ao (ao aP))))) aD aE) ?_
 intro j hj
 repeat (first | refine ak tk rfl ?_ | refine ac ?_ | refine ab ?_ | refine aa ?_)
 refine du rfl (fun h=>?_) (fun h=>?_)
 ·have hlt : j < e.args.length := by simpa using h
  repeat (first | refine ab ?_ | refine aa ?_ | refine au ?_ | refine az ?_)
  refine bn tk (zn j) (getExpr hlt) ?_
  repeat (first | refine ak tk rfl ?_ | refine ac ?_ | refine ab ?_ | refine aa ?_ | refine aB tk ?_ | (refine kY tk rfl rfl rfl rfl rfl rfl ?_; intro bk) | refine av tk ?_)
  refine aq Tryz.call199 (dS.r) (ih _ (List.getElem_mem hlt)) ?_
  repeat (first | refine ak tk rfl ?_ | refine ac ?_ | refine aa ?_ | refine aR ?_)
  have e1 := foldl_take lZ (1,0) (l := e.args.map iw) (j := j) (by simpa using hlt)
  rw [List.getElem_map] at e1
  refine li (j + 1) (by omega) hlt (Gh.le (bp (PLe.q (fF (by omega))) (ao (ao (bp (PLe.q (by rw [e1]; rfl)) (bp (PLe.q (by rw [e1]; rfl)) aP))))) aD aE)
 have hge : j = e.args.length := by have : ¬ j < e.args.length := by simpa using h
                                    omega
 subst hge
 rw [show (e.args.map iw).take e.args.length = e.args.map iw from by rw [List.take_of_length_le]; simp]
 repeat (first | refine ak tk rfl ?_ | refine ac ?_ | refine ab ?_ | refine aa ?_ | refine bF rfl ?_)
 refine sE tk rfl rfl rfl (PLe.q ?_)
 rw [sizeE_eq]
 rfl
theorem size_spec : ∀ e : LExpr,ba Tryz.prog 199 [kQ e] (.tup [af (iw e).1,af (iw e).2])
 | .mk k n i x args=>sizeStep_spec (.mk k n i x args) fun a ha=>by
  have ha' : a ∈ args := ha
  exact size_spec a
def nF (c : UInt8) : Bool := (decide ((c.toNat : Int) ≥ 97) && decide ((c.toNat : Int) ≤ 122)) || (decide ((c.toNat : Int) ≥ 48) && decide ((c.toNat : Int) ≤ 57))
theorem inner_spec (c : UInt8) : ba Tryz.prog 193 [.val (.int .u8 c.toNat)] (aG (nF c)) := by
 refine PH.ay Tryz.func193 Tryz.ntmps193 ?_
 repeat' (first | (show Ao _ _ _ _ _; first | refine ak tk rfl ?_ | refine ac ?_ | ((fail_if_success refine jr rfl ?_); refine jv rfl rfl rfl (fun h=>?_) (fun h=>?_))) | (show V _ _ _ _ _; first | refine ab ?_ | refine aa ?_))
 all_goals refine eI tk (PLe.q ?_)
 all_goals simp_all [nF]
 all_goals omega
theorem colIs_spec (c : LCol) (name : List UInt8) : ba Tryz.prog 270 [pcol c,.ptr [.str name]] (aG (c.name == name)) := by
 refine PH.ay Tryz.func270 Tryz.ntmps270 ?_
 repeat' (first | (show Ao _ _ _ _ _; first | refine ak tk rfl ?_ | refine ac ?_ | refine aS ?_) | (show V _ _ _ _ _; first | refine ab ?_ | refine aa ?_))
 all_goals refine eI tk (PLe.q rfl)
def findV (l : List LCol) (name : List UInt8) : LCol × Bool :=
 let i := cu (fun c : LCol=>c.name == name) l
 if i < 0 then (⟨[],0,false⟩,false) else (l.getD i.toNat ⟨[],0,false⟩,true)
theorem getCol {l : List LCol} {j : Int} (h0 : 0 ≤ j) (h : j < l.length) : (l.map bg)[j.toNat]? = some (bg (l.getD j.toNat ⟨[],0,false⟩)) := by
 have : j.toNat < l.length := by omega
 simp [this]
theorem idxOf_lt {α : Type} {p : α → Bool} {l : List α} : cu p l < l.length := by
 simp only [cu]
 split
 ·rename_i i h
  have := (List.findIdx?_eq_some_iff_getElem.1 h).1
  omega
 ·omega
theorem find_spec (l : List LCol) (name : List UInt8) : ba Tryz.prog 245 [jg l,.str name] (.tup [pcol (findV l name).1,aG (findV l name).2]) := by
 refine PH.ay Tryz.func245 Tryz.ntmps245 ?_
 repeat' (first | (show Ao _ _ _ _ _; first | refine ak tk rfl ?_ | refine ac ?_ | refine aS ?_ | (refine kY tk rfl rfl rfl rfl rfl rfl ?_; intro bk) | refine av tk ?_ | refine aq Tryz.call163 (dS.r) (indexCol (p := fun c=>c.name == name) _ Tryz.call270 fun c _=>colIs_spec c name) ?_ | refine qq tk rfl rfl rfl rfl rfl rfl (Int.not_lt.1 (of_decide_eq_false (by assumption))) (getCol (Int.not_lt.1 (of_decide_eq_false (by assumption))) idxOf_lt) rfl ?_) | (show V _ _ _ _ _; first | refine ab ?_ | refine aa ?_ | refine au ?_ | refine du rfl (fun h=>?_) (fun h=>?_)))
 all_goals refine V.retCT tk rfl rfl rfl rfl rfl rfl (PLe.q ?_)
 all_goals simp_all [findV]
 all_goals rw [zy (by omega)]
 all_goals exact ⟨⟨rfl,rfl,rfl⟩,rfl⟩
def ec (s : List UInt8) : Bool := decide (1 ≤ s.length) && decide (s.length ≤ 12) && (match s with | []=>false | c :: _=>decide (c.toNat ≥ 97) && decide (c.toNat ≤ 122)) && s.all nF
theorem idxStrAt {l : List UInt8} {j : Nat} (h : j < l.length) : l[((j : Nat) : Int).toNat]? = some l[j] := by simp [h]
theorem lL (s : List UInt8) : ba Tryz.prog 127 [.str s] (aG (ec s)) := by
 cases s with
 | nil =>
  refine PH.ay Tryz.func127 Tryz.ntmps127 ?_
  repeat' (first | (show Ao _ _ _ _ _; first | refine ak tk rfl ?_ | refine ac ?_) | (show V _ _ _ _ _; first | refine ab ?_ | refine aa ?_ | refine dG rfl ?_))
  all_goals refine eI tk (PLe.q rfl)
 | cons c s =>
  refine PH.ay Tryz.func127 Tryz.ntmps127 ?_
  refine V.strF 0 rfl fun hl=>?_
  repeat' (first | (show Ao _ _ _ _ _; first | refine ak tk rfl ?_ | refine ac ?_ | ((fail_if_success refine jr rfl ?_); refine jv rfl rfl rfl (fun h=>?_) (fun h=>?_))) | (show V _ _ _ _ _; first | refine ab ?_ | refine aa ?_ | refine au ?_ | refine dG rfl ?_ | refine az ?_ | refine du rfl (fun h=>?_) (fun h=>?_)))
  case cons.refine_1 =>
   refine eI tk (PLe.q ?_)
   have : ¬ (c :: s).length ≤ 12 := by simp only [decide_eq_true_eq] at h; omega
   have : ec (c :: s) = false := by simp only [ec,this]; simp
   rw [this]
  case cons.refine_2.refine_1 =>
   refine eI tk (PLe.q ?_)
   have : ¬ c.toNat ≥ 97 := by simp only [decide_eq_true_eq] at h; omega
   simp [ec,this]
  case cons.refine_2.refine_2.refine_1 =>
   refine eI tk (PLe.q ?_)
   have : ¬ c.toNat ≤ 122 := by simp only [decide_eq_true_eq] at h; omega
   simp [ec,this]
  rename_i h1 h2
  have hs : ec (c :: s) = (c :: s).all nF := by
   simp only [decide_eq_false_iff_not] at h1 h2 h
   have e1 : (c :: s).length ≤ 12 := by omega
   have e2 : c.toNat ≥ 97 := by omega
   have e3 : c.toNat ≤ 122 := by omega
   simp only [ec,e1,e2,e3]
   simp
  rw [hs]
  clear hs h h1 h2
  generalize hL : c :: s = L at *
  refine kr (X := Nat) (fun j=>⟨33,upd (upd (upd (fun _=>.any) 0 (.str L)) 23 (af L.length)) 24 (af j),fun _=>none,fun _=>none⟩)
   (fun j=>j ≤ L.length ∧ ∀ x ∈ L.take j,nF x = true) (fun j=>L.length - j) 0 ⟨Nat.zero_le _,by simp⟩ (Gh.le (ao (ao (ao aP))) aD aE) ?_
  rintro j ⟨hj,hpre⟩
  repeat (first | refine ak tk rfl ?_ | refine ac ?_ | refine ab ?_ | refine aa ?_)
  refine du rfl (fun h=>?_) (fun h=>?_)
  ·have hlt : j < L.length := by simpa using h
   repeat (first | refine ak tk rfl ?_ | refine ac ?_ | refine ab ?_ | refine aa ?_ | refine au ?_ | refine az ?_)
   refine rc tk rfl rfl rfl rfl rfl rfl (zn j) (idxStrAt hlt) rfl ?_
   skip
   refine aq Tryz.call193 (dS.r) (inner_spec _) ?_
   repeat (first | refine ak tk rfl ?_ | refine ac ?_)
   refine du rfl (fun h=>?_) (fun h=>?_)
   ·repeat (first | refine ak tk rfl ?_ | refine ac ?_ | refine ab ?_ | refine aa ?_)
    refine eI tk (PLe.q ?_)
    have : L.all nF = false := by
     rw [List.all_eq_false]
     exact ⟨L[j],List.getElem_mem hlt,by simpa using h⟩
    rw [this]
   ·repeat (first | refine ak tk rfl ?_ | refine ac ?_ | refine aa ?_ | refine au ?_ | refine aR ?_)
    refine li (j + 1) (by omega) ⟨hlt,?_⟩ (Gh.le (bp (PLe.q (fF (by unfold maxLen; unfold kg at hl; omega))) (ao (ao aP))) aD aE)
    intro x hx
    rw [List.take_add_one,ze hlt] at hx
    simp only [Option.toList,List.mem_append,List.mem_singleton] at hx
    rcases hx with hx | rfl
    ·exact hpre x hx
    ·simpa using h
  have hge : j = L.length := by have : ¬ j < L.length := by simpa using h
                                omega
  repeat (first | refine ak tk rfl ?_ | refine ac ?_ | refine ab ?_ | refine aa ?_ | refine bF rfl ?_)
  refine eI tk (PLe.q ?_)
  have : L.all nF = true := by
   rw [List.all_eq_true]
   rw [hge] at hpre
   simpa using hpre
  rw [this]
abbrev KR := Int × Bool × Int
abbrev pkr (r : KR) : PV := .tup [af r.1,aG r.2.1,af r.2.2]
def my (kind : Int) (nullable ok : Bool) : KR := if ok then (kind,nullable,0) else (0,false,7)
theorem ft (kind : Int) (nullable ok : Bool) : ba Tryz.prog 275 [af kind,aG nullable,aG ok] (pkr (my kind nullable ok)) := by
 refine PH.ay Tryz.func275 Tryz.ntmps275 ?_
 repeat' (first | (show Ao _ _ _ _ _; first | refine ak tk rfl ?_ | refine ac ?_) | (show V _ _ _ _ _; first | refine ab ?_ | refine aa ?_ | refine au ?_ | refine du rfl (fun h=>?_) (fun h=>?_)))
 all_goals refine eR tk (PLe.q ?_)
 all_goals simp_all [my]
def alikeB (a b : Int) : Bool := a == b || a == 0 || b == 0
theorem np (a b : Int) : ba Tryz.prog 274 [af a,af b] (aG (alikeB a b)) := by
 refine PH.ay Tryz.func274 Tryz.ntmps274 ?_
 repeat' (first | (show Ao _ _ _ _ _; first | refine ak tk rfl ?_ | refine ac ?_ | ((fail_if_success refine jr rfl ?_); refine jv rfl rfl rfl (fun h=>?_) (fun h=>?_))) | (show V _ _ _ _ _; first | refine ab ?_ | refine aa ?_))
 all_goals refine eI tk (PLe.q ?_)
 all_goals simp_all [alikeB]
theorem allOf1_spec (n want : Int) : ba Tryz.prog 273 [af n,.ptr [af want]] (aG (n != want && n != 0)) := by
 refine PH.ay Tryz.func273 Tryz.ntmps273 ?_
 repeat' (first | (show Ao _ _ _ _ _; first | refine ak tk rfl ?_ | refine ac ?_ | ((fail_if_success refine jr rfl ?_); refine jv rfl rfl rfl (fun h=>?_) (fun h=>?_))) | (show V _ _ _ _ _; first | refine ab ?_ | refine aa ?_))
 all_goals refine eI tk (PLe.q ?_)
 all_goals simp_all
def allOf (want : Int) (l : List Int) : Bool := !(l.any fun n=>n != want && n != 0)
theorem iV (want : Int) (l : List Int) : ba Tryz.prog 271 [af want,.ptr [pints l]] (aG (allOf want l)) := by
 refine PH.ay Tryz.func271 Tryz.ntmps271 ?_
 repeat' (first | (show Ao _ _ _ _ _; first | refine ak tk rfl ?_ | refine ac ?_ | refine aS ?_ | refine aq Tryz.call272 (dS.r) (containsInt (p := fun n=>n != want && n != 0) l Tryz.call273 fun n _=>allOf1_spec n want) ?_) | (show V _ _ _ _ _; first | refine ab ?_ | refine aa ?_))
 all_goals refine eI tk (PLe.q rfl)
def jJ (x : Int) : KR := (0,false,x)
def il (name : List UInt8) (kinds : List Int) (nullable : Bool) : KR :=
 if name == [43] || name == [45] || name == [42] then my 1 true (allOf 1 kinds)
 else if name == [124,124] then my 3 true (allOf 3 kinds)
 else if name == [108,101,110,103,116,104] then my 1 nullable (allOf 3 kinds)
 else if name == [97,110,100] || name == [111,114] || name == [110,111,116] then my 2 nullable (allOf 2 kinds)
 else if name == [105,115,32,110,117,108,108] then (2,false,0)
 else if name == [105,102] then my (if kinds.getD 2 0 > kinds.getD 1 0 then kinds.getD 2 0 else kinds.getD 1 0) nullable (alikeB (kinds.getD 0 0) 2 && alikeB (kinds.getD 1 0) (kinds.getD 2 0))
 else my 2 nullable (alikeB (kinds.getD 0 0) (kinds.getD 1 0))
def ky (name : List UInt8) (i : Int) (x : LVal) (ks : List KR) : KR :=
 if nr name ≠ some ks.length ∨ i ≠ 0 ∨ x ≠ .nul then jJ 3
 else match ks.find? fun r=>r.2.2 != 0 with
  | some r=>jJ r.2.2
  | none=>il name (ks.map (·.1)) (ks.any (·.2.1))
mutual
def eQ (cols vars : List LCol) : LExpr → KR
 | .mk k n i x args =>
  if k ≠ 5 ∧ 0 < args.length then jJ 3
  else if k == 1 then (if validV x && n == [] && i == 0 then (x.kind,x.kind == 0,0) else jJ 3)
  else if k == 3 then (if i < 0 ∨ i ≥ 8 ∨ n ≠ [] ∨ x.kind < 1 ∨ x.kind > 3 ∨ x ≠ ⟨x.kind,0,[]⟩ then jJ 3 else (x.kind,true,0))
  else if k == 2 || k == 4 then
   (if ec n && i == 0 && decide (x = .nul) then
    (let r := findV (if k == 4 then vars else cols) n
     if r.2 then (r.1.kind,r.1.nullable,0) else jJ 23)
    else jJ 3)
  else if k == 5 then ky n i x (kindsE cols vars args)
  else jJ 3
def kindsE (cols vars : List LCol) : List LExpr → List KR
 | []=>[]
 | e :: r=>eQ cols vars e :: kindsE cols vars r
end
theorem kindsE_map (cols vars : List LCol) : ∀ l,kindsE cols vars l = l.map (eQ cols vars)
 | []=>rfl
 | e :: r=>by simp [kindsE,kindsE_map cols vars r]
theorem arity_of_idx (name : List UInt8) : (cu (fun x=>name == x) jI < 0 ∧ nr name = none) ∨
  ∃ a : Nat,0 ≤ cu (fun x=>name == x) jI ∧ (opArity.map fun n=>[af n])[(cu (fun x=>name == x) jI).toNat]? = some [af a] ∧ nr name = some a := by
 by_cases hn : name ∈ jI
 ·refine .inr ?_
  simp only [jI,List.mem_cons,List.mem_nil_iff,or_false] at hn
  rcases hn with rfl | rfl | rfl | rfl | rfl | rfl | rfl | rfl | rfl | rfl | rfl | rfl | rfl <;> exact ⟨_,by decide,rfl,rfl⟩
 ·refine .inl ⟨?_,?_⟩
  ·rw [mY fun x hx=>by
    cases hb : name == x with
    | false=>rfl
    | true=>exact absurd (by rw [eq_of_beq hb]; exact hx) hn]
   decide
  ·simp only [jI,List.mem_cons,List.mem_nil_iff,or_false,not_or] at hn
   simp [nr,hn]
theorem find_at {α : Type} {p : α → Bool} {l : List α} {j : Nat} (hlt : j < l.length) (hpre : ∀ x ∈ l.take j,p x = false) (h : p l[j] = true) : l.find? p = some l[j] := by
 rw [List.find?_eq_some_iff_getElem]
 refine ⟨h,j,hlt,rfl,fun i hi=>?_⟩
 have := hpre l[i] (List.mem_take_iff_getElem.2 ⟨i,by omega,rfl⟩)
 simp [this]
theorem kindRows {cols vars : List LCol} {args : List LExpr} {j : Nat} (h : j < args.length) : ((args.take j).map (eQ cols vars)).map (fun r=>[af r.1]) ++ [[af (eQ cols vars args[j]).1]] = ((args.take (j + 1)).map (eQ cols vars)).map fun r=>[af r.1] := by
 rw [List.take_add_one,ze h]
 simp only [List.map_append,Option.toList,List.map_cons,List.map_nil]
theorem kindAny {cols vars : List LCol} {args : List LExpr} {j : Nat} (h : j < args.length) : ((args.take (j + 1)).map (eQ cols vars)).any (·.2.1) = (((args.take j).map (eQ cols vars)).any (·.2.1) || (eQ cols vars args[j]).2.1) := by
 rw [List.take_add_one,ze h]
 simp only [List.map_append,List.any_append,Option.toList,List.map_cons,List.map_nil,List.any_cons,List.any_nil,Bool.or_false]
theorem opKind_spec (cols vars : List LCol) (e : LExpr) (ih : ∀ a ∈ e.args,ba Tryz.prog 200 [jg cols,jg vars,kQ a] (pkr (eQ cols vars a))) :
  ba Tryz.prog 246 [jg cols,jg vars,kQ e] (pkr (ky e.name e.index e.value (e.args.map (eQ cols vars)))) := by
 rcases arity_of_idx e.name with ⟨hK,ha⟩ | ⟨ar,hK,hr,ha⟩
 ·refine PH.ay Tryz.func246 Tryz.ntmps246 ?_
  repeat' (first | (show Ao _ _ _ _ _; first | refine ak tk rfl ?_ | refine ac ?_ | refine aS ?_ | refine aq Tryz.call259 (dS.r) (opsS) ?_ | refine aq Tryz.call77 (dS.r) (indexStr _ _) ?_) | (show V _ _ _ _ _; first | refine ab ?_ | refine aa ?_ | refine dG rfl ?_ | (show V _ _ _ (.code (.region 3 _ true) :: _) _; refine bj tk mok ⟨false,false,[]⟩ [0,1,2,3,4,5,6,7,8,9,10,11,12,13,14,15,16,17,18,19,20,21,22] rfl (by decide +kernel) rfl ?_)) | (show Do _ _ _ _ _ _ _; first | refine bN rfl ?_ | refine aY ?_ | ((fail_if_success refine pG rfl rfl ?_); refine qb rfl rfl rfl rfl (fun h=>?_) (fun h=>?_))))
  all_goals try (exfalso; simp_all <;> omega; done)
  all_goals refine eR tk (PLe.q ?_)
  all_goals (have : ky e.name e.index e.value (e.args.map (eQ cols vars)) = jJ 3 := by simp [ky,ha])
  all_goals (rw [this]; rfl)
 ·refine PH.ay Tryz.func246 Tryz.ntmps246 ?_
  repeat' (first | (show Ao _ _ _ _ _; first | refine ak tk rfl ?_ | refine ac ?_ | refine aS ?_ | (refine kY tk rfl rfl rfl rfl rfl rfl ?_; intro bk) | refine aq Tryz.call259 (dS.r) (opsS) ?_ | refine aq Tryz.call77 (dS.r) (indexStr _ _) ?_) | (show V _ _ _ _ _; first | refine ab ?_ | refine aa ?_ | refine au ?_ | refine dG rfl ?_ | refine az ?_ | (show V _ _ _ (.code (.region 3 _ true) :: _) _; refine bj tk mok ⟨false,false,[]⟩ [0,1,2,3,4,5,6,7,8,9,10,11,12,13,14,15,16,17,18,19,20,21,22] rfl (by decide +kernel) rfl ?_) | refine du rfl (fun h=>?_) (fun h=>?_)) | (show Do _ _ _ _ _ _ _; first | refine bN rfl ?_ | refine aY ?_ | refine dN hK hr ?_ | ((fail_if_success refine pG rfl rfl ?_); refine qb rfl rfl rfl rfl (fun h=>?_) (fun h=>?_))))
  all_goals try (exfalso; simp_all <;> omega; done)
  case inr.refine_2.refine_1 =>
   refine eR tk (PLe.q ?_)
   rw [ky,zp (.inl (by rw [ha]; simp at h ⊢; omega))]
   rfl
  case inr.refine_2.refine_2.refine_1 =>
   refine eR tk (PLe.q ?_)
   rw [ky,zp (.inr (.inl (by simpa using h)))]
   rfl
  case inr.refine_2.refine_2.refine_2.refine_1 =>
   refine eR tk (PLe.q ?_)
   rw [ky,zp (.inr (.inr (by intro hh; rw [hh] at h; simp [LVal.nul] at h)))]
   rfl
  rename_i h0 h1 h2
  have hlen : e.args.length = ar := by
   simp at h1
   omega
  have hgood : ¬ (nr e.name ≠ some (e.args.map (eQ cols vars)).length ∨ e.index ≠ 0 ∨ e.value ≠ .nul) := by
   rw [ha]
   rintro (h3 | h3 | h3)
   ·simp [hlen] at h3
   ·exact h3 (by simpa using h2)
   ·apply h3
    cases hv : e.value
    rw [hv] at h
    simp at h
    simp [LVal.nul,h]
  rw [ky,zy hgood]
  refine iB tk 53 rfl rfl fun hl hby=>?_
  rw [zl] at hl hby
  have hby' : e.args.length * 88 ≤ 2 ^ 47 := hby
  refine iz tk 12 0 12 (e := 3) rfl rfl rfl rfl ?_
  refine kr (X := Nat × OwnRef) (fun X=>⟨164,upd (upd (upd (upd (upd (upd (upd (upd (fun _=>.any) 13 (aG (((e.args.take X.1).map (eQ cols vars)).any (·.2.1)))) 12 (.box 12 bk 0)) 5 (.ptr (cG e))) 1 (jg vars)) 0 (jg cols)) 53 (pexprs e.args)) 54 (af (e.args.map aF).length)) 55 (af X.1),upd (fun _=>none) 12 (some ⟨bk,[.own 12 X.2 (((e.args.take X.1).map (eQ cols vars)).map fun r=>[af r.1]).length]⟩),upd (fun _=>none) 12 (some ⟨X.2,3,((e.args.take X.1).map (eQ cols vars)).map fun r=>[af r.1],true⟩)⟩)
   (fun X=>X.1 ≤ e.args.length ∧ ∀ x ∈ (e.args.map (eQ cols vars)).take X.1,(x.2.2 != 0) = false) (fun X=>e.args.length - X.1) (0,⟨none,0⟩) ⟨Nat.zero_le _,by simp⟩ (Gh.le (ao (ao (ao (ao (ao (ao (ao (ao aP)))))))) (aW rfl (dS.r) aD) (aU aE)) ?_
  rintro ⟨j,g⟩ ⟨hj,hpre⟩
  replace hj : j ≤ e.args.length := hj
  replace hpre : ∀ x ∈ (e.args.map (eQ cols vars)).take j,(x.2.2 != 0) = false := hpre
  repeat (first | refine ak tk rfl ?_ | refine ac ?_ | refine ab ?_ | refine aa ?_)
  refine du rfl (fun h=>?_) (fun h=>?_)
  ·have hlt : j < e.args.length := by simpa using h
   have hlt' : j < (e.args.map (eQ cols vars)).length := by simpa using hlt
   repeat (first | refine ab ?_ | refine aa ?_ | refine au ?_ | refine az ?_)
   refine bn tk (zn j) (getExpr hlt) ?_
   repeat (first | refine ak tk rfl ?_ | refine ac ?_ | refine ab ?_ | refine aa ?_ | refine aB tk ?_ | (refine kY tk rfl rfl rfl rfl rfl rfl ?_; intro bk) | refine av tk ?_)
   refine aq Tryz.call200 (dS.r) (ih _ (List.getElem_mem hlt)) ?_
   repeat (first | refine ak tk rfl ?_ | refine ac ?_ | refine ab ?_ | refine aa ?_)
   refine du rfl (fun h=>?_) (fun h=>?_)
   ·repeat (first | refine ak tk rfl ?_ | refine ac ?_ | refine ab ?_ | refine aa ?_)
    refine eR tk (PLe.q ?_)
    rw [find_at hlt' hpre (by simpa using h),List.getElem_map]
    rfl
   ·repeat (first | refine ak tk rfl ?_ | refine aa ?_ | refine au ?_ | refine aB tk ?_ | refine sf tk rfl rfl rfl rfl rfl rfl ?_)
    refine su (rows2 := [[af (eQ cols vars e.args[j]).1]]) tk rfl rfl rfl rfl rfl rfl rfl rfl rfl rfl rfl rfl rfl ?_ ?_ fun g'=>?_
    ·simp only [zl,List.length_take,List.length_cons,List.length_nil]
     rw [Nat.min_eq_left hj]
     show (j + 1) * 8 ≤ 2 ^ 47
     omega
    ·simp only [zl,List.length_take,List.length_cons,List.length_nil]
     omega
    repeat (refine ak tk rfl ?_)
    have hpre' : ∀ x ∈ (e.args.map (eQ cols vars)).take (j + 1),(x.2.2 != 0) = false := pT (p := fun x : KR=>x.2.2 != 0) hlt' hpre (by rw [List.getElem_map]; exact h)
    have hany := kindAny (cols := cols) (vars := vars) hlt
    refine jv rfl rfl rfl (fun hn=>?_) (fun hn=>?_)
    ·repeat (first | refine ak tk rfl ?_ | refine ac ?_ | refine aa ?_ | refine aR ?_ | refine av tk ?_)
     rw [kindRows hlt]
     refine li (j + 1,g') ?_ ⟨hlt,hpre'⟩ (Gh.le (bp (PLe.q (fF (by omega))) (ao (ao (ao (ao (ao (ao (bp (PLe.q (by rw [hany,hn]; rfl)) aP)))))))) (aW rfl (dS.r) aD) (aU aE))
     show e.args.length - (j + 1) < e.args.length - j
     omega
    ·repeat (first | refine ak tk rfl ?_ | refine ac ?_ | refine aa ?_ | refine aR ?_ | refine av tk ?_)
     rw [kindRows hlt]
     refine li (j + 1,g') ?_ ⟨hlt,hpre'⟩ (Gh.le (bp (PLe.q (fF (by omega))) (ao (ao (ao (ao (ao (ao (bp (PLe.q (by rw [hany,hn]; rfl)) aP)))))))) (aW rfl (dS.r) aD) (aU aE))
     show e.args.length - (j + 1) < e.args.length - j
     omega
  have hge : j = e.args.length := by have : ¬ j < e.args.length := by simpa using h
                                     omega
  subst hge
  refine eN 12 0 rfl rfl rfl rfl rfl (gn 12 ?_)
  have hks : (e.args.map (eQ cols vars)).find? (fun r=>r.2.2 != 0) = none := by
   rw [List.find?_eq_none]
   intro x hx
   have := hpre x (by rw [List.take_of_length_le (by simp)]; exact hx)
   simp [this]
  rw [hks]
  simp only [List.take_length]
  have hlk : (e.args.map (eQ cols vars)).length = ar := by simp [hlen]
  generalize e.args.map (eQ cols vars) = KS at hlk
  refine cq (st' := ⟨164,upd (upd (upd (fun _=>.any) 13 (aG (KS.any (·.2.1)))) 12 (.ptr [pints (KS.map (·.1))])) 5 (.ptr [af e.kind,.str e.name,af e.index,af e.value.kind,af e.value.int,.str e.value.text,pexprs e.args]),fun _=>none,fun _=>none⟩) (Gh.le (ao (bp (PLe.q (show PV.ptr [.list 3 (KS.map fun r=>[af r.1])] = _ from by simp)) (ao aP))) aD aE) ?_
  replace hlk : (KS.map (·.1)).length = ar := by simpa using hlk
  generalize KS.map (·.1) = kinds at hlk
  generalize KS.any (·.2.1) = nl
  generalize e.name = name at ha
  clear hpre hks hgood h0 h1 h2 h hr hK ih hlen
  by_cases hn : name ∈ jI
  ·simp only [jI,List.mem_cons,List.mem_nil_iff,or_false] at hn
   rcases hn with rfl | rfl | rfl | rfl | rfl | rfl | rfl | rfl | rfl | rfl | rfl | rfl | rfl
   ·have har : ar = 2 := by have : some 2 = some ar := ha; exact (Option.some.inj this).symm
    subst har
    obtain ⟨a,b,rfl⟩ := len2 hlk
    repeat' (first | (show Ao _ _ _ _ _; first | refine ak tk rfl ?_ | refine ac ?_ | refine aq Tryz.call271 (dS.r) (iV _ _) ?_ | refine aq Tryz.call275 (dS.r) (ft _ _ _) ?_) | (show V _ _ _ _ _; first | refine ab ?_ | refine aa ?_ | refine au ?_ | refine dG rfl ?_ | refine az ?_ | refine bF rfl ?_))
    all_goals refine eR tk (PLe.q ?_)
    all_goals simp_all [il]
   ·have har : ar = 2 := by have : some 2 = some ar := ha; exact (Option.some.inj this).symm
    subst har
    obtain ⟨a,b,rfl⟩ := len2 hlk
    repeat' (first | (show Ao _ _ _ _ _; first | refine ak tk rfl ?_ | refine ac ?_ | refine aq Tryz.call271 (dS.r) (iV _ _) ?_ | refine aq Tryz.call275 (dS.r) (ft _ _ _) ?_) | (show V _ _ _ _ _; first | refine ab ?_ | refine aa ?_ | refine au ?_ | refine dG rfl ?_ | refine dE rfl ?_ | refine az ?_ | refine bF rfl ?_))
    all_goals refine eR tk (PLe.q ?_)
    all_goals simp_all [il]
   ·have har : ar = 2 := by have : some 2 = some ar := ha; exact (Option.some.inj this).symm
    subst har
    obtain ⟨a,b,rfl⟩ := len2 hlk
    repeat' (first | (show Ao _ _ _ _ _; first | refine ak tk rfl ?_ | refine ac ?_ | refine aq Tryz.call271 (dS.r) (iV _ _) ?_ | refine aq Tryz.call275 (dS.r) (ft _ _ _) ?_) | (show V _ _ _ _ _; first | refine ab ?_ | refine aa ?_ | refine dG rfl ?_ | refine dE rfl ?_ | refine az ?_ | refine bF rfl ?_))
    all_goals refine eR tk (PLe.q ?_)
    all_goals simp_all [il]
   ·have har : ar = 2 := by have : some 2 = some ar := ha; exact (Option.some.inj this).symm
    subst har
    obtain ⟨a,b,rfl⟩ := len2 hlk
    repeat' (first | (show Ao _ _ _ _ _; first | refine ak tk rfl ?_ | refine ac ?_) | (show V _ _ _ _ _; first | refine ab ?_ | refine aa ?_ | refine au ?_ | refine dE rfl ?_ | refine az ?_ | refine aR ?_ | refine bF rfl ?_ | (show V _ _ _ (.code (.region 34 _ true) :: _) _; refine bj tk mok ⟨false,false,[]⟩ [0,1,2,3,4,5,6,7,8,9,10,11,12,13,14,15] rfl (by decide +kernel) rfl ?_)) | (show Do _ _ _ _ _ _ _; first | refine bN rfl ?_ | refine aY ?_ | refine br Tryz.call274 (dS.r) (np _ _) ?_ | refine br Tryz.call275 (dS.r) (ft _ _ _) ?_))
    all_goals refine eR tk (PLe.q ?_)
    all_goals simp_all [il]
   ·have har : ar = 2 := by have : some 2 = some ar := ha; exact (Option.some.inj this).symm
    subst har
    obtain ⟨a,b,rfl⟩ := len2 hlk
    repeat' (first | (show Ao _ _ _ _ _; first | refine ak tk rfl ?_ | refine ac ?_) | (show V _ _ _ _ _; first | refine ab ?_ | refine aa ?_ | refine au ?_ | refine dE rfl ?_ | refine az ?_ | refine aR ?_ | refine bF rfl ?_ | (show V _ _ _ (.code (.region 34 _ true) :: _) _; refine bj tk mok ⟨false,false,[]⟩ [0,1,2,3,4,5,6,7,8,9,10,11,12,13,14,15] rfl (by decide +kernel) rfl ?_)) | (show Do _ _ _ _ _ _ _; first | refine bN rfl ?_ | refine aY ?_ | refine br Tryz.call274 (dS.r) (np _ _) ?_ | refine br Tryz.call275 (dS.r) (ft _ _ _) ?_))
    all_goals refine eR tk (PLe.q ?_)
    all_goals simp_all [il]
   ·have har : ar = 2 := by have : some 2 = some ar := ha; exact (Option.some.inj this).symm
    subst har
    obtain ⟨a,b,rfl⟩ := len2 hlk
    repeat' (first | (show Ao _ _ _ _ _; first | refine ak tk rfl ?_ | refine ac ?_) | (show V _ _ _ _ _; first | refine ab ?_ | refine aa ?_ | refine au ?_ | refine dE rfl ?_ | refine az ?_ | refine aR ?_ | refine bF rfl ?_ | (show V _ _ _ (.code (.region 34 _ true) :: _) _; refine bj tk mok ⟨false,false,[]⟩ [0,1,2,3,4,5,6,7,8,9,10,11,12,13,14,15] rfl (by decide +kernel) rfl ?_)) | (show Do _ _ _ _ _ _ _; first | refine bN rfl ?_ | refine aY ?_ | refine br Tryz.call274 (dS.r) (np _ _) ?_ | refine br Tryz.call275 (dS.r) (ft _ _ _) ?_))
    all_goals refine eR tk (PLe.q ?_)
    all_goals simp_all [il]
   ·have har : ar = 2 := by have : some 2 = some ar := ha; exact (Option.some.inj this).symm
    subst har
    obtain ⟨a,b,rfl⟩ := len2 hlk
    repeat' (first | (show Ao _ _ _ _ _; first | refine ak tk rfl ?_ | refine ac ?_ | refine aq Tryz.call271 (dS.r) (iV _ _) ?_ | refine aq Tryz.call275 (dS.r) (ft _ _ _) ?_) | (show V _ _ _ _ _; first | refine ab ?_ | refine aa ?_ | refine au ?_ | refine dG rfl ?_ | refine dE rfl ?_ | refine az ?_ | refine bF rfl ?_))
    all_goals refine eR tk (PLe.q ?_)
    all_goals simp_all [il]
   ·have har : ar = 2 := by have : some 2 = some ar := ha; exact (Option.some.inj this).symm
    subst har
    obtain ⟨a,b,rfl⟩ := len2 hlk
    repeat' (first | (show Ao _ _ _ _ _; first | refine ak tk rfl ?_ | refine ac ?_ | refine aq Tryz.call271 (dS.r) (iV _ _) ?_ | refine aq Tryz.call275 (dS.r) (ft _ _ _) ?_) | (show V _ _ _ _ _; first | refine ab ?_ | refine aa ?_ | refine au ?_ | refine dG rfl ?_ | refine dE rfl ?_ | refine az ?_ | refine bF rfl ?_))
    all_goals refine eR tk (PLe.q ?_)
    all_goals simp_all [il]
   ·have har : ar = 1 := by have : some 1 = some ar := ha; exact (Option.some.inj this).symm
    subst har
    obtain ⟨a,rfl⟩ := List.length_eq_one_iff.1 hlk
    repeat' (first | (show Ao _ _ _ _ _; first | refine ak tk rfl ?_ | refine ac ?_ | refine aq Tryz.call271 (dS.r) (iV _ _) ?_ | refine aq Tryz.call275 (dS.r) (ft _ _ _) ?_) | (show V _ _ _ _ _; first | refine ab ?_ | refine aa ?_ | refine dG rfl ?_ | refine dE rfl ?_ | refine az ?_ | refine bF rfl ?_))
    all_goals refine eR tk (PLe.q ?_)
    all_goals simp_all [il]
   ·have har : ar = 2 := by have : some 2 = some ar := ha; exact (Option.some.inj this).symm
    subst har
    obtain ⟨a,b,rfl⟩ := len2 hlk
    repeat' (first | (show Ao _ _ _ _ _; first | refine ak tk rfl ?_ | refine ac ?_ | refine aq Tryz.call271 (dS.r) (iV _ _) ?_ | refine aq Tryz.call275 (dS.r) (ft _ _ _) ?_) | (show V _ _ _ _ _; first | refine ab ?_ | refine aa ?_ | refine dG rfl ?_ | refine dE rfl ?_ | refine az ?_ | refine bF rfl ?_))
    all_goals refine eR tk (PLe.q ?_)
    all_goals simp_all [il]
   ·have har : ar = 1 := by have : some 1 = some ar := ha; exact (Option.some.inj this).symm
    subst har
    obtain ⟨a,rfl⟩ := List.length_eq_one_iff.1 hlk
    repeat' (first | (show Ao _ _ _ _ _; first | refine ak tk rfl ?_ | refine ac ?_) | (show V _ _ _ _ _; first | refine ab ?_ | refine aa ?_ | refine dG rfl ?_ | refine dE rfl ?_ | refine az ?_ | refine bF rfl ?_))
    all_goals refine eR tk (PLe.q ?_)
    all_goals simp_all [il]
   ·have har : ar = 1 := by have : some 1 = some ar := ha; exact (Option.some.inj this).symm
    subst har
    obtain ⟨a,rfl⟩ := List.length_eq_one_iff.1 hlk
    repeat' (first | (show Ao _ _ _ _ _; first | refine ak tk rfl ?_ | refine ac ?_ | refine aq Tryz.call271 (dS.r) (iV _ _) ?_ | refine aq Tryz.call275 (dS.r) (ft _ _ _) ?_) | (show V _ _ _ _ _; first | refine ab ?_ | refine aa ?_ | refine dG rfl ?_ | refine dE rfl ?_ | refine az ?_ | refine bF rfl ?_))
    all_goals refine eR tk (PLe.q ?_)
    all_goals simp_all [il]
   ·have har : ar = 3 := by have : some 3 = some ar := ha; exact (Option.some.inj this).symm
    subst har
    obtain ⟨a,b,c,rfl⟩ := len3 hlk
    repeat' (first | (show Ao _ _ _ _ _; first | refine ak tk rfl ?_ | refine ac ?_) | (show V _ _ _ _ _; first | refine ab ?_ | refine aa ?_ | refine dG rfl ?_ | refine dE rfl ?_ | refine az ?_ | refine bF rfl ?_ | (show V _ _ _ (.code (.region 33 _ true) :: _) _; refine bj tk mok ⟨false,false,[]⟩ [0,1,2,3,4,5,6,7,8,9,10,11,12,13,14,15,16,17,18,19,20,21,22,23,24,25,26,27,28,29] rfl (by decide +kernel) rfl ?_)) | (show Do _ _ _ _ _ _ _; first | refine bN rfl ?_ | refine aY ?_ | refine br Tryz.call274 (dS.r) (np _ _) ?_ | refine br Tryz.call275 (dS.r) (ft _ _ _) ?_ | ((fail_if_success refine pG rfl rfl ?_); refine qb rfl rfl rfl rfl (fun h=>?_) (fun h=>?_))))
    all_goals refine eR tk (PLe.q ?_)
    all_goals simp_all [il]
  ·simp only [jI,List.mem_cons,List.mem_nil_iff,or_false,not_or] at hn
   simp [nr,hn] at ha
theorem kindE_eq (cols vars : List LCol) (e : LExpr) : eQ cols vars e =
  if e.kind ≠ 5 ∧ 0 < e.args.length then jJ 3
  else if e.kind == 1 then (if validV e.value && e.name == [] && e.index == 0 then (e.value.kind,e.value.kind == 0,0) else jJ 3)
  else if e.kind == 3 then (if e.index < 0 ∨ e.index ≥ 8 ∨ e.name ≠ [] ∨ e.value.kind < 1 ∨ e.value.kind > 3 ∨ e.value ≠ ⟨e.value.kind,0,[]⟩ then jJ 3 else (e.value.kind,true,0))
  else if e.kind == 2 || e.kind == 4 then
   (if ec e.name && e.index == 0 && decide (e.value = .nul) then
    (if (findV (if e.kind == 4 then vars else cols) e.name).2 then ((findV (if e.kind == 4 then vars else cols) e.name).1.kind,(findV (if e.kind == 4 then vars else cols) e.name).1.nullable,0) else jJ 23)
    else jJ 3)
  else if e.kind == 5 then ky e.name e.index e.value (e.args.map (eQ cols vars))
  else jJ 3 := by
 cases e
 rw [eQ,kindsE_map]
 rfl
theorem valNul_iff (x : LVal) : x = .nul ↔ x.kind = 0 ∧ x.int = 0 ∧ x.text = [] := by
 cases x
 simp [LVal.nul]
theorem valK_iff (x : LVal) : x = ⟨x.kind,0,[]⟩ ↔ x.int = 0 ∧ x.text = [] := by
 cases x
 simp
theorem kindStep (cols vars : List LCol) (e : LExpr) (ih : ∀ a ∈ e.args,ba Tryz.prog 200 [jg cols,jg vars,kQ a] (pkr (eQ cols vars a))) :
  ba Tryz.prog 200 [jg cols,jg vars,kQ e] (pkr (eQ cols vars e)) := by
 refine PH.ay Tryz.func200 Tryz.ntmps200 ?_
 repeat' (first | (show Ao _ _ _ _ _; first | refine ak tk rfl ?_ | refine ac ?_ | refine aS ?_ | (refine kY tk rfl rfl rfl rfl rfl rfl ?_; intro bk) | refine av tk ?_ | refine aq Tryz.call50 (dS.r) (validV_spec _) ?_ | refine aq Tryz.call127 (dS.r) (lL _) ?_ | refine aq Tryz.call245 (dS.r) (find_spec _ _) ?_ | refine aq Tryz.call246 (dS.r) (opKind_spec cols vars e ih) ?_ | ((fail_if_success refine jr rfl ?_); refine jv rfl rfl rfl (fun h=>?_) (fun h=>?_))) | (show V _ _ _ _ _; first | refine ab ?_ | refine aa ?_ | refine au ?_ | refine dG rfl ?_ | refine dE rfl ?_ | refine az ?_ | refine aR ?_ | (show V _ _ _ (.code (.region 7 _ true) :: _) _; refine bj tk mok ⟨true,false,[]⟩ [0,1,2,3,4,5,6,7,8,9] rfl (by decide +kernel) rfl ?_) | (show V _ _ _ (.code (.region 22 _ true) :: _) _; refine bj tk mok ⟨true,false,[]⟩ [0,1,2,3,4,5,6] rfl (by decide +kernel) rfl ?_) | refine du rfl (fun h=>?_) (fun h=>?_)) | (show Do _ _ _ _ _ _ _; first | refine bN rfl ?_ | refine aY ?_ | refine bh ?_))
 all_goals refine eR tk (PLe.q ?_)
 all_goals rw [kindE_eq]
 all_goals (simp only [zl,Bool.not_eq_true',decide_eq_true_eq,decide_eq_false_iff_not,bne_iff_ne,beq_iff_eq,ne_eq,beq_eq_false_iff_ne,bne_eq_false_iff_eq] at *)
 all_goals try simp_all [jJ,valNul_iff,valK_iff]
 all_goals (rw [zy (by first | omega | (rintro ⟨q1,q2,q3⟩; exact h q1 q2 q3))]; exact ⟨rfl,rfl,rfl⟩)
theorem kind_spec (cols vars : List LCol) : ∀ e : LExpr,ba Tryz.prog 200 [jg cols,jg vars,kQ e] (pkr (eQ cols vars e))
 | .mk k n i x args=>kindStep cols vars (.mk k n i x args) fun a ha=>by
  have ha' : a ∈ args := ha
  exact kind_spec cols vars a
def fG (cols vars : List LCol) (e : LExpr) : KR := if (iw e).1 > 60 ∨ (iw e).2 > 12 then jJ 2 else eQ cols vars e
theorem mn (cols vars : List LCol) (e : LExpr) : ba Tryz.prog 132 [jg cols,jg vars,kQ e] (pkr (fG cols vars e)) := by
 refine PH.ay Tryz.func132 Tryz.ntmps132 ?_
 repeat' (first | (show Ao _ _ _ _ _; first | refine ak tk rfl ?_ | refine ac ?_ | refine aS ?_ | refine aq Tryz.call199 (dS.r) (size_spec _) ?_ | refine aq Tryz.call200 (dS.r) (kind_spec _ _ _) ?_ | ((fail_if_success refine jr rfl ?_); refine jv rfl rfl rfl (fun h=>?_) (fun h=>?_))) | (show V _ _ _ _ _; first | refine ab ?_ | refine aa ?_ | refine au ?_ | refine dG rfl ?_ | refine du rfl (fun h=>?_) (fun h=>?_)))
 all_goals refine eR tk (PLe.q ?_)
 all_goals simp_all [fG,jJ]
 rw [zy (by omega)]
 exact ⟨rfl,rfl,rfl⟩
mutual
def iE : LExpr → Int → Int
 | .mk _ _ _ _ args,m=>lJ args m
def lJ : List LExpr → Int → Int
 | [],m=>m
 | a :: r,m=>if wr (m - 1) < 0 then -1 else if iE a (wr (m - 1)) < 0 then -1 else lJ r (iE a (wr (m - 1)))
end
theorem nodesE_eq (e : LExpr) (m : Int) : iE e m = lJ e.args m := by
 cases e
 rw [iE]
 rfl
theorem nodesStep (e : LExpr) (most : Int) (ih : ∀ a ∈ e.args,∀ m,ba Tryz.prog 62 [kQ a,af m] (af (iE a m))) :
  ba Tryz.prog 62 [kQ e,af most] (af (iE e most)) := by
 rw [nodesE_eq]
 refine PH.ay Tryz.func62 Tryz.ntmps62 ?_
 repeat (first | refine ak tk rfl ?_ | refine ac ?_ | refine ab ?_ | refine aa ?_ | refine az ?_ | refine aS ?_)
 refine iB tk 8 rfl rfl fun hl _=>?_
 rw [zl] at hl
 refine kr (X := Nat × Int) (fun X=>⟨25,upd (upd (upd (upd (fun _=>.any) 1 (af X.2)) 8 (pexprs e.args)) 9 (af (e.args.map aF).length)) 10 (af X.1),fun _=>none,fun _=>none⟩)
  (fun X=>X.1 ≤ e.args.length ∧ lJ (e.args.drop X.1) X.2 = lJ e.args most) (fun X=>e.args.length - X.1) (0,most) ⟨Nat.zero_le _,rfl⟩ (Gh.le (ao (ao (ao (ao aP)))) aD aE) ?_
 rintro ⟨j,m⟩ ⟨hj,hm⟩
 replace hj : j ≤ e.args.length := hj
 replace hm : lJ (e.args.drop j) m = lJ e.args most := hm
 rw [← hm]
 repeat (first | refine ak tk rfl ?_ | refine ac ?_ | refine ab ?_ | refine aa ?_)
 refine du rfl (fun h=>?_) (fun h=>?_)
 ·have hlt : j < e.args.length := by simpa using h
  have hd : e.args.drop j = e.args[j] :: e.args.drop (j + 1) := List.drop_eq_getElem_cons hlt
  rw [hd,lJ]
  repeat (first | refine ab ?_ | refine aa ?_ | refine au ?_ | refine az ?_)
  refine bn tk (zn j) (getExpr hlt) ?_
  repeat (first | refine ak tk rfl ?_ | refine ac ?_ | refine ab ?_ | refine aa ?_ | (refine kY tk rfl rfl rfl rfl rfl rfl ?_; intro bk) | refine av tk ?_)
  refine du rfl (fun h1=>?_) (fun h1=>?_)
  ·repeat (first | refine ak tk rfl ?_ | refine ac ?_ | refine ab ?_ | refine aa ?_)
   refine eI tk (PLe.q ?_)
   rw [zp (by simpa [wr] using h1)]
  ·rw [zy (by simpa [wr] using h1)]
   repeat (first | refine ak tk rfl ?_ | refine ab ?_ | refine aa ?_ | refine au ?_ | refine aB tk ?_)
   refine aq Tryz.call62 (dS.r) (ih _ (List.getElem_mem hlt) _) ?_
   repeat (first | refine ak tk rfl ?_ | refine ac ?_ | refine ab ?_ | refine aa ?_)
   refine du rfl (fun h2=>?_) (fun h2=>?_)
   ·repeat (first | refine ak tk rfl ?_ | refine ac ?_ | refine ab ?_ | refine aa ?_)
    refine eI tk (PLe.q ?_)
    rw [zp (by simpa [wr] using h2)]
   ·repeat (first | refine ak tk rfl ?_ | refine ac ?_ | refine aa ?_ | refine au ?_ | refine aR ?_)
    refine li (j + 1,iE e.args[j] (wr (m - 1))) ?_ ⟨hlt,?_⟩ (Gh.le (bp (PLe.q (fF (by omega))) (ao (ao (ao aP)))) aD aE)
    ·show e.args.length - (j + 1) < e.args.length - j
     omega
    ·rw [zy (by simpa [wr] using h2)]
 have hge : j = e.args.length := by have : ¬ j < e.args.length := by simpa using h
                                    omega
 repeat (first | refine ak tk rfl ?_ | refine ac ?_ | refine ab ?_ | refine aa ?_ | refine bF rfl ?_)
 refine eI tk (PLe.q ?_)
 rw [hge,List.drop_length,lJ]
theorem pA : ∀ (e : LExpr) (m : Int),ba Tryz.prog 62 [kQ e,af m] (af (iE e m))
 | .mk k n i x args,m=>nodesStep (.mk k n i x args) m fun a ha m=>by
  have ha' : a ∈ args := ha
  exact pA a m
end
end Go.Proofs.YtppmcepdcpmpcaaGreatDoor

namespace Go.Proofs.YtppmcepdcpmpcaaGreatDoor
noncomputable section
open Go Go.Ab
structure LTable where
 name : List UInt8
 columns : List LCol
 primaryKey : List Int
 deriving DecidableEq
@[simp] def dz (x : LTable) : List PV := [(.str x.name),(.list 68 (x.columns.map bg)),(.list 3 (x.primaryKey.map bP))]
structure LForeignKey where
 table : List UInt8
 columns : List Int
 refTable : List UInt8
 deriving DecidableEq
@[simp] def iH (x : LForeignKey) : List PV := [(.str x.table),(.list 3 (x.columns.map bP)),(.str x.refTable)]
structure LConstraint where
 table : List UInt8
 left : Int
 op : List UInt8
 right : Int
 value : LVal
 deriving DecidableEq
@[simp] def jy (x : LConstraint) : List PV := [(.str x.table),(af x.left),(.str x.op),(af x.right),(af x.value.kind),(af x.value.int),(.str x.value.text)]
structure LSchema where
 tables : List LTable
 foreignKeys : List LForeignKey
 constraints : List LConstraint
 deriving DecidableEq
@[simp] def bK (x : LSchema) : List PV := [(.list 71 (x.tables.map dz)),(.list 135 (x.foreignKeys.map iH)),(.list 141 (x.constraints.map jy))]
structure LAggregateCall where
 name : List UInt8
 function : List UInt8
 args : List LExpr
@[simp] def bV (x : LAggregateCall) : List PV := [(.str x.name),(.str x.function),(.list 91 (x.args.map aF))]
inductive LQuery where
 | mk (kind : Int) (table : List UInt8) (names : List (List UInt8)) (exprs : List LExpr) (aggregates : List LAggregateCall) (descending : List Bool) (count : Int) (offset : Int) (inputs : List LQuery)
def LQuery.kind : LQuery → Int | .mk a _ _ _ _ _ _ _ _=>a
def LQuery.table : LQuery → List UInt8 | .mk _ a _ _ _ _ _ _ _=>a
def LQuery.names : LQuery → List (List UInt8) | .mk _ _ a _ _ _ _ _ _=>a
def LQuery.exprs : LQuery → List LExpr | .mk _ _ _ a _ _ _ _ _=>a
def LQuery.aggregates : LQuery → List LAggregateCall | .mk _ _ _ _ a _ _ _ _=>a
def LQuery.descending : LQuery → List Bool | .mk _ _ _ _ _ a _ _ _=>a
def LQuery.count : LQuery → Int | .mk _ _ _ _ _ _ a _ _=>a
def LQuery.offset : LQuery → Int | .mk _ _ _ _ _ _ _ a _=>a
def LQuery.inputs : LQuery → List LQuery | .mk _ _ _ _ _ _ _ _ a=>a
mutual
def aZ : LQuery → List PV
 | .mk f0 f1 f2 f3 f4 f5 f6 f7 f8=>[(af f0),(.str f1),(.list 9 (f2.map ah)),(.list 91 (f3.map aF)),(.list 88 (f4.map bV)),(.list 4 (f5.map dl)),(af f6),(af f7),.list 33 (oG f8)]
def oG : List LQuery → List (List PV)
 | []=>[]
 | e :: r=>aZ e :: oG r
end
theorem qc : ∀ l,oG l = l.map aZ
 | []=>rfl
 | e :: r=>by simp [oG,qc r]
def aA (x : LQuery) : List PV := [(af x.kind),(.str x.table),(.list 9 (x.names.map ah)),(.list 91 (x.exprs.map aF)),(.list 88 (x.aggregates.map bV)),(.list 4 (x.descending.map dl)),(af x.count),(af x.offset),(.list 33 (x.inputs.map aZ))]
theorem bH (x : LQuery) : aZ x = aA x := by
 cases x
 simp [aZ,aA,qc,LQuery.kind,LQuery.table,LQuery.names,LQuery.exprs,LQuery.aggregates,LQuery.descending,LQuery.count,LQuery.offset,LQuery.inputs]
structure LResult where
 columns : List LCol
 rows : Rz
 deriving DecidableEq
@[simp] def encResult (x : LResult) : List PV := [(.list 68 (x.columns.map bg)),(.list 75 (x.rows.map (kU 73 hJ)))]
structure LRelation where
 table : List UInt8
 rows : Rz
 deriving DecidableEq
@[simp] def encRelation (x : LRelation) : List PV := [(.str x.table),(.list 75 (x.rows.map (kU 73 hJ)))]
structure LPushdownPruner where
 s : LSchema
 deriving DecidableEq
@[simp] def cT (x : LPushdownPruner) : List PV := [(.list 71 (x.s.tables.map dz)),(.list 135 (x.s.foreignKeys.map iH)),(.list 141 (x.s.constraints.map jy))]
structure LRun where
 s : LSchema
 st : List LRelation
 args : Rq
 vars : List LCol
 names : List (List UInt8)
 vals : Rq
 deriving DecidableEq
@[simp] def encRun (x : LRun) : List PV := [(.list 71 (x.s.tables.map dz)),(.list 135 (x.s.foreignKeys.map iH)),(.list 141 (x.s.constraints.map jy)),(.list 77 (x.st.map encRelation)),(.list 73 (x.args.map hJ)),(.list 68 (x.vars.map bg)),(.list 9 (x.names.map ah)),(.list 73 (x.vals.map hJ))]
structure LChecker where
 s : LSchema
 vars : List LCol
 deriving DecidableEq
@[simp] def ef (x : LChecker) : List PV := [(.list 71 (x.s.tables.map dz)),(.list 135 (x.s.foreignKeys.map iH)),(.list 141 (x.s.constraints.map jy)),(.list 68 (x.vars.map bg))]
structure LRewriteRewriter where
 s : LSchema
 deriving DecidableEq
@[simp] def encRewriteRewriter (x : LRewriteRewriter) : List PV := [(.list 71 (x.s.tables.map dz)),(.list 135 (x.s.foreignKeys.map iH)),(.list 141 (x.s.constraints.map jy))]
end
end Go.Proofs.YtppmcepdcpmpcaaGreatDoor

namespace Go.Ab
noncomputable section
section
variable {P : Program} {T : TT}
theorem detS_idxO (hT : T.Ok P) {o : Oper} {ev : Operand → PV} {H : Heap} {t : TypeId} {x i : Operand} (ho : o.op = .indexAddr t x i) {ti ei : TInfo} {e : TypeId} (hti : T.get t = some ti) (hd : ti.desc = .slice e) (hei : T.get e = some ei)
  {tag : Nat} {g : OwnRef} {len : Nat} (hx : ev x = .own tag g len) {k : IntKind} {j : Int} (hi : ev i = .val (.int k j)) (hj : 0 ≤ j ∧ j.toNat < len) (hb : ∃ b,g.blk = some b) : DetS P o ev H (.optr tag g ei.size j.toNat 0) := by
 intro C M a w _ he
 have hxr := he x (by rw [ho]; simp [Op.operands])
 have hir := he i (by rw [ho]; simp [Op.operands])
 rw [hx] at hxr
 rw [hi] at hir
 simp only [Rep] at hxr hir
 obtain ⟨b,hb⟩ := hb
 have hu := (hT.get hti).rund w
 rw [hd] at hu
 have hsz := (hT.get hei).rsize w
 have h2 : j < (len : Int) := by omega
 refine ⟨.pointer (some ⟨b,j.toNat * ei.size,none⟩),?_,?_⟩
 ·simp [execOp,ho,Instr.indexAt,hir,hxr.2,OwnRef.val,hb,asIntOf,hu,hj.1,h2,hsz,fh]
 ·simp only [Rep]
  exact ⟨trivial,b,hb,by simp⟩
theorem mJ {k : Nat} : ∀ {rows : List (List PV)} {j : Nat} {r : List PV},(∀ q ∈ rows,q.length = k) → rows[j]? = some r → ∀ i p,r[i]? = some p → rows.flatten[j * k + i]? = some p
 | [],j,r,_,h,_,_,_=>by simp at h
 | q :: rows,0,r,hl,h,i,p,hp=>by
  simp only [List.getElem?_cons_zero,zo] at h
  subst h
  simp only [List.flatten_cons,Nat.zero_mul,Nat.zero_add]
  rw [List.getElem?_append_left (zg.1 hp).1]
  exact hp
 | q :: rows,j + 1,r,hl,h,i,p,hp=>by
  have hq := hl q (by simp)
  have := mJ (rows := rows) (j := j) (fun q hq=>hl q (by simp [hq])) (by simpa using h) i p hp
  simp only [List.flatten_cons]
  rw [List.getElem?_append_right (by rw [hq,Nat.add_mul]; omega),hq,show (j + 1) * k + i - k = j * k + i from by rw [Nat.add_mul]; omega]
  exact this
theorem detS_loadO (hT : T.Ok P) {o : Oper} {ev : Operand → PV} {H : Heap} {t : TypeId} {x : Operand} (ho : o.op = .load t x) {ti : TInfo} (hti : T.get t = some ti) {tag : Nat} {g : OwnRef} {k row off : Nat} (hx : ev x = .optr tag g k row off)
  {e : TypeId} {rows : List (List PV)} {wr : Bool} (hob : H.ob tag = some ⟨g,e,rows,wr⟩) {ei : TInfo} (hei : T.get e = some ei) (hk : k = ei.size) {cells : List PV} (hr : rows[row]? = some cells) {r : PV} (hc : gE ti off cells = some r) : DetS P o ev H r := by
 intro C M a w hi he
 have hxr := he x (by rw [ho]; simp [Op.operands])
 rw [hx] at hxr
 simp only [Rep] at hxr
 obtain ⟨_,b,hb,hv⟩ := hxr
 obtain ⟨i,h1,h2,h3,h4⟩ := hi.objs tag _ hob
 obtain ⟨i',h5,h6,_,_⟩ := (hT.get hei).info
 simp only at h1 h3 h4
 rw [h1] at h5
 cases h5
 rcases h4 with ⟨hn,_⟩ | ⟨b',cur,hb',hm,hcur,hcs,hlc,hcm,hcr,h1c,_,_⟩
 ·rw [hb] at hn; cases hn
 ·rw [hb] at hb'
  cases hb'
  have hlt : row < rows.length := (zg.1 hr).1
  have hcl : cells.length = i.size := h3 cells (List.mem_of_getElem? hr)
  have hks : k = i.size := by rw [hk,h6]
  subst hks
  -- the cells of that row
  have hflat : rows.flatten.length = rows.length * i.size := by
   have : ∀ l : List (List PV),(∀ q ∈ l,q.length = i.size) → l.flatten.length = l.length * i.size := by
    intro l
    induction l with
    | nil=>simp
    | cons q l ih=>intro hl; simp [ih fun q hq=>hl q (by simp [hq]),hl q (by simp),Nat.add_mul]; omega
   exact this rows h3
  have hseg : aw P M false cells ((cur.toList.take (rows.length * i.size)).drop (row * i.size) |>.take i.size) := by
   have h7 := (hcr.drop (row * i.size)).take i.size
   have e1 : (rows.flatten.drop (row * i.size)).take i.size = cells := by
    apply List.ext_getElem?
    intro m
    rw [List.getElem?_take]
    split
    ·rename_i hm
     rw [List.getElem?_drop]
     have hcm : cells[m]? = some cells[m] := ze (by omega)
     rw [hcm]
     exact mJ h3 hr m _ hcm
    ·rw [List.getElem?_eq_none (by omega)]
   rwa [e1] at h7
  obtain ⟨v,h8,h9⟩ := lR (hT.get hti) w b (row * i.size) off cells _ hseg (fun j y hj=>by
   rw [cell_of_row w b (row * i.size + j) cur e (0,0) hcur]
   rw [List.getElem?_take] at hj
   split at hj
   ·rw [List.getElem?_drop,List.getElem?_take] at hj
    split at hj
    ·simpa using hj
    ·cases hj
   ·cases hj) hc
  refine ⟨v,?_,h9.slot⟩
  simp [execOp,ho,hv,Instr.loadAt,Instr.sureAddr,h8]
theorem splice_seg {α : Type} (X Y Z cs : List α) (off : Nat) (h : off + cs.length ≤ Y.length) :
  X ++ (Y.take off ++ cs ++ Y.drop (off + cs.length)) ++ Z = (X ++ (Y ++ Z)).take (X.length + off) ++ cs ++ (X ++ (Y ++ Z)).drop (X.length + off + cs.length) := by
 rw [List.take_length_add_append,List.take_append_of_le_length (by omega),show X.length + off + cs.length = X.length + (off + cs.length) from by omega,List.drop_length_add_append,List.drop_append_of_le_length h]
 simp
theorem splice_take {α : Type} (l cs : List α) (p N : Nat) (h : p + cs.length ≤ N) (hN : N ≤ l.length) :
  (l.take p ++ cs ++ l.drop (p + cs.length)).take N = (l.take N).take p ++ cs ++ (l.take N).drop (p + cs.length) := by
 obtain ⟨U,hU⟩ : ∃ U,U = l.take N := ⟨_,rfl⟩
 obtain ⟨W,hW⟩ : ∃ W,W = l.drop N := ⟨_,rfl⟩
 have hl : l = U ++ W := by rw [hU,hW,List.take_append_drop]
 have hUl : U.length = N := by rw [hU]; simp; omega
 rw [← hU,hl,List.take_append_of_le_length (l₁ := U) (i := p) (by omega),List.drop_append_of_le_length (l₁ := U) (i := p + cs.length) (by omega)]
 rw [← List.append_assoc]
 have e : (U.take p ++ cs ++ U.drop (p + cs.length)).length = N := by simp; omega
 rw [← e,List.take_left]
def setRow (rows : List (List PV)) (row off : Nat) (cs : List PV) : List (List PV) := rows.set row (splice (rows.getD row []) off cs)
theorem set_flat {k : Nat} : ∀ {rows : List (List PV)} {j : Nat} {q : List PV},(∀ r ∈ rows,r.length = k) → q.length = k → j < rows.length → (rows.set j q).flatten = rows.flatten.take (j * k) ++ q ++ rows.flatten.drop (j * k + k)
 | [],j,q,_,_,h=>by simp at h
 | r :: rows,0,q,hl,hq,_=>by
  have hr := hl r (by simp)
  simp only [List.set_cons_zero,List.flatten_cons,Nat.zero_mul,List.take_zero,List.nil_append,Nat.zero_add]
  rw [← hr,List.drop_left]
 | r :: rows,j + 1,q,hl,hq,h=>by
  have hr := hl r (by simp)
  have ih := set_flat (rows := rows) (j := j) (q := q) (fun r hr=>hl r (by simp [hr])) hq (by simpa using h)
  simp only [List.set_cons_succ,List.flatten_cons,ih]
  have e1 : (j + 1) * k = r.length + j * k := by rw [Nat.add_mul,hr]; omega
  have e2 : r.length + j * k + k = r.length + (j * k + k) := by omega
  rw [e1,List.take_length_add_append,e2,List.drop_length_add_append]
  simp
theorem eff_storeO (hT : T.Ok P) {o : Oper} {ev : Operand → PV} {H : Heap} {t : TypeId} {x y : Operand} (ho : o.op = .store t x y) {ti : TInfo} (hti : T.get t = some ti) {tag : Nat} {g : OwnRef} {k row off : Nat} (hx : ev x = .optr tag g k row off)
  {e : TypeId} {rows : List (List PV)} (hob : H.ob tag = some ⟨g,e,rows,true⟩) {ei : TInfo} (hei : T.get e = some ei) (hk : k = ei.size) (hrow : row < rows.length) {py : PV} (hy : PLe P (ev y) py) {cs : List PV} (hc : cY py = some cs) (hf : PV.frozL cs = true) (h1 : cs.all PV.one = true) (hl : cs.length = ti.size) (hle : off + ti.size ≤ ei.size)
  {K : PV → Heap → Prop} (hK : K .any ⟨H.bx,upd H.ob tag (some ⟨g,e,setRow rows row off cs,true⟩)⟩) : Eff P o ev H K := by
 intro C M a w next Q hi he hn
 have hxr := he x (by rw [ho]; simp [Op.operands])
 have hyr := he y (by rw [ho]; simp [Op.operands])
 rw [hx] at hxr
 simp only [Rep] at hxr
 obtain ⟨_,b,hb,hv⟩ := hxr
 have hr := jC hc (hy M _ hyr)
 have hone := aw.oneCell h1 hr
 have hrf := aw.unslot hf hr
 have hvs : (a.eval y).cells.size = ti.size := by have := hr.length; simp at this; omega
 obtain ⟨i,g1,g2,g3,g4⟩ := hi.objs tag _ hob
 obtain ⟨i',g5,g6,_,_⟩ := (hT.get hei).info
 simp only at g1 g2 g3 g4
 rw [g1] at g5
 cases g5
 rcases g4 with ⟨hn',_⟩ | ⟨b',cur,hb',hm,hcur,hcs,hlc,hcm,hcr,h1c,hw1,hw2⟩
 ·rw [hb] at hn'; cases hn'
 rw [hb] at hb'
 cases hb'
 have hks : k = i.size := by rw [hk,g6]
 subst hks
 rw [← g6] at hle
 have hfit : row * i.size + i.size ≤ rows.length * i.size := by
  have := Nat.mul_le_mul_right i.size (show row + 1 ≤ rows.length from hrow)
  rw [Nat.add_mul] at this
  omega
 have hcap : rows.length * i.size ≤ cur.size := by rw [hcs]; exact Nat.mul_le_mul_right _ hlc
 have hvl : (a.eval y).cells.toList.length = ti.size := by simpa using hvs
 have hst := run_storeCells_at P b (row * i.size + off) e (a.eval y).cells.toList 0 cur w hcur (by rw [hvl]; omega) hone
 simp only [Nat.add_zero] at hst
 have hrun : (execOp a.eval o).run P w = .ok .skip (w.setRow b (cur.toList.take (row * i.size + off) ++ (a.eval y).cells.toList ++ cur.toList.drop (row * i.size + off + (a.eval y).cells.toList.length)).toArray) := by
  simp only [execOp,ho,Instr.storeAt,hv,Instr.sureAddr,Sem.run_bind,Sem.run_pure,Result.andThen_ok,storeVar,(hT.get hti).rsize w,hvs]
  simp only [ne_eq,not_true_eq_false,if_false]
  rw [hst]
  rfl
 unfold Oper.wp
 rw [hrun]
 have hgetD : rows.getD row [] = rows[row] := by simp [hrow]
 have hrl : (rows.getD row []).length = i.size := by rw [hgetD]; exact g3 _ (List.getElem_mem hrow)
 have hspl : (splice (rows.getD row []) off cs).length = i.size := by
  unfold splice
  rw [List.length_append,List.length_append,List.length_take,List.length_drop,hrl,hl]
  omega
 have hlens : ∀ r ∈ setRow rows row off cs,r.length = i.size := by
  intro r hr'
  rcases List.mem_or_eq_of_mem_set hr' with h | h
  ·exact g3 r h
  ·rw [h]; exact hspl
 have hlen : (setRow rows row off cs).length = rows.length := by simp [setRow]
 have hflat : rows.flatten.length = rows.length * i.size := by
  have : ∀ l : List (List PV),(∀ q ∈ l,q.length = i.size) → l.flatten.length = l.length * i.size := by
   intro l
   induction l with
   | nil=>simp
   | cons q l ih=>intro hl; simp [ih fun q hq=>hl q (by simp [hq]),hl q (by simp),Nat.add_mul]; omega
  exact this rows g3
 have hrl2 : rows[row].length = i.size := g3 _ (List.getElem_mem hrow)
 have hrowcells : (rows.flatten.drop (row * i.size)).take i.size = rows.getD row [] := by
  rw [hgetD]
  apply List.ext_getElem?
  intro m
  rw [List.getElem?_take]
  split
  ·rename_i hm'
   rw [List.getElem?_drop]
   have hml : m < rows[row].length := by rw [hrl2]; exact hm'
   have hcm' : rows[row][m]? = some (rows[row][m]'hml) := ze hml
   rw [hcm']
   exact mJ g3 (ze hrow) m _ hcm'
  ·rw [List.getElem?_eq_none (by rw [hrl2]; omega)]
 have hpv : (setRow rows row off cs).flatten = splice rows.flatten (row * i.size + off) cs := by
  unfold setRow
  rw [set_flat g3 hspl hrow,← hrowcells]
  have hA : (rows.flatten.take (row * i.size)).length = row * i.size := by rw [List.length_take,hflat]; omega
  have hY : ((rows.flatten.drop (row * i.size)).take i.size).length = i.size := by rw [List.length_take,List.length_drop,hflat]; omega
  have hdec : rows.flatten = rows.flatten.take (row * i.size) ++ ((rows.flatten.drop (row * i.size)).take i.size ++ rows.flatten.drop (row * i.size + i.size)) := by
   rw [← List.drop_drop,List.take_append_drop,List.take_append_drop]
  have key := splice_seg (rows.flatten.take (row * i.size)) ((rows.flatten.drop (row * i.size)).take i.size) (rows.flatten.drop (row * i.size + i.size)) cs off (by rw [hY,hl]; omega)
  rw [← hdec,hA] at key
  exact key
 have hvlist : (cur.toList.take (row * i.size + off) ++ (a.eval y).cells.toList ++ cur.toList.drop (row * i.size + off + (a.eval y).cells.toList.length)).take (rows.length * i.size) =
   (cur.toList.take (rows.length * i.size)).take (row * i.size + off) ++ (a.eval y).cells.toList ++ (cur.toList.take (rows.length * i.size)).drop (row * i.size + off + (a.eval y).cells.toList.length) := by
  exact splice_take cur.toList (a.eval y).cells.toList (row * i.size + off) (rows.length * i.size) (by rw [hvl]; omega) (by simpa using hcap)
 refine hn undef _ _ M _ hK (Mem.le_refl M) (hi.set_obj tag _ hob b hb (setRow rows row off cs) true _ i g1 ?_ hlens ?_ ?_ hcm ?_ ?_ ?_ (fun _=>hw1 trivial) ?_) (by simp [Rep])
 ·rw [hlen]; exact g2
 ·simp only [List.size_toArray,List.length_append,List.length_take,List.length_drop,Array.length_toList,hvl]
  omega
 ·rw [hlen]; exact hlc
 ·rw [hlen,hpv]
  simp only
  rw [hvlist]
  exact pP hcr hrf (row * i.size + off)
 ·rw [hlen]
  simp only
  rw [hvlist]
  intro v hv'
  simp only [List.mem_append] at hv'
  rcases hv' with (h | h) | h
  ·exact h1c v (List.mem_of_mem_take h)
  ·exact hone v h
  ·exact h1c v (List.mem_of_mem_drop h)
 ·intro o' v' hm'
  rw [hw1 trivial o'] at hm'
  cases hm'
 ·intro o' _
  exact hw1 trivial o'
end
section
variable {P : Program} {ops : Array Oper} {rest : List Oper} {o : Oper} {n : Nat} {s s' : Nat → PV} {bx : Nat → Option Box} {ob : Nat → Option Obj} {K : PState → Prop} {T : TT} {rb : RB} {k : Nat} {L : List Nat}
theorem nw (hg : aN ops s o = some true) {r : PV} (hd : DetS P o (evS s) ⟨bx,ob⟩ r) (hp : putD n s o.dst r = some s') (h : Ao P ops rest ⟨n,s',bx,ob⟩ K) : Ao P ops (o :: rest) ⟨n,s,bx,ob⟩ K :=
 fj hg (fun C M a w next Q hi he hn=>by
  obtain ⟨v,hrun,hr⟩ := hd C M a w hi he
  unfold Oper.wp
  rw [hrun]
  exact hn v r ⟨bx,ob⟩ M w ⟨s',hp,h⟩ (Mem.le_refl M) hi hr)
theorem mc (ho : ops[k]? = some o) (hg : aN ops s o = some true) (hc : dM o.op = .det) {r : PV} (hd : ∀ bx',DetS P o (evS s) ⟨bx',if rb.o o && fU o.op then jN ob else fun _=>none⟩ r) (hp : putD n s o.dst r = some s')
  (h : Do P T rb ops L ⟨n,s',bx,ob⟩ K) : Do P T rb ops (k :: L) ⟨n,s,bx,ob⟩ K := by
 refine ⟨o,ho,true,hg,?_⟩
 simp only [if_true,hc]
 exact ⟨r,s',.inr hd,hp,h⟩
theorem Ao.idxO (hT : T.Ok P) (hg : aN ops s o = some true) {t : TypeId} {x i : Operand} (ho : o.op = .indexAddr t x i) {ti ei : TInfo} {e : TypeId} (hti : T.get t = some ti) (hd : ti.desc = .slice e) (hei : T.get e = some ei)
  {tag : Nat} {g : OwnRef} {len : Nat} (hx : evS s x = .own tag g len) {kk : IntKind} {j : Int} (hi : evS s i = .val (.int kk j)) (hj : 0 ≤ j ∧ j.toNat < len) (hb : ∃ b,g.blk = some b) (hp : putD n s o.dst (.optr tag g ei.size j.toNat 0) = some s') (h : Ao P ops rest ⟨n,s',bx,ob⟩ K) :
  Ao P ops (o :: rest) ⟨n,s,bx,ob⟩ K := nw hg (detS_idxO hT ho hti hd hei hx hi hj hb) hp h
theorem jw {t : TypeId} {x i : Operand} {ti ei : TInfo} {e : TypeId} {tag : Nat} {g : OwnRef} {len : Nat} {kk : IntKind} {j : Int} (hT : T.Ok P) (hj : 0 ≤ j ∧ j.toNat < len) (hb : ∃ b,g.blk = some b) (h : Ao P ops rest ⟨n,s',bx,ob⟩ K) (hg : aN ops s o = some true := by exact rfl) (ho : o.op = .indexAddr t x i := by exact rfl) (hti : T.get t = some ti := by exact rfl) (hd : ti.desc = .slice e := by exact rfl) (hei : T.get e = some ei := by exact rfl) (hx : evS s x = .own tag g len := by exact rfl) (hi : evS s i = .val (.int kk j) := by exact rfl) (hp : putD n s o.dst (.optr tag g ei.size j.toNat 0) = some s' := by exact rfl) : Ao P ops (o :: rest) ⟨n,s,bx,ob⟩ K := Ao.idxO hT hg ho hti hd hei hx hi hj hb hp h
theorem Do.idxO (hT : T.Ok P) (ho : ops[k]? = some o) (hg : aN ops s o = some true) {t : TypeId} {x i : Operand} (hop : o.op = .indexAddr t x i) {ti ei : TInfo} {e : TypeId} (hti : T.get t = some ti) (hd : ti.desc = .slice e) (hei : T.get e = some ei)
  {tag : Nat} {g : OwnRef} {len : Nat} (hx : evS s x = .own tag g len) {kk : IntKind} {j : Int} (hi : evS s i = .val (.int kk j)) (hj : 0 ≤ j ∧ j.toNat < len) (hb : ∃ b,g.blk = some b) (hp : putD n s o.dst (.optr tag g ei.size j.toNat 0) = some s') (h : Do P T rb ops L ⟨n,s',bx,ob⟩ K) :
  Do P T rb ops (k :: L) ⟨n,s,bx,ob⟩ K := mc ho hg (by rw [hop]; rfl) (fun _=>detS_idxO hT hop hti hd hei hx hi hj hb) hp h
theorem aH {t : TypeId} {x i : Operand} {ti ei : TInfo} {e : TypeId} {tag : Nat} {g : OwnRef} {len : Nat} {kk : IntKind} {j : Int} (hT : T.Ok P) (hj : 0 ≤ j ∧ j.toNat < len) (hb : ∃ b,g.blk = some b) (h : Do P T rb ops L ⟨n,s',bx,ob⟩ K) (ho : ops[k]? = some o := by exact rfl) (hg : aN ops s o = some true := by exact rfl) (hop : o.op = .indexAddr t x i := by exact rfl) (hti : T.get t = some ti := by exact rfl) (hd : ti.desc = .slice e := by exact rfl) (hei : T.get e = some ei := by exact rfl) (hx : evS s x = .own tag g len := by exact rfl) (hi : evS s i = .val (.int kk j) := by exact rfl) (hp : putD n s o.dst (.optr tag g ei.size j.toNat 0) = some s' := by exact rfl) : Do P T rb ops (k :: L) ⟨n,s,bx,ob⟩ K := Do.idxO hT ho hg hop hti hd hei hx hi hj hb hp h
theorem nS (hT : T.Ok P) (hg : aN ops s o = some true) {t : TypeId} {x : Operand} (ho : o.op = .load t x) {ti : TInfo} (hti : T.get t = some ti) {tag : Nat} {g : OwnRef} {kz row off : Nat} (hx : evS s x = .optr tag g kz row off)
  {e : TypeId} {rows : List (List PV)} {wr : Bool} (hob : ob tag = some ⟨g,e,rows,wr⟩) {ei : TInfo} (hei : T.get e = some ei) (hk : kz = ei.size) {cells : List PV} (hr : rows[row]? = some cells) {r : PV} (hc : gE ti off cells = some r) (hp : putD n s o.dst r = some s') (h : Ao P ops rest ⟨n,s',bx,ob⟩ K) :
  Ao P ops (o :: rest) ⟨n,s,bx,ob⟩ K := nw hg (detS_loadO hT ho hti hx hob hei hk hr hc) hp h
theorem bc (hT : T.Ok P) (ho : ops[k]? = some o) (hro : rb.o o = true) (hg : aN ops s o = some true) {t : TypeId} {x : Operand} (hop : o.op = .load t x) {ti : TInfo} (hti : T.get t = some ti) {tag : Nat} {g : OwnRef} {kz row off : Nat} (hx : evS s x = .optr tag g kz row off)
  {e : TypeId} {rows : List (List PV)} {wr : Bool} (hob : ob tag = some ⟨g,e,rows,wr⟩) {ei : TInfo} (hei : T.get e = some ei) (hk : kz = ei.size) {cells : List PV} (hr : rows[row]? = some cells) {r : PV} (hc : gE ti off cells = some r) (hp : putD n s o.dst r = some s') (h : Do P T rb ops L ⟨n,s',bx,ob⟩ K) (hst : Nat.ble 1000000000000000 tag = false := by rfl) :
  Do P T rb ops (k :: L) ⟨n,s,bx,ob⟩ K := by
 refine mc ho hg (by rw [hop]; rfl) (fun bx'=>?_) hp h
 have : (rb.o o && fU o.op) = true := by rw [hro,hop]; rfl
 rw [this]
 exact detS_loadO hT hop hti hx ((statO_of hst).trans hob) hei hk hr hc
theorem lg (hT : T.Ok P) (hg : aN ops s o = some true) {t : TypeId} {x y : Operand} (ho : o.op = .store t x y) (hdst : o.dst = none) {ti : TInfo} (hti : T.get t = some ti) {tag : Nat} {g : OwnRef} {kz row off : Nat} (hx : evS s x = .optr tag g kz row off)
  {e : TypeId} {rows rows' : List (List PV)} (hob : ob tag = some ⟨g,e,rows,true⟩) {ei : TInfo} (hei : T.get e = some ei) (hk : kz = ei.size) (hrow : row < rows.length) {py : PV} (hy : PLe P (evS s y) py) {cs : List PV} (hc : cY py = some cs) (hf : PV.frozL cs = true) (h1 : cs.all PV.one = true) (hl : cs.length = ti.size) (hle : off + ti.size ≤ ei.size)
  (hr : setRow rows row off cs = rows') (h : Ao P ops rest ⟨n,s,bx,upd ob tag (some ⟨g,e,rows',true⟩)⟩ K) : Ao P ops (o :: rest) ⟨n,s,bx,ob⟩ K := by
 subst hr
 exact fj hg (eff_storeO hT ho hti hx hob hei hk hrow hy hc hf h1 hl hle ⟨s,by simp [hdst,putD],h⟩)
theorem bY (hT : T.Ok P) (ho : ops[k]? = some o) (hg : aN ops s o = some true) {t : TypeId} {x y : Operand} (hop : o.op = .store t x y) (hdst : o.dst = none) {ti : TInfo} (hti : T.get t = some ti) {tag : Nat} {g : OwnRef} {kz row off : Nat} (hx : evS s x = .optr tag g kz row off)
  {e : TypeId} {rows rows' : List (List PV)} (hob : ob tag = some ⟨g,e,rows,true⟩) {ei : TInfo} (hei : T.get e = some ei) (hk : kz = ei.size) (hrow : row < rows.length) {py : PV} (hy : PLe P (evS s y) py) {cs : List PV} (hc : cY py = some cs) (hf : PV.frozL cs = true) (h1 : cs.all PV.one = true) (hl : cs.length = ti.size) (hle : off + ti.size ≤ ei.size)
  (hr : setRow rows row off cs = rows') (h : Do P T rb ops L ⟨n,s,bx,upd ob tag (some ⟨g,e,rows',true⟩)⟩ K) : Do P T rb ops (k :: L) ⟨n,s,bx,ob⟩ K := by
 subst hr
 refine ⟨o,ho,true,hg,?_⟩
 simp only [if_true,hop,dM]
 exact ⟨hdst,.inr fun bx'=>eff_storeO hT hop hti hx hob hei hk hrow hy hc hf h1 hl hle ⟨rfl,h⟩⟩
theorem Do.storeOQ {t : TypeId} {x y : Operand} {ti : TInfo} {tag : Nat} {g : OwnRef} {kz row off : Nat} {e : TypeId} {rows rows' : List (List PV)} {ei : TInfo} {py : PV} {cs : List PV} (hT : T.Ok P) (hrow : row < rows.length) (hy : PLe P (evS s y) py) (hle : off + ti.size ≤ ei.size) (hr : setRow rows row off cs = rows') (h : Do P T rb ops L ⟨n,s,bx,upd ob tag (some ⟨g,e,rows',true⟩)⟩ K) (ho : ops[k]? = some o := by exact rfl) (hg : aN ops s o = some true := by exact rfl) (hop : o.op = .store t x y := by exact rfl) (hdst : o.dst = none := by exact rfl) (hti : T.get t = some ti := by exact rfl) (hx : evS s x = .optr tag g kz row off := by exact rfl) (hob : ob tag = some ⟨g,e,rows,true⟩ := by exact rfl) (hei : T.get e = some ei := by exact rfl) (hk : kz = ei.size := by exact rfl) (hc : cY py = some cs := by exact rfl) (hf : PV.frozL cs = true := by exact rfl) (h1 : cs.all PV.one = true := by exact rfl) (hl : cs.length = ti.size := by exact rfl) : Do P T rb ops (k :: L) ⟨n,s,bx,ob⟩ K := bY hT ho hg hop hdst hti hx hob hei hk hrow hy hc hf h1 hl hle hr h
theorem aV {α β : Type} {f : α → β} {xs : List α} {j : Nat} {x : α} (h : xs[j]? = some x) : j < (xs.map f).length := by
 have := (zg.1 h).1
 simpa using this
theorem gw {α β : Type} {f : α → β} {xs : List α} {j : Nat} {x : α} {l : Nat} (hl : l = (xs.map f).length) (h : xs[j]? = some x) : j < l := hl ▸ aV h
theorem bd {α : Type} {f : α → List PV} {xs : List α} {j : Nat} {x : α} {g : OwnRef} (ho : xs.map f ≠ [] → ∃ b,g.blk = some b) (h : xs[j]? = some x) : ∃ b,g.blk = some b := by
 refine ho fun e=>?_
 have := (zg.1 h).1
 rw [List.map_eq_nil_iff] at e
 rw [e] at this
 simp at this
theorem bD {α : Type} {f f' : α → List PV} (hE : ∀ x,f' x = f x) {xs ys : List α} {j off : Nat} {x v : α} {cs : List PV} (h : xs[j]? = some x) (hs : splice (f x) off cs = f v) (hy : xs.set j v = ys) : setRow (xs.map f') j off cs = ys.map f' := by
 subst hy
 have hlt := (zg.1 h).1
 unfold setRow
 have e : (xs.map f').getD j [] = f x := by simp [h,hE]
 rw [e,hs,← hE v,List.map_set]
theorem bf {α β : Type} {f : α → β} {xs ys : List α} {j : Nat} {v : α} (hy : xs.set j v = ys) : (xs.map f).length = (ys.map f).length := by subst hy; simp
theorem cA {fn : Func} {R : PV → Heap → Prop} {ks : List KI} {tag : Nat} {g : OwnRef} {e : TypeId} {rows : List (List PV)} {wr : Bool} (hob : ob tag = some ⟨g,e,rows,wr⟩) (h : (rows ≠ [] → ∃ b,g.blk = some b) → V P fn R ks ⟨n,s,bx,ob⟩) : V P fn R ks ⟨n,s,bx,ob⟩ := fun C M a w hi=>by
 refine h (fun hne=>?_) C M a w hi
 obtain ⟨_,_,_,_,h4⟩ := hi.2.objs tag _ hob
 rcases h4 with ⟨_,h5,_⟩ | ⟨b,_,h5,_⟩
 ·exact absurd h5 hne
 ·exact ⟨b,h5⟩
end
def mR (bx : Nat → Option Box) (m : List (Nat × Nat)) : Nat → Option Box := fun t=>match m.find? (fun p=>Nat.beq p.2 t) with
 | some p=>bx p.1
 | none=>none
def lE (ob : Nat → Option Obj) (m : List (Nat × Nat)) : Nat → Option Obj := fun t=>match m.find? (fun p=>Nat.beq p.2 t) with
 | some p=>ob p.1
 | none=>none
theorem beqC (a b : Nat) : Nat.beq a b = Nat.beq b a := by
 cases h : Nat.beq a b with
 | true=>rw [Nat.eq_of_beq_eq_true h]; exact (Nat.beq_refl b).symm
 | false =>
  cases h' : Nat.beq b a with
  | true=>rw [Nat.eq_of_beq_eq_true h'] at h; rw [show Nat.beq a a = true from Nat.beq_refl a] at h; cases h
  | false=>rfl
theorem bT (bx : Nat → Option Box) : mR bx [] = fun _=>none := rfl
theorem bS (ob : Nat → Option Obj) : lE ob [] = fun _=>none := rfl
theorem cN (bx : Nat → Option Box) (c k : Nat) (m : List (Nat × Nat)) : mR bx ((c,k) :: m) = upd (mR bx m) k (bx c) := by
 funext t
 simp only [mR,upd,List.find?_cons]
 rw [beqC t k]
 cases Nat.beq k t <;> rfl
theorem bL (ob : Nat → Option Obj) (c k : Nat) (m : List (Nat × Nat)) : lE ob ((c,k) :: m) = upd (lE ob m) k (ob c) := by
 funext t
 simp only [lE,upd,List.find?_cons]
 rw [beqC t k]
 cases Nat.beq k t <;> rfl
def backB (bx : Nat → Option Box) (m : List (Nat × Nat)) (bx' : Nat → Option Box) : Nat → Option Box := fun t=>match m.find? (fun p=>Nat.beq p.1 t) with
 | some p=>bx' p.2
 | none=>bx t
def backO (ob : Nat → Option Obj) (m : List (Nat × Nat)) (ob' : Nat → Option Obj) : Nat → Option Obj := fun t=>match m.find? (fun p=>Nat.beq p.1 t) with
 | some p=>ob' p.2
 | none=>ob t
def de : List Nat → Bool
 | []=>true
 | a :: l=>l.all (fun b=>!Nat.beq a b) && de l
theorem fS {f : Nat × Nat → Nat} : ∀ {m : List (Nat × Nat)} {p : Nat × Nat},de (m.map f) = true → p ∈ m → m.find? (fun q=>Nat.beq (f q) (f p)) = some p
 | [],_,_,h=>by simp at h
 | q :: m,p,hd,h=>by
  simp only [List.map_cons,de,Bool.and_eq_true] at hd
  rw [List.find?_cons]
  rcases List.mem_cons.1 h with rfl | h
  ·rw [show Nat.beq (f p) (f p) = true from Nat.beq_refl _]
  ·have hne : Nat.beq (f q) (f p) = false := by
    have := (List.all_eq_true.1 hd.1) (f p) (List.mem_map.2 ⟨p,h,rfl⟩)
    simpa using this
   rw [hne]
   exact fS hd.2 h
theorem pC {f : Nat × Nat → Nat} {m : List (Nat × Nat)} {t : Nat} {p : Nat × Nat} (h : m.find? (fun q=>Nat.beq (f q) t) = some p) : p ∈ m ∧ f p = t :=
 ⟨List.mem_of_find?_eq_some h,by
  have := List.find?_some h
  exact Nat.eq_of_beq_eq_true this⟩
def gN (H : Heap) (mb mo : List (Nat × Nat)) : List Nat := mb.filterMap (fun p=>(H.bx p.1).map Box.b) ++ mo.filterMap (fun p=>(H.ob p.1).bind fun x=>x.g.blk)
theorem mw {H : Heap} {mb mo : List (Nat × Nat)} {b : Nat} (h : b ∈ gN H mb mo) : (∃ p x,p ∈ mb ∧ H.bx p.1 = some x ∧ x.b = b) ∨ ∃ p x,p ∈ mo ∧ H.ob p.1 = some x ∧ x.g.blk = some b := by
 simp only [gN,List.mem_append,List.mem_filterMap] at h
 rcases h with ⟨p,hp,h⟩ | ⟨p,hp,h⟩
 ·rw [Option.map_eq_some_iff] at h
  obtain ⟨x,hx,rfl⟩ := h
  exact .inl ⟨p,x,hp,hx,rfl⟩
 ·rw [Option.bind_eq_some_iff] at h
  obtain ⟨x,hx,h⟩ := h
  exact .inr ⟨p,x,hp,hx,h⟩
theorem ownOf_box {H : Heap} {mb mo : List (Nat × Nat)} {p : Nat × Nat} {x : Box} (hp : p ∈ mb) (hx : H.bx p.1 = some x) : x.b ∈ gN H mb mo := by
 simp only [gN,List.mem_append,List.mem_filterMap]
 exact .inl ⟨p,hp,by rw [hx]; rfl⟩
theorem ownOf_obj {H : Heap} {mb mo : List (Nat × Nat)} {p : Nat × Nat} {x : Obj} {b : Nat} (hp : p ∈ mo) (hx : H.ob p.1 = some x) (hb : x.g.blk = some b) : b ∈ gN H mb mo := by
 simp only [gN,List.mem_append,List.mem_filterMap]
 exact .inr ⟨p,hp,by rw [hx]; exact hb⟩
section
variable {P : Program} {C : Ctx} {M : Mem} {H : Heap} {w : World} {mb mo : List (Nat × Nat)}
theorem nn {bx : Nat → Option Box} {m : List (Nat × Nat)} {t : Nat} {x : Box} (h : mR bx m t = some x) : ∃ p,p ∈ m ∧ p.2 = t ∧ bx p.1 = some x := by
 unfold mR at h
 split at h
 ·rename_i p hp
  obtain ⟨h1,h2⟩ := pC (f := Prod.snd) hp
  exact ⟨p,h1,h2,h⟩
 ·cases h
theorem mT {ob : Nat → Option Obj} {m : List (Nat × Nat)} {t : Nat} {x : Obj} (h : lE ob m t = some x) : ∃ p,p ∈ m ∧ p.2 = t ∧ ob p.1 = some x := by
 unfold lE at h
 split at h
 ·rename_i p hp
  obtain ⟨h1,h2⟩ := pC (f := Prod.snd) hp
  exact ⟨p,h1,h2,h⟩
 ·cases h
theorem fst_inj {m : List (Nat × Nat)} (hd : de (m.map Prod.fst) = true) {p q : Nat × Nat} (hp : p ∈ m) (hq : q ∈ m) (h : p.1 = q.1) : p = q := by
 have h1 := fS (f := Prod.fst) hd hp
 have h2 := fS (f := Prod.fst) hd hq
 rw [h] at h1
 rw [h1] at h2
 exact Option.some.inj h2
theorem InvH.ownMine (h : InvH P C M H w) : ∀ b ∈ gN H mb mo,C.mine b := by
 intro b hb
 rcases mw hb with ⟨p,x,_,hx,rfl⟩ | ⟨p,x,_,hx,hb⟩
 ·exact (h.boxes _ _ hx).1
 ·obtain ⟨_,_,_,_,h4⟩ := h.objs _ _ hx
  rcases h4 with ⟨h5,_⟩ | ⟨b',_,h5,h6,_⟩
  ·rw [h5] at hb; cases hb
  ·rw [h5] at hb; cases hb; exact h6
theorem InvH.enterH (h : InvH P C M H w) (hb1 : de (mb.map Prod.fst) = true) (ho1 : de (mo.map Prod.fst) = true) : InvH P ⟨w,gN H mb mo,M,h.gl h.ownMine⟩ M ⟨mR H.bx mb,lE H.ob mo⟩ w := by
 refine ⟨h.mem,Mem.le_refl M,fun _ _ _ hm=>.inl hm,rfl,rfl,rfl,Nat.le_refl _,fun _ _ _=>rfl,?_,?_,?_,?_,?_⟩
 ·intro t x hx
  obtain ⟨p,hp,_,hx⟩ := nn hx
  obtain ⟨_,h2,h3⟩ := h.boxes _ _ hx
  exact ⟨.inr (ownOf_box hp hx),h2,h3⟩
 ·intro t x hx
  obtain ⟨p,hp,_,hx⟩ := mT hx
  obtain ⟨i,h1,h2,h3,h4⟩ := h.objs _ _ hx
  refine ⟨i,h1,h2,h3,?_⟩
  rcases h4 with h4 | ⟨b,cur,hb,_,h5⟩
  ·exact .inl h4
  ·exact .inr ⟨b,cur,hb,.inr (ownOf_obj hp hx hb),h5⟩
 ·intro t t' x x' hx hx' hb
  obtain ⟨p,hp,e1,hy⟩ := nn hx
  obtain ⟨q,hq,e2,hy'⟩ := nn hx'
  rw [← e1,← e2,fst_inj hb1 hp hq (h.dbox _ _ x x' hy hy' hb)]
 ·intro t t' x x' b hx hx' hb hb'
  obtain ⟨p,hp,e1,hy⟩ := mT hx
  obtain ⟨q,hq,e2,hy'⟩ := mT hx'
  rw [← e1,← e2,fst_inj ho1 hp hq (h.dobj _ _ x x' b hy hy' hb hb')]
 ·intro t t' x x' hx hx' hb
  obtain ⟨p,hp,_,hy⟩ := nn hx
  obtain ⟨q,hq,_,hy'⟩ := mT hx'
  exact h.dmix _ _ x x' hy hy' hb
theorem InvH.afterH {M' : Mem} {H' : Heap} {w' : World} (h : InvH P C M H w) (_hb1 : de (mb.map Prod.fst) = true) (hb2 : de (mb.map Prod.snd) = true) (_ho1 : de (mo.map Prod.fst) = true) (ho2 : de (mo.map Prod.snd) = true)
  {hg : Gl w (gN H mb mo)} (h' : InvH P ⟨w,gN H mb mo,M,hg⟩ M' H' w') : InvH P C M' ⟨backB H.bx mb H'.bx,backO H.ob mo H'.ob⟩ w' := by
 have hown : ∀ b,b ∈ gN H mb mo → C.mine b := by
  intro b hb
  rcases mw hb with ⟨p,x,_,hx,rfl⟩ | ⟨p,x,_,hx,hb⟩
  ·exact (h.boxes _ _ hx).1
  ·obtain ⟨_,_,_,_,h4⟩ := h.objs _ _ hx
   rcases h4 with ⟨h5,_⟩ | ⟨b',_,h5,h6,_⟩
   ·rw [h5] at hb; cases hb
   ·rw [h5] at hb; cases hb; exact h6
 have hup : ∀ b,(⟨w,gN H mb mo,M,hg⟩ : Ctx).mine b → C.mine b := fun b hb=>by
  rcases hb with hb | hb
  ·exact .inl (Nat.le_trans h.size hb)
  ·exact hown b hb
 have hnone : ∀ b o,b < w.heap.size → b ∉ gN H mb mo → M b o = none → M' b o = none := by
  intro b o hb hno hn
  cases hm : M' b o with
  | none=>rfl
  | some v =>
   rcases h'.new b o v hm with h1 | h1 | h1
   ·rw [show M b o = some v from h1] at hn; cases hn
   ·exact absurd hb (Nat.not_lt.2 h1)
   ·exact absurd h1 hno
 have kb : ∀ t x,backB H.bx mb H'.bx t = some x → (∃ p,p ∈ mb ∧ p.1 = t ∧ H'.bx p.2 = some x) ∨ ((∀ p ∈ mb,p.1 ≠ t) ∧ H.bx t = some x) := by
  intro t x hx
  unfold backB at hx
  split at hx
  ·rename_i p hp
   obtain ⟨h1,h2⟩ := pC (f := Prod.fst) hp
   exact .inl ⟨p,h1,h2,hx⟩
  ·rename_i hp
   rw [List.find?_eq_none] at hp
   exact .inr ⟨fun p hp' e=>hp p hp' (by rw [e]; exact Nat.beq_refl _),hx⟩
 have ko : ∀ t x,backO H.ob mo H'.ob t = some x → (∃ p,p ∈ mo ∧ p.1 = t ∧ H'.ob p.2 = some x) ∨ ((∀ p ∈ mo,p.1 ≠ t) ∧ H.ob t = some x) := by
  intro t x hx
  unfold backO at hx
  split at hx
  ·rename_i p hp
   obtain ⟨h1,h2⟩ := pC (f := Prod.fst) hp
   exact .inl ⟨p,h1,h2,hx⟩
  ·rename_i hp
   rw [List.find?_eq_none] at hp
   exact .inr ⟨fun p hp' e=>hp p hp' (by rw [e]; exact Nat.beq_refl _),hx⟩
 -- what was kept is not among what was handed over
 have nb : ∀ t x,(∀ p ∈ mb,p.1 ≠ t) → H.bx t = some x → x.b ∉ gN H mb mo := by
  intro t x hn hx hm
  rcases mw hm with ⟨p,y,hp,hy,e⟩ | ⟨p,y,hp,hy,e⟩
  ·exact hn p hp (h.dbox _ _ y x hy hx e)
  ·exact h.dmix _ _ x y hx hy e
 have no : ∀ t x b,(∀ p ∈ mo,p.1 ≠ t) → H.ob t = some x → x.g.blk = some b → b ∉ gN H mb mo := by
  intro t x b hn hx hb hm
  rcases mw hm with ⟨p,y,hp,hy,e⟩ | ⟨p,y,hp,hy,e⟩
  ·exact h.dmix _ _ y x hy hx (by rw [hb,e])
  ·exact hn p hp (h.dobj _ _ y x b hy hx e hb)
 have mb' : ∀ t x,H'.bx t = some x → w.heap.size ≤ x.b ∨ x.b ∈ gN H mb mo := fun t x hx=>(h'.boxes t x hx).1
 have mo' : ∀ t x b,H'.ob t = some x → x.g.blk = some b → w.heap.size ≤ b ∨ b ∈ gN H mb mo := by
  intro t x b hx hb
  obtain ⟨_,_,_,_,h4⟩ := h'.objs t x hx
  rcases h4 with ⟨h5,_⟩ | ⟨b',_,h5,h6,_⟩
  ·rw [h5] at hb; cases hb
  ·rw [h5] at hb; cases hb; exact h6
 have bz : ∀ t x b,H.ob t = some x → x.g.blk = some b → b < w.heap.size := fun t x b hx hb=>h.obj_lt hx hb
 have snd_eq : ∀ {m : List (Nat × Nat)},de (m.map Prod.snd) = true → ∀ {p q : Nat × Nat},p ∈ m → q ∈ m → p.2 = q.2 → p = q := by
  intro m hd p q hp hq e
  have h1 := fS (f := Prod.snd) hd hp
  have h2 := fS (f := Prod.snd) hd hq
  rw [e] at h1
  rw [h1] at h2
  exact Option.some.inj h2
 refine ⟨h'.mem,Mem.le_trans h.ext h'.ext,?_,h'.os.trans h.os,h'.tape.trans h.tape,h'.output.trans h.output,Nat.le_trans h.size h'.size,?_,?_,?_,?_,?_,?_⟩
 ·intro b o v hm
  rcases h'.new b o v hm with h1 | h1
  ·exact h.new b o v h1
  ·exact .inr (hup b h1)
 ·intro b hb hn
  have hno : b ∉ gN H mb mo := fun hm=>by
   rcases hown b hm with h1 | h1
   ·omega
   ·exact hn h1
  exact (h'.frame b (Nat.lt_of_lt_of_le hb h.size) hno).trans (h.frame b hb hn)
 ·intro t x hx
  rcases kb t x hx with ⟨p,hp,_,hx⟩ | ⟨hn,hx⟩
  ·obtain ⟨h1,h2,h3⟩ := h'.boxes _ _ hx
   exact ⟨hup _ h1,h2,h3⟩
  ·have hno := nb t x hn hx
   exact (h.boxes t x hx).keep h'.ext (fun o ho=>hnone _ o (h.box_lt hx) hno ho) (h'.frame _ (h.box_lt hx) hno)
 ·intro t x hx
  rcases ko t x hx with ⟨p,hp,_,hx⟩ | ⟨hn,hx⟩
  ·obtain ⟨i,h1,h2,h3,h4⟩ := h'.objs _ _ hx
   refine ⟨i,h1,h2,h3,?_⟩
   rcases h4 with h4 | ⟨b,cur,h5,h6,h7⟩
   ·exact .inl h4
   ·exact .inr ⟨b,cur,h5,hup _ h6,h7⟩
  ·exact (h.objs t x hx).keep h'.ext (fun b o hb ho=>hnone _ o (h.obj_lt hx hb) (no t x b hn hx hb) ho) (fun b hb=>h'.frame _ (h.obj_lt hx hb) (no t x b hn hx hb))
 ·intro t t' x x' hx hx' hb
  rcases kb t x hx with ⟨p,hp,e,hx⟩ | ⟨hn,hx⟩ <;> rcases kb t' x' hx' with ⟨q,hq,e',hx'⟩ | ⟨hn',hx'⟩
  ·have := snd_eq hb2 hp hq (h'.dbox _ _ x x' hx hx' hb)
   rw [← e,← e',this]
  ·rcases mb' _ _ hx with h1 | h1
   ·have := h.box_lt hx'; omega
   ·exact absurd (hb ▸ h1) (nb t' x' hn' hx')
  ·rcases mb' _ _ hx' with h1 | h1
   ·have := h.box_lt hx; omega
   ·exact absurd (hb ▸ h1) (nb t x hn hx)
  ·exact h.dbox t t' x x' hx hx' hb
 ·intro t t' x x' b hx hx' hb hb'
  rcases ko t x hx with ⟨p,hp,e,hx⟩ | ⟨hn,hx⟩ <;> rcases ko t' x' hx' with ⟨q,hq,e',hx'⟩ | ⟨hn',hx'⟩
  ·have := snd_eq ho2 hp hq (h'.dobj _ _ x x' b hx hx' hb hb')
   rw [← e,← e',this]
  ·rcases mo' _ _ b hx hb with h1 | h1
   ·have := h.obj_lt hx' hb'; omega
   ·exact absurd h1 (no t' x' b hn' hx' hb')
  ·rcases mo' _ _ b hx' hb' with h1 | h1
   ·have := h.obj_lt hx hb; omega
   ·exact absurd h1 (no t x b hn hx hb)
  ·exact h.dobj t t' x x' b hx hx' hb hb'
 ·intro t t' x x' hx hx' hb
  rcases kb t x hx with ⟨p,hp,e,hx⟩ | ⟨hn,hx⟩ <;> rcases ko t' x' hx' with ⟨q,hq,e',hx'⟩ | ⟨hn',hx'⟩
  ·exact h'.dmix _ _ x x' hx hx' hb
  ·rcases mb' _ _ hx with h1 | h1
   ·have := h.obj_lt hx' hb; omega
   ·exact no t' x' _ hn' hx' hb h1
  ·rcases mo' _ _ _ hx' hb with h1 | h1
   ·have := h.box_lt hx; omega
   ·exact nb t x hn hx h1
  ·exact h.dmix t t' x x' hx hx' hb
theorem eff_callH {o : Oper} {ev : Operand → PV} {H : Heap} {fx : Operand} {av0 : Array Operand} {ts : Array TypeId} (ho : o.op = .call { callee := .value fx,args := av0,argTypes := ts }) {g : FuncId} {caps : List PV}
  (hf : ev fx = .fn g caps) (hcall : ∀ vs w,(callFunc g vs).run P w = .ok (.enter g vs) w) (mb mo : List (Nat × Nat)) (hb1 : de (mb.map Prod.fst) = true) (hb2 : de (mb.map Prod.snd) = true) (ho1 : de (mo.map Prod.fst) = true) (ho2 : de (mo.map Prod.snd) = true)
  {args : List PV} (hle : dS P (av0.toList.map ev ++ caps) args) {R : PV → Heap → Prop} (hc : PH P g args ⟨mR H.bx mb,lE H.ob mo⟩ R)
  {K : PV → Heap → Prop} (hk : ∀ u H',R u H' → K u ⟨backB H.bx mb H'.bx,backO H.ob mo H'.ob⟩) : Eff P o ev H K := by
 intro C M a w next Q hi he hn
 have hfr := he fx (by rw [ho]; simp [Op.operands,Call.operands])
 rw [hf] at hfr
 simp only [Rep] at hfr
 obtain ⟨cs,hv,hcaps⟩ := hfr
 have hargs : aw P M true (av0.toList.map ev) (av0.map a.eval).toList := by
  simpa using js av0.toList fun x hx=>he x (by rw [ho]; simp_all [Op.operands,Call.operands])
 have hrep := hle M _ (hargs.append hcaps)
 have hrun : (execOp a.eval o).run P w = .ok (.enter g (av0.map a.eval ++ cs)) w := by
  simp [execOp,ho,resolve,hv,Deferred.ofValue,invoke,hcall]
 unfold Oper.wp
 rw [hrun]
 simp only [Oper.upon]
 refine (hc w M (gN H mb mo) (hi.gl hi.ownMine) _ (hi.enterH hb1 ho1) (by simpa using hrep)).mono ?_
 rintro e w' ⟨v,u,H',M',rfl,hR,hi',hr⟩
 exact hn v u _ M' w' (hk u H' hR) hi'.ext (hi.afterH hb1 hb2 ho1 ho2 hi') hr
end
section
variable {P : Program} {ops : Array Oper} {rest : List Oper} {o : Oper} {n : Nat} {s s' : Nat → PV} {bx bx1 : Nat → Option Box} {ob ob1 : Nat → Option Obj} {K : PState → Prop} {T : TT} {rb : RB} {k : Nat} {L : List Nat}
theorem ci (hg : aN ops s o = some true) {fx : Operand} {av0 : Array Operand} {ts : Array TypeId} (ho : o.op = .call { callee := .value fx,args := av0,argTypes := ts }) {g : FuncId} {caps : List PV}
  (hf : evS s fx = .fn g caps) (hcall : ∀ vs w,(callFunc g vs).run P w = .ok (.enter g vs) w) (mb mo : List (Nat × Nat)) (hb1 : de (mb.map Prod.fst) = true) (hb2 : de (mb.map Prod.snd) = true) (ho1 : de (mo.map Prod.fst) = true) (ho2 : de (mo.map Prod.snd) = true)
  {args : List PV} (hle : dS P (av0.toList.map (evS s) ++ caps) args) {Hin : Heap} (hin : Hin = ⟨mR bx mb,lE ob mo⟩) {R : PV → Heap → Prop} (hc : PH P g args Hin R)
  (h : ∀ u H',R u H' → ∃ s',putD n s o.dst u = some s' ∧ Ao P ops rest ⟨n,s',backB bx mb H'.bx,backO ob mo H'.ob⟩ K) : Ao P ops (o :: rest) ⟨n,s,bx,ob⟩ K :=
 fj hg (eff_callH ho hf hcall mb mo hb1 hb2 ho1 ho2 hle (hin ▸ hc) h)
theorem mH.own {t t' : Nat} {g : OwnRef} {l l' : Nat} (h : l = l') : mH P (.own t g l) (.own t' g l') := by
 subst h
 intro M s x hx
 simpa only [Rep] using hx
theorem mH.boxT {t t' b o : Nat} : mH P (.box t b o) (.box t' b o) := by
 intro M s x hx
 simpa only [Rep] using hx
theorem dZ {fn : Func} {R : PV → Heap → Prop} {ks : List KI} {T : TT} (hT : T.Ok P) {rs : Array ResultVar} (hres : fn.results = rs) {ps : List PV} (h : kN T ⟨n,s,bx,ob⟩ rs.toList ps) {u : PV} (hu : PLe P (lD ps) u) (hR : R u ⟨bx,ob⟩) :
  V P fn R (.code .ret :: ks) ⟨n,s,bx,ob⟩ := V.ret hT hres h hu ⟨fun _ _ hx=>hx,fun _ _ hx=>hx⟩ hR
theorem lw {fn : Func} {R : PV → Heap → Prop} (hres : fn.results = #[]) {u : PV} (hu : PLe P (.tup []) u) (hR : R u ⟨bx,ob⟩) : V P fn R [] ⟨n,s,bx,ob⟩ := by
 intro C M a w hi
 have hr : (results fn a.tmps).run P w = .ok (.tuple #[]) w := by
  rw [pI hres]
  simp
 exact ⟨hi.1.2.1,.tuple #[],hr,.tuple #[],u,⟨bx,ob⟩,M,rfl,hR,hi.2,hu M _ (by simp [Rep,aw])⟩
end
end
end Go.Ab

namespace Go.Ab
noncomputable section
open Classical in
def gg {β : Type} (F : Nat → Option β) : Option β :=
 if h : ∃ r,∃ n,∀ m,n ≤ m → F m = some r then some h.choose else none
theorem gG {β : Type} {F : Nat → Option β} {r : β} (h : gg F = some r) : ∃ n,F n = some r := by
 unfold gg at h
 split at h
 ·next hx =>
  obtain ⟨n,hn⟩ := hx.choose_spec
  exact ⟨n,by rw [hn n (Nat.le_refl n)]; exact h⟩
 ·cases h
theorem lf {β : Type} {F : Nat → Option β} {r : β} (n : Nat) (h : ∀ m,n ≤ m → F m = some r) : gg F = some r := by
 have hx : ∃ r,∃ n,∀ m,n ≤ m → F m = some r := ⟨r,n,h⟩
 unfold gg
 rw [dif_pos hx]
 obtain ⟨k,hk⟩ := hx.choose_spec
 have e1 := hk (max n k) (Nat.le_max_right n k)
 have e2 := h (max n k) (Nat.le_max_left n k)
 rw [← e1,e2]
theorem limN_ev {β : Type} {F : Nat → Option β} {r : β} (h : gg F = some r) : ∃ n,∀ m,n ≤ m → F m = some r := by
 unfold gg at h
 split at h
 ·next hx =>
  obtain ⟨n,hn⟩ := hx.choose_spec
  exact ⟨n,fun m hm=>by rw [hn m hm]; exact h⟩
 ·cases h
end
end Go.Ab

namespace Go.Ab
noncomputable section
def cutI {α : Type} (xs : List α) (m : Int) : Option (List α) := if 0 ≤ m ∧ m.toNat ≤ xs.length then some (xs.take m.toNat) else none
theorem mE {α : Type} {xs ys : List α} {m : Int} (h : cutI xs m = some ys) : 0 ≤ m ∧ m.toNat ≤ xs.length ∧ ys = xs.take m.toNat := by
 unfold cutI at h
 split at h
 ·rename_i h0; exact ⟨h0.1,h0.2,(Option.some.inj h).symm⟩
 ·cases h
theorem gS {α : Type} {f : α → List PV} {xs ys : List α} {j : Nat} {x : α} {g : OwnRef} (ho : xs.map f ≠ [] → ∃ b,g.blk = some b) (hl : (xs.map f).length = (ys.map f).length) (h : ys[j]? = some x) : ∃ b,g.blk = some b := by
 refine ho fun e=>?_
 have := (zg.1 h).1
 have h0 : ys.length = 0 := by
  rw [e] at hl
  simpa using hl.symm
 omega
def OwnRef.sub (g : OwnRef) (k lo hi mx : Nat) : Value := .slice (if mx = lo then g.blk.map (fun b=>⟨b,0,none⟩) else (g.blk.map fun b=>(⟨b,0,none⟩ : Addr)).map (·.add (lo * k))) (hi - lo) (mx - lo)
section
variable {P : Program} {T : TT}
def optAt (ev : Operand → PV) (o : Option Operand) (dflt n : Nat) : Prop := match o with
 | none=>n = dflt
 | some x=>∃ kk z,ev x = .val (.int kk z) ∧ z = (n : Int)
theorem detS_subV (hT : T.Ok P) {o : Oper} {ev : Operand → PV} {H : Heap} {t : TypeId} {x : Operand} {lo hi mx : Option Operand} (ho : o.op = .slice t x lo hi mx) {ti ei : TInfo} {e : TypeId} (hti : T.get t = some ti) (hd : ti.desc = .slice e) (hei : T.get e = some ei)
  {tag : Nat} {g : OwnRef} {len : Nat} (hx : ev x = .own tag g len) {l h m : Nat} (hl : optAt ev lo 0 l) (hh : optAt ev hi len h) (hm : optAt ev mx g.cap m) (hs : mx.isSome = true → hi.isSome = true) (h1 : l ≤ h) (h2 : h ≤ m) (h3 : m ≤ g.cap) :
  DetS P o ev H (.val (g.sub ei.size l h m)) := by
 intro C M a w _ he
 have hxr := he x (by rw [ho]; cases lo <;> cases hi <;> cases mx <;> simp [Op.operands])
 rw [hx] at hxr
 simp only [Rep] at hxr
 have hu := (hT.get hti).und
 rw [hd] at hu
 refine ⟨g.sub ei.size l h m,?_,by simp only [Rep]⟩
 have hbnd : ∀ (z y : Nat) (kk : IntKind) (c : BoundsCode),z ≤ y → (Instr.sliceBound (.int kk (z : Int)) y c).run P w = .ok z w := by
  intro z y kk c hzy
  have : (0 : Int) ≤ (z : Int) ∧ (z : Int) ≤ (y : Int) := ⟨by omega,by omega⟩
  simp [Instr.sliceBound,asIntOf,hzy]
 have get : ∀ y,y ∈ lo ∨ y ∈ hi ∨ y ∈ mx → Rep P M true (ev y) (a.eval y) := by
  intro y hy
  refine he y ?_
  rw [ho]
  clear he hl hh hm hs ho
  cases lo <;> cases hi <;> cases mx <;> simp [Op.operands] at hy ⊢ <;> (first | exact .inr (hy.imp Eq.symm Eq.symm) | exact .inr (hy.imp Eq.symm (Or.imp Eq.symm Eq.symm)) | exact .inr hy.symm | (rcases hy with h | h | h <;> simp [h]) | (rcases hy with h | h <;> simp [h]))
 have hsz := (hT.get hei).rsize w
 have key : ∀ (lv hv mv : Option Value),(match lv with | none=>l = 0 | some v=>∃ kk,v = .int kk (l : Int)) → (match hv with | none=>h = len | some v=>∃ kk,v = .int kk (h : Int)) →
   (match mv with | none=>m = g.cap | some v=>∃ kk,v = .int kk (m : Int)) → (mv.isSome = true → hv.isSome = true) → (Instr.slice t (g.val len) lv hv mv).run P w = .ok (g.sub ei.size l h m) w := by
  intro lv hv mv p1 p2 p3 p4
  have b : (Instr.sliceBounds true len g.cap lv hv mv).run P w = .ok (l,h,m) w := by
   cases mv with
   | none =>
    simp only at p3
    subst p3
    cases hv with
    | none =>
     simp only at p2
     subst p2
     cases lv with
     | none=>simp only at p1; subst p1; simp [Instr.sliceBounds]
     | some v=>obtain ⟨kk,rfl⟩ := p1; simp [Instr.sliceBounds,hbnd _ _ _ _ h1]
    | some v' =>
     obtain ⟨kk',rfl⟩ := p2
     cases lv with
     | none=>simp only at p1; subst p1; simp [Instr.sliceBounds,hbnd _ _ _ _ h2]
     | some v=>obtain ⟨kk,rfl⟩ := p1; simp [Instr.sliceBounds,hbnd _ _ _ _ h1,hbnd _ _ _ _ h2]
   | some v2 =>
    obtain ⟨k2,rfl⟩ := p3
    cases hv with
    | none=>exact absurd (p4 rfl) (by simp)
    | some v' =>
     obtain ⟨kk',rfl⟩ := p2
     cases lv with
     | none=>simp only at p1; subst p1; simp [Instr.sliceBounds,hbnd _ _ _ _ h2,hbnd _ _ _ _ h3]
     | some v=>obtain ⟨kk,rfl⟩ := p1; simp [Instr.sliceBounds,hbnd _ _ _ _ h1,hbnd _ _ _ _ h2,hbnd _ _ _ _ h3]
  simp only [Instr.slice,OwnRef.val,run_underlying hu,Sem.run_bind,Result.andThen_ok,b,hsz]
  rfl
 have gl : ∀ (oo : Option Operand) (df n : Nat),(∀ y,y ∈ oo → Rep P M true (ev y) (a.eval y)) → optAt ev oo df n → (match oo.map a.eval with | none=>n = df | some v=>∃ kk,v = .int kk (n : Int)) := by
  intro oo df n hr ha
  cases oo with
  | none=>exact ha
  | some y =>
   obtain ⟨kk,z,e1,rfl⟩ := ha
   have := hr y rfl
   rw [e1] at this
   simp only [Rep] at this
   exact ⟨kk,this⟩
 have := key (lo.map a.eval) (hi.map a.eval) (mx.map a.eval) (gl lo 0 l (fun y hy=>get y (.inl hy)) hl) (gl hi len h (fun y hy=>get y (.inr (.inl hy))) hh) (gl mx g.cap m (fun y hy=>get y (.inr (.inr hy))) hm) (by simpa using hs)
 simp only [execOp,ho,Instr.sliceAt,hxr.2]
 rw [Sem.run_bind,Sem.run_bind,run_underlying hu]
 simp only [Result.andThen_ok]
 rw [this]
 rfl
theorem eff_clearB (hT : T.Ok P) {o : Oper} {ev : Operand → PV} {H : Heap} {x : Operand} {t : TypeId} (ho : o.op = .call { callee := .builtin .clear,args := #[x],argTypes := #[t] }) {ti ei : TInfo} {e : TypeId} (hti : T.get t = some ti) (hd : ti.desc = .slice e) (hei : T.get e = some ei)
  (hz : Nat.beq ei.zero.cells.size ei.size = true) (h1 : (gQ ei).all PV.one = true) {tag : Nat} {g : OwnRef} {rows : List (List PV)} (hob : H.ob tag = some ⟨g,e,rows,true⟩) {p q m : Nat} (hp : rows.length ≤ p) (hpq : p ≤ q) (hq : q ≤ m) (hm : m ≤ g.cap)
  (hx : ev x = .val (g.sub ei.size p q m)) {K : PV → Heap → Prop} (hk : K (.tup []) H) : Eff P o ev H K := by
 intro C M a w next Q hi he hn
 have hxr := he x (by rw [ho]; simp [Op.operands,Call.operands])
 rw [hx] at hxr
 simp only [Rep] at hxr
 obtain ⟨i,g1,g2,g3,g4⟩ := hi.objs tag _ hob
 obtain ⟨i',g5,g6,_,hzero⟩ := (hT.get hei).info
 simp only at g1 g2 g3 g4
 rw [g1] at g5
 cases g5
 have hu := (hT.get hti).und
 rw [hd] at hu
 have hself : upd H.ob tag (some ⟨g,e,rows,true⟩) = H.ob := pK _ _ _ hob
 have fin : ∀ w',(Builtin.clear_ #[t] o.type #[g.sub ei.size p q m]).run P w = .ok (.tuple #[]) w' → InvH P C M ⟨H.bx,upd H.ob tag (some ⟨g,e,rows,true⟩)⟩ w' → Oper.wp P o a w next Q := by
  intro w' hr hi'
  have hrun' : (execOp a.eval o).run P w = .ok (.value (.tuple #[])) w' := by
   simp only [execOp,ho,resolve,Sem.run_bind,Sem.run_pure,Result.andThen_ok,invoke,builtin,List.map_toArray,List.map_cons,List.map_nil,hxr]
   rw [hr]
   rfl
  unfold Oper.wp
  rw [hrun']
  rw [hself] at hi'
  exact hn _ _ _ M w' hk (Mem.le_refl M) hi' (by simp [Rep,aw])
 by_cases h0 : q - p = 0
 ·refine fin w ?_ (by rw [hself]; exact hi)
  unfold OwnRef.sub
  rw [h0]
  split <;> (cases g.blk <;> simp [Builtin.clear_,run_underlying hu])
 ·rcases g4 with ⟨_,hn',hc0⟩ | ⟨b,cur,hb,hmn,hcur,hcs,hlc,hcm,hcr,h1c,hw1,hw2⟩
  ·omega
  ·have hz1 := Nat.eq_of_beq_eq_true hz
   have hcs' : cur.size = g.cap * i.size := hcs
   have hcs2 : cur.toList.length = g.cap * i.size := by rw [Array.length_toList]; exact hcs
   have e1 : g.sub ei.size p q m = .slice (some ⟨b,p * i.size,none⟩) (q - p) (m - p) := by unfold OwnRef.sub; rw [zy (by omega),hb,g6]; simp [fh]
   have hzl : (gQ ei).length = i.size := by simp [gQ,hz1,g6]
   have hzc : (Builtin.zeroCells ei.zero.cells (q - p)).toList = (List.replicate (q - p) ei.zero.cells.toList).flatten := by
    unfold Builtin.zeroCells
    exact pB ei.zero.cells (q - p)
   have hzs : (Builtin.zeroCells ei.zero.cells (q - p)).toList.length = (q - p) * i.size := by rw [hzc]; simp [hz1,g6]
   have hrep : aw P M false (List.replicate (q - p) (gQ ei)).flatten (List.replicate (q - p) ei.zero.cells.toList).flatten := oK (mS _) (q - p)
   have hone : ∀ v ∈ (Builtin.zeroCells ei.zero.cells (q - p)).toList,v.oneCell' = true := by
    rw [hzc]
    refine aw.oneCell ?_ hrep
    rw [List.all_eq_true]
    intro x hx
    rw [List.mem_flatten] at hx
    obtain ⟨l,hl,hx⟩ := hx
    rw [List.eq_of_mem_replicate hl] at hx
    exact List.all_eq_true.1 h1 x hx
   have hmq : q * i.size ≤ g.cap * i.size := Nat.mul_le_mul_right _ (by omega)
   have hmp : rows.length * i.size ≤ p * i.size := Nat.mul_le_mul_right _ hp
   have hsub : (q - p) * i.size = q * i.size - p * i.size := Nat.sub_mul _ _ _
   have hpq' : p * i.size ≤ q * i.size := Nat.mul_le_mul_right _ hpq
   have hst := run_storeCells_at P b (p * i.size) e (Builtin.zeroCells ei.zero.cells (q - p)).toList 0 cur w hcur (by rw [hzs]; omega) hone
   simp only [Nat.add_zero] at hst
   obtain ⟨k,hk1⟩ : ∃ k,q - p = k + 1 := ⟨q - p - 1,by omega⟩
   have htake : (cur.toList.take (p * i.size) ++ (Builtin.zeroCells ei.zero.cells (q - p)).toList ++ cur.toList.drop (p * i.size + (Builtin.zeroCells ei.zero.cells (q - p)).toList.length)).take (rows.length * i.size) = cur.toList.take (rows.length * i.size) := by
    rw [List.append_assoc,List.take_append_of_le_length (by rw [List.length_take,hcs2]; omega),List.take_take,Nat.min_eq_left hmp]
   refine fin _ ?_ (hi.set_obj tag _ hob b hb rows true (cur.toList.take (p * i.size) ++ (Builtin.zeroCells ei.zero.cells (q - p)).toList ++ cur.toList.drop (p * i.size + (Builtin.zeroCells ei.zero.cells (q - p)).toList.length)).toArray i g1 g2 g3 ?_ hlc hcm ?_ ?_ ?_ (fun _=>hw1 trivial) (fun o' _=>hw1 trivial o'))
   ·rw [e1]
    have hzv : (zeroValue e).run P w = .ok ei.zero w := by simp [zeroValue,typeInfo,g1,hzero]
    rw [hk1] at hst ⊢
    simp [Builtin.clear_,run_underlying hu,hzv]
    rw [hst]
    simp
   ·have e9 : (cur.toList.take (p * i.size) ++ (Builtin.zeroCells ei.zero.cells (q - p)).toList ++ cur.toList.drop (p * i.size + (Builtin.zeroCells ei.zero.cells (q - p)).toList.length)).length = g.cap * i.size := by
     rw [List.length_append,List.length_append,List.length_take,List.length_drop,hcs2,hzs]
     omega
    simpa using e9
   ·simp only
    rw [htake]
    exact hcr
   ·simp only
    rw [htake]
    exact h1c
   ·intro o' v' hm'
    rw [hw1 trivial o'] at hm'
    cases hm'
end
section
variable {P : Program} {ops : Array Oper} {rest : List Oper} {o : Oper} {n : Nat} {s s' : Nat → PV} {bx : Nat → Option Box} {ob : Nat → Option Obj} {K : PState → Prop} {T : TT} {rb : RB} {k : Nat} {L : List Nat}
theorem rT (hT : T.Ok P) (hg : aN ops s o = some true) {t : TypeId} {x : Operand} {lo hi mx : Option Operand} (ho : o.op = .slice t x lo hi mx) {ti ei : TInfo} {e : TypeId} (hti : T.get t = some ti) (hd : ti.desc = .slice e) (hei : T.get e = some ei)
  {tag : Nat} {g : OwnRef} {len : Nat} (hx : evS s x = .own tag g len) {l h m : Nat} (hl : optAt (evS s) lo 0 l) (hh : optAt (evS s) hi len h) (hm : optAt (evS s) mx g.cap m) (hs : mx.isSome = true → hi.isSome = true) (h1 : l ≤ h) (h2 : h ≤ m) (h3 : m ≤ g.cap)
  (hp : putD n s o.dst (.val (g.sub ei.size l h m)) = some s') (hr : Ao P ops rest ⟨n,s',bx,ob⟩ K) : Ao P ops (o :: rest) ⟨n,s,bx,ob⟩ K :=
 nw hg (detS_subV hT ho hti hd hei hx hl hh hm hs h1 h2 h3) hp hr
theorem rZ (hT : T.Ok P) (hg : aN ops s o = some true) {x : Operand} {t : TypeId} (ho : o.op = .call { callee := .builtin .clear,args := #[x],argTypes := #[t] }) (hdst : o.dst = none) {ti ei : TInfo} {e : TypeId} (hti : T.get t = some ti) (hd : ti.desc = .slice e) (hei : T.get e = some ei)
  (hz : Nat.beq ei.zero.cells.size ei.size = true) (h1 : (gQ ei).all PV.one = true) {tag : Nat} {g : OwnRef} {rows : List (List PV)} (hob : ob tag = some ⟨g,e,rows,true⟩) {p q m : Nat} (hp : rows.length ≤ p) (hpq : p ≤ q) (hq : q ≤ m) (hm : m ≤ g.cap)
  (hx : evS s x = .val (g.sub ei.size p q m)) (h : Ao P ops rest ⟨n,s,bx,ob⟩ K) : Ao P ops (o :: rest) ⟨n,s,bx,ob⟩ K :=
 fj hg (eff_clearB hT ho hti hd hei hz h1 hob hp hpq hq hm hx ⟨s,by simp [hdst,putD],h⟩)
theorem sd (hg : aN ops s o = some true) {t t' : TypeId} {x y : Operand} (ho : o.op = .binOp .shr t x y t') {kk k2 : IntKind} {a b : Int} (hx : evS s x = .val (.int kk a)) (hy : evS s y = .val (.int k2 b)) (hb : 0 ≤ b) {m : Nat} (hm : min b.toNat kk.bits = m)
  (hp : putD n s o.dst (.val (.int kk (a.fdiv (2 ^ m)))) = some s') (h : Ao P ops rest ⟨n,s',bx,ob⟩ K) : Ao P ops (o :: rest) ⟨n,s,bx,ob⟩ K := by
 refine fj hg (fun C M a' w next Q hi he hn=>?_)
 have hxr := he x (by rw [ho]; simp [Op.operands])
 have hyr := he y (by rw [ho]; simp [Op.operands])
 rw [show (⟨n,s,bx,ob⟩ : PState).s = s from rfl,hx] at hxr
 rw [show (⟨n,s,bx,ob⟩ : PState).s = s from rfl,hy] at hyr
 simp only [Rep] at hxr hyr
 subst hm
 have hrun : (execOp a'.eval o).run P w = .ok (.value (.int kk (a.fdiv (2 ^ (min b.toNat kk.bits))))) w := by
  have h2 : (eqGuard .shr t x y (.int kk a) (.int k2 b)).run P w = .ok () w := by simp [eqGuard]
  have hb' : ¬ b < 0 := by omega
  simp only [execOp,ho,hxr,hyr,Sem.run_bind,h2,Result.andThen_ok,binOp,Op.shift,zy hb']
  rfl
 unfold Oper.wp
 rw [hrun]
 exact hn _ _ ⟨bx,ob⟩ M w ⟨s',hp,h⟩ (Mem.le_refl M) hi (by simp only [Rep])
theorem jF {tag : Nat} {g : OwnRef} {e : TypeId} {rows : List (List PV)} {wr : Bool} (hob : ob tag = some ⟨g,e,rows,wr⟩) (h : (rows ≠ [] → ∃ b,g.blk = some b) → Ao P ops rest ⟨n,s,bx,ob⟩ K) : Ao P ops rest ⟨n,s,bx,ob⟩ K := fun C M a w Q hi hq=>by
 refine h (fun hne=>?_) C M a w Q hi hq
 obtain ⟨_,_,_,_,h4⟩ := hi.2.objs tag _ hob
 rcases h4 with ⟨_,h5,_⟩ | ⟨b,_,h5,_⟩
 ·exact absurd h5 hne
 ·exact ⟨b,h5⟩
theorem rV {tag : Nat} {g : OwnRef} {e : TypeId} {rows : List (List PV)} {wr : Bool} (hob : ob tag = some ⟨g,e,rows,wr⟩) (h : rows.length ≤ g.cap → Ao P ops rest ⟨n,s,bx,ob⟩ K) : Ao P ops rest ⟨n,s,bx,ob⟩ K := fun C M a w Q hi hq=>by
 refine h ?_ C M a w Q hi hq
 obtain ⟨_,_,_,_,h4⟩ := hi.2.objs tag _ hob
 rcases h4 with ⟨_,h5,h6⟩ | ⟨b,_,h5,_,_,_,h6,h7,_⟩
 ·simp only at h5; rw [h5]; simp
 ·exact h6
theorem Gh.cutO {st : PState} {tag : Nat} {g : OwnRef} {e : TypeId} {rows rows' : List (List PV)} (hob : st.ob tag = some ⟨g,e,rows,true⟩) (m : Nat) (hr : rows.take m = rows') : Gh P st ⟨st.n,st.s,st.bx,upd st.ob tag (some ⟨g,e,rows',true⟩)⟩ := by
 subst hr
 intro C M a w hi
 exact ⟨M,hi.1,hi.2.cutO hob m⟩
theorem sk (hT : T.Ok P) (hg : aN ops s o = some true) {t : TypeId} {x y : Operand} (ho : o.op = .slice t x none (some y) none) {ti : TInfo} {e : TypeId} (hti : T.get t = some ti) (hd : ti.desc = .slice e) {ei : TInfo} (hei : T.get e = some ei)
  {tag : Nat} {g : OwnRef} {len : Nat} {rows rows' : List (List PV)} (hx : evS s x = .own tag g len) (hob : ob tag = some ⟨g,e,rows,true⟩) {kk : IntKind} {m : Int} (hy : evS s y = .val (.int kk m)) (hm : 0 ≤ m ∧ m.toNat ≤ rows.length) (hr : rows.take m.toNat = rows') {d : Nat} (hdst : o.dst = some d) (hlt : Nat.blt d n = true)
  (h : Ao P ops rest ⟨n,upd s d (.own tag g rows'.length),bx,upd ob tag (some ⟨g,e,rows',true⟩)⟩ K) : Ao P ops (o :: rest) ⟨n,s,bx,ob⟩ K := by
 subst hr
 refine fj hg (fun C M a w next Q hi he hn=>?_)
 have hxr := he x (by rw [ho]; simp [Op.operands])
 have hyr := he y (by rw [ho]; simp [Op.operands])
 rw [show (⟨n,s,bx,ob⟩ : PState).s = s from rfl,hx] at hxr
 rw [show (⟨n,s,bx,ob⟩ : PState).s = s from rfl,hy] at hyr
 simp only [Rep] at hxr hyr
 have hu := (hT.get hti).und
 rw [hd] at hu
 have hcap : rows.length ≤ g.cap := by
  obtain ⟨i,_,_,_,h4⟩ := hi.objs tag _ hob
  rcases h4 with ⟨_,b,_⟩ | ⟨_,_,_,_,_,_,h9,_⟩
  ·simp only at b; rw [b]; simp
  ·exact h9
 have hmc : m ≤ (g.cap : Int) := by omega
 have hl2 : (rows.take m.toNat).length = m.toNat := by simp; omega
 have hrun : (execOp a.eval o).run P w = .ok (.value (g.val (rows.take m.toNat).length)) w := by
  rw [hl2]
  simp only [execOp,ho,Sem.run_bind,Sem.run_pure,Option.map_some,Option.map_none,hxr.2,hyr,OwnRef.val]
  cases hb : g.blk with
  | none=>simp [Instr.sliceAt,Instr.slice,run_underlying hu,Instr.sliceBounds,Instr.sliceBound,asIntOf,(hT.get hei).rsize w,hm.1,hmc]
  | some b =>
   have e0 : (⟨b,0,none⟩ : Addr).add 0 = ⟨b,0,none⟩ := by rw [fh]
   simp [Instr.sliceAt,Instr.slice,run_underlying hu,Instr.sliceBounds,Instr.sliceBound,asIntOf,(hT.get hei).rsize w,hm.1,hmc,e0]
 unfold Oper.wp
 rw [hrun]
 exact hn _ (.own tag g (rows.take m.toNat).length) ⟨bx,upd ob tag (some ⟨g,e,rows.take m.toNat,true⟩)⟩ M w ⟨_,by simp [hdst,putD,hlt],h⟩ (Mem.le_refl M) (hi.cutO hob m.toNat) (by simp [Rep])
end
def lP (T : TT) : List (Nat × Nat) → List PV → List PV → Option Bool
 | [],_,_=>some true
 | (t,off) :: r,xs,ys=>match T.get t with
  | some ti=>match (bif ti.eqf.isEmpty then (match xs[off]?,ys[off]? with | some p,some q=>pQ ti.desc p q | _,_=>none) else kt T ti.eqf ((xs.drop off).take ti.size) ((ys.drop off).take ti.size)),lP T r xs ys with
   | some b,some c=>some (b && c)
   | _,_=>none
  | none=>none
section
variable {P : Program} {T : TT}
theorem oT (hT : T.Ok P) (w : World) {M : Mem} {d : Nat} {xs ys : List PV} {cs ds : Array Value} (hx : aw P M true xs cs.toList) (hy : aw P M true ys ds.toList) :
  ∀ (fs : List Field) (eqf : List (Nat × Nat)) (b : Bool),cM fs eqf → lP T eqf xs ys = some b → (Op.eqFields (d + 2) cs ds fs).run P w = .ok b w
 | [],[],b,_,h=>by simp only [lP,zo] at h; subst h; simp [Op.eqFields]
 | f :: fs,(t,o) :: r,b,hm,h=>by
  simp only [cM] at hm
  obtain ⟨hn,rfl,rfl,hm⟩ := hm
  simp only [lP] at h
  split at h
  ·rename_i ti hti
   split at h
   ·rename_i b1 b2 h1 h2
    simp only [zo] at h
    subst h
    have ih := oT hT w (d := d) hx hy fs r b2 hm h2
    cases he : ti.eqf.isEmpty with
    | true =>
     simp only [he,zc] at h1
     split at h1
     ·rename_i p q hp hq
      obtain ⟨x,hx1,hx2⟩ := hx.get _ _ hp
      obtain ⟨y,hy1,hy2⟩ := hy.get _ _ hq
      obtain ⟨hag,heq⟩ := oU w (d := d + 1) (hT.get hti) hx2 hy2 h1
      have hpx : ∀ (c : Array Value) (z : Value),c.toList[f.offset]? = some z → (part f.type c f.offset).run P w = .ok z w := by
       intro c z hz
       rw [Array.getElem?_toList] at hz
       simp [part,(hT.get hti).ragg w,hag,hz]
      simp only [Op.eqFields, zp (show f.name ≠ "_" from hn), Sem.run_bind, hpx _ _ hx1, hpx _ _ hy1, Result.andThen_ok, heq]
      cases b1 <;> simp [ih]
     ·cases h1
    | false =>
     simp only [he,zd] at h1
     obtain ⟨k1,k2,k3,k4⟩ := (hT.get hti).eqs (by intro h0; simp [h0] at he)
     have hag : jY ti.desc = true := by
      have hu := (hT.get hti).und
      rw [k4] at hu
      rw [← Option.some.inj hu]
      rfl
     have hpx : ∀ (c : Array Value),(part f.type c f.offset).run P w = .ok (.agg (c.extract f.offset (f.offset + ti.size))) w := by
      intro c
      simp [part,(hT.get hti).ragg w,hag,(hT.get hti).rsize w]
     have hsub : ∀ (zs : List PV) (c : Array Value),aw P M true zs c.toList → aw P M true ((zs.drop f.offset).take ti.size) (c.extract f.offset (f.offset + ti.size)).toList := by
      intro zs c hz
      have e : (c.extract f.offset (f.offset + ti.size)).toList = (c.toList.drop f.offset).take ti.size := by
       rw [Array.toList_extract]
       simp [List.extract_eq_take_drop]
      rw [e]
      exact (hz.drop _).take _
     have heq : (Op.equalIn (d + 2) f.type (.agg (cs.extract f.offset (f.offset + ti.size))) (.agg (ds.extract f.offset (f.offset + ti.size)))).run P w = .ok b1 w := by
      rw [run_equalIn_agg w (d + 1) f.type _ _ k4 k1]
      exact kR hT w (d := d) (hsub _ _ hx) (hsub _ _ hy) _ _ b1 k3 h1
     simp only [Op.eqFields, zp (show f.name ≠ "_" from hn), Sem.run_bind, hpx, Result.andThen_ok, heq]
     cases b1 <;> simp [ih]
   ·cases h
  ·cases h
 | [],_ :: _,b,hm,_=>by simp [cM] at hm
 | _ :: _,[],b,hm,_=>by simp [cM] at hm
theorem detS_eqNest (hT : T.Ok P) {o : Oper} {ev : Operand → PV} {H : Heap} {t t' : TypeId} {x y : Operand} (ho : o.op = .binOp .eql t x y t') {xs ys : List PV} (hx : ev x = .agg xs) (hy : ev y = .agg ys) (h1 : P.stoodInHeld t = false) (h2 : P.eqGuardType P.depth t = false)
  {eqf : List (Nat × Nat)} (h3 : cM (P.fieldsOf t).toList eqf) (h4 : P.underlying t = some (.struct (P.fieldsOf t))) {b : Bool} (hb : lP T eqf xs ys = some b) : DetS P o ev H (.val (.bool b)) := by
 intro C M a w _ he
 have hxr := he x (by rw [ho]; simp [Op.operands])
 have hyr := he y (by rw [ho]; simp [Op.operands])
 rw [hx] at hxr
 rw [hy] at hyr
 simp only [Rep] at hxr hyr
 obtain ⟨cs,ex,hc⟩ := hxr
 obtain ⟨ds,ey,hd⟩ := hyr
 refine ⟨.bool b,?_,by simp only [Rep]⟩
 have key : (binOp .eql t (.agg cs) (.agg ds)).run P w = .ok (.bool b) w := by
  rw [run_eql_struct w t cs ds,show (10000 : Nat) = 9997 + 2 + 1 from rfl,run_equalIn_agg w (9997 + 2) t cs ds h4 h1,oT hT w (d := 9997) hc hd _ _ b h3 hb]
  rfl
 have hg := run_eqGuard_agg (P := P) w .eql t x y cs ds h2
 simp only [execOp,ho,ex,ey]
 simp only [Sem.run_bind,hg,Result.andThen_ok,key]
 rfl
end
section
variable {P : Program} {ops : Array Oper} {rest : List Oper} {o : Oper} {n : Nat} {s s' : Nat → PV} {bx : Nat → Option Box} {ob : Nat → Option Obj} {K : PState → Prop} {T : TT} {rb : RB} {k : Nat} {L : List Nat}
theorem sD (hT : T.Ok P) (ho : ops[k]? = some o) (hg : aN ops s o = some true) {t t' : TypeId} {x y : Operand} (hop : o.op = .binOp .eql t x y t') {xs ys : List PV} (hx : evS s x = .agg xs) (hy : evS s y = .agg ys) (h1 : P.stoodInHeld t = false) (h2 : P.eqGuardType P.depth t = false)
  {eqf : List (Nat × Nat)} (h3 : cM (P.fieldsOf t).toList eqf) (h4 : P.underlying t = some (.struct (P.fieldsOf t))) {b : Bool} (hb : lP T eqf xs ys = some b) (hp : putD n s o.dst (.val (.bool b)) = some s') (h : Do P T rb ops L ⟨n,s',bx,ob⟩ K) : Do P T rb ops (k :: L) ⟨n,s,bx,ob⟩ K :=
 mc ho hg (by rw [hop]; rfl) (fun _=>detS_eqNest hT hop hx hy h1 h2 h3 h4 hb) hp h
end
section
variable {P : Program} {C : Ctx} {M : Mem} {H : Heap} {w : World}
theorem InvH.alloc_part (h : InvH P C M H w) (pre cs : Array Value) (e : TypeId) (fz : Nat × Nat) (hp : ∀ (o : Nat) (v : Value),pre[o]? = some v → cs[o]? = some v) : InvH P C (M.add w.heap.size pre) H (w.alloc (.cells cs e fz)) := by
 have hle := h.add_le pre
 refine ⟨?_,Mem.le_trans h.ext hle,?_,h.os,h.tape,h.output,?_,?_,?_,?_,h.dbox,h.dobj,h.dmix⟩
 ·intro b o v hm
  by_cases hb : b = w.heap.size
  ·subst hb
   rw [cell_of_row (w.alloc (.cells cs e fz)) w.heap.size o cs e fz (heap_alloc_new w _)]
   exact hp o v (by simpa [Mem.add] using hm)
  ·simp only [Mem.add,hb,if_false] at hm
   rw [lX w _ (h.mem_lt hm)]
   exact h.mem b o v hm
 ·intro b o v hm
  by_cases hb : b = w.heap.size
  ·exact .inr (.inl (hb ▸ h.size))
  ·simp only [Mem.add,hb,if_false] at hm
   exact h.new b o v hm
 ·rw [lr]; exact Nat.le_succ_of_le h.size
 ·intro b hb hn
  rw [heap_alloc_old w _ (Nat.lt_of_lt_of_le hb h.size)]
  exact h.frame b hb hn
 ·intro t x hx
  have hlt := h.box_lt hx
  exact (h.boxes t x hx).keep hle (fun o ho=>by simp [Mem.add,Nat.ne_of_lt hlt,ho]) (heap_alloc_old w _ hlt)
 ·intro t x hx
  exact (h.objs t x hx).keep hle (fun b o hb ho=>by simp [Mem.add,Nat.ne_of_lt (h.obj_lt hx hb),ho]) (fun b hb=>heap_alloc_old w _ (h.obj_lt hx hb))
theorem freeze_new (w : World) (cs : Array Value) (e : TypeId) (n : Nat) : (w.alloc (.cells cs e)).freeze ⟨w.heap.size,n,none⟩ 1 = w.alloc (.cells cs e (n,n + 1)) := by
 unfold World.freeze World.alloc
 simp only [Nat.one_ne_zero,if_false]
 congr 1
 apply Array.ext
 ·simp
 ·intro i h1 h2
  rw [Array.getElem_modify]
  split
  ·rename_i hi
   subst hi
   simp
  ·rename_i hi
   have : i < w.heap.size := by simp at h2; omega
   simp [Array.getElem_push,this]
end
section
variable {P : Program} {ops : Array Oper} {rest : List Oper} {o : Oper} {n : Nat} {s s' : Nat → PV} {bx : Nat → Option Box} {ob : Nat → Option Obj} {K : PState → Prop} {T : TT} {rb : RB} {k : Nat} {L : List Nat}
theorem byteRows_rep (M : Mem) (xs : List UInt8) : aw P M false (jU xs).flatten (xs.map fun c=>Value.int .u8 c.toNat) := by
 induction xs with
 | nil=>simp [jU,aw]
 | cons c xs ih=>simp only [jU,List.map_cons,List.flatten_cons,List.cons_append,List.nil_append,aw,Rep]; exact ⟨_,_,rfl,rfl,ih⟩
theorem Ao.s2b (hT : T.Ok P) (hg : aN ops s o = some true) {src dst e : TypeId} {x : Operand} (ho : o.op = .convert src dst x) {si di ei : TInfo} (hsi : T.get src = some si) (hsd : si.desc = .string) (hdi : T.get dst = some di) (hdd : di.desc = .slice e) (hei : T.get e = some ei) (hed : ei.desc = .int .u8) (hes : ei.size = 1) (heb : ei.bytes = 1)
  {xs : List UInt8} (hx : evS s x = .str xs) (hl : xs.length ≤ 2 ^ 47) (hp : putD n s o.dst (.list e (jU xs)) = some s') (h : Ao P ops rest ⟨n,s',bx,ob⟩ K) : Ao P ops (o :: rest) ⟨n,s,bx,ob⟩ K := by
 refine fj hg (fun C M a w next Q hi he hn=>?_)
 have hxr := he x (by rw [ho]; simp [Op.operands])
 rw [show (⟨n,s,bx,ob⟩ : PState).s = s from rfl,hx] at hxr
 simp only [Rep] at hxr
 have hs := (hT.get hsi).und
 have hd := (hT.get hdi).und
 have hee := (hT.get hei).und
 rw [hsd] at hs
 rw [hdd] at hd
 rw [hed] at hee
 obtain ⟨i,hinf,hsz,hby,_⟩ := (hT.get hei).info
 have hge := grownCap_ge w xs.length 0 e
 have hml : xs.length ≤ maxLen := by unfold maxLen; omega
 have hgm : grownCap w xs.length 0 e ≤ maxLen := grownCap_le_maxLen w xs.length 0 e hml
 obtain ⟨pre,hpre⟩ : ∃ pre : Array Value,pre = xs.toArray.map fun b=>Value.int .u8 b.toNat := ⟨_,rfl⟩
 obtain ⟨cs,hcs⟩ : ∃ cs : Array Value,cs = pre ++ Array.replicate (grownCap w xs.length 0 e - xs.length) (.int .u8 0) := ⟨_,rfl⟩
 have hrun : (execOp a.eval o).run P w = .ok (.value (.slice (some ⟨w.heap.size,0,none⟩) xs.length (grownCap w xs.length 0 e))) (w.drew.alloc (.cells cs e (cs.size,cs.size + 1))) := by
  have hz : (ByteArray.mk xs.toArray).size = xs.length := by simp [ByteArray.size]
  have key : (Conv.stringToBytes e ⟨xs.toArray⟩).run P w = .ok (.slice (some ⟨w.heap.size,0,none⟩) xs.length (grownCap w xs.length 0 e)) (w.drew.alloc (.cells cs e (cs.size,cs.size + 1))) := by
   have hmk : ∀ w0 : World,(markStringish ⟨w0.heap.size,0,none⟩).run P (w0.alloc (.cells cs e)) = .ok () (w0.alloc (.cells cs e (cs.size,cs.size + 1))) := by
    intro w0
    have hsh : (w0.alloc (.cells cs e)).shape? w0.heap.size = some (e,cs.size) := by unfold World.shape?; rw [heap_alloc_new]
    unfold markStringish
    simp only [Sem.run_bind,run_shape,Result.andThen_ok,hsh]
    rw [run_freeze,freeze_new]
   have hm0 := hmk w.drew
   subst hcs
   subst hpre
   unfold Conv.stringToBytes
   simp only [Sem.run_bind,hz,run_choose,Question.forced]
   simp [newRow]
   simp [grownCap] at hm0 ⊢
   rw [hm0]
   simp
  simp only [execOp,ho,hxr.1,convert,Sem.run_bind,run_underlying hs,run_underlying hd,run_underlying hee,Result.andThen_ok,key]
  rfl
 unfold Oper.wp
 rw [hrun]
 have hle := (show InvH P C M ⟨bx,ob⟩ w.drew from hi.drew).add_le pre
 have hi' := (show InvH P C M ⟨bx,ob⟩ w.drew from hi.drew).alloc_part pre cs e (cs.size,cs.size + 1) (fun o v hv=>by rw [hcs,Array.getElem?_append_left (Array.getElem?_eq_some_iff.1 hv).1]; exact hv)
 refine hn _ (.list e (jU xs)) ⟨bx,ob⟩ (M.add w.drew.heap.size pre) _ ⟨s',hp,h⟩ hle hi' ?_
 simp only [Rep]
 have hbl : (jU xs).length = xs.length := by simp [jU]
 refine ⟨_,grownCap w xs.length 0 e,i,by rw [hbl],by rw [hbl]; exact hge,hgm,hinf,by rw [hbl,hby,heb]; omega,fun _=>⟨_,_,rfl,?_⟩⟩
 refine cR.of_flat (fun r hr=>?_) (qH (show InvH P C M ⟨bx,ob⟩ w.drew from hi.drew) (jU xs).flatten pre ?_ ?_)
 ·obtain ⟨c,_,rfl⟩ := List.mem_map.1 hr
  rw [hsz,hes]; rfl
 ·rw [hpre]
  intro v hv
  simp at hv
  obtain ⟨c,_,rfl⟩ := hv
  rfl
 ·rw [hpre]
  simpa using byteRows_rep M xs
theorem Ao.ext (hg : aN ops s o = some true) {fx : Operand} {av0 : Array Operand} {ts : Array TypeId} (ho : o.op = .call { callee := .value fx,args := av0,argTypes := ts }) {g : FuncId} (hf : evS s fx = .fn g []) {r : PV}
  (hcall : ∀ (M : Mem) (vs : Array Value) (w : World),aw P M true (av0.toList.map (evS s)) vs.toList → ∃ v,(callFunc g vs).run P w = .ok (.value v) w ∧ Rep P M true r v)
  (hp : putD n s o.dst r = some s') (h : Ao P ops rest ⟨n,s',bx,ob⟩ K) : Ao P ops (o :: rest) ⟨n,s,bx,ob⟩ K := by
 refine fj hg (fun C M a w next Q hi he hn=>?_)
 have hfr := he fx (by rw [ho]; simp [Op.operands,Call.operands])
 rw [show (⟨n,s,bx,ob⟩ : PState).s = s from rfl,hf] at hfr
 simp only [Rep] at hfr
 obtain ⟨cs,hv,hcaps⟩ := hfr
 have hargs : aw P M true (av0.toList.map (evS s)) (av0.map a.eval).toList := by
  simpa using js av0.toList fun x hx=>he x (by rw [ho]; simp_all [Op.operands,Call.operands])
 have hc0 : cs = #[] := by
  simp only [aw] at hcaps
  exact Array.toList_eq_nil_iff.1 hcaps
 subst hc0
 obtain ⟨v,hrun,hr⟩ := hcall M (av0.map a.eval) w hargs
 have hrun' : (execOp a.eval o).run P w = .ok (.value v) w := by
  simp [execOp,ho,resolve,hv,Deferred.ofValue,invoke,hrun]
 unfold Oper.wp
 rw [hrun']
 exact hn v r ⟨bx,ob⟩ M w ⟨s',hp,h⟩ (Mem.le_refl M) hi hr
theorem Ao.cmpS (hg : aN ops s o = some true) {fx x y : Operand} {ts : Array TypeId} (ho : o.op = .call { callee := .value fx, args := #[x, y], argTypes := ts }) {g : FuncId} (hf : evS s fx = .fn g []) {fn : Func} (h1 : P.funcs[g]? = some fn) (h2 : (fn.name == "runtime.NumGoroutine") = false) (h3 : fn.body.isNone = true) (h4 : Extern.findNext fn = none) (h5 : Extern.find fn = some Extern.BytealgCompare.compare)
  {a b : List UInt8} (hx : evS s x = .str a) (hy : evS s y = .str b) (hp : putD n s o.dst (.val (.int .i64 (Lib.compareBytes a b))) = some s') (h : Ao P ops rest ⟨n,s',bx,ob⟩ K) : Ao P ops (o :: rest) ⟨n,s,bx,ob⟩ K := by
 refine Ao.ext hg ho hf (fun M vs w hr=>?_) hp h
 simp only [List.map_cons,List.map_nil,hx,hy,aw,Rep] at hr
 obtain ⟨v1,l1,e1,⟨r1,_⟩,v2,l2,e2,⟨r2,_⟩,e3⟩ := hr
 subst e3 e2 r1 r2
 have hvs : vs = #[.string ⟨a.toArray⟩,.string ⟨b.toArray⟩] := by
  apply Array.toList_inj.1
  rw [e1]
 subst hvs
 refine ⟨.int .i64 (Lib.compareBytes a b),?_,by simp only [Rep]⟩
 rw [run_callFunc_extern h1 h2 h3 h4 h5,Lib.run_compareString]
 rfl
end
def arrI {α : Type} (n : Nat) (xs : List α) (i : Int) : Option α := if 0 ≤ i ∧ i < n then xs[i.toNat]? else none
theorem arrI_some {α : Type} {n : Nat} {xs : List α} {i : Int} {x : α} (h : arrI n xs i = some x) : (0 ≤ i ∧ i < n) ∧ xs[i.toNat]? = some x := by
 unfold arrI at h
 split at h
 ·rename_i h0; exact ⟨h0,h⟩
 ·cases h
theorem arrI_eq {α : Type} {n : Nat} {xs : List α} {i : Int} {x : α} (h0 : 0 ≤ i ∧ i < n) (h : xs[i.toNat]? = some x) : arrI n xs i = some x := by
 unfold arrI
 rw [zp h0,h]
theorem splice_map {α : Type} (f : α → PV) (xs : List α) (k : Nat) (v : α) {ys : List α} (hk : k < xs.length) (hy : xs.set k v = ys) : splice (xs.map f) k [f v] = ys.map f := by
 subst hy
 unfold splice
 rw [List.map_set,List.length_singleton]
 have hk' : k < (xs.map f).length := by simpa using hk
 rw [List.set_eq_take_append_cons_drop,zp hk',List.append_assoc]
 rfl
section
variable {P : Program} {ops : Array Oper} {rest : List Oper} {o : Oper} {n : Nat} {s s' : Nat → PV} {bx : Nat → Option Box} {ob : Nat → Option Obj} {K : PState → Prop} {T : TT} {rb : RB} {k : Nat} {L : List Nat}
theorem pE (p : PV) (l : List PV) : okS (p :: l) = false ↔ ∃ a g b,p = .optr a g 99 77 b := by
 constructor
 ·intro h
  unfold okS at h
  split at h
  ·rename_i a g b _ e
   simp only [List.cons.injEq] at e
   exact ⟨a,g,b,e.1⟩
  ·cases h
 ·rintro ⟨a,g,b,rfl⟩
  rfl
theorem okS_head {p : PV} {l : List PV} : okS (p :: l) = okS [p] := by
 cases h : okS [p] with
 | false=>exact (pE p l).2 ((pE p []).1 h)
 | true =>
  cases h' : okS (p :: l) with
  | true=>rfl
  | false=>rw [(pE p []).2 ((pE p l).1 h')] at h; cases h
theorem okS_map {α : Type} {f : α → PV} (hf : ∀ x,okS [f x] = true) : ∀ l : List α,okS (l.map f) = true
 | []=>rfl
 | x :: l=>by rw [List.map_cons,okS_head]; exact hf x
theorem okS_int (l : List Int) : okS (l.map fun x=>PV.val (.int .i64 x)) = true := okS_map (fun _=>rfl) l
theorem okS_bool (l : List Bool) : okS (l.map fun x=>PV.val (.bool x)) = true := okS_map (fun _=>rfl) l
theorem okS_str (l : List (List UInt8)) : okS (l.map PV.str) = true := okS_map (fun _=>rfl) l
theorem sq (ho : ops[k]? = some o) (hg : aN ops s o = some true) {t : TypeId} {x i : Operand} (hop : o.op = .indexAddr t x i) {ti ei : TInfo} {e : TypeId} {len : Nat} (hti : T.get t = some ti) (hd : ti.desc = .array len e) (hei : T.get e = some ei) (hes : ei.size = 1)
  {tag b : Nat} (hx : evS s x = .box tag b 0) {kk : IntKind} {j : Int} (hi : evS s i = .val (.int kk j)) (hj : 0 ≤ j ∧ j < len) (hp : putD n s o.dst (.box tag b j.toNat) = some s') (h : Do P T rb ops L ⟨n,s',bx,ob⟩ K) : Do P T rb ops (k :: L) ⟨n,s,bx,ob⟩ K := by
 refine rQ ho hg (by rw [hop]; rfl) (r := .box tag b j.toNat) ?_ hp h
 rw [hop]
 simp [hZ,ix,hti,hx,hi,hd,hei,hj,hes]
theorem sN (ho : ops[k]? = some o) (hrb : rb.b o = true) (hg : aN ops s o = some true) {t : TypeId} {x : Operand} (hop : o.op = .load t x) {ti : TInfo} (hti : T.get t = some ti) (hta : jY ti.desc = false) {tag b off : Nat} {cells : List PV}
  (hx : evS s x = .box tag b off) (hb : bx tag = some ⟨b,cells⟩) {r : PV} (hr : cells[off]? = some r) (hp : putD n s o.dst r = some s') (h : Do P T rb ops L ⟨n,s',bx,ob⟩ K) (hok : okS cells = true := by first | rfl | exact okS_int _ | exact okS_bool _ | exact okS_str _) : Do P T rb ops (k :: L) ⟨n,s,bx,ob⟩ K :=
 Do.lB ho hrb hg hop hti hx hb (by simp [fJ,hok,gE,hta,hr,iY]) hp h
theorem sJ (ho : ops[k]? = some o) (hg : aN ops s o = some true) {t : TypeId} {x y : Operand} (hop : o.op = .store t x y) (hd : o.dst = none) {ti : TInfo} (hti : T.get t = some ti) (hts : ti.size = 1) {tag b off : Nat} {cells cells' : List PV} (hx : evS s x = .box tag b off) (hb : bx tag = some ⟨b,cells⟩)
  {p : PV} (hc : cY (evS s y) = some [p]) (h1 : PV.one p = true) (hk : off < cells.length) (hs : splice cells off [p] = cells') (h : Do P T rb ops L ⟨n,s,upd bx tag (some ⟨b,cells'⟩),ob⟩ K) (hok : okS cells = true := by first | rfl | exact okS_int _ | exact okS_bool _ | exact okS_str _) (hso : rb.so = false := by rfl) : Do P T rb ops (k :: L) ⟨n,s,bx,ob⟩ K :=
 fE ho hg hop hd hti hx hb (cs := [p]) (by simp [hc,em]) (by simp [h1]) (by rw [hts]; rfl) (by rw [hts,hok,Bool.true_and]; exact Nat.ble_eq.mpr hk) (by rw [em,hs]) h hso
end
def shlI (k : IntKind) (a b : Int) : Option Int := if 0 ≤ b then some (k.wrap (a * 2 ^ (min b.toNat k.bits))) else none
theorem shlI_some {k : IntKind} {a b x : Int} (h : shlI k a b = some x) : 0 ≤ b ∧ x = k.wrap (a * 2 ^ (min b.toNat k.bits)) := by
 unfold shlI at h
 split at h
 ·rename_i h0; exact ⟨h0,(Option.some.inj h).symm⟩
 ·cases h
def andI (k : IntKind) (a b : Int) : Int := k.wrap (BitVec.ofInt k.bits a &&& BitVec.ofInt k.bits b).toNat
def ip (k : IntKind) (a b : Int) : Int := k.wrap (BitVec.ofInt k.bits a ^^^ BitVec.ofInt k.bits b).toNat
section
variable {P : Program} {T : TT} {rb : RB} {ops : Array Oper} {rest : List Oper} {L : List Nat} {k : Nat} {o : Oper} {n : Nat} {s s' : Nat → PV} {bx : Nat → Option Box} {ob : Nat → Option Obj} {K : PState → Prop}
theorem nY {bop : BinOp} {t t' : TypeId} {x y : Operand} (ho : o.op = .binOp bop t x y t') {ev : Operand → PV} {H : Heap} {kk k2 : IntKind} {a b r : Int} (hx : ev x = .val (.int kk a)) (hy : ev y = .val (.int k2 b))
  (hq : (bop matches .eql | .neq) = false) (hr : ∀ w,(binOp bop t (.int kk a) (.int k2 b)).run P w = .ok (.int kk r) w) : DetS P o ev H (.val (.int kk r)) := by
 intro C M a' w hi he
 have hxr := he x (by rw [ho]; simp [Op.operands])
 have hyr := he y (by rw [ho]; simp [Op.operands])
 rw [hx] at hxr
 rw [hy] at hyr
 simp only [Rep] at hxr hyr
 refine ⟨.int kk r,?_,by simp only [Rep]⟩
 have h2 : (eqGuard bop t x y (.int kk a) (.int k2 b)).run P w = .ok () w := by
  cases bop <;> first | (exact absurd hq (by decide)) | simp [eqGuard]
 simp only [execOp,ho,hxr,hyr,Sem.run_bind,h2,Result.andThen_ok,hr w]
 rfl
theorem run_shl {t : TypeId} {kk k2 : IntKind} {a b r : Int} (h : shlI kk a b = some r) (w : World) : (binOp .shl t (.int kk a) (.int k2 b)).run P w = .ok (.int kk r) w := by
 obtain ⟨hb,rfl⟩ := shlI_some h
 have hb' : ¬ b < 0 := by omega
 simp only [binOp,Op.shift,zy hb']
 rfl
theorem run_shr {t : TypeId} {kk k2 : IntKind} {a b : Int} (hb : 0 ≤ b) {m : Nat} (hm : min b.toNat kk.bits = m) (w : World) : (binOp .shr t (.int kk a) (.int k2 b)).run P w = .ok (.int kk (a.fdiv (2 ^ m))) w := by
 subst hm
 have hb' : ¬ b < 0 := by omega
 simp only [binOp,Op.shift,zy hb']
 rfl
theorem run_xor {t : TypeId} {kk : IntKind} {a b : Int} (w : World) : (binOp .xor t (.int kk a) (.int kk b)).run P w = .ok (.int kk (ip kk a b)) w := by
 simp only [binOp,Op.intBits,ne_eq,not_true_eq_false,if_false]
 rfl
theorem run_and {t : TypeId} {kk : IntKind} {a b : Int} (w : World) : (binOp .and t (.int kk a) (.int kk b)).run P w = .ok (.int kk (andI kk a b)) w := by
 simp only [binOp,Op.intBits,ne_eq,not_true_eq_false,if_false]
 rfl
theorem Ao.shl (hg : aN ops s o = some true) {t t' : TypeId} {x y : Operand} (ho : o.op = .binOp .shl t x y t') {kk k2 : IntKind} {a b r : Int} (hx : evS s x = .val (.int kk a)) (hy : evS s y = .val (.int k2 b)) (hr : shlI kk a b = some r)
  (hp : putD n s o.dst (.val (.int kk r)) = some s') (h : Ao P ops rest ⟨n,s',bx,ob⟩ K) : Ao P ops (o :: rest) ⟨n,s,bx,ob⟩ K := nw hg (nY ho hx hy rfl (run_shl hr)) hp h
theorem Ao.and (hg : aN ops s o = some true) {t t' : TypeId} {x y : Operand} (ho : o.op = .binOp .and t x y t') {kk : IntKind} {a b : Int} (hx : evS s x = .val (.int kk a)) (hy : evS s y = .val (.int kk b))
  (hp : putD n s o.dst (.val (.int kk (andI kk a b))) = some s') (h : Ao P ops rest ⟨n,s',bx,ob⟩ K) : Ao P ops (o :: rest) ⟨n,s,bx,ob⟩ K := nw hg (nY ho hx hy rfl run_and) hp h
theorem sK (ho : ops[k]? = some o) (hg : aN ops s o = some true) {t t' : TypeId} {x y : Operand} (hop : o.op = .binOp .shl t x y t') {kk k2 : IntKind} {a b r : Int} (hx : evS s x = .val (.int kk a)) (hy : evS s y = .val (.int k2 b)) (hr : shlI kk a b = some r)
  (hp : putD n s o.dst (.val (.int kk r)) = some s') (h : Do P T rb ops L ⟨n,s',bx,ob⟩ K) : Do P T rb ops (k :: L) ⟨n,s,bx,ob⟩ K := mc ho hg (by rw [hop]; rfl) (fun _=>nY hop hx hy rfl (run_shl hr)) hp h
theorem Do.shr (ho : ops[k]? = some o) (hg : aN ops s o = some true) {t t' : TypeId} {x y : Operand} (hop : o.op = .binOp .shr t x y t') {kk k2 : IntKind} {a b : Int} (hx : evS s x = .val (.int kk a)) (hy : evS s y = .val (.int k2 b)) (hb : 0 ≤ b) {m : Nat} (hm : min b.toNat kk.bits = m)
  (hp : putD n s o.dst (.val (.int kk (a.fdiv (2 ^ m)))) = some s') (h : Do P T rb ops L ⟨n,s',bx,ob⟩ K) : Do P T rb ops (k :: L) ⟨n,s,bx,ob⟩ K := mc ho hg (by rw [hop]; rfl) (fun _=>nY hop hx hy rfl (run_shr hb hm)) hp h
theorem sg (ho : ops[k]? = some o) (hg : aN ops s o = some true) {t t' : TypeId} {x y : Operand} (hop : o.op = .binOp .xor t x y t') {kk : IntKind} {a b : Int} (hx : evS s x = .val (.int kk a)) (hy : evS s y = .val (.int kk b))
  (hp : putD n s o.dst (.val (.int kk (ip kk a b))) = some s') (h : Do P T rb ops L ⟨n,s',bx,ob⟩ K) : Do P T rb ops (k :: L) ⟨n,s,bx,ob⟩ K := mc ho hg (by rw [hop]; rfl) (fun _=>nY hop hx hy rfl run_xor) hp h
theorem detS_idxS (hT : T.Ok P) {o : Oper} {ev : Operand → PV} {H : Heap} {t : TypeId} {x i : Operand} (ho : o.op = .indexAddr t x i) {ti ei : TInfo} {e : TypeId} (hti : T.get t = some ti) (hd : ti.desc = .slice e) (hei : T.get e = some ei)
  (tag : Nat) {g : OwnRef} {z l h m : Nat} (hx : ev x = .val (g.sub z l h m)) (hz : z = ei.size) {k : IntKind} {j : Int} (hi : ev i = .val (.int k j)) (hj : 0 ≤ j ∧ l + j.toNat < h) (hm : h ≤ m) (hb : ∃ b,g.blk = some b) : DetS P o ev H (.optr tag g ei.size (l + j.toNat) 0) := by
 subst hz
 intro C M a w _ he
 have hxr := he x (by rw [ho]; simp [Op.operands])
 have hir := he i (by rw [ho]; simp [Op.operands])
 rw [hx] at hxr
 rw [hi] at hir
 simp only [Rep] at hxr hir
 obtain ⟨b,hb⟩ := hb
 have hu := (hT.get hti).rund w
 rw [hd] at hu
 have hsz := (hT.get hei).rsize w
 have h2 : j < ((h - l : Nat) : Int) := by omega
 have hml : ¬ m = l := by omega
 refine ⟨.pointer (some ⟨b,(l + j.toNat) * ei.size,none⟩),?_,?_⟩
 ·simp [execOp,ho,Instr.indexAt,hir,hxr,OwnRef.sub,hb,hml,asIntOf,hu,hj.1,h2,hsz,fh,Nat.add_mul]
 ·simp only [Rep]
  exact ⟨trivial,b,hb,by simp⟩
theorem Ao.idxV (hT : T.Ok P) (hg : aN ops s o = some true) {t : TypeId} {x i : Operand} (ho : o.op = .indexAddr t x i) {ti ei : TInfo} {e : TypeId} (hti : T.get t = some ti) (hd : ti.desc = .slice e) (hei : T.get e = some ei)
  (tag : Nat) {g : OwnRef} {z l h m : Nat} (hx : evS s x = .val (g.sub z l h m)) (hz : z = ei.size) {kk : IntKind} {j : Int} (hi : evS s i = .val (.int kk j)) (hj : 0 ≤ j ∧ l + j.toNat < h) (hm : h ≤ m) (hb : ∃ b,g.blk = some b) (hp : putD n s o.dst (.optr tag g ei.size (l + j.toNat) 0) = some s') (hr : Ao P ops rest ⟨n,s',bx,ob⟩ K) :
  Ao P ops (o :: rest) ⟨n,s,bx,ob⟩ K := nw hg (detS_idxS hT ho hti hd hei tag hx hz hi hj hm hb) hp hr
theorem sn (hT : T.Ok P) (ho : ops[k]? = some o) (hg : aN ops s o = some true) {t : TypeId} {x i : Operand} (hop : o.op = .indexAddr t x i) {ti ei : TInfo} {e : TypeId} (hti : T.get t = some ti) (hd : ti.desc = .slice e) (hei : T.get e = some ei)
  (tag : Nat) {g : OwnRef} {z l h m : Nat} (hx : evS s x = .val (g.sub z l h m)) (hz : z = ei.size) {kk : IntKind} {j : Int} (hi : evS s i = .val (.int kk j)) (hj : 0 ≤ j ∧ l + j.toNat < h) (hm : h ≤ m) (hb : ∃ b,g.blk = some b) (hp : putD n s o.dst (.optr tag g ei.size (l + j.toNat) 0) = some s') (hr : Do P T rb ops L ⟨n,s',bx,ob⟩ K) :
  Do P T rb ops (k :: L) ⟨n,s,bx,ob⟩ K := mc ho hg (by rw [hop]; rfl) (fun _=>detS_idxS hT hop hti hd hei tag hx hz hi hj hm hb) hp hr
theorem Ao.lenV (hT : T.Ok P) (hg : aN ops s o = some true) {x : Operand} {t : TypeId} {ts : List TypeId} (ho : o.op = .call { callee := .builtin .len,args := #[x],argTypes := (t :: ts).toArray }) {ti : TInfo} {e : TypeId} (hti : T.get t = some ti) (hd : ti.desc = .slice e) {g : OwnRef} {z l h m : Nat}
  (hx : evS s x = .val (g.sub z l h m)) (hp : putD n s o.dst (.val (.int .i64 ((h - l : Nat) : Int))) = some s') (hr : Ao P ops rest ⟨n,s',bx,ob⟩ K) : Ao P ops (o :: rest) ⟨n,s,bx,ob⟩ K := by
 refine fj hg (fun C M a w next Q hi he hn=>?_)
 have hxr := he x (by rw [ho]; simp [Op.operands,Call.operands])
 rw [show (⟨n,s,bx,ob⟩ : PState).s = s from rfl,hx] at hxr
 simp only [Rep] at hxr
 have hu := (hT.get hti).und
 rw [hd] at hu
 have hrun : (execOp a.eval o).run P w = .ok (.value (.int .i64 ((h - l : Nat) : Int))) w := by
  simp only [execOp,ho,resolve,Sem.run_bind,Sem.run_pure,Result.andThen_ok,invoke,builtin,List.map_toArray,List.map_cons,List.map_nil,hxr,OwnRef.sub]
  simp [Builtin.len_,run_underlying hu,goInt]
 unfold Oper.wp
 rw [hrun]
 exact hn _ _ ⟨bx,ob⟩ M w ⟨s',hp,hr⟩ (Mem.le_refl M) hi (by simp only [Rep])
def getS {α : Type} (xs : List α) (l h : Nat) (j : Int) : Option α := if 0 ≤ j ∧ l + j.toNat < h then xs[l + j.toNat]? else none
theorem getSE {α β : Type} {xs : List α} {l h : Nat} {j : Int} {k : α → Option β} {r : β} (H : ae (getS xs l h j) k = some r) : ∃ a,((0 ≤ j ∧ l + j.toNat < h) ∧ xs[l + j.toNat]? = some a) ∧ k a = some r := by
 obtain ⟨a,h1,h2⟩ := am H
 unfold getS at h1
 split at h1
 ·rename_i h0; exact ⟨a,⟨h0,h1⟩,h2⟩
 ·cases h1
theorem rowsGetN {α : Type} {f f' : α → List PV} (hE : ∀ x,f x = f' x) {xs : List α} {j : Nat} {x : α} (h : xs[j]? = some x) : (xs.map f)[j]? = some (f' x) := by
 rw [List.getElem?_map,h,Option.map_some,hE]
end
section
variable {P : Program} {T : TT} {ops : Array Oper} {rest : List Oper} {o : Oper} {n : Nat} {s s' : Nat → PV} {bx : Nat → Option Box} {ob : Nat → Option Obj} {K : PState → Prop} {rb : RB} {L : List Nat} {k : Nat}
theorem Gh.nilB (hT : T.Ok P) (tag : Nat) {e : TypeId} {ei : TInfo} (hei : T.get e = some ei) : Gh P ⟨n,s,bx,ob⟩ ⟨n,s,bx,upd ob tag (some ⟨⟨none,0⟩,e,[],true⟩)⟩ := fun _ M _ _ hi=>⟨M,hi.1,hi.2.nilobj hT tag hei⟩
theorem PLe.nilOwn (P : Program) (tag : Nat) : PLe P (.val (.slice none 0 0)) (.own tag ⟨none,0⟩ 0) := fun M x h=>by
 simp only [Rep] at h ⊢
 exact ⟨trivial,h⟩
end
end
end Go.Ab
