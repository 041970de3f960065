/- procedureRaiseUpto_holds, part 2: the layer, the plain functions and what they compute; conditions as in the statement. -/
import Derived.Test.YteceobbkljmbmaaGreatDoorRaa
set_option maxHeartbeats 4000000
namespace Go.Ab
noncomputable section
open Go.ChangeShapes
mutual
def PV.bulk : PV → Nat
 | .str l=>l.length + 1
 | .list _ rows=>cg rows + 1
 | .agg cs=>aV cs
 | .any=>1
 | .val _=>1
 | .tup _=>1
 | .ptr _=>1
 | .fn _ _=>1
 | .box _ _ _=>1
 | .own _ _ _=>1
 | .optr _ _ _ _ _=>1
 | .err _=>1
def aV : List PV → Nat
 | []=>0
 | p :: ps=>p.bulk + aV ps
def cg : List (List PV) → Nat
 | []=>0
 | r :: rs=>aV r + cg rs
end
theorem lJ : ∀ a b : List PV,aV (a ++ b) = aV a + aV b
 | [],b=>by simp [aV]
 | p :: a,b=>by simp only [List.cons_append,aV,lJ a b]; omega
structure IsBulk (B : (H : Type) → DataW H → Nat) : Prop where
 one : ∀ H d,1 ≤ B H d
 str : ∀ H l,l.length + 1 ≤ B H (.lit (.string l))
 slice : ∀ H (a b : List (DataW H)),(a.map (B H)).sum + 1 ≤ B H (.slice a b)
 agg : ∀ H (a : List (DataW H)),(a.map (B H)).sum ≤ B H (.agg a)
theorem Sh.up {P : Program} : ∀ {n : Nat} {t : TypeId} {pvs : List PV},Sh P n t pvs → Sh P (n + 1) t pvs := by
 intro n
 induction n with
 | zero=>intro t pvs h; simp [Sh] at h
 | succ n ih =>
  intro t pvs h
  rw [Sh] at h ⊢
  split at h
  ·exact h
  ·exact h
  ·exact h
  ·obtain ⟨rows,rfl,hr⟩ := h
   exact ⟨rows,rfl,fun r hq=>ih (hr r hq)⟩
  ·rename_i fs hu
   have key : ∀ (ts : List TypeId) (l : List PV),dV (Sh P n) ts l → dV (Sh P (n + 1)) ts l := by
    intro ts
    induction ts with
    | nil=>intro l h; simp only [dV] at h ⊢; exact h
    | cons t ts iht =>
     intro l h
     simp only [dV] at h ⊢
     obtain ⟨a,b,h1,h2,h3⟩ := h
     exact ⟨a,b,h1,ih h2,iht b h3⟩
   exact key _ _ h
  ·cases h
theorem Sh.cast {P : Program} {n : Nat} {t t' : TypeId} {pvs : List PV} (h : P.underlying t = P.underlying t') (hs : Sh P n t pvs) : Sh P n t' pvs := by
 cases n with
 | zero=>simp [Sh] at hs
 | succ n=>rw [Sh] at hs ⊢; rwa [h] at hs
theorem eX {α : Type} {f : α → List PV} : ∀ {rows : List (List PV)},(∀ r ∈ rows,∃ x,r = f x) → ∃ xs : List α,rows = xs.map f
 | [],_=>⟨[],rfl⟩
 | r :: rs,h=>by
  obtain ⟨x,rfl⟩ := h r (by simp)
  obtain ⟨xs,rfl⟩ := eX (rows := rs) fun q hq=>h q (by simp [hq])
  exact ⟨x :: xs,rfl⟩
theorem rowsUp {α : Type} {f : α → List PV} {P : Program} {n : Nat} {e t : TypeId} (he : P.underlying e = P.underlying t) (ih : ∀ {pvs},Sh P (n + 1) t pvs → ∃ v,pvs = f v) {rows : List (List PV)} (hr : ∀ r ∈ rows,Sh P n e r) : ∃ xs : List α,rows = xs.map f :=
 eX fun r hq=>ih (Sh.up (Sh.cast he (hr r hq)))
def infosB (P : Program) (S : List TypeId) : Bool := S.all fun t=>match P.info? t with
 | some i=>Nat.beq i.bytes (P.bytesOf t) && Nat.beq i.size (P.cellsOf t)
 | none=>false
theorem infos_of {P : Program} {S : List TypeId} (h : infosB P S = true) : ∀ t ∈ S,∃ i,P.info? t = some i ∧ i.bytes = P.bytesOf t ∧ i.size = P.cellsOf t := by
 intro t ht
 have := List.all_eq_true.1 h t ht
 cases hi : P.info? t with
 | none=>rw [hi] at this; cases this
 | some i =>
  rw [hi] at this
  simp only [Bool.and_eq_true] at this
  exact ⟨i,rfl,Nat.eq_of_beq_eq_true this.1,Nat.eq_of_beq_eq_true this.2⟩
section
variable {B : (H : Type) → DataW H → Nat} {H : Type} {enc : TypeId × Value → H} {P : Program} {W : World} {S : List TypeId}
theorem od {n : Nat} (ih : ∀ t ∈ S,∀ (cs : List Value) x,DataW.trod enc P W 0 (fun _=>true) true n t cs = some x → (x.1.weights P t).all (· ≤ reachBytes) = true → ∃ pvs,Sh P n t pvs ∧ au P (gH W) false pvs cs ∧ aV pvs ≤ B H x.1) :
  ∀ (fs : List Field) (o : Nat) (cs : List Value) (xs : List (DataW H × List MemPlace)),laidFs P o fs = true → fs.all (fun f=>S.contains f.type) = true → o + (fs.map fun f=>P.cellsOf f.type).sum = cs.length →
   (fs.mapM fun f=>DataW.trod enc P W 0 (fun _=>true) true n f.type ((cs.drop f.offset).take (P.cellsOf f.type))) = some xs →
   (DataW.weightsEach P (fs.map (·.type)) (xs.map (·.1))).all (· ≤ reachBytes) = true → ∃ pvs,dV (Sh P n) (fs.map (·.type)) pvs ∧ au P (gH W) false pvs (cs.drop o) ∧ aV pvs ≤ ((xs.map (·.1)).map (B H)).sum
 | [],o,cs,xs,_,_,hlen,_,_=>by
  refine ⟨[],by simp [dV],?_,by simp [aV]⟩
  simp only [au]
  exact List.drop_eq_nil_of_le (by simp at hlen; omega)
 | f :: fs,o,cs,xs,hl,hS,hlen,hm,hw=>by
  simp only [laidFs,Bool.and_eq_true] at hl
  simp only [List.all_cons,Bool.and_eq_true] at hS
  simp only [List.map_cons,List.sum_cons] at hlen
  have hoff : f.offset = o := Nat.eq_of_beq_eq_true hl.1
  rw [List.mapM_cons] at hm
  cases hx : DataW.trod enc P W 0 (fun _=>true) true n f.type ((cs.drop f.offset).take (P.cellsOf f.type)) with
  | none=>rw [hx] at hm; cases hm
  | some x =>
   rw [hx] at hm
   cases hr : (fs.mapM fun f=>DataW.trod enc P W 0 (fun _=>true) true n f.type ((cs.drop f.offset).take (P.cellsOf f.type))) with
   | none=>rw [hr] at hm; cases hm
   | some r =>
    rw [hr] at hm
    have hm' : x :: r = xs := Option.some.inj hm
    subst hm'
    simp only [List.map_cons,DataW.weightsEach,List.all_append,Bool.and_eq_true] at hw
    obtain ⟨pa,ha1,ha2,ha3⟩ := ih f.type (by simpa using hS.1) _ x hx hw.1
    obtain ⟨pb,hb1,hb2,hb3⟩ := od ih fs (o + P.cellsOf f.type) cs r hl.2 hS.2 (by omega) hr hw.2
    refine ⟨pa ++ pb,⟨pa,pb,rfl,ha1,hb1⟩,?_,by rw [lJ]; simp only [List.map_cons,List.sum_cons]; omega⟩
    have := ha2.append hb2
    rw [hoff] at this
    have e : (cs.drop o).take (P.cellsOf f.type) ++ cs.drop (o + P.cellsOf f.type) = cs.drop o := by
     rw [← List.drop_drop]; exact List.take_append_drop _ _
    rwa [e] at this
theorem absB_rows {n : Nat} {e : TypeId} (ih : ∀ (cs : List Value) x,DataW.trod enc P W 0 (fun _=>true) true n e cs = some x → (x.1.weights P e).all (· ≤ reachBytes) = true → ∃ pvs,Sh P n e pvs ∧ au P (gH W) false pvs cs ∧ aV pvs ≤ B H x.1)
  {b o c : Nat} : ∀ (elems : List (DataW H × List MemPlace)) (k : Nat),(∀ j,j < elems.length → ((W.cells? 0 ((⟨b,o,none⟩ : Addr).add ((k + j) * c)) c).bind (DataW.trod enc P W 0 (fun _=>true) true n e)) = elems[j]?) →
   (DataW.weightsAll P e (elems.map (·.1))).all (· ≤ reachBytes) = true → ∃ rows : List (List PV),rows.length = elems.length ∧ (∀ r ∈ rows,Sh P n e r) ∧ cd P (gH W) c b (o + k * c) rows ∧ cg rows ≤ ((elems.map (·.1)).map (B H)).sum
 | [],k,_,_=>⟨[],rfl,by simp,by simp [cd],by simp [cg]⟩
 | x :: r,k,hj,hw=>by
  simp only [List.map_cons,DataW.weightsAll,List.all_append,Bool.and_eq_true] at hw
  have h0 := hj 0 (by simp)
  simp only [Nat.add_zero,List.getElem?_cons_zero] at h0
  cases hcs : W.cells? 0 ((⟨b,o,none⟩ : Addr).add (k * c)) c with
  | none=>rw [hcs] at h0; cases h0
  | some cs =>
   rw [hcs] at h0
   simp only [Option.bind_some] at h0
   obtain ⟨pv,hp1,hp2,hp3⟩ := ih cs x h0 hw.1
   obtain ⟨_,hlen,hcell⟩ := World.cells?_some hcs
   obtain ⟨rows,hr1,hr2,hr3,hr4⟩ := absB_rows ih r (k + 1) (fun j hj'=>by
    have := hj (j + 1) (by simpa using hj')
    rw [show k + (j + 1) = k + 1 + j from by omega] at this
    simpa using this) hw.2
   refine ⟨pv :: rows,by simp [hr1],?_,?_,by simp only [cg,List.map_cons,List.sum_cons]; omega⟩
   ·intro q hq
    rcases List.mem_cons.1 hq with rfl | hq
    ·exact hp1
    ·exact hr2 q hq
   ·simp only [cd]
    have hpl : pv.length = c := by rw [← hlen]; exact (hp2.length).symm
    have hone : ∀ y ∈ cs,y.oneCell' = true := au.oneCell hp1.one hp2
    refine ⟨hpl,ck.of_cells hp2 hone fun j hj'=>?_,?_⟩
    ·have := hcell j (by omega)
     rw [← this,dP,dP]
    ·rw [show o + (k + 1) * c = o + k * c + c from by rw [Nat.add_mul]; omega] at hr3
     exact hr3
theorem absB (hB : IsBulk B) (hS : S.all (okT P S) = true) (hinf : ∀ t ∈ S,∃ i,P.info? t = some i ∧ i.bytes = P.bytesOf t ∧ i.size = P.cellsOf t) : ∀ (n : Nat) (t : TypeId),t ∈ S → ∀ (cs : List Value) x,DataW.trod enc P W 0 (fun _=>true) true n t cs = some x →
  (x.1.weights P t).all (· ≤ reachBytes) = true → ∃ pvs,Sh P n t pvs ∧ au P (gH W) false pvs cs ∧ aV pvs ≤ B H x.1 := by
 intro n
 induction n with
 | zero=>intro t _ cs x h; simp [DataW.trod] at h
 | succ n ih =>
  intro t ht cs x h hw
  have hok := List.all_eq_true.1 hS t ht
  unfold okT at hok
  simp only [Sh]
  split at hok
  ·rename_i hu
   obtain ⟨b,rfl⟩ := trod_bool_some hu h
   exact ⟨_,⟨b,rfl⟩,by simp [au,Rep],by simp only [aV,PV.bulk]; exact hB.one _ _⟩
  ·rename_i k hu
   obtain ⟨m,rfl,hm⟩ := trod_int_some hu h
   exact ⟨_,⟨m,rfl,hm⟩,by simp [au,Rep],by simp only [aV,PV.bulk]; exact hB.one _ _⟩
  ·rename_i hu
   obtain ⟨s,rfl,hx⟩ := trod_str_some hu h
   rw [hx] at hw
   simp only [DataW.weights,List.all_cons,List.all_nil,Bool.and_true,decide_eq_true_eq] at hw
   have hle : s.data.toList.length ≤ 2 ^ 47 := Nat.le_trans hw (by unfold reachBytes; omega)
   refine ⟨_,⟨s.data.toList,rfl,hle⟩,?_,by simp only [aV,PV.bulk]; rw [hx]; exact hB.str _ _⟩
   simp only [au,Rep]
   exact ⟨_,[],rfl,⟨by simp,Nat.le_trans hle (by unfold hM; omega)⟩,rfl⟩
  ·rename_i e hu
   simp only [Bool.and_eq_true] at hok
   have he : e ∈ S := by simpa using hok.1
   obtain ⟨i,hi1,hi2,hi3⟩ := hinf e he
   rcases ot hu h with ⟨rfl,rfl⟩ | ⟨a,len,cap,elems,rest,rfl,hlc,hcm,hel,hre,hx⟩
   ·refine ⟨_,⟨[],rfl,by simp⟩,?_,by simp only [aV,PV.bulk,cg]; exact hB.one _ _⟩
    simp only [au,Rep]
    exact ⟨_,[],rfl,⟨none,0,i,rfl,by simp,by simp,hi1,by simp,by simp⟩,rfl⟩
   ·have hlen : elems.length = len := by simpa using mapM_some_length hel
    have hrlen : rest.length = cap - len := by simpa using mapM_some_length hre
    rw [hx] at hw
    simp only [DataW.weights,hu,List.all_cons,List.all_append,zl,Bool.and_eq_true,decide_eq_true_eq] at hw
    have hpos : 0 < P.cellsOf e := by simpa [Nat.blt_eq] using hok.2
    have hget : ∀ j,j < elems.length → (W.cells? 0 (a.add (j * P.cellsOf e)) (P.cellsOf e)).bind (DataW.trod enc P W 0 (fun _=>true) true n e) = elems[j]? := fun j hj=>mapM_some_get hel j j (List.getElem?_range (by omega))
    have hsp : elems ≠ [] → a.spot = none := fun hne=>by
     have h0 := hget 0 (List.length_pos_iff.2 hne)
     rw [Nat.zero_mul] at h0
     cases hcs : W.cells? 0 (a.add 0) (P.cellsOf e) with
     | none=>rw [hcs] at h0; cases elems with
      | nil=>exact absurd rfl hne
      | cons _ _=>cases h0
     | some cs =>
      obtain ⟨_,hl,hc⟩ := World.cells?_some hcs
      have := hc 0 hpos
      cases hs : a.spot with
      | none=>rfl
      | some q =>
       have h1 : W.cell? ((a.add 0).add 0) = none := by
        simp only [World.cell?,Addr.add,hs,if_true]
        split <;> simp
       rw [h1] at this
       have := List.getElem?_eq_none_iff.1 this.symm
       omega
    have hby : len * i.bytes ≤ 2 ^ 47 := by
     have h1 := hw.1
     rw [hi2]
     have : len * P.bytesOf e ≤ (elems.length + rest.length) * P.bytesOf e := Nat.mul_le_mul_right _ (by omega)
     unfold reachBytes at h1
     omega
    by_cases hne : elems = []
    ·subst hne
     refine ⟨_,⟨[],rfl,by simp⟩,?_,by simp only [aV,PV.bulk,cg]; exact hB.one _ _⟩
     simp only [List.length_nil] at hlen
     subst hlen
     simp only [au,Rep]
     exact ⟨_,[],rfl,⟨some a,cap,i,rfl,by simp,hcm,hi1,by simp,by simp⟩,rfl⟩
    ·obtain ⟨b,o,sp⟩ := a
     have := hsp hne
     simp only at this
     subst this
     obtain ⟨rows,hr1,hr2,hr3,hr4⟩ := absB_rows (B := B) (fun cs x hx hw=>ih e he cs x hx hw) elems 0 (fun j hj=>by rw [Nat.zero_add]; exact hget j hj) hw.2.1
     refine ⟨_,⟨rows,rfl,hr2⟩,?_,by simp only [aV,PV.bulk]; rw [hx]; exact Nat.le_trans (by omega) (hB.slice _ _ _)⟩
     simp only [au,Rep]
     have hrl : rows.length = len := by omega
     rw [hrl]
     refine ⟨_,[],rfl,⟨some ⟨b,o,none⟩,cap,i,rfl,hlc,hcm,hi1,hby,fun _=>⟨b,o,rfl,?_⟩⟩,rfl⟩
     rw [hi3]
     simpa using hr3
  ·rename_i fs hu
   simp only [Bool.and_eq_true] at hok
   obtain ⟨hl,xs,hm,hx⟩ := oe hu h
   rw [hx] at hw
   simp only [DataW.weights,hu] at hw
   have hsum := Nat.eq_of_beq_eq_true hok.2
   obtain ⟨pvs,h1,h2,h3⟩ := od (B := B) ih fs.toList 0 cs xs hok.1.1 hok.1.2 (by rw [hsum,hl]; omega) hm hw
   exact ⟨pvs,h1,by simpa using h2,by rw [hx]; exact Nat.le_trans h3 (hB.agg _ _)⟩
  ·cases hok
omit enc W S in
theorem argPV_bulk (hB : IsBulk B) (t : TypeId) (pvs : List PV) : (fT P t pvs).bulk ≤ max (aV pvs) 1 := by
 have _ := hB
 unfold fT
 split
 ·simp only [PV.bulk]; omega
 ·cases pvs with
  | nil=>simp [PV.bulk,aV]
  | cons p ps=>simp only [List.headD_cons,aV]; omega
theorem absB_val (hB : IsBulk B) (hS : S.all (okT P S) = true) (hinf : ∀ t ∈ S,∃ i,P.info? t = some i ∧ i.bytes = P.bytesOf t ∧ i.size = P.cellsOf t) {base : Nat} {t : TypeId} (ht : t ∈ S) {v : Value} {d : DataW H} {ps : List MemPlace}
  (hv : Value.okWide P W .any base t v) (h : DataW.Trod enc P W 0 (fun _=>true) true t v d ps) (hw : (d.weights P t).all (· ≤ reachBytes) = true) : ∃ n pvs,Sh P n t pvs ∧ Rep P (gH W) true (fT P t pvs) v ∧ (fT P t pvs).bulk ≤ B H d := by
 obtain ⟨n,hn⟩ := h
 obtain ⟨pvs,h1,h2,hb⟩ := absB hB hS hinf n t ht _ (d,ps) hn hw
 refine ⟨n,pvs,h1,?_,Nat.le_trans (argPV_bulk hB t pvs) (Nat.max_le.2 ⟨hb,hB.one _ _⟩)⟩
 have h2' := au.slot h2
 have hok := List.all_eq_true.1 hS t ht
 unfold okT at hok
 unfold fT
 have one : v.cells = #[v] → Rep P (gH W) true (pvs.headD .any) v := by
  intro e
  rw [e] at h2'
  cases pvs with
  | nil=>simp [au] at h2'
  | cons p ps =>
   simp only [au] at h2'
   obtain ⟨x,xs,hx,hp,_⟩ := h2'
   simp only [List.cons.injEq] at hx
   rw [hx.1]
   exact hp
 cases hu : P.underlying t with
 | none=>rw [hu] at hok; cases hok
 | some td =>
  rw [hu] at hok
  cases td <;> first | (simp only [Bool.false_eq_true] at hok; done) | skip
  case bool=>obtain ⟨b,rfl⟩ := WideShapes.okWide_bool hu hv; exact one rfl
  case int k=>obtain ⟨m,rfl⟩ := WideShapes.okWide_int hu hv; exact one rfl
  case string=>obtain ⟨s,rfl⟩ := WideShapes.okWide_string hu hv; exact one rfl
  case slice e=>obtain ⟨a,len,cap,rfl⟩ := WideShapes.okWide_slice hu hv; exact one rfl
  case struct fs =>
   obtain ⟨cs,rfl,_⟩ := WideShapes.okWide_struct hu hv
   simp only [Rep]
   exact ⟨cs,rfl,h2'⟩
theorem absB_args (hB : IsBulk B) (hS : S.all (okT P S) = true) (hinf : ∀ t ∈ S,∃ i,P.info? t = some i ∧ i.bytes = P.bytesOf t ∧ i.size = P.cellsOf t) {base : Nat} : ∀ {ts : List TypeId} {vs : List Value} {ds : List (DataW H)} {ps : List MemPlace},(∀ t ∈ ts,t ∈ S) →
  (∀ (j : Nat) t v,ts[j]? = some t → vs[j]? = some v → Value.okWide P W .any base t v) → DataW.TrodAll enc P W 0 (fun _=>true) true ts vs ds ps → (DataW.weightsEach P ts ds).all (· ≤ reachBytes) = true →
  ∃ av0,ArgsSh P ts av0 ∧ au P (gH W) true av0 vs ∧ aV av0 ≤ (ds.map (B H)).sum
 | [],_,_,_,_,_,h,_=>by
  obtain ⟨rfl,rfl,rfl⟩ := trodAll_nil h
  exact ⟨[],rfl,by simp [au],by simp [aV]⟩
 | t :: ts,_,_,_,hm,hv,h,hw=>by
  obtain ⟨v,vs,d,ds,p,q,rfl,rfl,rfl,h1,h2⟩ := trodAll_cons h
  simp only [DataW.weightsEach,List.all_append,Bool.and_eq_true] at hw
  obtain ⟨n,pvs,a1,a2,a3⟩ := absB_val hB hS hinf (hm t (by simp)) (hv 0 t v rfl rfl) h1 hw.1
  obtain ⟨av0,b1,b2,b3⟩ := absB_args hB hS hinf (fun t ht=>hm t (by simp [ht])) (fun j t v ht hv'=>hv (j + 1) t v (by simpa using ht) (by simpa using hv')) h2 hw.2
  refine ⟨fT P t pvs :: av0,⟨n,pvs,av0,rfl,a1,b1⟩,?_,by simp only [aV,List.map_cons,List.sum_cons]; omega⟩
  simp only [au]
  exact ⟨v,vs,rfl,a2,b2⟩
theorem law_callsB {N : Nat} (hB : IsBulk B) (hl : laidOutB P = true) {f : FuncId} {fn : Func} {s : ChangeSpec} {fresh handsOn again : Bool} {tb : TypeId} (hvars : s.vars = []) (hr : ∀ t ∈ fn.params.toList,P.readableRec t = true ∧ t < P.types.size) (hres : fn.resultTypes = #[tb]) (htb : P.underlying tb = some .bool)
  (hfn : ∀ ds : List (DataW H),ds.length = fn.params.toList.length → s.fn H ds = { results := [.lit (.bool true)],args := ds })
  (hS : S.all (okT P S) = true) (hinf : ∀ t ∈ S,∃ i,P.info? t = some i ∧ i.bytes = P.bytesOf t ∧ i.size = P.cellsOf t) (hm : ∀ t ∈ fn.params.toList,t ∈ S)
  (hspec : ∀ av0,ArgsSh P fn.params.toList av0 → aV av0 ≤ N → aH P f av0 (.val (.bool true)))
  {base : Nat} {args : Array Value} {ds gs : List (DataW H)} {before : List MemPlace} (hval : ∀ (j : Nat) t v,fn.params[j]? = some t → args[j]? = some v → Value.okWide P W .any base t v)
  (hW : DataW.Whole enc P fn.params.toList s.vars false W args.toList ds gs before) (hg : Gl W []) (hsz : (DataW.weightsEach P (fn.params.toList ++ s.plain.varTypes P) (ds ++ gs)).all (· ≤ reachBytes) = true) (hN : ((ds ++ gs).map (B H)).sum ≤ N) :
  Calls P f args W fun e W'=>∃ v,e = .returned v ∧ s.post enc P fn false fresh handsOn again W args v W' := by
 have hlt := hW.lt
 have hW' := hW
 obtain ⟨p,q,hA,hV,rfl,hz,hn⟩ := hW
 have hV' := hV
 rw [hvars] at hV
 obtain ⟨rfl,rfl⟩ := trodVars_none hV
 have hvt : s.plain.varTypes P = [] := by simp [DataSpec.varTypes,ChangeSpec.plain,hvars]
 rw [hvt,List.append_nil,List.append_nil] at hsz
 rw [List.append_nil] at hN
 have hlen : ds.length = fn.params.toList.length := nY hA
 obtain ⟨av0,h1,h2,h3⟩ := absB_args hB hS hinf hm (fun j t v ht hv=>hval j t v (by simpa using ht) (by simpa using hv)) hA hsz
 refine (hspec av0 h1 (Nat.le_trans h3 hN) W (gH W) [] hg args (InvH.start W hg) h2).mono ?_
 rintro e W' ⟨v,u,H',M',rfl,⟨rfl,rfl⟩,hi,hrep⟩
 simp only [Rep] at hrep
 subst hrep
 have hb := hi.below
 refine ⟨_,rfl,?_⟩
 have hfn' : s.fn H (ds ++ []) = { results := [.lit (.bool true)],args := ds } := by rw [List.append_nil]; exact hfn ds hlen
 have hargs : ∀ sp : Nat → Bool,(∀ x ∈ p ++ [],sp x.block = true) → DataW.TrodAll enc P W' 0 sp true fn.params.toList args.toList ds p := fun sp hsp =>
  mK hl hb hr hA (fun x hx=>hlt x (by simp [hx])) (fun x hx=>hsp x (by simp [hx]))
 have hres' : ∀ (b : Nat) (sp : Nat → Bool) (hd : Bool),DataW.TrodAll enc P W' b sp hd fn.resultTypes.toList ((Value.bool true).resultList fn.resultTypes.size) [.lit (.bool true)] [] := by
  intro b sp hd
  rw [hres]
  refine trodAll_mk1 ⟨1,?_⟩
  show DataW.trod enc P W' b sp hd 1 tb [.bool true] = _
  unfold DataW.trod
  rw [htb]
 have hvs : ∀ sp : Nat → Bool,DataW.TrodVars enc P W' sp s.vars ([] : List (DataW H)) [] := fun sp=>by rw [hvars]; simp [DataW.TrodVars]
 have hold : ∀ x ∈ p ++ [],(fun b=>decide (b < W.heap.size)) x.block = true := fun x hx=>by simpa using hlt x hx
 refine ⟨ds,[],p ++ [],[],p,[],hW',?_,?_,?_,hb.frame _,fun _=>⟨RowKit.ok_one hres rfl (RowKit.okWide_bool_mk htb true),[.lit (.bool true)] ++ ds,[],([] ++ p) ++ [],⟨[] ++ p,[],?_,hvs _,rfl,?_,fun h=>by cases h⟩,?_⟩⟩
 ·rw [hfn']; exact hres' _ _ _
 ·rw [hfn']; exact hargs _ hold
 ·rw [hfn']; exact hvs _
 ·exact trodAll_append (hargs _ fun _ _=>rfl) (hres' _ _ _)
 ·intro b off hx
  have hx' : MemPlace.cell b off ∈ p ++ [] := by simpa using hx
  rw [hb.frozen (hlt _ hx')]
  exact hz b off hx'
 ·intro x hx _
  simpa using hx
end
end
end Go.Ab

namespace Go.Ab
noncomputable section
open Go
theorem joined_of {P : Program} {f : FuncId} {fn : Func} {s : ChangeSpec} {c : OpenClaim}
  (h_wf : (c.wf (OpenSpec.ofChange s)) = true)
  (h_laid : (laidOutB P) = true)
  (h_mapsRowed : (mapsRowed P) = true)
  (h_rr : (fn.params.all (P.readableRec ·)) = true)
  (h_nt : (namedTie P c.named s.vars) = true)
  (h_st : ((c.stops == []) && (P.stops == []) && (c.knobs == []) && (P.stopKnobs == [])) = true)
  (h_inPlace : (c.inPlace == P.inPlace f) = true)
  (h_unf : (c.unfollowed == P.unfollowed f) = true)
  (h_rec : (c.recurses == P.recurses f) = true)
  (h_named : (c.named == P.varsNamed f) = true)
  (h_maps : ((c.maps == (fn.params.toList ++ s.plain.varTypes P).any (P.mapsRec ·)) && (c.ifaces == (fn.params.toList ++ s.plain.varTypes P).any (P.ifacesRec ·)) && (c.mapsOut == P.mapsAmong fn.resultTypes.toList)) = true)
  (h_loops : ((c.loops == (fn.params.toList ++ s.plain.varTypes P).any (P.loopsFrom ·))) = true)
  (h_wide : ((c.wideKeys == (fn.params.toList ++ s.plain.varTypes P ++ fn.resultTypes.toList).any (P.wideKeysFrom ·))) = true)
  (h_rest1 : (s.vars.all (P.varReadable ·) && fn.resultTypes.all (fun t=>P.readableRec t && decide (t < P.types.size)) && (c.ifacesOut == fn.resultTypes.toList.any (P.ifacesRec ·)) && (c.loopsOut == fn.resultTypes.toList.any (P.loopsFrom ·))) = true)
  (h_plainKeys : (c.plainKeys == P.plainKeys) = true)
  (h_rest2 : (c.shortTexts.isNone && P.stopsHeard && P.mayEnter && (c.lifted == P.liftsFinal) && (P.make == some c.make)) = true)
  (h_kinds : ((c.kinds == (if c.domain.isEmpty then [] else fn.params.toList.map fun t=>match P.underlying t with | some (.int k)=>some k | _=>none)) && (c.pinned == c.pinnedBy)) = true)
  (h_veil : ((c.veiled == (fn.params.toList ++ s.plain.varTypes P ++ fn.resultTypes.toList).any (P.veiledRec ·)) && c.veiledFits P fn.params.toList (fn.params.toList ++ s.plain.varTypes P ++ fn.resultTypes.toList)) = true)
  : joinedFacts P f fn s c = true := by
 simp only [Bool.and_eq_true] at h_st h_maps h_rest1 h_rest2 h_kinds h_veil
 simp only [joinedFacts,Bool.and_eq_true]
 exact ⟨⟨⟨⟨⟨⟨⟨⟨⟨⟨⟨⟨⟨⟨⟨⟨⟨⟨⟨⟨⟨⟨⟨⟨⟨⟨⟨⟨⟨⟨⟨h_wf,h_laid⟩,h_mapsRowed⟩,h_rr⟩,h_nt⟩,h_st.1.1.1⟩,h_st.1.1.2⟩,h_st.1.2⟩,h_st.2⟩,h_inPlace⟩,h_unf⟩,h_rec⟩,h_named⟩,h_maps.1.1⟩,h_maps.1.2⟩,h_maps.2⟩,h_loops⟩,h_wide⟩,h_rest1.1.1.1⟩,h_rest1.1.1.2⟩,h_rest1.1.2⟩,h_rest1.2⟩,h_plainKeys⟩,h_rest2.1.1.1.1⟩,h_rest2.1.1.1.2⟩,h_rest2.1.1.2⟩,h_rest2.1.2⟩,h_rest2.2⟩,h_kinds.1⟩,h_kinds.2⟩,h_veil.1⟩,h_veil.2⟩
end
end Go.Ab

namespace Go.Ab
noncomputable section
section
variable {P : Program} {ops : Array Oper} {rest : List Oper} {o : Oper} {n : Nat} {s s' : Nat → PV} {bx : Nat → Option Box} {ob : Nat → Option Obj} {K : PState → Prop} {T : TT}
abbrev ig (xs : List UInt8) : List (List PV) := xs.map fun c=>[.val (.int .u8 c.toNat)]
end
def af {α β : Type} (o : Option α) (k : α → Option β) : Option β := match o with
 | some a=>k a
 | none=>none
def letP {α β : Type} (a : α) (k : α → β) : β := k a
inductive Flow (σ ρ : Type) where
 | next (s : σ)
 | brk (s : σ)
 | ret (r : ρ)
def Flow.thenR {σ ρ : Type} (fl : Flow σ ρ) (k : σ → Option ρ) : Option ρ := match fl with
 | .next s=>k s
 | .brk s=>k s
 | .ret r=>some r
def Flow.thenF {σ τ ρ : Type} (fl : Flow σ ρ) (k : σ → Option (Flow τ ρ)) : Option (Flow τ ρ) := match fl with
 | .next s=>k s
 | .brk s=>k s
 | .ret r=>some (.ret r)
def aF {α σ ρ : Type} (step : Nat → α → σ → Option (Flow σ ρ)) : Nat → List α → σ → Option (Flow σ ρ)
 | _,[],s=>some (.next s)
 | j,x :: xs,s=>match step j x s with
  | none=>none
  | some (.next s')=>aF step (j + 1) xs s'
  | some (.brk s')=>some (.next s')
  | some (.ret r)=>some (.ret r)
def fL {σ ρ : Type} (step : σ → Option (Flow σ ρ)) : Nat → σ → Option (Flow σ ρ)
 | 0,_=>none
 | n + 1,s=>match step s with
  | none=>none
  | some (.next s')=>fL step n s'
  | some (.brk s')=>some (.next s')
  | some (.ret r)=>some (.ret r)
open Classical in
def hP {σ ρ : Type} (step : σ → Option (Flow σ ρ)) (s : σ) : Option (Flow σ ρ) :=
 if h : ∃ r,∃ n,fL step n s = some r then some h.choose else none
theorem iterM_le {σ ρ : Type} {step : σ → Option (Flow σ ρ)} : ∀ {n m : Nat} {s : σ} {r : Flow σ ρ},fL step n s = some r → n ≤ m → fL step m s = some r
 | 0,_,_,_,h,_=>by simp [fL] at h
 | n + 1,0,_,_,_,hm=>by omega
 | n + 1,m + 1,s,r,h,hm=>by
  simp only [fL] at h ⊢
  split at h
  ·cases h
  ·exact iterM_le h (by omega)
  ·exact h
  ·exact h
theorem whileM_iff {σ ρ : Type} {step : σ → Option (Flow σ ρ)} {s : σ} {r : Flow σ ρ} : hP step s = some r ↔ ∃ n,fL step n s = some r := by
 unfold hP
 constructor
 ·intro h
  split at h
  ·rename_i hx
   obtain ⟨n,hn⟩ := hx.choose_spec
   exact ⟨n,by rw [hn]; exact h⟩
  ·cases h
 ·rintro ⟨n,hn⟩
  have hx : ∃ r,∃ n,fL step n s = some r := ⟨r,n,hn⟩
  rw [dif_pos hx]
  obtain ⟨m,hm⟩ := hx.choose_spec
  have h1 := iterM_le hn (Nat.le_max_left n m)
  have h2 := iterM_le hm (Nat.le_max_right n m)
  rw [h1] at h2
  exact h2.symm
theorem iy {σ ρ : Type} {step : σ → Option (Flow σ ρ)} {s : σ} {fl r : Flow σ ρ} (h : step s = some fl) (hr : match fl with | .next s'=>hP step s' = some r | .brk s'=>r = .next s' | .ret x=>r = .ret x) : hP step s = some r := by
 rw [whileM_iff]
 cases fl with
 | next s' =>
  obtain ⟨n,hn⟩ := whileM_iff.1 hr
  exact ⟨n + 1,by simp only [fL,h,hn]⟩
 | brk s'=>exact ⟨1,by simp only [fL,h,hr]⟩
 | ret x=>exact ⟨1,by simp only [fL,h,hr]⟩
theorem ay {α β : Type} {o : Option α} {k : α → Option β} {r : β} (h : af o k = some r) : ∃ a,o = some a ∧ k a = some r := by
 cases o with
 | none=>cases h
 | some a=>exact ⟨a,rfl,h⟩
theorem eh {α β : Type} {a : α} {k : α → β} {r : β} (h : letP a k = r) : ∃ x,a = x ∧ k x = r := ⟨a,rfl,h⟩
theorem condT {α : Type} {c : Bool} {A B r : α} (h : c = true) (H : cond c A B = r) : A = r := by subst h; exact H
theorem condF {α : Type} {c : Bool} {A B r : α} (h : c = false) (H : cond c A B = r) : B = r := by subst h; exact H
theorem aA {P : Program} {fn : Func} {R : PV → Heap → Prop} {k : List KI} {st : PState} {c : Operand} {x y : Code} {b : Bool} (hc : evS st.s c = .val (.bool b)) {α : Type} {A B r : α} (H : (bif b then A else B) = r) (ht : A = r → V P fn R (.code x :: k) st) (hf : B = r → V P fn R (.code y :: k) st) : V P fn R (.code (.cond c x y) :: k) st := cS hc (fun h=>ht (Go.Ab.condT h H)) (fun h=>hf (Go.Ab.condF h H))
theorem aR {P : Program} {ops : Array Oper} {o : Oper} {rest : List Oper} {n : Nat} {s : Nat → PV} {bx : Nat → Option Box} {ob : Nat → Option Obj} {K : PState → Prop} {j : Nat} {want b : Bool} {d : Nat} (hg : o.guard = some (j,want)) (hd : (ops[j]?).bind (·.dst) = some d) (hs : s d = .val (.bool b)) {α : Type} {A B r : α} (H : cond b A B = r)
  (ht : A = r → Ao P ops (o :: rest) ⟨n,upd s d (.val (.bool true)),bx,ob⟩ K) (hf : B = r → Ao P ops (o :: rest) ⟨n,upd s d (.val (.bool false)),bx,ob⟩ K) : Ao P ops (o :: rest) ⟨n,s,bx,ob⟩ K := gI hg hd hs (fun h=>ht (condT h H)) (fun h=>hf (condF h H))
theorem Do.sH {P : Program} {T : TT} {rb : RB} {ops : Array Oper} {o : Oper} {k : Nat} {L : List Nat} {n : Nat} {s : Nat → PV} {bx : Nat → Option Box} {ob : Nat → Option Obj} {K : PState → Prop} {j : Nat} {want b : Bool} {d : Nat} (ho : ops[k]? = some o) (hg : o.guard = some (j,want)) (hd : (ops[j]?).bind (·.dst) = some d) (hs : s d = .val (.bool b)) {α : Type} {A B r : α} (H : cond b A B = r)
  (ht : A = r → Do P T rb ops (k :: L) ⟨n,upd s d (.val (.bool true)),bx,ob⟩ K) (hf : B = r → Do P T rb ops (k :: L) ⟨n,upd s d (.val (.bool false)),bx,ob⟩ K) : Do P T rb ops (k :: L) ⟨n,s,bx,ob⟩ K := mB ho hg hd hs (fun h=>ht (condT h H)) (fun h=>hf (condF h H))
theorem iU {P : Program} {T : TT} {rb : RB} {ops : Array Oper} {o : Oper} {k : Nat} {L : List Nat} {n : Nat} {s : Nat → PV} {bx : Nat → Option Box} {ob : Nat → Option Obj} {K : PState → Prop} {j : Nat} {want b : Bool} {d : Nat} {α : Type} {A B r : α} (H : cond b A B = r) (ht : A = r → Do P T rb ops (k :: L) ⟨n,upd s d (.val (.bool true)),bx,ob⟩ K) (hf : B = r → Do P T rb ops (k :: L) ⟨n,upd s d (.val (.bool false)),bx,ob⟩ K) (ho : ops[k]? = some o := by exact rfl) (hg : o.guard = some (j,want) := by exact rfl) (hd : (ops[j]?).bind (·.dst) = some d := by exact rfl) (hs : s d = .val (.bool b) := by exact rfl) : Do P T rb ops (k :: L) ⟨n,s,bx,ob⟩ K := Do.sH ho hg hd hs H ht hf
theorem iO {σ τ ρ : Type} {r : ρ} {k : σ → Option (Flow τ ρ)} {x : Flow τ ρ} (h : Flow.thenF (.ret r) k = some x) : x = .ret r := (Option.some.inj h).symm
theorem aG {σ ρ : Type} {r x : ρ} {k : σ → Option ρ} (h : Flow.thenR (.ret r) k = some x) : r = x := Option.some.inj h
theorem ax {α : Type} {a b : α} (h : some a = some b) : a = b := Option.some.inj h
def jr {α σ ρ : Type} (step : Nat → α → σ → Option (Flow σ ρ)) (xs : List α) (j : Nat) (res : Flow σ ρ) : Flow σ ρ → Prop
 | .next s'=>aF step (j + 1) (xs.drop (j + 1)) s' = some res
 | .brk s'=>res = .next s'
 | .ret r=>res = .ret r
theorem rMc {α σ ρ : Type} {step : Nat → α → σ → Option (Flow σ ρ)} {xs : List α} {j : Nat} {s : σ} {res : Flow σ ρ} (hj : j < xs.length) (h : aF step j (xs.drop j) s = some res) :
  ∃ x fl,xs[j]? = some x ∧ step j x s = some fl ∧ jr step xs j res fl := by
 rw [List.drop_eq_getElem_cons hj,aF] at h
 refine ⟨xs[j],?_⟩
 split at h
 ·cases h
 ·rename_i s' hs; exact ⟨_,ze hj,hs,h⟩
 ·rename_i s' hs; exact ⟨_,ze hj,hs,(Option.some.inj h).symm⟩
 ·rename_i s' hs; exact ⟨_,ze hj,hs,(Option.some.inj h).symm⟩
theorem rMd {α σ ρ : Type} {step : Nat → α → σ → Option (Flow σ ρ)} {xs : List α} {j : Nat} {s : σ} {res : Flow σ ρ} (hj : xs.length ≤ j) (h : aF step j (xs.drop j) s = some res) : res = .next s := by
 rw [List.drop_eq_nil_of_le hj,aF] at h
 exact (Option.some.inj h).symm
def iterGo {σ ρ : Type} (step : σ → Option (Flow σ ρ)) (n : Nat) (res : Flow σ ρ) : Flow σ ρ → Prop
 | .next s'=>fL step n s' = some res
 | .brk s'=>res = .next s'
 | .ret r=>res = .ret r
theorem iterM_cons {σ ρ : Type} {step : σ → Option (Flow σ ρ)} {n : Nat} {s : σ} {res : Flow σ ρ} (h : fL step (n + 1) s = some res) : ∃ fl,step s = some fl ∧ iterGo step n res fl := by
 rw [fL] at h
 split at h
 ·cases h
 ·rename_i s' hs; exact ⟨_,hs,h⟩
 ·rename_i s' hs; exact ⟨_,hs,(Option.some.inj h).symm⟩
 ·rename_i s' hs; exact ⟨_,hs,(Option.some.inj h).symm⟩
section
variable {P : Program} {fn : Func} {R : PV → Heap → Prop} {k : List KI} {n : Nat} {s : Nat → PV} {bx : Nat → Option Box} {ob : Nat → Option Obj} {T : TT} {st : PState}
theorem io {τ γ : Type} (J : τ → γ → PState) (Gd : τ → Prop) {c : Code} (h : V P fn R (.code c :: .stop (fun st'=>∃ t g,Gd t ∧ st' = J t g) :: k) st) (hk : ∀ t g,Gd t → V P fn R k (J t g)) :
  V P fn R (.code c :: k) st := by
 intro C M a w hi
 have := h C M a w hi
 simp only [after] at this ⊢
 refine wp_mono this ?_
 intro e a w he
 cases e with
 | normal =>
  obtain ⟨st',M',⟨t,g,hG,rfl⟩,hi'⟩ := he
  exact hk t g hG C M' a w hi'
 | _=>exact he
theorem aK {τ γ : Type} {J : τ → γ → PState} {Gd : τ → Prop} (t : τ) (g : γ) (hG : Gd t) (h : Gh P st (J t g)) : V P fn R (.stop (fun st'=>∃ t g,Gd t ∧ st' = J t g) :: k) st :=
 gA h (oE ⟨t,g,hG,rfl⟩)
theorem eg {τ γ β : Type} {x : Option τ} {f : τ → Option β} {r : β} (J : τ → γ → PState) {c : Code} (H : af x f = some r) (h : ∀ u,x = some u → V P fn R (.code c :: .stop (fun st'=>∃ t g,t = u ∧ st' = J t g) :: k) st)
  (hk : ∀ t g,f t = some r → V P fn R k (J t g)) : V P fn R (.code c :: k) st := by
 obtain ⟨u,h1,h2⟩ := ay H
 exact io J (fun t=>t = u) (h u h1) (fun t g e=>hk t g (e ▸ h2))
theorem en {τ γ β : Type} {x : τ} {f : τ → β} {r : β} (J : τ → γ → PState) {c : Code} (H : letP x f = r) (h : ∀ u,x = u → V P fn R (.code c :: .stop (fun st'=>∃ t g,t = u ∧ st' = J t g) :: k) st)
  (hk : ∀ t g,f t = r → V P fn R k (J t g)) : V P fn R (.code c :: k) st := by
 obtain ⟨u,h1,h2⟩ := eh H
 exact io J (fun t=>t = u) (h u h1) (fun t g e=>hk t g (e ▸ h2))
theorem V.cutR {σ γ β : Type} {x : Option (Flow σ β)} {f : σ → Option β} {r : β} (J : σ → γ → PState) {c : Code} (H : af x (fun fl=>fl.thenR f) = some r) (h : ∀ u,x = some u → u.thenR f = some r → V P fn R (.code c :: .stop (fun st'=>∃ t g,u = .next t ∧ st' = J t g) :: k) st)
  (hk : ∀ t g,f t = some r → V P fn R k (J t g)) : V P fn R (.code c :: k) st := by
 obtain ⟨u,h1,h2⟩ := ay H
 exact io J (fun t=>u = .next t) (h u h1 h2) (fun t g e=>hk t g (by subst e; exact h2))
theorem V.cutF {σ τ γ β : Type} {x : Option (Flow σ β)} {f : σ → Option (Flow τ β)} {r : Flow τ β} (J : σ → γ → PState) {c : Code} (H : af x (fun fl=>fl.thenF f) = some r) (h : ∀ u,x = some u → u.thenF f = some r → V P fn R (.code c :: .stop (fun st'=>∃ t g,u = .next t ∧ st' = J t g) :: k) st)
  (hk : ∀ t g,f t = some r → V P fn R k (J t g)) : V P fn R (.code c :: k) st := by
 obtain ⟨u,h1,h2⟩ := ay H
 exact io J (fun t=>u = .next t) (h u h1 h2) (fun t g e=>hk t g (by subst e; exact h2))
theorem iI {α σ ρ γ : Type} {step : Nat → α → σ → Option (Flow σ ρ)} {xs : List α} {res : Flow σ ρ} (F : Nat → σ → γ → PState) {s₀ : σ} (g₀ : γ) {c : Code}
  (hres : aF step 0 xs s₀ = some res) (h₀ : Gh P st (F 0 s₀ g₀))
  (round : ∀ j s g,j ≤ xs.length → aF step j (xs.drop j) s = some res →
   V P fn R (.code c :: .stop (fun st'=>∃ s' g',(j + 1 ≤ xs.length ∧ aF step (j + 1) (xs.drop (j + 1)) s' = some res) ∧ st' = F (j + 1) s' g') :: k) (F j s g)) :
  V P fn R (.code (.loop c) :: k) st := by
 refine iN (X := Nat × σ × γ) (fun X=>F X.1 X.2.1 X.2.2) (fun X=>X.1 ≤ xs.length ∧ aF step X.1 (xs.drop X.1) X.2.1 = some res) (fun X=>xs.length - X.1) (0,s₀,g₀) ⟨Nat.zero_le _,by simpa using hres⟩ h₀ ?_
 rintro ⟨j,s,g⟩ ⟨h1,h2⟩
 have := round j s g h1 h2
 intro C M a w hi
 have h3 := this C M a w hi
 simp only [after] at h3 ⊢
 refine wp_mono h3 ?_
 intro e a w he
 cases e with
 | normal =>
  obtain ⟨st',M',⟨s',g',⟨h4,h5⟩,rfl⟩,hi'⟩ := he
  exact ⟨_,M',⟨(j + 1,s',g'),by show xs.length - (j + 1) < xs.length - j; omega,⟨h4,h5⟩,rfl⟩,hi'⟩
 | _=>exact he
theorem mw {σ γ : Type} {Q : σ → Prop} {F : σ → γ → PState} (s' : σ) (g' : γ) (hQ : Q s') (h : Gh P st (F s' g')) : V P fn R (.stop (fun st'=>∃ s' g',Q s' ∧ st' = F s' g') :: k) st :=
 gA h (oE ⟨s',g',hQ,rfl⟩)
theorem oK {σ ρ γ : Type} {step : σ → Option (Flow σ ρ)} {res : Flow σ ρ} (F : σ → γ → PState) {s₀ : σ} (g₀ : γ) {c : Code}
  (hres : hP step s₀ = some res) (h₀ : Gh P st (F s₀ g₀))
  (round : ∀ m s g,fL step (m + 1) s = some res → V P fn R (.code c :: .stop (fun st'=>∃ s' g',fL step m s' = some res ∧ st' = F s' g') :: k) (F s g)) :
  V P fn R (.code (.loop c) :: k) st := by
 obtain ⟨m,hm⟩ := whileM_iff.1 hres
 refine iN (X := Nat × σ × γ) (fun X=>F X.2.1 X.2.2) (fun X=>fL step X.1 X.2.1 = some res) (fun X=>X.1) (m,s₀,g₀) hm h₀ ?_
 rintro ⟨j,s,g⟩ h2
 cases j with
 | zero=>simp [fL] at h2
 | succ j =>
 have := round j s g h2
 intro C M a w hi
 have h3 := this C M a w hi
 simp only [after] at h3 ⊢
 refine wp_mono h3 ?_
 intro e a w he
 cases e with
 | normal =>
  obtain ⟨st',M',⟨s',g',h5,rfl⟩,hi'⟩ := he
  exact ⟨_,M',⟨(j,s',g'),Nat.lt_succ_self j,h5,rfl⟩,hi'⟩
 | _=>exact he
theorem Gh.cast (d : Nat) {p q : PV} (hs : s d = p) (h : PLe P p q) : Gh P ⟨n,s,bx,ob⟩ ⟨n,upd s d q,bx,ob⟩ := fun _ M _ _ hi =>
 ⟨M,⟨hi.1.1,hi.1.2.1,fun t=>by
  show Rep P M true (upd s d q t) _
  rw [er]
  split
  ·rename_i e; subst e; have := hi.1.2.2 t; exact h M _ (hs ▸ this)
  ·exact hi.1.2.2 t⟩,hi.2⟩
end
section
variable {α : Type} {f f' : α → List PV}
theorem bp (hE : ∀ x,f' x = f x) {xs : List α} {j : Nat} {x : α} (h : xs[j]? = some x) : (xs.map f')[((j : Nat) : Int).toNat]? = some (f x) := by
 simp [h,hE]
theorem aS (hE : ∀ x,f' x = f x) {xs : List α} {i : Int} {x : α} (h : xs[i.toNat]? = some x) : (xs.map f')[i.toNat]? = some (f x) := by
 simp [h,hE]
theorem kI (hE : ∀ x,f' x = f x) (xs : List α) : xs.map f = xs.map f' := by
 apply List.map_congr_left
 intro x _
 exact (hE x).symm
theorem kU {xs ys : List α} {a b : Nat} (h : ys = (xs.take b).drop a) : ((xs.map f).take b).drop a = ys.map f := by rw [h]; simp
theorem rowsLt {xs : List α} {j : Nat} (h : decide ((j : Int) < ((xs.length : Nat) : Int)) = true) : j < xs.length := by simpa using h
theorem rowsGe {xs : List α} {j : Nat} (h : decide ((j : Int) < ((xs.length : Nat) : Int)) = false) : xs.length ≤ j := by simpa using h
end
theorem fh.of_eq {P : Program} {a b : List (List PV)} (h : a = b) : fh P a b := h ▸ fh.refl a
theorem fh.trans {P : Program} {a b c : List (List PV)} (h : fh P a b) (h' : fh P b c) : fh P a c := ⟨h.1.trans h'.1,fun M k x o hx=>h'.2 M k x o (h.2 M k x o hx)⟩
def aN {α : Type} (xs : List α) (i : Int) : Option α := if 0 ≤ i then xs[i.toNat]? else none
theorem gIs {α : Type} {xs : List α} {i : Int} {x : α} (h : aN xs i = some x) : 0 ≤ i ∧ xs[i.toNat]? = some x := by
 unfold aN at h
 split at h
 ·rename_i h0; exact ⟨h0,h⟩
 ·cases h
theorem bL {α β : Type} {xs : List α} {i : Int} {k : α → Option β} {r : β} (h : af (aN xs i) k = some r) : ∃ a,(0 ≤ i ∧ xs[i.toNat]? = some a) ∧ k a = some r := by
 obtain ⟨a,h1,h2⟩ := ay h
 exact ⟨a,gIs h1,h2⟩
def jp {α : Type} (xs : List α) (a b : Int) : Option (List α) := if 0 ≤ a ∧ a ≤ b ∧ b ≤ xs.length then some ((xs.take b.toNat).drop a.toNat) else none
theorem jI {α : Type} {xs ys : List α} {a b : Int} (h : jp xs a b = some ys) : (0 ≤ a ∧ a ≤ b ∧ b ≤ xs.length) ∧ ys = (xs.take b.toNat).drop a.toNat := by
 unfold jp at h
 split at h
 ·rename_i h0; exact ⟨h0,(Option.some.inj h).symm⟩
 ·cases h
def ej {α : Type} (bytes : Nat) (xs ys : List α) : Option (List α) := if (xs.length + ys.length) * bytes ≤ 2 ^ 47 ∧ xs.length + ys.length ≤ maxLen then some (xs ++ ys) else none
theorem eo {α : Type} {bytes : Nat} {xs ys zs : List α} (h : ej bytes xs ys = some zs) : (xs.length + ys.length) * bytes ≤ 2 ^ 47 ∧ xs.length + ys.length ≤ maxLen ∧ zs = xs ++ ys := by
 unfold ej at h
 split at h
 ·rename_i h0; exact ⟨h0.1,h0.2,(Option.some.inj h).symm⟩
 ·cases h
theorem fC {α β : Type} {f : α → β} {bytes : Nat} {xs ys : List α} (h : (xs.length + ys.length) * bytes ≤ 2 ^ 47) : ((xs.map f).length + (ys.map f).length) * bytes ≤ 2 ^ 47 := by simpa using h
theorem fB {α β : Type} {f : α → β} {xs ys : List α} (h : xs.length + ys.length ≤ maxLen) : (xs.map f).length + (ys.map f).length ≤ maxLen := by simpa using h
theorem fy {α β : Type} {f : α → β} {xs ys zs : List α} (h : zs = xs ++ ys) : xs.map f ++ ys.map f = zs.map f := by rw [h,List.map_append]
def Flow.thenP {σ β : Type} (fl : Flow σ Empty) (k : σ → Option β) : Option β := match fl with
 | .next s=>k s
 | .brk s=>k s
 | .ret r=>r.elim
theorem mg {σ β : Type} {fl : Flow σ Empty} {t : σ} {k : σ → Option β} {r : β} (h : fl = .next t) (H : fl.thenP k = some r) : k t = some r := by subst h; exact H
theorem ka {σ ρ : Type} {fl : Flow σ ρ} {t : σ} {k : σ → Option ρ} {r : ρ} (h : fl = .next t) (H : fl.thenR k = some r) : k t = some r := by subst h; exact H
theorem thenF_next {σ τ ρ : Type} {fl : Flow σ ρ} {t : σ} {k : σ → Option (Flow τ ρ)} {r : Flow τ ρ} (h : fl = .next t) (H : fl.thenF k = some r) : k t = some r := by subst h; exact H
section
variable {P : Program} {fn : Func} {R : PV → Heap → Prop} {k : List KI} {n : Nat} {s : Nat → PV} {bx : Nat → Option Box} {ob : Nat → Option Obj} {T : TT}
def nB {σ γ : Type} : σ → γ → Nat → Option Box := fun _ _ _=>none
def nO {σ γ : Type} : σ → γ → Nat → Option Obj := fun _ _ _=>none
theorem oF {α σ ρ γ β : Type} {step : Nat → α → σ → Option (Flow σ ρ)} {xs : List α} {s₀ : σ} {th : Flow σ ρ → Option β} {r : β} {rw : α → List PV}
  (hT : T.Ok P) (d : Nat) {e : TypeId} {ei : TInfo} (hei : T.get e = some ei) (hs : s d = .list e (xs.map rw))
  (S : σ → γ → Nat → PV) (B : σ → γ → Nat → Option Box) (O : σ → γ → Nat → Option Obj) (E : (Nat → PV) → Nat → σ → γ → Nat → PV) (g₀ : γ)
  {id rid : Nat} {ops : Array Oper} {o : Oper} {tst : Operand} {rest : Code} {S' : Nat → σ → γ → Nat → PV}
  (H : af (aF step 0 xs s₀) th = some r)
  (h₀ : Gh P ⟨n,s,bx,ob⟩ ⟨n,E (S s₀ g₀) 0 s₀ g₀,B s₀ g₀,O s₀ g₀⟩)
  (ho : ops.toList = [o])
  (hq : ∀ j s g,jV T ops n (E (S s g) j s g) (B s g) o = some (S' j s g))
  (ht : ∀ j s g,evS (S' j s g) tst = .val (.bool (decide ((j : Int) < ((xs.length : Nat) : Int)))))
  (hx : ∀ j s g,Gh P ⟨n,S' j s g,B s g,O s g⟩ ⟨n,S s g,B s g,O s g⟩)
  (round : ∀ fl,th fl = some r → ∀ j s g,xs.length ≤ maxLen → j < xs.length → ∀ x fb,xs[j]? = some x → step j x s = some fb → jr step xs j fl fb →
   V P fn R (.code rest :: .stop (fun st'=>∃ s' g',(j + 1 ≤ xs.length ∧ aF step (j + 1) (xs.drop (j + 1)) s' = some fl) ∧ st' = ⟨n,E (S s' g') (j + 1) s' g',B s' g',O s' g'⟩) :: .blk id :: .stop (fun st'=>∃ t g,fl = .next t ∧ st' = ⟨n,S t g,B t g,O t g⟩) :: k) ⟨n,S' j s g,B s g,O s g⟩)
  (hk : ∀ t g,th (.next t) = some r → V P fn R k ⟨n,S t g,B t g,O t g⟩) :
  V P fn R (.code (.block id (.loop (.seq (.region rid ops false) (.seq (.cond tst .skip (.exit id)) rest)))) :: k) ⟨n,s,bx,ob⟩ := by
 refine gO hT d hei hs (fun hz _=>?_)
 rw [zl] at hz
 obtain ⟨fl,h1,h2⟩ := ay H
 refine io (fun t g=>⟨n,S t g,B t g,O t g⟩) (fun t=>fl = .next t) ?_ (fun t g e=>hk t g (by subst e; exact h2))
 refine aC (iI (fun j s g=>⟨n,E (S s g) j s g,B s g,O s g⟩) g₀ h1 h₀ (fun j s g hj hr=>?_))
 refine ab (aa ?_)
 rw [ho]
 refine ag hT (hq j s g) (ac ?_)
 refine ab (cS (ht j s g) (fun h=>?_) (fun h=>?_))
 ·have hl : j < xs.length := by simpa using h
  obtain ⟨x,fb,hx1,H,hg⟩ := rMc hl hr
  exact ao (round fl h2 j s g hz hl x fb hx1 H hg)
 ·have hn := rMd (by simpa using h) hr
  refine cT (k' := .stop (fun st'=>∃ t g,fl = .next t ∧ st' = ⟨n,S t g,B t g,O t g⟩) :: k) ?_ (aK s g hn (hx j s g))
  simp [jA,Nat.beq_refl]
theorem pg {α σ γ β : Type} {step : Nat → α → σ → Option (Flow σ Empty)} {xs : List α} {s₀ : σ} {kk : σ → Option (β)} {r : β} {rw : α → List PV}
  (hT : T.Ok P) (d : Nat) {e : TypeId} {ei : TInfo} (hei : T.get e = some ei) (hs : s d = .list e (xs.map rw))
  (S : σ → γ → Nat → PV) (B : σ → γ → Nat → Option Box) (O : σ → γ → Nat → Option Obj) (E : (Nat → PV) → Nat → σ → γ → Nat → PV) (g₀ : γ)
  {id rid : Nat} {ops : Array Oper} {o : Oper} {tst : Operand} {rest : Code} {S' : Nat → σ → γ → Nat → PV}
  (H : af (aF step 0 xs s₀) (fun fl=>fl.thenP kk) = some r)
  (ho : ops.toList = [o])
  (h₀ : Gh P ⟨n,s,bx,ob⟩ ⟨n,E (S s₀ g₀) 0 s₀ g₀,B s₀ g₀,O s₀ g₀⟩)
  (hq : ∀ j s g,jV T ops n (E (S s g) j s g) (B s g) o = some (S' j s g))
  (ht : ∀ j s g,evS (S' j s g) tst = .val (.bool (decide ((j : Int) < ((xs.length : Nat) : Int)))))
  (hx : ∀ j s g,Gh P ⟨n,S' j s g,B s g,O s g⟩ ⟨n,S s g,B s g,O s g⟩)
  (round : ∀ fl,fl.thenP kk = some r → ∀ j s g,xs.length ≤ maxLen → j < xs.length → ∀ x fb,xs[j]? = some x → step j x s = some fb → jr step xs j fl fb →
   V P fn R (.code rest :: .stop (fun st'=>∃ s' g',(j + 1 ≤ xs.length ∧ aF step (j + 1) (xs.drop (j + 1)) s' = some fl) ∧ st' = ⟨n,E (S s' g') (j + 1) s' g',B s' g',O s' g'⟩) :: .blk id :: .stop (fun st'=>∃ t g,fl = .next t ∧ st' = ⟨n,S t g,B t g,O t g⟩) :: k) ⟨n,S' j s g,B s g,O s g⟩)
  (hk : ∀ t g,kk t = some r → V P fn R k ⟨n,S t g,B t g,O t g⟩) :
  V P fn R (.code (.block id (.loop (.seq (.region rid ops false) (.seq (.cond tst .skip (.exit id)) rest)))) :: k) ⟨n,s,bx,ob⟩ :=
 oF hT d hei hs S B O E g₀ H h₀ ho hq ht hx round (fun t g e=>hk t g e)
theorem pi {α σ γ β : Type} {step : Nat → α → σ → Option (Flow σ β)} {xs : List α} {s₀ : σ} {kk : σ → Option (β)} {r : β} {rw : α → List PV}
  (hT : T.Ok P) (d : Nat) {e : TypeId} {ei : TInfo} (hei : T.get e = some ei) (hs : s d = .list e (xs.map rw))
  (S : σ → γ → Nat → PV) (B : σ → γ → Nat → Option Box) (O : σ → γ → Nat → Option Obj) (E : (Nat → PV) → Nat → σ → γ → Nat → PV) (g₀ : γ)
  {id rid : Nat} {ops : Array Oper} {o : Oper} {tst : Operand} {rest : Code} {S' : Nat → σ → γ → Nat → PV}
  (H : af (aF step 0 xs s₀) (fun fl=>fl.thenR kk) = some r)
  (ho : ops.toList = [o])
  (h₀ : Gh P ⟨n,s,bx,ob⟩ ⟨n,E (S s₀ g₀) 0 s₀ g₀,B s₀ g₀,O s₀ g₀⟩)
  (hq : ∀ j s g,jV T ops n (E (S s g) j s g) (B s g) o = some (S' j s g))
  (ht : ∀ j s g,evS (S' j s g) tst = .val (.bool (decide ((j : Int) < ((xs.length : Nat) : Int)))))
  (hx : ∀ j s g,Gh P ⟨n,S' j s g,B s g,O s g⟩ ⟨n,S s g,B s g,O s g⟩)
  (round : ∀ fl,fl.thenR kk = some r → ∀ j s g,xs.length ≤ maxLen → j < xs.length → ∀ x fb,xs[j]? = some x → step j x s = some fb → jr step xs j fl fb →
   V P fn R (.code rest :: .stop (fun st'=>∃ s' g',(j + 1 ≤ xs.length ∧ aF step (j + 1) (xs.drop (j + 1)) s' = some fl) ∧ st' = ⟨n,E (S s' g') (j + 1) s' g',B s' g',O s' g'⟩) :: .blk id :: .stop (fun st'=>∃ t g,fl = .next t ∧ st' = ⟨n,S t g,B t g,O t g⟩) :: k) ⟨n,S' j s g,B s g,O s g⟩)
  (hk : ∀ t g,kk t = some r → V P fn R k ⟨n,S t g,B t g,O t g⟩) :
  V P fn R (.code (.block id (.loop (.seq (.region rid ops false) (.seq (.cond tst .skip (.exit id)) rest)))) :: k) ⟨n,s,bx,ob⟩ :=
 oF hT d hei hs S B O E g₀ H h₀ ho hq ht hx round (fun t g e=>hk t g e)
def eL {α : Type} (i m d : Nat) (ety : TypeId) (xs : List α) (rw : α → List PV) (e : Nat → PV) (j : Nat) : Nat → PV := upd (upd (upd e i (.val (.int .i64 (j : Int)))) m (.val (.int .i64 (xs.length : Int)))) d (.list ety (xs.map rw))
theorem iq {α σ γ β : Type} {step : Nat → α → σ → Option (Flow σ Empty)} {xs : List α} {s₀ : σ} {kk : σ → Option (β)} {r : β} {rw : α → List PV}
  (hT : T.Ok P) (i m d : Nat) {e : TypeId} {ei : TInfo}
  (S : σ → γ → Nat → PV) (B : σ → γ → Nat → Option Box) (O : σ → γ → Nat → Option Obj) (g₀ : γ)
  {id rid : Nat} {ops : Array Oper} {o : Oper} {tst : Operand} {rest : Code} {S' : Nat → σ → γ → Nat → PV}
  (H : af (aF step 0 xs s₀) (fun fl=>fl.thenP kk) = some r)
  (round : ∀ fl,fl.thenP kk = some r → ∀ j s g,xs.length ≤ maxLen → j < xs.length → ∀ x fb,xs[j]? = some x → step j x s = some fb → jr step xs j fl fb →
   V P fn R (.code rest :: .stop (fun st'=>∃ s' g',(j + 1 ≤ xs.length ∧ aF step (j + 1) (xs.drop (j + 1)) s' = some fl) ∧ st' = ⟨n,eL i m d e xs rw (S s' g') (j + 1),B s' g',O s' g'⟩) :: .blk id :: .stop (fun st'=>∃ t g,fl = .next t ∧ st' = ⟨n,S t g,B t g,O t g⟩) :: k) ⟨n,S' j s g,B s g,O s g⟩)
  (hk : ∀ t g,kk t = some r → V P fn R k ⟨n,S t g,B t g,O t g⟩)
  (hs : s d = .list e (xs.map rw) := by exact rfl) (hei : T.get e = some ei := by exact rfl) (ho : ops.toList = [o] := by exact rfl)
  (h₀ : Gh P ⟨n,s,bx,ob⟩ ⟨n,eL i m d e xs rw (S s₀ g₀) 0,B s₀ g₀,O s₀ g₀⟩ := by exact Gh.d)
  (hq : ∀ j s g,jV T ops n (eL i m d e xs rw (S s g) j) (B s g) o = some (S' j s g) := by exact fun _ _ _=>rfl)
  (ht : ∀ j s g,evS (S' j s g) tst = .val (.bool (decide ((j : Int) < ((xs.length : Nat) : Int)))) := by exact fun _ _ _=>rfl)
  (hx : ∀ j s g,Gh P ⟨n,S' j s g,B s g,O s g⟩ ⟨n,S s g,B s g,O s g⟩ := by exact fun _ _ _=>Gh.d) :
  V P fn R (.code (.block id (.loop (.seq (.region rid ops false) (.seq (.cond tst .skip (.exit id)) rest)))) :: k) ⟨n,s,bx,ob⟩ :=
 pg hT d hei hs S B O (fun e j _ _=>eL i m d _ xs rw e j) g₀ H ho h₀ hq ht hx round hk
theorem dZ {α σ γ β : Type} {step : Nat → α → σ → Option (Flow σ β)} {xs : List α} {s₀ : σ} {kk : σ → Option (β)} {r : β} {rw : α → List PV}
  (hT : T.Ok P) (i m d : Nat) {e : TypeId} {ei : TInfo}
  (S : σ → γ → Nat → PV) (B : σ → γ → Nat → Option Box) (O : σ → γ → Nat → Option Obj) (g₀ : γ)
  {id rid : Nat} {ops : Array Oper} {o : Oper} {tst : Operand} {rest : Code} {S' : Nat → σ → γ → Nat → PV}
  (H : af (aF step 0 xs s₀) (fun fl=>fl.thenR kk) = some r)
  (round : ∀ fl,fl.thenR kk = some r → ∀ j s g,xs.length ≤ maxLen → j < xs.length → ∀ x fb,xs[j]? = some x → step j x s = some fb → jr step xs j fl fb →
   V P fn R (.code rest :: .stop (fun st'=>∃ s' g',(j + 1 ≤ xs.length ∧ aF step (j + 1) (xs.drop (j + 1)) s' = some fl) ∧ st' = ⟨n,eL i m d e xs rw (S s' g') (j + 1),B s' g',O s' g'⟩) :: .blk id :: .stop (fun st'=>∃ t g,fl = .next t ∧ st' = ⟨n,S t g,B t g,O t g⟩) :: k) ⟨n,S' j s g,B s g,O s g⟩)
  (hk : ∀ t g,kk t = some r → V P fn R k ⟨n,S t g,B t g,O t g⟩)
  (hs : s d = .list e (xs.map rw) := by exact rfl) (hei : T.get e = some ei := by exact rfl) (ho : ops.toList = [o] := by exact rfl)
  (h₀ : Gh P ⟨n,s,bx,ob⟩ ⟨n,eL i m d e xs rw (S s₀ g₀) 0,B s₀ g₀,O s₀ g₀⟩ := by exact Gh.d)
  (hq : ∀ j s g,jV T ops n (eL i m d e xs rw (S s g) j) (B s g) o = some (S' j s g) := by exact fun _ _ _=>rfl)
  (ht : ∀ j s g,evS (S' j s g) tst = .val (.bool (decide ((j : Int) < ((xs.length : Nat) : Int)))) := by exact fun _ _ _=>rfl)
  (hx : ∀ j s g,Gh P ⟨n,S' j s g,B s g,O s g⟩ ⟨n,S s g,B s g,O s g⟩ := by exact fun _ _ _=>Gh.d) :
  V P fn R (.code (.block id (.loop (.seq (.region rid ops false) (.seq (.cond tst .skip (.exit id)) rest)))) :: k) ⟨n,s,bx,ob⟩ :=
 pi hT d hei hs S B O (fun e j _ _=>eL i m d _ xs rw e j) g₀ H ho h₀ hq ht hx round hk
end
def resT (s : Nat → PV) : List ResultVar → Option (List PV)
 | []=>some []
 | .tmp t :: l=>match resT s l with | some ps=>some (s t :: ps) | none=>none
 | .cell _ _ :: _=>none
section
variable {P : Program} {fn : Func} {R : PV → Heap → Prop} {k : List KI} {n : Nat} {s : Nat → PV} {bx : Nat → Option Box} {ob : Nat → Option Obj} {T : TT} {st : PState}
theorem resT_all : ∀ {l : List ResultVar} {ps : List PV},resT s l = some ps → iY T ⟨n,s,bx,ob⟩ l ps
 | [],ps,h=>by simp only [resT,zo] at h; exact h.symm
 | .tmp t :: l,ps,h=>by
  simp only [resT] at h
  split at h
  ·rename_i qs hq; cases h; exact ⟨_,_,rfl,rfl,resT_all hq⟩
  ·cases h
 | .cell _ _ :: _,ps,h=>by simp [resT] at h
theorem cG {α : Type} {x y : α} {ps : List PV} {r : PV} (hT : T.Ok P) (H : x = y) (h : resT s fn.results.toList = some ps) (he : x = y → jB ps = r := by intro e; subst e; rfl) :
  V P fn (fun u H=>u = r ∧ H = Heap.empty) (.code .ret :: k) ⟨n,s,bx,ob⟩ := aL hT rfl (resT_all h) (PLe.q (he H))
theorem aM {α : Type} {x y : α} {ps : List PV} {r : PV} (hT : T.Ok P) (H : some x = some y) (h : resT s fn.results.toList = some ps) (he : x = y → jB ps = r := by intro e; subst e; rfl) :
  V P fn (fun u H=>u = r ∧ H = Heap.empty) (.code .ret :: k) ⟨n,s,bx,ob⟩ := cG hT (ax H) h he
theorem bv {α σ ρ γ : Type} {step : Nat → α → σ → Option (Flow σ ρ)} {xs : List α} {j : Nat} {res fb : Flow σ ρ} {v : σ} {F : σ → γ → PState} (g' : γ) (H : some (Flow.next v) = some fb) (hl : j < xs.length) (hg : jr step xs j res fb) (h : Gh P st (F v g') := by exact Gh.d) :
  V P fn R (.stop (fun st'=>∃ s' g',(j + 1 ≤ xs.length ∧ aF step (j + 1) (xs.drop (j + 1)) s' = some res) ∧ st' = F s' g') :: k) st := by
 cases H
 exact mw v g' ⟨hl,hg⟩ h
end
def lI (n : Int) : Option Nat := if n ≤ 2 ^ 62 then some n.toNat else none
theorem nS {n : Int} {m : Nat} (h : lI n = some m) : n ≤ 2 ^ 62 ∧ m = n.toNat := by
 unfold lI at h
 split at h
 ·rename_i h0; exact ⟨h0,(Option.some.inj h).symm⟩
 ·cases h
section
variable {P : Program} {ops : Array Oper} {rest : List Oper} {o : Oper} {n : Nat} {s s' : Nat → PV} {bx : Nat → Option Box} {ob : Nat → Option Obj} {K : PState → Prop} {T : TT} {rb : RB} {k : Nat} {L : List Nat}
theorem oQ (d : Nat) {p q : PV} (hs : s d = p) (h : PLe P p q) (hV : Ao P ops rest ⟨n,upd s d q,bx,ob⟩ K) : Ao P ops rest ⟨n,s,bx,ob⟩ K := gn (Gh.cast d hs h) hV
theorem Ao.lenL (hT : T.Ok P) (hg : aJ ops s o = some true) {x : Operand} {t : TypeId} {ts : List TypeId} (ho : o.op = .call { callee := .builtin .len,args := #[x],argTypes := (t :: ts).toArray }) {ti : TInfo} {e' : TypeId} (hti : T.get t = some ti) (hd : ti.desc = .slice e')
  {e : TypeId} {rows : List (List PV)} (hx : evS s x = .list e rows) {m : Nat} (hm : rows.length = m) (hp : putD n s o.dst (.val (.int .i64 m)) = some s') (h : Ao P ops rest ⟨n,s',bx,ob⟩ K) : Ao P ops (o :: rest) ⟨n,s,bx,ob⟩ K := by
 refine kV hT hg (r := .val (.int .i64 m)) ?_ hp h
 rw [ho]
 simp [fK,kM,hti,hd,hx,lenPV,hm]
theorem av {x : Operand} {t : TypeId} {ts : List TypeId} {ti : TInfo} {e' : TypeId} {e : TypeId} {rows : List (List PV)} {m : Nat} (hT : T.Ok P) (hm : rows.length = m) (h : Ao P ops rest ⟨n,s',bx,ob⟩ K) (hg : aJ ops s o = some true := by exact rfl) (ho : o.op = .call { callee := .builtin .len,args := #[x],argTypes := (t :: ts).toArray } := by exact rfl) (hti : T.get t = some ti := by exact rfl) (hd : ti.desc = .slice e' := by exact rfl) (hx : evS s x = .list e rows := by exact rfl) (hp : putD n s o.dst (.val (.int .i64 m)) = some s' := by exact rfl) : Ao P ops (o :: rest) ⟨n,s,bx,ob⟩ K := Ao.lenL hT hg ho hti hd hx hm hp h
theorem ow (hT : T.Ok P) (hg : aJ ops s o = some true) {x : Operand} {t : TypeId} {ts : List TypeId} (ho : o.op = .call { callee := .builtin .len,args := #[x],argTypes := (t :: ts).toArray }) {ti : TInfo} {e' : TypeId} (hti : T.get t = some ti) (hd : ti.desc = .slice e')
  {tg l : Nat} {g : OwnRef} (hx : evS s x = .own tg g l) {m : Nat} (hm : l = m) (hp : putD n s o.dst (.val (.int .i64 m)) = some s') (h : Ao P ops rest ⟨n,s',bx,ob⟩ K) : Ao P ops (o :: rest) ⟨n,s,bx,ob⟩ K := by
 refine kV hT hg (r := .val (.int .i64 m)) ?_ hp h
 rw [ho]
 simp [fK,kM,hti,hd,hx,lenPV,hm]
theorem kE (ho : ops[k]? = some o) (hg : aJ ops s o = some true) {x : Operand} {t : TypeId} {ts : List TypeId} (hop : o.op = .call { callee := .builtin .len,args := #[x],argTypes := (t :: ts).toArray }) {ti : TInfo} {e' : TypeId} (hti : T.get t = some ti) (hd : ti.desc = .slice e')
  {e : TypeId} {rows : List (List PV)} (hx : evS s x = .list e rows) {m : Nat} (hm : rows.length = m) (hp : putD n s o.dst (.val (.int .i64 m)) = some s') (h : Do P T rb ops L ⟨n,s',bx,ob⟩ K) : Do P T rb ops (k :: L) ⟨n,s,bx,ob⟩ K := by
 refine ol ho hg (by rw [hop]; rfl) (r := .val (.int .i64 m)) ?_ hp h
 rw [hop]
 simp [eY,fK,kM,hti,hd,hx,lenPV,hm]
theorem oO (hT : T.Ok P) (hg : aJ ops s o = some true) {t : TypeId} {x : Operand} {lo hi : Option Operand} (ho : o.op = .slice t x lo hi none) {ti : TInfo} {e : TypeId} (hti : T.get t = some ti) (hd : ti.desc = .slice e)
  {rows : List (List PV)} (hx : evS s x = .list e rows) {m : Nat} (hm : rows.length = m) {a b : Int} (ha : ii (lo.map (evS s)) 0 = some a) (hb : ii (hi.map (evS s)) m = some b) (hab : 0 ≤ a ∧ a ≤ b ∧ b ≤ m)
  {rows' : List (List PV)} (hr : (rows.take b.toNat).drop a.toNat = rows') (hp : putD n s o.dst (.list e rows') = some s') (h : Ao P ops rest ⟨n,s',bx,ob⟩ K) : Ao P ops (o :: rest) ⟨n,s,bx,ob⟩ K := by
 subst hm
 refine kV hT hg (r := .list e rows') ?_ hp h
 rw [ho]
 simp only [fK,hti,hd,hx,lS,Nat.beq_refl,zc,ha,hb]
 rw [zp hab,hr]
theorem oB (ho : ops[k]? = some o) (hg : aJ ops s o = some true) {t : TypeId} {x : Operand} {lo hi : Option Operand} (hop : o.op = .slice t x lo hi none) {ti : TInfo} {e : TypeId} (hti : T.get t = some ti) (hd : ti.desc = .slice e)
  {rows : List (List PV)} (hx : evS s x = .list e rows) {m : Nat} (hm : rows.length = m) {a b : Int} (ha : ii (lo.map (evS s)) 0 = some a) (hb : ii (hi.map (evS s)) m = some b) (hab : 0 ≤ a ∧ a ≤ b ∧ b ≤ m)
  {rows' : List (List PV)} (hr : (rows.take b.toNat).drop a.toNat = rows') (hp : putD n s o.dst (.list e rows') = some s') (h : Do P T rb ops L ⟨n,s',bx,ob⟩ K) : Do P T rb ops (k :: L) ⟨n,s,bx,ob⟩ K := by
 subst hm
 refine ol ho hg (by rw [hop]; rfl) (r := .list e rows') ?_ hp h
 rw [hop]
 simp only [eY,fK,hti,hd,hx,lS,Nat.beq_refl,zc,ha,hb]
 rw [zp hab,hr]
theorem Rep.rowsLe {M : Mem} {b : Bool} {e : TypeId} {rows rows' : List (List PV)} (h : fh P rows rows') {x : Value} (hx : Rep P M b (.list e rows) x) : Rep P M b (.list e rows') x := PLe2.list h M b x hx
theorem eff_appendC (hT : T.Ok P) {o : Oper} {ev : Operand → PV} {H : Heap} {x y : Operand} {t : TypeId} (ho : o.op = .call { callee := .builtin .append,args := #[x,y],argTypes := #[t,t] }) {ti ei : TInfo} {e : TypeId} (hti : T.get t = some ti) (hd : ti.desc = .slice e) (hei : T.get e = some ei)
  (hz : Nat.beq ei.zero.cells.size ei.size = true) (hsz : Nat.blt 0 ei.size = true) {tag : Nat} {g : OwnRef} {len : Nat} {rows rows2 rows2' rows' : List (List PV)} {wr : Bool} (hx : ev x = .own tag g len) (hob : H.ob tag = some ⟨g,e,rows,wr⟩) (hlen : len = rows.length) (hy : ev y = .list e rows2)
  (hle : fh P rows2 rows2') (hby : (rows.length + rows2'.length) * ei.bytes ≤ 2 ^ 47) (hmx : rows.length + rows2'.length ≤ maxLen) (heq : rows ++ rows2' = rows') {K : PV → Heap → Prop} (hk : ∀ g',K (.own tag g' rows'.length) ⟨H.bx,upd H.ob tag (some ⟨g',e,rows',wr⟩)⟩) : Eff P o ev H K := by
 subst heq
 classical
 have hxy : x ≠ y := fun e=>by subst e; rw [hx] at hy; cases hy
 intro C M a w next Q hi he hn
 have key := nR (P := P) (o := o) (ev := fun z=>if z = y then PV.list e rows2' else ev z) (H := H) hT ho hti hd hei hz hsz (rows2 := rows2') (by simp [hxy,hx]) hob hlen (by simp) hby hmx (K := K) hk
 refine key C M a w next Q hi (fun z hz=>?_) hn
 by_cases hzy : z = y
 ·subst hzy
  simp only [if_true]
  have := he z hz
  rw [hy] at this
  exact Rep.rowsLe hle this
 ·simp only [hzy,if_false]
  exact he z hz
theorem cW (hT : T.Ok P) (hg : aJ ops s o = some true) {x y : Operand} {t : TypeId} (ho : o.op = .call { callee := .builtin .append,args := #[x,y],argTypes := #[t,t] }) {d : Nat} (hdst : o.dst = some d) (hlt : Nat.blt d n = true) {ti ei : TInfo} {e : TypeId} (hti : T.get t = some ti) (hd : ti.desc = .slice e) (hei : T.get e = some ei)
  (hz : Nat.beq ei.zero.cells.size ei.size = true) (hsz : Nat.blt 0 ei.size = true) {tag : Nat} {g : OwnRef} {len : Nat} {rows rows2 rows2' rows' : List (List PV)} {wr : Bool} (hx : evS s x = .own tag g len) (hob : ob tag = some ⟨g,e,rows,wr⟩) (hlen : len = rows.length) (hy : evS s y = .list e rows2)
  (hle : fh P rows2 rows2') (hby : (rows.length + rows2'.length) * ei.bytes ≤ 2 ^ 47) (hmx : rows.length + rows2'.length ≤ maxLen) (heq : rows ++ rows2' = rows') (h : ∀ g',Ao P ops rest ⟨n,upd s d (.own tag g' rows'.length),bx,upd ob tag (some ⟨g',e,rows',wr⟩)⟩ K) : Ao P ops (o :: rest) ⟨n,s,bx,ob⟩ K :=
 eR hg (eff_appendC hT ho hti hd hei hz hsz hx hob hlen hy hle hby hmx heq fun g'=>⟨_,by simp [hdst,putD,hlt],h g'⟩)
theorem Ao.appendCQ {x y : Operand} {t : TypeId} {d : Nat} {ti ei : TInfo} {e : TypeId} {tag : Nat} {g : OwnRef} {len : Nat} {rows rows2 rows2' rows' : List (List PV)} {wr : Bool} (hT : T.Ok P) (hle : fh P rows2 rows2') (hby : (rows.length + rows2'.length) * ei.bytes ≤ 2 ^ 47) (hmx : rows.length + rows2'.length ≤ maxLen) (heq : rows ++ rows2' = rows') (h : ∀ g',Ao P ops rest ⟨n,upd s d (.own tag g' rows'.length),bx,upd ob tag (some ⟨g',e,rows',wr⟩)⟩ K) (hg : aJ ops s o = some true := by exact rfl) (ho : o.op = .call { callee := .builtin .append,args := #[x,y],argTypes := #[t,t] } := by exact rfl) (hdst : o.dst = some d := by exact rfl) (hlt : Nat.blt d n = true := by exact rfl) (hti : T.get t = some ti := by exact rfl) (hd : ti.desc = .slice e := by exact rfl) (hei : T.get e = some ei := by exact rfl) (hz : Nat.beq ei.zero.cells.size ei.size = true := by exact rfl) (hsz : Nat.blt 0 ei.size = true := by exact rfl) (hx : evS s x = .own tag g len := by exact rfl) (hob : ob tag = some ⟨g,e,rows,wr⟩ := by exact rfl) (hlen : len = rows.length := by exact rfl) (hy : evS s y = .list e rows2 := by exact rfl) : Ao P ops (o :: rest) ⟨n,s,bx,ob⟩ K := cW hT hg ho hdst hlt hti hd hei hz hsz hx hob hlen hy hle hby hmx heq h
theorem oW (hT : T.Ok P) (hg : aJ ops s o = some true) {t e : TypeId} {m : Nat} {ps : Array (Nat × Operand)} (ho : o.op = .buildSlice t m ps) {ti : TInfo} (hti : T.get t = some ti) (hd : ti.desc = .slice e) {rows rows' : List (List PV)}
  (hr : ij T e m (eJ (evS s) ps) = some rows) (hle : fh P rows rows') {d : Nat} (hdst : o.dst = some d) (hlt : Nat.blt d n = true) (h : Ao P ops rest ⟨n,upd s d (.list e rows'),bx,ob⟩ K) : Ao P ops (o :: rest) ⟨n,s,bx,ob⟩ K := by
 refine oH hT hg ho hti hd hr (s' := upd s d (.list e rows)) (by simp [hdst,putD,hlt]) (oQ d (gd _ _ _) (PLe.of2 (PLe2.list hle)) ?_)
 have : upd (upd s d (PV.list e rows)) d (.list e rows') = upd s d (.list e rows') := by
  funext t
  simp only [er]
  split <;> rfl
 rw [this]
 exact h
theorem ct {t e : TypeId} {m : Nat} {ps : Array (Nat × Operand)} {ti : TInfo} {rows rows' : List (List PV)} {d : Nat} (hT : T.Ok P) (hle : fh P rows rows') (h : Ao P ops rest ⟨n,upd s d (.list e rows'),bx,ob⟩ K) (hg : aJ ops s o = some true := by exact rfl) (ho : o.op = .buildSlice t m ps := by exact rfl) (hti : T.get t = some ti := by exact rfl) (hd : ti.desc = .slice e := by exact rfl) (hr : ij T e m (eJ (evS s) ps) = some rows := by exact rfl) (hdst : o.dst = some d := by exact rfl) (hlt : Nat.blt d n = true := by exact rfl) : Ao P ops (o :: rest) ⟨n,s,bx,ob⟩ K := oW hT hg ho hti hd hr hle hdst hlt h
end
section
variable {P : Program} {fn : Func} {R : PV → Heap → Prop} {ks : List KI} {n : Nat} {s : Nat → PV} {bx : Nat → Option Box} {ob : Nat → Option Obj} {T : TT}
end
section
variable {P : Program} {C : Ctx} {M : Mem} {H : Heap} {w : World}
theorem InvH.reobj (h : InvH P C M H w) {tag : Nat} {g : OwnRef} {e : TypeId} {rows rows' : List (List PV)} {wr : Bool} (hx : H.ob tag = some ⟨g,e,rows,wr⟩) (hl : rows'.map List.length = rows.map List.length) (hle : fe P rows.flatten rows'.flatten) :
  InvH P C M ⟨H.bx,upd H.ob tag (some ⟨g,e,rows',wr⟩)⟩ w := by
 have hlen : rows'.length = rows.length := by simpa using congrArg List.length hl
 have key : ∀ t y,upd H.ob tag (some ⟨g,e,rows',wr⟩) t = some y → (t = tag ∧ y = ⟨g,e,rows',wr⟩) ∨ H.ob t = some y := by
  intro t y hy
  rw [er] at hy
  split at hy
  ·rename_i e; exact .inl ⟨e,(Option.some.inj hy).symm⟩
  ·exact .inr hy
 have same : ∀ t y,upd H.ob tag (some ⟨g,e,rows',wr⟩) t = some y → ∃ z,H.ob t = some z ∧ z.g = y.g := by
  intro t y hy
  rcases key t y hy with ⟨rfl,rfl⟩ | hy
  ·exact ⟨_,hx,rfl⟩
  ·exact ⟨y,hy,rfl⟩
 refine ⟨h.mem,h.ext,h.new,h.os,h.tape,h.output,h.size,h.frame,h.boxes,?_,h.dbox,?_,?_⟩
 ·intro t y hy
  rcases key t y hy with ⟨rfl,rfl⟩ | hy
  ·obtain ⟨i,h1,h2,h3,h4⟩ := h.objs _ _ hx
   simp only at h1 h2 h3 h4
   refine ⟨i,h1,?_,?_,?_⟩
   ·simpa only [hlen] using h2
   ·intro r hr
    have : r.length ∈ rows'.map List.length := List.mem_map.2 ⟨r,hr,rfl⟩
    rw [hl] at this
    obtain ⟨q,hq,e1⟩ := List.mem_map.1 this
    rw [← e1]
    exact h3 q hq
   ·rcases h4 with ⟨a,b,c⟩ | ⟨b,cur,h5,h6,h7,h8,h9,h10,h11,h12,h13,h14⟩
    ·refine .inl ⟨a,?_,c⟩
     rw [b] at hlen
     exact List.length_eq_zero_iff.1 hlen
    ·refine .inr ⟨b,cur,h5,h6,h7,h8,?_,h10,?_,?_,h13,?_⟩
     ·simpa only [hlen] using h9
     ·simp only [hlen]; exact hle M false _ h11
     ·simpa only [hlen] using h12
     ·simpa only [hlen] using h14
  ·exact h.objs t y hy
 ·intro t t' y y' b hy hy' hb hb'
  obtain ⟨z,hz,e1⟩ := same t y hy
  obtain ⟨z',hz',e1'⟩ := same t' y' hy'
  exact h.dobj t t' z z' b hz hz' (e1 ▸ hb) (e1' ▸ hb')
 ·intro t t' y y' hy hy' hb
  obtain ⟨z',hz',e1'⟩ := same t' y' hy'
  exact h.dmix t t' y z' hy hz' (e1' ▸ hb)
theorem InvH.cutO (h : InvH P C M H w) {tag : Nat} {g : OwnRef} {e : TypeId} {rows : List (List PV)} (hx : H.ob tag = some ⟨g,e,rows,true⟩) (k : Nat) :
  InvH P C M ⟨H.bx,upd H.ob tag (some ⟨g,e,rows.take k,true⟩)⟩ w := by
 have key : ∀ t y,upd H.ob tag (some ⟨g,e,rows.take k,true⟩) t = some y → (t = tag ∧ y = ⟨g,e,rows.take k,true⟩) ∨ H.ob t = some y := by
  intro t y hy
  rw [er] at hy
  split at hy
  ·rename_i e; exact .inl ⟨e,(Option.some.inj hy).symm⟩
  ·exact .inr hy
 have same : ∀ t y,upd H.ob tag (some ⟨g,e,rows.take k,true⟩) t = some y → ∃ z,H.ob t = some z ∧ z.g = y.g := by
  intro t y hy
  rcases key t y hy with ⟨rfl,rfl⟩ | hy
  ·exact ⟨_,hx,rfl⟩
  ·exact ⟨y,hy,rfl⟩
 refine ⟨h.mem,h.ext,h.new,h.os,h.tape,h.output,h.size,h.frame,h.boxes,?_,h.dbox,?_,?_⟩
 ·intro t y hy
  rcases key t y hy with ⟨rfl,rfl⟩ | hy
  ·obtain ⟨i,h1,h2,h3,h4⟩ := h.objs _ _ hx
   simp only at h1 h2 h3 h4
   have hle : (rows.take k).length ≤ rows.length := by simp; omega
   refine ⟨i,h1,Nat.le_trans (Nat.mul_le_mul_right _ hle) h2,fun r hr=>h3 r (List.mem_of_mem_take hr),?_⟩
   rcases h4 with ⟨a,b,c⟩ | ⟨b,cur,h5,h6,h7,h8,h9,h10,h11,h12,h13,h14⟩
   ·exact .inl ⟨a,by simp [b],c⟩
   ·refine .inr ⟨b,cur,h5,h6,h7,h8,Nat.le_trans hle h9,h10,?_,?_,fun _=>h13 trivial,?_⟩
    ·have hflat : (rows.take k).flatten = rows.flatten.take ((rows.take k).length * i.size) := by
      have aux : ∀ (l : List (List PV)) (m : Nat),(∀ r ∈ l,r.length = i.size) → (l.take m).flatten = l.flatten.take ((l.take m).length * i.size) := by
       intro l
       induction l with
       | nil=>intro m _; simp
       | cons r l ih =>
        intro m hr
        cases m with
        | zero=>simp
        | succ m =>
         have h1 := hr r (by simp)
         have := ih m fun r hr'=>hr r (by simp [hr'])
         simp only [List.take_succ_cons,List.flatten_cons,List.length_cons]
         have e1 : ((l.take m).length + 1) * i.size = r.length + (l.take m).length * i.size := by rw [Nat.add_mul,h1]; omega
         rw [e1,List.take_length_add_append,this]
      exact aux rows k h3
     rw [hflat]
     have := h11.take ((rows.take k).length * i.size)
     rw [List.take_take,Nat.min_eq_left (Nat.mul_le_mul_right _ hle)] at this
     exact this
    ·intro v hv
     refine h12 v ?_
     have e1 : cur.toList.take ((rows.take k).length * i.size) = (cur.toList.take (rows.length * i.size)).take ((rows.take k).length * i.size) := by
      rw [List.take_take,Nat.min_eq_left (Nat.mul_le_mul_right _ hle)]
     rw [e1] at hv
     exact List.mem_of_mem_take hv
    ·intro o _
     exact h13 trivial o
  ·exact h.objs t y hy
 ·intro t t' y y' b hy hy' hb hb'
  obtain ⟨z,hz,e1⟩ := same t y hy
  obtain ⟨z',hz',e1'⟩ := same t' y' hy'
  exact h.dobj t t' z z' b hz hz' (e1 ▸ hb) (e1' ▸ hb')
 ·intro t t' y y' hy hy' hb
  obtain ⟨z',hz',e1'⟩ := same t' y' hy'
  exact h.dmix t t' y z' hy hz' (e1' ▸ hb)
end
theorem fe.of_eq {P : Program} {a b : List PV} (h : a = b) : fe P a b := h ▸ fe.refl a
theorem fe.trans {P : Program} {a b c : List PV} (h : fe P a b) (h' : fe P b c) : fe P a c := fun M s xs hx=>h' M s xs (h M s xs hx)
section
variable {P : Program} {ops : Array Oper} {rest : List Oper} {o : Oper} {n : Nat} {s s' : Nat → PV} {bx : Nat → Option Box} {ob : Nat → Option Obj} {K : PState → Prop} {T : TT} {rb : RB} {k : Nat} {L : List Nat}
theorem oJ (hT : T.Ok P) (hg : aJ ops s o = some true) {t t' : TypeId} {x : Operand} (ho : o.op = .binOp .eql t x (.const (.slice none 0 0)) t') {ti : TInfo} {e : TypeId} (hti : T.get t = some ti) (hd : ti.desc = .slice e) {e' : TypeId} {rows : List (List PV)} (hx : evS s x = .list e' rows) {d : Nat} (hdst : o.dst = some d) (hlt : Nat.blt d n = true)
  (h : ∀ b : Bool,(b = true → rows = []) → Ao P ops rest ⟨n,upd s d (.val (.bool b)),bx,ob⟩ K) : Ao P ops (o :: rest) ⟨n,s,bx,ob⟩ K := by
 refine eR hg (fun C M a w next Q hi he hn=>?_)
 have hxr := he x (by rw [ho]; simp [Op.operands])
 rw [show (⟨n,s,bx,ob⟩ : PState).s = s from rfl,hx] at hxr
 simp only [Rep] at hxr
 obtain ⟨ad,c,i,hv,_,_,_,_,hr⟩ := hxr
 have hu := (hT.get hti).und
 rw [hd] at hu
 have hrun : (execOp a.eval o).run P w = .ok (.value (.bool ad.isNone)) w := by
  have h1 := run_equal_slice_nil (P := P) w t e ad rows.length c hu
  have h2 : (eqGuard .eql t x (.const (.slice none 0 0)) (.slice ad rows.length c) (.slice none 0 0)).run P w = .ok () w := by unfold eqGuard; split <;> simp
  simp only [execOp,ho,hv,show a.eval (.const (.slice none 0 0)) = .slice none 0 0 from rfl,Sem.run_bind,h2,Result.andThen_ok,binOp,h1]
  rfl
 unfold Oper.wp
 rw [hrun]
 refine hn _ (.val (.bool ad.isNone)) ⟨bx,ob⟩ M w ⟨_,by simp [hdst,putD,hlt],h ad.isNone fun hb=>?_⟩ (Mem.le_refl M) hi (by simp only [Rep])
 cases rows with
 | nil=>rfl
 | cons r rows =>
  obtain ⟨b,o,e1,_⟩ := hr (by simp)
  rw [e1] at hb
  cases hb
theorem nH (hT : T.Ok P) (hg : aJ ops s o = some true) {t e : TypeId} {m : Nat} {ps : Array (Nat × Operand)} (ho : o.op = .buildSlice t m ps) {d : Nat} (hdst : o.dst = some d) (hlt : Nat.blt d n = true) {ti : TInfo} (hti : T.get t = some ti) (hd : ti.desc = .slice e) {rows rows' : List (List PV)}
  (hr : ij T e m (eJ (evS s) ps) = some rows) (hl : rows'.map List.length = rows.map List.length) (hm : rows.length = m) (hle : fe P rows.flatten rows'.flatten) (h : ∀ g,Ao P ops rest ⟨n,upd s d (.own d g rows'.length),bx,upd ob d (some ⟨g,e,rows',true⟩)⟩ K) : Ao P ops (o :: rest) ⟨n,s,bx,ob⟩ K := by
 refine Ao.bsO hT hg ho hdst hlt hti hd hr fun g=>?_
 have hlen : rows'.length = m := by rw [← hm]; simpa using congrArg List.length hl
 have h' := h g
 rw [hlen] at h'
 refine gn (st' := ⟨n,upd s d (.own d g m),bx,upd ob d (some ⟨g,e,rows',true⟩)⟩) ?_ h'
 intro C M a w hi
 refine ⟨M,hi.1,?_⟩
 have := hi.2.reobj (tag := d) (rows' := rows') (gd _ _ _) hl hle
 simp only [PState.heap] at this ⊢
 have e2 : upd (upd ob d (some ⟨g,e,rows,true⟩)) d (some ⟨g,e,rows',true⟩) = upd ob d (some ⟨g,e,rows',true⟩) := by
  funext t
  simp only [er]
  split <;> rfl
 rwa [e2] at this
end
@[simp] theorem bPs {α β : Type} (a : α) (k : α → Option β) : af (some a) k = k a := rfl
@[simp] theorem bindP_none {α β : Type} (k : α → Option β) : af none k = none := rfl
@[simp] theorem ce {α β : Type} (a : α) (k : α → β) : letP a k = k a := rfl
@[simp] theorem ew {σ β : Type} (s : σ) (k : σ → Option β) : Flow.thenP (.next s) k = k s := rfl
@[simp] theorem fw {σ ρ : Type} (s : σ) (k : σ → Option ρ) : Flow.thenR (.next s) k = k s := rfl
@[simp] theorem ml {σ ρ : Type} (r : ρ) (k : σ → Option ρ) : Flow.thenR (.ret r) k = some r := rfl
@[simp] theorem thenF_nextS {σ τ ρ : Type} (s : σ) (k : σ → Option (Flow τ ρ)) : Flow.thenF (.next s) k = k s := rfl
@[simp] theorem thenF_retS {σ τ ρ : Type} (r : ρ) (k : σ → Option (Flow τ ρ)) : Flow.thenF (.ret r) k = some (.ret r) := rfl
theorem appI_ok {α : Type} {bytes : Nat} {xs ys : List α} (h1 : (xs.length + ys.length) * bytes ≤ 2 ^ 47) (h2 : xs.length + ys.length ≤ maxLen) : ej bytes xs ys = some (xs ++ ys) := by
 unfold ej; rw [zp ⟨h1,h2⟩]
theorem iQ {α : Type} {xs : List α} {i : Int} {x : α} (h0 : 0 ≤ i) (h : xs[i.toNat]? = some x) : aN xs i = some x := by unfold aN; rw [zp h0,h]
theorem getI_nat {α : Type} {xs : List α} {j : Nat} {x : α} (h : xs[j]? = some x) : aN xs (j : Int) = some x := iQ (by omega) (by simpa using h)
theorem subI_ok {α : Type} {xs : List α} {a b : Int} (h : 0 ≤ a ∧ a ≤ b ∧ b ≤ xs.length) : jp xs a b = some ((xs.take b.toNat).drop a.toNat) := by unfold jp; rw [zp h]
theorem smallI_ok {n : Int} (h : n ≤ 2 ^ 62) : lI n = some n.toNat := by unfold lI; rw [zp h]
theorem dl {α σ ρ : Type} {step : Nat → α → σ → Option (Flow σ ρ)} (I : Nat → σ → Prop) (Q : ρ → Prop) :
  ∀ (xs : List α) (j : Nat) (s : σ),I j s → (∀ k x s,xs[k]? = some x → I (j + k) s → ∃ fl,step (j + k) x s = some fl ∧ (match fl with | .next s'=>I (j + k + 1) s' | .brk _=>False | .ret r=>Q r)) →
   ∃ fl,aF step j xs s = some fl ∧ (match fl with | .next s'=>I (j + xs.length) s' | .brk _=>False | .ret r=>Q r)
 | [],j,s,h,_=>⟨.next s,rfl,by simpa using h⟩
 | x :: xs,j,s,h,hs=>by
  obtain ⟨fl,h1,h2⟩ := hs 0 x s rfl (by simpa using h)
  rw [Nat.add_zero] at h1
  cases fl with
  | next s' =>
   obtain ⟨fl,h3,h4⟩ := dl I Q xs (j + 1) s' (by simpa using h2) (fun k y t hk hI=>by
    obtain ⟨fl,h5,h6⟩ := hs (k + 1) y t (by simpa using hk) (by rw [show j + (k + 1) = j + 1 + k from by omega]; exact hI)
    rw [show j + (k + 1) = j + 1 + k from by omega] at h5 h6
    exact ⟨fl,h5,h6⟩)
   refine ⟨fl,by rw [aF,h1]; exact h3,?_⟩
   rw [show j + (x :: xs).length = j + 1 + xs.length from by simp; omega]
   exact h4
  | brk s'=>exact absurd h2 (by simp)
  | ret r=>exact ⟨.ret r,by rw [aF,h1],h2⟩
theorem rMa {α σ ρ : Type} {step : Nat → α → σ → Option (Flow σ ρ)} {xs : List α} {s : σ} (S : Nat → σ) (h0 : S 0 = s) (hs : ∀ k x,xs[k]? = some x → step k x (S k) = some (.next (S (k + 1)))) : aF step 0 xs s = some (.next (S xs.length)) := by
 subst h0
 obtain ⟨fl,h1,h2⟩ := dl (step := step) (fun j s=>s = S j) (fun _=>False) xs 0 (S 0) rfl (fun k x s hk hI=>by
  simp only [Nat.zero_add] at hI
  subst hI
  exact ⟨_,by rw [Nat.zero_add]; exact hs k x hk,by simp⟩)
 cases fl with
 | next s'=>simp only [Nat.zero_add] at h2; rw [h1,h2]
 | brk s'=>exact absurd h2 (by simp)
 | ret r=>exact absurd h2 (by simp)
theorem nT {α ρ : Type} {step : Nat → α → Unit → Option (Flow Unit ρ)} (p : α → Bool) (out : Nat → α → ρ) : ∀ (xs : List α) (j : Nat),(∀ k x,xs[k]? = some x → step (j + k) x () = some (if p x then .ret (out (j + k) x) else .next ())) →
  aF step j xs () = some (match xs.findIdx? p with | some i=>(match xs[i]? with | some x=>.ret (out (j + i) x) | none=>.next ()) | none=>.next ())
 | [],j,_=>rfl
 | x :: xs,j,hs=>by
  have h0 := hs 0 x rfl
  rw [Nat.add_zero] at h0
  rw [aF,h0,List.findIdx?_cons]
  cases hp : p x with
  | true=>simp
  | false =>
   simp only [Bool.false_eq_true,if_false]
   rw [nT p out xs (j + 1) (fun k y hk=>by
    have := hs (k + 1) y (by simpa using hk)
    rw [show j + (k + 1) = j + 1 + k from by omega] at this
    exact this)]
   cases xs.findIdx? p with
   | none=>simp
   | some i =>
    simp only [Option.map_some,List.getElem?_cons_succ]
    rw [show j + 1 + i = j + (i + 1) from by omega]
section
variable {P : Program} {T : TT} {M : Mem}
end
def lE {α : Type} (p : Prop) [Decidable p] (a : α) : Option α := if p then some a else none
theorem oc {α : Type} {p : Prop} [Decidable p] {a b : α} (h : lE p a = some b) : p ∧ a = b := by
 unfold lE at h
 split at h
 ·rename_i hp; exact ⟨hp,Option.some.inj h⟩
 ·cases h
@[simp] theorem guardO_pos {α : Type} {p : Prop} [Decidable p] {a : α} (h : p) : lE p a = some a := by unfold lE; rw [zp h]
end
end Go.Ab

namespace Go.Ab
noncomputable section
open Go.Proofs
def tS (d : TypeDesc) : TInfo := ⟨d,1,24,.slice none 0 0,[]⟩
def tP (d : TypeDesc) : TInfo := ⟨d,1,8,.pointer none,[]⟩
def tF (d : TypeDesc) : TInfo := ⟨d,1,8,.nilFunc,[]⟩
theorem tO {P : Program} {k : Nat} {v : TInfo} (i : TypeInfo) (h : P.info? k = some i) (e : (i.size,i.bytes,i.zero,v.eqf) = (v.size,v.bytes,some v.zero,[])) (u : P.underlying k = some v.desc) : v.Ok P k := by
 simp only [Prod.mk.injEq] at e
 exact ⟨⟨i,h,e.1,e.2.1,e.2.2.1⟩,u,fun hn=>absurd e.2.2.2 hn⟩
def ti70 : TInfo := ⟨Tryz.t69.desc,3,32,.agg #[.string ⟨#[]⟩,.int .i64 0,.bool false],[(9,0),(3,1),(4,2)]⟩
def ti75 : TInfo := ⟨Tryz.t74.desc,3,32,.agg #[.int .i64 0,.int .i64 0,.string ⟨#[]⟩],[(3,0),(3,1),(9,2)]⟩
def ti149 : TInfo := ⟨Tryz.t148.desc,1,8,.agg #[.int .i64 0],[(3,0)]⟩
def ti186 : TInfo := ⟨Tryz.t185.desc,4,40,.agg #[.int .i64 0,.string ⟨#[]⟩,.int .i64 0,.int .i64 0],[(3,0),(9,1),(3,2),(3,3)]⟩
def ti319 : TInfo := ⟨Tryz.t318.desc,1,16,.agg #[.string ⟨#[]⟩],[(9,0)]⟩
theorem ti70_ok : ti70.Ok Tryz.prog 70 := ⟨⟨Tryz.t70,by kernel_rfl,rfl,rfl,rfl⟩,Tryz.underlying70,fun _=>⟨Tryz.stoodInHeld70,Tryz.eqGuardType70,by simp [bV,Program.fieldsOf,Tryz.underlying70,ti70],by kernel_rfl⟩⟩
theorem ti75_ok : ti75.Ok Tryz.prog 75 := ⟨⟨Tryz.t75,by kernel_rfl,rfl,rfl,rfl⟩,Tryz.underlying75,fun _=>⟨Tryz.stoodInHeld75,Tryz.eqGuardType75,by simp [bV,Program.fieldsOf,Tryz.underlying75,ti75],by kernel_rfl⟩⟩
theorem ti149_ok : ti149.Ok Tryz.prog 149 := ⟨⟨Tryz.t149,by kernel_rfl,rfl,rfl,rfl⟩,Tryz.underlying149,fun _=>⟨Tryz.stoodInHeld149,Tryz.eqGuardType149,by simp [bV,Program.fieldsOf,Tryz.underlying149,ti149],by kernel_rfl⟩⟩
theorem ti186_ok : ti186.Ok Tryz.prog 186 := ⟨⟨Tryz.t186,by kernel_rfl,rfl,rfl,rfl⟩,Tryz.underlying186,fun _=>⟨Tryz.stoodInHeld186,Tryz.eqGuardType186,by simp [bV,Program.fieldsOf,Tryz.underlying186,ti186],by kernel_rfl⟩⟩
theorem ti319_ok : ti319.Ok Tryz.prog 319 := ⟨⟨Tryz.t319,by kernel_rfl,rfl,rfl,rfl⟩,Tryz.underlying319,fun _=>⟨Tryz.stoodInHeld319,Tryz.eqGuardType319,by simp [bV,Program.fieldsOf,Tryz.underlying319,ti319],by kernel_rfl⟩⟩
def tt : TT := (.node 130 ⟨Tryz.t130.desc,3,56,.agg #[.string ⟨#[]⟩,.slice none 0 0,.string ⟨#[]⟩],[]⟩ (.node 51 (tS Tryz.t51.desc) (.node 27 (tS Tryz.t27.desc) (.node 20 ⟨Tryz.t20.desc,1,16,.nilIface,[]⟩ (.node 4 ⟨Tryz.t4.desc,1,1,.bool false,[]⟩ (.node 2 ⟨Tryz.t2.desc,1,8,.int .i64 0,[]⟩ (.node 1 (tF Tryz.t1.desc) .leaf .leaf) (.node 3 ⟨Tryz.t3.desc,1,8,.int .i64 0,[]⟩ .leaf .leaf)) (.node 9 ⟨Tryz.t9.desc,1,16,.string ⟨#[]⟩,[]⟩ (.node 5 ⟨Tryz.t5.desc,1,1,.int .u8 0,[]⟩ .leaf .leaf) .leaf)) (.node 24 (tS Tryz.t24.desc) (.node 22 (tS Tryz.t22.desc) (.node 21 ⟨Tryz.t21.desc,1,4,.int .i32 0,[]⟩ .leaf .leaf) (.node 23 (tS Tryz.t23.desc) .leaf .leaf)) (.node 26 ⟨Tryz.t25.desc,3,72,.agg #[.slice none 0 0,.slice none 0 0,.slice none 0 0],[]⟩ (.node 25 ⟨Tryz.t25.desc,3,72,.agg #[.slice none 0 0,.slice none 0 0,.slice none 0 0],[]⟩ .leaf .leaf) .leaf))) (.node 35 ⟨Tryz.t34.desc,9,160,.agg #[.int .i64 0,.string ⟨#[]⟩,.slice none 0 0,.slice none 0 0,.slice none 0 0,.slice none 0 0,.int .i64 0,.int .i64 0,.slice none 0 0],[]⟩ (.node 31 (tS Tryz.t31.desc) (.node 29 (tS Tryz.t29.desc) (.node 28 (tS Tryz.t27.desc) .leaf .leaf) (.node 30 (tS Tryz.t30.desc) .leaf .leaf)) (.node 33 (tS Tryz.t33.desc) (.node 32 (tS Tryz.t32.desc) .leaf .leaf) .leaf)) (.node 40 (tS Tryz.t40.desc) (.node 39 (tS Tryz.t39.desc) (.node 36 (tS Tryz.t36.desc) .leaf .leaf) .leaf) (.node 50 (tS Tryz.t50.desc) (.node 42 ⟨Tryz.t41.desc,2,48,.agg #[.slice none 0 0,.slice none 0 0],[]⟩ .leaf .leaf) .leaf)))) (.node 92 ⟨Tryz.t91.desc,7,88,.agg #[.int .i64 0,.string ⟨#[]⟩,.int .i64 0,.int .i64 0,.int .i64 0,.string ⟨#[]⟩,.slice none 0 0],[]⟩ (.node 70 ti70 (.node 58 (tS Tryz.t58.desc) (.node 55 ⟨Tryz.t54.desc,10,192,.agg #[.int .i64 0,.int .i64 0,.string ⟨#[]⟩,.string ⟨#[]⟩,.slice none 0 0,.slice none 0 0,.slice none 0 0,.slice none 0 0,.slice none 0 0,.slice none 0 0],[]⟩ (.node 53 ⟨Tryz.t52.desc,2,48,.agg #[.slice none 0 0,.slice none 0 0],[]⟩ .leaf .leaf) (.node 57 (tS Tryz.t57.desc) .leaf .leaf)) (.node 65 (tF Tryz.t65.desc) (.node 59 ⟨Tryz.t3.desc,1,8,.int .i64 0,[]⟩ .leaf .leaf) .leaf)) (.node 76 (tF Tryz.t76.desc) (.node 75 ti75 (.node 73 ⟨Tryz.t72.desc,3,64,.agg #[.string ⟨#[]⟩,.slice none 0 0,.slice none 0 0],[]⟩ .leaf .leaf) .leaf) (.node 79 ⟨Tryz.t78.desc,2,40,.agg #[.string ⟨#[]⟩,.slice none 0 0],[]⟩ (.node 77 (tS Tryz.t36.desc) .leaf .leaf) .leaf))) (.node 107 ⟨Tryz.t106.desc,3,56,.agg #[.string ⟨#[]⟩,.string ⟨#[]⟩,.slice none 0 0],[]⟩ (.node 101 ⟨Tryz.t100.desc,11,232,.agg #[.slice none 0 0,.slice none 0 0,.slice none 0 0,.slice none 0 0,.slice none 0 0,.slice none 0 0,.slice none 0 0,.slice none 0 0,.slice none 0 0,.int .i64 0,.bool false],[]⟩ (.node 97 (tF Tryz.t97.desc) (.node 93 (tF Tryz.t93.desc) .leaf .leaf) (.node 98 (tP Tryz.t98.desc) .leaf .leaf)) (.node 104 (tF Tryz.t104.desc) (.node 103 ⟨Tryz.t103.desc,8,8,.agg #[.bool false,.bool false,.bool false,.bool false,.bool false,.bool false,.bool false,.bool false],[]⟩ .leaf .leaf) .leaf)) (.node 115 (tF Tryz.t115.desc) (.node 112 ⟨Tryz.t111.desc,4,96,.agg #[.slice none 0 0,.slice none 0 0,.slice none 0 0,.slice none 0 0],[]⟩ (.node 109 (tF Tryz.t109.desc) .leaf .leaf) .leaf) (.node 126 (tF Tryz.t126.desc) (.node 116 (tP Tryz.t116.desc) .leaf .leaf) .leaf))))) (.node 212 (tF Tryz.t212.desc) (.node 171 (tF Tryz.t171.desc) (.node 147 ⟨Tryz.t146.desc,3,40,.agg #[.slice none 0 0,.int .i64 0,.int .i64 0],[]⟩ (.node 137 ⟨Tryz.t136.desc,7,80,.agg #[.string ⟨#[]⟩,.int .i64 0,.string ⟨#[]⟩,.int .i64 0,.int .i64 0,.int .i64 0,.string ⟨#[]⟩],[]⟩ (.node 132 (tF Tryz.t132.desc) (.node 131 ⟨Tryz.t130.desc,3,56,.agg #[.string ⟨#[]⟩,.slice none 0 0,.string ⟨#[]⟩],[]⟩ .leaf .leaf) (.node 135 (tF Tryz.t135.desc) .leaf .leaf)) (.node 146 ⟨Tryz.t146.desc,3,40,.agg #[.slice none 0 0,.int .i64 0,.int .i64 0],[]⟩ (.node 143 (tS Tryz.t143.desc) .leaf .leaf) .leaf)) (.node 163 (tF Tryz.t163.desc) (.node 157 ⟨Tryz.t156.desc,8,192,.agg #[.slice none 0 0,.slice none 0 0,.slice none 0 0,.slice none 0 0,.slice none 0 0,.slice none 0 0,.slice none 0 0,.slice none 0 0],[]⟩ (.node 149 ti149 .leaf .leaf) (.node 158 (tF Tryz.t158.desc) .leaf .leaf)) (.node 168 (tF Tryz.t168.desc) (.node 166 (tF Tryz.t166.desc) .leaf .leaf) .leaf))) (.node 194 (tF Tryz.t194.desc) (.node 184 (tF Tryz.t184.desc) (.node 179 ⟨Tryz.t178.desc,4,72,.agg #[.int .i64 0,.string ⟨#[]⟩,.slice none 0 0,.slice none 0 0],[]⟩ (.node 174 (tF Tryz.t174.desc) .leaf .leaf) (.node 180 (tF Tryz.t180.desc) .leaf .leaf)) (.node 193 (tP Tryz.t193.desc) (.node 186 ti186 .leaf .leaf) .leaf)) (.node 207 (tF Tryz.t207.desc) (.node 205 ⟨Tryz.t204.desc,5,120,.agg #[.slice none 0 0,.slice none 0 0,.slice none 0 0,.slice none 0 0,.slice none 0 0],[]⟩ (.node 197 ⟨Tryz.t196.desc,4,96,.agg #[.slice none 0 0,.slice none 0 0,.slice none 0 0,.slice none 0 0],[]⟩ .leaf .leaf) .leaf) (.node 210 (tF Tryz.t210.desc) (.node 209 (tF Tryz.t209.desc) .leaf .leaf) .leaf)))) (.node 285 (tF Tryz.t285.desc) (.node 243 (tS Tryz.t243.desc) (.node 229 (tF Tryz.t229.desc) (.node 215 (tF Tryz.t215.desc) (.node 213 (tS Tryz.t213.desc) .leaf .leaf) (.node 217 (tF Tryz.t217.desc) .leaf .leaf)) (.node 236 (tS Tryz.t236.desc) (.node 230 (tF Tryz.t230.desc) .leaf .leaf) .leaf)) (.node 276 (tF Tryz.t276.desc) (.node 261 (tF Tryz.t261.desc) (.node 256 ⟨Tryz.t255.desc,1,16,.nilIface,[]⟩ .leaf .leaf) .leaf) (.node 283 ⟨Tryz.t283.desc,1,8,.int .u64 0,[]⟩ (.node 277 (tF Tryz.t277.desc) .leaf .leaf) .leaf))) (.node 316 (tP Tryz.t316.desc) (.node 302 ⟨Tryz.t302.desc,1,8,.int .u64 0,[]⟩ (.node 295 (tP Tryz.t295.desc) (.node 292 ⟨Tryz.t3.desc,1,8,.int .i64 0,[]⟩ .leaf .leaf) (.node 299 ⟨Tryz.t299.desc,1,4,.int .u32 0,[]⟩ .leaf .leaf)) (.node 309 ⟨Tryz.t309.desc,24,24,.agg #[.int .u8 0,.int .u8 0,.int .u8 0,.int .u8 0,.int .u8 0,.int .u8 0,.int .u8 0,.int .u8 0,.int .u8 0,.int .u8 0,.int .u8 0,.int .u8 0,.int .u8 0,.int .u8 0,.int .u8 0,.int .u8 0,.int .u8 0,.int .u8 0,.int .u8 0,.int .u8 0,.int .u8 0,.int .u8 0,.int .u8 0,.int .u8 0],[]⟩ (.node 307 ⟨Tryz.t306.desc,3,48,.agg #[.string ⟨#[]⟩,.string ⟨#[]⟩,.nilIface],[]⟩ .leaf .leaf) .leaf)) (.node 321 ⟨Tryz.t321.desc,20,160,.agg #[.int .u64 0,.int .u64 0,.int .u64 0,.int .u64 0,.int .u64 0,.int .u64 0,.int .u64 0,.int .u64 0,.int .u64 0,.int .u64 0,.int .u64 0,.int .u64 0,.int .u64 0,.int .u64 0,.int .u64 0,.int .u64 0,.int .u64 0,.int .u64 0,.int .u64 0,.int .u64 0],[]⟩ (.node 319 ti319 (.node 317 (tP Tryz.t317.desc) .leaf .leaf) .leaf) (.node 326 ⟨Tryz.t326.desc,64,64,.agg #[.int .u8 0,.int .u8 0,.int .u8 0,.int .u8 0,.int .u8 0,.int .u8 0,.int .u8 0,.int .u8 0,.int .u8 0,.int .u8 0,.int .u8 0,.int .u8 0,.int .u8 0,.int .u8 0,.int .u8 0,.int .u8 0,.int .u8 0,.int .u8 0,.int .u8 0,.int .u8 0,.int .u8 0,.int .u8 0,.int .u8 0,.int .u8 0,.int .u8 0,.int .u8 0,.int .u8 0,.int .u8 0,.int .u8 0,.int .u8 0,.int .u8 0,.int .u8 0,.int .u8 0,.int .u8 0,.int .u8 0,.int .u8 0,.int .u8 0,.int .u8 0,.int .u8 0,.int .u8 0,.int .u8 0,.int .u8 0,.int .u8 0,.int .u8 0,.int .u8 0,.int .u8 0,.int .u8 0,.int .u8 0,.int .u8 0,.int .u8 0,.int .u8 0,.int .u8 0,.int .u8 0,.int .u8 0,.int .u8 0,.int .u8 0,.int .u8 0,.int .u8 0,.int .u8 0,.int .u8 0,.int .u8 0,.int .u8 0,.int .u8 0,.int .u8 0],[]⟩ (.node 325 ⟨Tryz.t325.desc,32,32,.agg #[.int .u8 0,.int .u8 0,.int .u8 0,.int .u8 0,.int .u8 0,.int .u8 0,.int .u8 0,.int .u8 0,.int .u8 0,.int .u8 0,.int .u8 0,.int .u8 0,.int .u8 0,.int .u8 0,.int .u8 0,.int .u8 0,.int .u8 0,.int .u8 0,.int .u8 0,.int .u8 0,.int .u8 0,.int .u8 0,.int .u8 0,.int .u8 0,.int .u8 0,.int .u8 0,.int .u8 0,.int .u8 0,.int .u8 0,.int .u8 0,.int .u8 0,.int .u8 0],[]⟩ .leaf .leaf) .leaf))))))
theorem tk : tt.Ok Tryz.prog := ⟨tO Tryz.t130 (by kernel_rfl) rfl Tryz.underlying130,⟨tO Tryz.t51 (by kernel_rfl) rfl Tryz.underlying51,⟨tO Tryz.t27 (by kernel_rfl) rfl Tryz.underlying27,⟨tO Tryz.t20 (by kernel_rfl) rfl Tryz.underlying20,⟨tO Tryz.t4 (by kernel_rfl) rfl Tryz.underlying4,⟨tO Tryz.t2 (by kernel_rfl) rfl Tryz.underlying2,⟨tO Tryz.t1 (by kernel_rfl) rfl Tryz.underlying1,trivial,trivial⟩,⟨tO Tryz.t3 (by kernel_rfl) rfl Tryz.underlying3,trivial,trivial⟩⟩,⟨tO Tryz.t9 (by kernel_rfl) rfl Tryz.underlying9,⟨tO Tryz.t5 (by kernel_rfl) rfl Tryz.underlying5,trivial,trivial⟩,trivial⟩⟩,⟨tO Tryz.t24 (by kernel_rfl) rfl Tryz.underlying24,⟨tO Tryz.t22 (by kernel_rfl) rfl Tryz.underlying22,⟨tO Tryz.t21 (by kernel_rfl) rfl Tryz.underlying21,trivial,trivial⟩,⟨tO Tryz.t23 (by kernel_rfl) rfl Tryz.underlying23,trivial,trivial⟩⟩,⟨tO Tryz.t26 (by kernel_rfl) rfl Tryz.underlying26,⟨tO Tryz.t25 (by kernel_rfl) rfl Tryz.underlying25,trivial,trivial⟩,trivial⟩⟩⟩,⟨tO Tryz.t35 (by kernel_rfl) rfl Tryz.underlying35,⟨tO Tryz.t31 (by kernel_rfl) rfl Tryz.underlying31,⟨tO Tryz.t29 (by kernel_rfl) rfl Tryz.underlying29,⟨tO Tryz.t28 (by kernel_rfl) rfl Tryz.underlying28,trivial,trivial⟩,⟨tO Tryz.t30 (by kernel_rfl) rfl Tryz.underlying30,trivial,trivial⟩⟩,⟨tO Tryz.t33 (by kernel_rfl) rfl Tryz.underlying33,⟨tO Tryz.t32 (by kernel_rfl) rfl Tryz.underlying32,trivial,trivial⟩,trivial⟩⟩,⟨tO Tryz.t40 (by kernel_rfl) rfl Tryz.underlying40,⟨tO Tryz.t39 (by kernel_rfl) rfl Tryz.underlying39,⟨tO Tryz.t36 (by kernel_rfl) rfl Tryz.underlying36,trivial,trivial⟩,trivial⟩,⟨tO Tryz.t50 (by kernel_rfl) rfl Tryz.underlying50,⟨tO Tryz.t42 (by kernel_rfl) rfl Tryz.underlying42,trivial,trivial⟩,trivial⟩⟩⟩⟩,⟨tO Tryz.t92 (by kernel_rfl) rfl Tryz.underlying92,⟨ti70_ok,⟨tO Tryz.t58 (by kernel_rfl) rfl Tryz.underlying58,⟨tO Tryz.t55 (by kernel_rfl) rfl Tryz.underlying55,⟨tO Tryz.t53 (by kernel_rfl) rfl Tryz.underlying53,trivial,trivial⟩,⟨tO Tryz.t57 (by kernel_rfl) rfl Tryz.underlying57,trivial,trivial⟩⟩,⟨tO Tryz.t65 (by kernel_rfl) rfl Tryz.underlying65,⟨tO Tryz.t59 (by kernel_rfl) rfl Tryz.underlying59,trivial,trivial⟩,trivial⟩⟩,⟨tO Tryz.t76 (by kernel_rfl) rfl Tryz.underlying76,⟨ti75_ok,⟨tO Tryz.t73 (by kernel_rfl) rfl Tryz.underlying73,trivial,trivial⟩,trivial⟩,⟨tO Tryz.t79 (by kernel_rfl) rfl Tryz.underlying79,⟨tO Tryz.t77 (by kernel_rfl) rfl Tryz.underlying77,trivial,trivial⟩,trivial⟩⟩⟩,⟨tO Tryz.t107 (by kernel_rfl) rfl Tryz.underlying107,⟨tO Tryz.t101 (by kernel_rfl) rfl Tryz.underlying101,⟨tO Tryz.t97 (by kernel_rfl) rfl Tryz.underlying97,⟨tO Tryz.t93 (by kernel_rfl) rfl Tryz.underlying93,trivial,trivial⟩,⟨tO Tryz.t98 (by kernel_rfl) rfl Tryz.underlying98,trivial,trivial⟩⟩,⟨tO Tryz.t104 (by kernel_rfl) rfl Tryz.underlying104,⟨tO Tryz.t103 (by kernel_rfl) rfl Tryz.underlying103,trivial,trivial⟩,trivial⟩⟩,⟨tO Tryz.t115 (by kernel_rfl) rfl Tryz.underlying115,⟨tO Tryz.t112 (by kernel_rfl) rfl Tryz.underlying112,⟨tO Tryz.t109 (by kernel_rfl) rfl Tryz.underlying109,trivial,trivial⟩,trivial⟩,⟨tO Tryz.t126 (by kernel_rfl) rfl Tryz.underlying126,⟨tO Tryz.t116 (by kernel_rfl) rfl Tryz.underlying116,trivial,trivial⟩,trivial⟩⟩⟩⟩⟩,⟨tO Tryz.t212 (by kernel_rfl) rfl Tryz.underlying212,⟨tO Tryz.t171 (by kernel_rfl) rfl Tryz.underlying171,⟨tO Tryz.t147 (by kernel_rfl) rfl Tryz.underlying147,⟨tO Tryz.t137 (by kernel_rfl) rfl Tryz.underlying137,⟨tO Tryz.t132 (by kernel_rfl) rfl Tryz.underlying132,⟨tO Tryz.t131 (by kernel_rfl) rfl Tryz.underlying131,trivial,trivial⟩,⟨tO Tryz.t135 (by kernel_rfl) rfl Tryz.underlying135,trivial,trivial⟩⟩,⟨tO Tryz.t146 (by kernel_rfl) rfl Tryz.underlying146,⟨tO Tryz.t143 (by kernel_rfl) rfl Tryz.underlying143,trivial,trivial⟩,trivial⟩⟩,⟨tO Tryz.t163 (by kernel_rfl) rfl Tryz.underlying163,⟨tO Tryz.t157 (by kernel_rfl) rfl Tryz.underlying157,⟨ti149_ok,trivial,trivial⟩,⟨tO Tryz.t158 (by kernel_rfl) rfl Tryz.underlying158,trivial,trivial⟩⟩,⟨tO Tryz.t168 (by kernel_rfl) rfl Tryz.underlying168,⟨tO Tryz.t166 (by kernel_rfl) rfl Tryz.underlying166,trivial,trivial⟩,trivial⟩⟩⟩,⟨tO Tryz.t194 (by kernel_rfl) rfl Tryz.underlying194,⟨tO Tryz.t184 (by kernel_rfl) rfl Tryz.underlying184,⟨tO Tryz.t179 (by kernel_rfl) rfl Tryz.underlying179,⟨tO Tryz.t174 (by kernel_rfl) rfl Tryz.underlying174,trivial,trivial⟩,⟨tO Tryz.t180 (by kernel_rfl) rfl Tryz.underlying180,trivial,trivial⟩⟩,⟨tO Tryz.t193 (by kernel_rfl) rfl Tryz.underlying193,⟨ti186_ok,trivial,trivial⟩,trivial⟩⟩,⟨tO Tryz.t207 (by kernel_rfl) rfl Tryz.underlying207,⟨tO Tryz.t205 (by kernel_rfl) rfl Tryz.underlying205,⟨tO Tryz.t197 (by kernel_rfl) rfl Tryz.underlying197,trivial,trivial⟩,trivial⟩,⟨tO Tryz.t210 (by kernel_rfl) rfl Tryz.underlying210,⟨tO Tryz.t209 (by kernel_rfl) rfl Tryz.underlying209,trivial,trivial⟩,trivial⟩⟩⟩⟩,⟨tO Tryz.t285 (by kernel_rfl) rfl Tryz.underlying285,⟨tO Tryz.t243 (by kernel_rfl) rfl Tryz.underlying243,⟨tO Tryz.t229 (by kernel_rfl) rfl Tryz.underlying229,⟨tO Tryz.t215 (by kernel_rfl) rfl Tryz.underlying215,⟨tO Tryz.t213 (by kernel_rfl) rfl Tryz.underlying213,trivial,trivial⟩,⟨tO Tryz.t217 (by kernel_rfl) rfl Tryz.underlying217,trivial,trivial⟩⟩,⟨tO Tryz.t236 (by kernel_rfl) rfl Tryz.underlying236,⟨tO Tryz.t230 (by kernel_rfl) rfl Tryz.underlying230,trivial,trivial⟩,trivial⟩⟩,⟨tO Tryz.t276 (by kernel_rfl) rfl Tryz.underlying276,⟨tO Tryz.t261 (by kernel_rfl) rfl Tryz.underlying261,⟨tO Tryz.t256 (by kernel_rfl) rfl Tryz.underlying256,trivial,trivial⟩,trivial⟩,⟨tO Tryz.t283 (by kernel_rfl) rfl Tryz.underlying283,⟨tO Tryz.t277 (by kernel_rfl) rfl Tryz.underlying277,trivial,trivial⟩,trivial⟩⟩⟩,⟨tO Tryz.t316 (by kernel_rfl) rfl Tryz.underlying316,⟨tO Tryz.t302 (by kernel_rfl) rfl Tryz.underlying302,⟨tO Tryz.t295 (by kernel_rfl) rfl Tryz.underlying295,⟨tO Tryz.t292 (by kernel_rfl) rfl Tryz.underlying292,trivial,trivial⟩,⟨tO Tryz.t299 (by kernel_rfl) rfl Tryz.underlying299,trivial,trivial⟩⟩,⟨tO Tryz.t309 (by kernel_rfl) rfl Tryz.underlying309,⟨tO Tryz.t307 (by kernel_rfl) rfl Tryz.underlying307,trivial,trivial⟩,trivial⟩⟩,⟨tO Tryz.t321 (by kernel_rfl) rfl Tryz.underlying321,⟨ti319_ok,⟨tO Tryz.t317 (by kernel_rfl) rfl Tryz.underlying317,trivial,trivial⟩,trivial⟩,⟨tO Tryz.t326 (by kernel_rfl) rfl Tryz.underlying326,⟨tO Tryz.t325 (by kernel_rfl) rfl Tryz.underlying325,trivial,trivial⟩,trivial⟩⟩⟩⟩⟩⟩
end
end Go.Ab


namespace Go.Proofs.YteceobbkljmbmaaGreatDoor
noncomputable section
open Go Go.Ab
theorem mok : Tryz.prog.follows .mixedOrders = true := by kernel_rfl
abbrev ak (n : Int) : PV := .val (.int .i64 n)
abbrev az (b : Bool) : PV := .val (.bool b)
structure LVal where
 kind : Int
 int : Int
 text : List UInt8
 deriving DecidableEq
structure LCol where
 name : List UInt8
 kind : Int
 nullable : Bool
 deriving DecidableEq
inductive LExpr where
 | mk (kind : Int) (name : List UInt8) (index : Int) (value : LVal) (args : List LExpr)
def LExpr.kind : LExpr → Int | .mk k _ _ _ _=>k
def LExpr.name : LExpr → List UInt8 | .mk _ n _ _ _=>n
def LExpr.index : LExpr → Int | .mk _ _ i _ _=>i
def LExpr.value : LExpr → LVal | .mk _ _ _ v _=>v
def LExpr.args : LExpr → List LExpr | .mk _ _ _ _ a=>a
structure LEnv where
 cols : List LCol
 row : List LVal
 params : List LVal
 vnames : List (List UInt8)
 vvals : List LVal
def LVal.nul : LVal := ⟨0,0,[]⟩
@[simp] def aY (v : LVal) : List PV := [ak v.kind,ak v.int,.str v.text]
@[simp] def ap (c : LCol) : List PV := [.str c.name,ak c.kind,az c.nullable]
mutual
def cJ : LExpr → List PV
 | .mk k n i v a=>[ak k,.str n,ak i,ak v.kind,ak v.int,.str v.text,.list 92 (mp a)]
def mp : List LExpr → List (List PV)
 | []=>[]
 | e :: r=>cJ e :: mp r
end
theorem na : ∀ l,mp l = l.map cJ
 | []=>rfl
 | e :: r=>by simp [mp,na r]
def fj (e : LExpr) : List PV := [ak e.kind,.str e.name,ak e.index,ak e.value.kind,ak e.value.int,.str e.value.text,.list 92 (e.args.map cJ)]
theorem cv (e : LExpr) : cJ e = fj e := by
 cases e
 simp [cJ,fj,na,LExpr.kind,LExpr.name,LExpr.index,LExpr.value,LExpr.args]
abbrev pval (v : LVal) : PV := .agg (aY v)
abbrev pcol (c : LCol) : PV := .agg (ap c)
abbrev ky (e : LExpr) : PV := .agg (fj e)
abbrev pvals (l : List LVal) : PV := .list 75 (l.map aY)
abbrev gr (l : List LCol) : PV := .list 70 (l.map ap)
abbrev pexprs (l : List LExpr) : PV := .list 92 (l.map cJ)
abbrev pstrs (l : List (List UInt8)) : PV := .list 9 (l.map fun s=>[.str s])
abbrev pints (l : List Int) : PV := .list 3 (l.map fun n=>[ak n])
@[simp] def encEnv (v : LEnv) : List PV := [gr v.cols,pvals v.row,pvals v.params,pstrs v.vnames,pvals v.vvals]
theorem getExpr {l : List LExpr} {j : Nat} (h : j < l.length) : (l.map cJ)[((j : Nat) : Int).toNat]? = some (fj l[j]) := by
 simp [h,cv]
def bg {α : Type} (p : α → Bool) (l : List α) : Int := match l.findIdx? p with
 | some i=>i
 | none=>-1
theorem mC {α : Type} {p : α → Bool} {l : List α} {j : Nat} (hlt : j < l.length) (hpre : ∀ x ∈ l.take j,p x = false) (h : p l[j] = true) : bg p l = (j : Int) := by
 have : l.findIdx? p = some j := by
  rw [List.findIdx?_eq_some_iff_getElem]
  refine ⟨hlt,h,fun i hi=>?_⟩
  have := hpre l[i] (List.mem_take_iff_getElem.2 ⟨i,by omega,rfl⟩)
  simp [this]
 simp [bg,this]
theorem iX {α : Type} {p : α → Bool} {l : List α} (hpre : ∀ x ∈ l,p x = false) : bg p l = -1 := by
 have : l.findIdx? p = none := by
  rw [List.findIdx?_eq_none_iff]
  exact hpre
 simp [bg,this]
theorem mE {α : Type} {p : α → Bool} {l : List α} {j : Nat} (hlt : j < l.length) (hpre : ∀ x ∈ l.take j,p x = false) (h : p l[j] = false) : ∀ x ∈ l.take (j + 1),p x = false := by
 intro x hx
 rw [List.take_add_one,ze hlt] at hx
 simp only [Option.toList,List.mem_append,List.mem_singleton] at hx
 rcases hx with hx | rfl
 ·exact hpre x hx
 ·exact h
theorem fa {n : Int} (h1 : -9223372036854775808 ≤ n) (h2 : n ≤ 9223372036854775807) : IntKind.i64.wrap n = n := by
 simp only [IntKind.wrap,IntKind.bits,IntKind.signed]
 simp
 omega
theorem eV {j : Nat} (h : j < maxLen) : ak (IntKind.i64.wrap ((j : Int) + 1)) = ak ((j + 1 : Nat) : Int) := by
 rw [fa (by omega) (by simp [maxLen] at h; omega)]
 simp
theorem jD {α : Type} {p : α → Bool} {l : List α} : (decide (bg p l ≥ 0)) = l.any p := by
 rw [Bool.eq_iff_iff]
 simp only [decide_eq_true_eq,List.any_eq_true]
 cases h : l.findIdx? p with
 | none =>
  have e : bg p l = -1 := by simp [bg,h]
  rw [List.findIdx?_eq_none_iff] at h
  rw [e]
  constructor
  ·intro h'; omega
  ·rintro ⟨x,hx,hp⟩; rw [h x hx] at hp; cases hp
 | some i =>
  have e : bg p l = (i : Int) := by simp [bg,h]
  rw [List.findIdx?_eq_some_iff_getElem] at h
  rw [e]
  exact ⟨fun _=>⟨_,List.getElem_mem h.1,h.2.1⟩,fun _=>by omega⟩
abbrev Rq := List LVal
abbrev Rz := List (List LVal)
abbrev aZ : Int → List PV := fun n=>[ak n]
abbrev rBool : Bool → List PV := fun b=>[az b]
abbrev rStr : List UInt8 → List PV := fun s=>[.str s]
abbrev gL {α : Type} (e : TypeId) (f : α → List PV) : List α → List PV := fun l=>[.list e (l.map f)]
theorem natLt {n : Int} {m j : Nat} (hm : n ≤ 2 ^ 62 ∧ m = n.toNat) (h : decide ((j : Int) < n) = true) : j < (List.range m).length := by
 have := of_decide_eq_true h
 simp
 omega
theorem natGe {n : Int} {m j : Nat} (hm : n ≤ 2 ^ 62 ∧ m = n.toNat) (h : decide ((j : Int) < n) = false) : (List.range m).length ≤ j := by
 have := of_decide_eq_false h
 simp
 omega
theorem natX {m j x : Nat} (h : (List.range m)[j]? = some x) : j = x := by
 have := zg.1 h
 obtain ⟨h1,h2⟩ := this
 simpa using h2
theorem pint_succN {n : Int} {m j : Nat} (hm : n ≤ 2 ^ 62 ∧ m = n.toNat) (h : j < (List.range m).length) : ak (IntKind.i64.wrap ((j : Int) + 1)) = ak ((j + 1 : Nat) : Int) := by
 rw [fa (by omega) (by simp at h; omega)]
 simp
end
end Go.Proofs.YteceobbkljmbmaaGreatDoor

namespace Go.Proofs.YteceobbkljmbmaaGreatDoor
noncomputable section
open Go Go.Ab
attribute [local irreducible] V Ao Gh Eff PH
set_option maxRecDepth 4000
theorem indexCol {g : FuncId} {caps : List PV} {p : LCol → Bool} (xs : List LCol) (hg : ∀ (vs : Array Value) (w : World),(callFunc g vs).run Tryz.prog w = .ok (.enter g vs) w) (hp : ∀ x ∈ xs,aH Tryz.prog g (.agg (ap x) :: caps) (az (p x))) :
  aH Tryz.prog 129 [.list 70 (xs.map ap),.fn g caps] (ak (bg p xs)) := by
 refine PH.aw Tryz.func129 Tryz.ntmps129 ?_
 repeat (first | refine ag tk rfl ?_ | refine ac ?_ | refine ab ?_ | refine aa ?_ | refine aC ?_)
 refine gO tk 0 rfl rfl fun hl _=>?_
 refine iN (X := Nat) (fun j=>⟨19,upd (upd (upd (upd (fun _=>.any) 0 (.list 70 (xs.map ap))) 1 (.fn g caps)) 7 (ak (xs.map ap).length)) 8 (ak j),fun _=>none,fun _=>none⟩)
  (fun j=>j ≤ xs.length ∧ ∀ x ∈ xs.take j,p x = false) (fun j=>xs.length - j) 0 ⟨Nat.zero_le _,by simp⟩ (Gh.le (aI (aI (aI (aI bN)))) bf be) ?_
 rintro j ⟨hj,hpre⟩
 repeat (first | refine ag tk rfl ?_ | refine ac ?_ | refine ab ?_ | refine aa ?_)
 refine cS rfl (fun h=>?_) (fun h=>?_)
 ·have hlt : j < xs.length := by simpa using h
  have hget : xs[j]? = some xs[j] := ze hlt
  repeat (first | refine ag tk rfl ?_ | refine ac ?_ | refine ab ?_ | refine aa ?_ | refine ao ?_ | refine aC ?_)
  refine nv tk rfl rfl rfl rfl rfl rfl (zn j) (r := ap xs[j]) (by simp [hget]) rfl ?_
  repeat (refine ag tk rfl ?_)
  refine am hg (fW.r) (hp xs[j] (List.getElem_mem hlt)) ?_
  repeat (refine ac ?_)
  refine cS rfl (fun h=>?_) (fun h=>?_)
  ·repeat (first | refine ag tk rfl ?_ | refine ac ?_ | refine ab ?_ | refine aa ?_)
   refine dQ tk (PLe.q ?_)
   rw [mC hlt hpre h]
  ·repeat (first | refine ag tk rfl ?_ | refine ac ?_ | refine aa ?_ | refine ao ?_ | refine aP ?_)
   refine jm (j + 1) (by omega) ⟨hlt,?_⟩ (Gh.le (cp (PLe.q ?_) (aI (aI (aI bN)))) bf be)
   ·exact mE hlt hpre h
   ·exact eV (by simp at hl; omega)
 ·have hge : j = xs.length := by have : ¬ j < xs.length := by simpa using h
                                 omega
  repeat (first | refine ag tk rfl ?_ | refine ac ?_ | refine ab ?_ | refine aa ?_ | refine cT rfl ?_)
  refine dQ tk (PLe.q ?_)
  rw [iX (by rw [hge] at hpre; simpa using hpre)]
theorem indexInt {g : FuncId} {caps : List PV} {p : Int → Bool} (xs : List Int) (hg : ∀ (vs : Array Value) (w : World),(callFunc g vs).run Tryz.prog w = .ok (.enter g vs) w) (hp : ∀ x ∈ xs,aH Tryz.prog g (ak x :: caps) (az (p x))) :
  aH Tryz.prog 234 [.list 3 (xs.map fun x=>[ak x]),.fn g caps] (ak (bg p xs)) := by
 refine PH.aw Tryz.func234 Tryz.ntmps234 ?_
 repeat (first | refine ag tk rfl ?_ | refine ac ?_ | refine ab ?_ | refine aa ?_ | refine aC ?_)
 refine gO tk 0 rfl rfl fun hl _=>?_
 refine iN (X := Nat) (fun j=>⟨19,upd (upd (upd (upd (fun _=>.any) 0 (.list 3 (xs.map fun x=>[ak x]))) 1 (.fn g caps)) 7 (ak (xs.map fun x=>[ak x]).length)) 8 (ak j),fun _=>none,fun _=>none⟩)
  (fun j=>j ≤ xs.length ∧ ∀ x ∈ xs.take j,p x = false) (fun j=>xs.length - j) 0 ⟨Nat.zero_le _,by simp⟩ (Gh.le (aI (aI (aI (aI bN)))) bf be) ?_
 rintro j ⟨hj,hpre⟩
 repeat (first | refine ag tk rfl ?_ | refine ac ?_ | refine ab ?_ | refine aa ?_)
 refine cS rfl (fun h=>?_) (fun h=>?_)
 ·have hlt : j < xs.length := by simpa using h
  have hget : xs[j]? = some xs[j] := ze hlt
  repeat (first | refine ag tk rfl ?_ | refine ac ?_ | refine ab ?_ | refine aa ?_ | refine ao ?_ | refine aC ?_)
  refine nv tk rfl rfl rfl rfl rfl rfl (zn j) (r := [ak xs[j]]) (by simp [hget]) rfl ?_
  repeat (refine ag tk rfl ?_)
  refine am hg (fW.r) (hp xs[j] (List.getElem_mem hlt)) ?_
  repeat (refine ac ?_)
  refine cS rfl (fun h=>?_) (fun h=>?_)
  ·repeat (first | refine ag tk rfl ?_ | refine ac ?_ | refine ab ?_ | refine aa ?_)
   refine dQ tk (PLe.q ?_)
   rw [mC hlt hpre h]
  ·repeat (first | refine ag tk rfl ?_ | refine ac ?_ | refine aa ?_ | refine ao ?_ | refine aP ?_)
   refine jm (j + 1) (by omega) ⟨hlt,?_⟩ (Gh.le (cp (PLe.q ?_) (aI (aI (aI bN)))) bf be)
   ·exact mE hlt hpre h
   ·exact eV (by simp at hl; omega)
 ·have hge : j = xs.length := by have : ¬ j < xs.length := by simpa using h
                                 omega
  repeat (first | refine ag tk rfl ?_ | refine ac ?_ | refine ab ?_ | refine aa ?_ | refine cT rfl ?_)
  refine dQ tk (PLe.q ?_)
  rw [iX (by rw [hge] at hpre; simpa using hpre)]
theorem containsInt {g : FuncId} {caps : List PV} {p : Int → Bool} (xs : List Int) (hg : ∀ (vs : Array Value) (w : World),(callFunc g vs).run Tryz.prog w = .ok (.enter g vs) w) (hp : ∀ x ∈ xs,aH Tryz.prog g (ak x :: caps) (az (p x))) :
  aH Tryz.prog 211 [.list 3 (xs.map fun x=>[ak x]),.fn g caps] (az (xs.any p)) := by
 refine PH.aw Tryz.func211 Tryz.ntmps211 ?_
 repeat (first | refine ag tk rfl ?_ | refine ac ?_ | refine ab ?_ | refine aa ?_)
 refine am Tryz.call234 (fW.r) (indexInt xs hg hp) ?_
 repeat (first | refine ag tk rfl ?_ | refine ac ?_)
 refine dQ tk (PLe.q ?_)
 rw [jD]
theorem indexStr (s : List UInt8) (xs : List (List UInt8)) :
  aH Tryz.prog 169 [pstrs xs,.str s] (ak (bg (fun x=>s == x) xs)) := by
 refine PH.aw Tryz.func169 Tryz.ntmps169 ?_
 repeat (first | refine ag tk rfl ?_ | refine ac ?_ | refine ab ?_ | refine aa ?_ | refine aC ?_)
 refine gO tk 0 rfl rfl fun hl _=>?_
 refine iN (X := Nat) (fun j=>⟨19,upd (upd (upd (upd (fun _=>.any) 0 (pstrs xs)) 1 (.str s)) 7 (ak (xs.map fun s=>[PV.str s]).length)) 8 (ak j),fun _=>none,fun _=>none⟩)
  (fun j=>j ≤ xs.length ∧ ∀ x ∈ xs.take j,(s == x) = false) (fun j=>xs.length - j) 0 ⟨Nat.zero_le _,by simp⟩ (Gh.le (aI (aI (aI (aI bN)))) bf be) ?_
 rintro j ⟨hj,hpre⟩
 repeat (first | refine ag tk rfl ?_ | refine ac ?_ | refine ab ?_ | refine aa ?_)
 refine cS rfl (fun h=>?_) (fun h=>?_)
 ·have hlt : j < xs.length := by simpa using h
  have hget : xs[j]? = some xs[j] := ze hlt
  repeat (first | refine ag tk rfl ?_ | refine ac ?_ | refine ab ?_ | refine aa ?_ | refine ao ?_ | refine aC ?_)
  refine nv tk rfl rfl rfl rfl rfl rfl (zn j) (r := [.str xs[j]]) (by simp [hget]) rfl ?_
  repeat (first | refine ag tk rfl ?_ | refine ac ?_)
  refine cS rfl (fun h=>?_) (fun h=>?_)
  ·repeat (first | refine ag tk rfl ?_ | refine ac ?_ | refine ab ?_ | refine aa ?_)
   refine dQ tk (PLe.q ?_)
   rw [mC hlt hpre h]
  ·repeat (first | refine ag tk rfl ?_ | refine ac ?_ | refine aa ?_ | refine ao ?_ | refine aP ?_)
   refine jm (j + 1) (by omega) ⟨hlt,?_⟩ (Gh.le (cp (PLe.q ?_) (aI (aI (aI bN)))) bf be)
   ·exact mE (p := fun x=>s == x) hlt hpre h
   ·exact eV (by simp at hl; omega)
 ·have hge : j = xs.length := by have : ¬ j < xs.length := by simpa using h
                                 omega
  repeat (first | refine ag tk rfl ?_ | refine ac ?_ | refine ab ?_ | refine aa ?_ | refine cT rfl ?_)
  refine dQ tk (PLe.q ?_)
  rw [iX (by rw [hge] at hpre; simpa using hpre)]
def iv (v : LVal) : Bool :=
 if v.kind = 0 then decide (v = ⟨0,0,[]⟩) else if v.kind = 1 then v.text == [] && decide (v.int ≥ -1000000000000) && decide (v.int ≤ 1000000000000)
 else if v.kind = 2 then v.text == [] && (v.int == 0 || v.int == 1) else if v.kind = 3 then v.int == 0 && decide (v.text.length ≤ 24) else false
theorem nX (v : LVal) : aH Tryz.prog 30 [pval v] (az (iv v)) := by
 refine PH.aw Tryz.func30 Tryz.ntmps30 ?_
 repeat' (first | refine ag tk rfl ?_ | refine ac ?_ | refine ab ?_ | refine aa ?_ | refine ao ?_ | refine aC ?_ | refine aP ?_ | refine aD ?_ | refine cS rfl (fun h=>?_) (fun h=>?_) | ((fail_if_success refine gK rfl ?_); refine gI rfl rfl rfl (fun h=>?_) (fun h=>?_)))
 all_goals refine dQ tk (PLe.q ?_)
 all_goals cases v
 all_goals simp_all [iv]
 ·rename_i x _
  rw [Bool.eq_iff_iff]
  cases x <;> simp
 ·omega
 ·omega
def wr (n : Int) : Int := IntKind.i64.wrap n
end
end Go.Proofs.YteceobbkljmbmaaGreatDoor

namespace Go.Proofs.YteceobbkljmbmaaGreatDoor
noncomputable section
open Go Go.Ab
attribute [local irreducible] V Ao Do Gh Eff PH IntKind.wrap
set_option maxRecDepth 4000
def gT : List (List UInt8) := [[43],[45],[42],[61],[60],[60,61],[97,110,100],[111,114],[110,111,116],[124,124],[105,115,32,110,117,108,108],[108,101,110,103,116,104],[105,102]]
def opArity : List Int := [2,2,2,2,2,2,2,2,1,2,1,1,3]
theorem opsS : aH Tryz.prog 199 [] (.tup [pstrs gT,pints opArity]) := by
 refine PH.aw Tryz.func199 Tryz.ntmps199 ?_
 repeat (first | refine ag tk rfl ?_ | refine ac ?_ | refine ab ?_ | refine aa ?_ | refine oH tk rfl rfl rfl rfl rfl rfl ?_)
 refine oS tk rfl rfl rfl (PLe.q ?_)
 rfl
def kF (name : List UInt8) : Option Nat :=
 if name == [43] || name == [45] || name == [42] || name == [61] || name == [60] || name == [60,61] || name == [97,110,100] || name == [111,114] || name == [124,124] then some 2
 else if name == [110,111,116] || name == [105,115,32,110,117,108,108] || name == [108,101,110,103,116,104] then some 1
 else if name == [105,102] then some 3 else none
theorem len2 {α : Type} : ∀ {l : List α},l.length = 2 → ∃ a b,l = [a,b]
 | [a,b],_=>⟨a,b,rfl⟩
theorem len3 {α : Type} : ∀ {l : List α},l.length = 3 → ∃ a b c,l = [a,b,c]
 | [a,b,c],_=>⟨a,b,c,rfl⟩
def lit (v : LVal) : LExpr := .mk 1 [] 0 v []
def jt (acc r : Int × Int) : Int × Int := (wr (acc.1 + r.1),if r.2 > acc.2 then r.2 else acc.2)
mutual
def fv : LExpr → Int × Int
 | .mk _ _ _ _ args=>let r := (sizesE args).foldl jt (1,0); (r.1,wr (r.2 + 1))
def sizesE : List LExpr → List (Int × Int)
 | []=>[]
 | e :: r=>fv e :: sizesE r
end
theorem sizesE_map : ∀ l,sizesE l = l.map fv
 | []=>rfl
 | e :: r=>by simp [sizesE,sizesE_map r]
theorem sizeE_eq (e : LExpr) : fv e = (((e.args.map fv).foldl jt (1,0)).1,wr (((e.args.map fv).foldl jt (1,0)).2 + 1)) := by
 cases e
 rw [fv,sizesE_map]
 rfl
theorem foldl_take {α β : Type} (g : β → α → β) (z : β) {l : List α} {j : Nat} (h : j < l.length) : (l.take (j + 1)).foldl g z = g ((l.take j).foldl g z) l[j] := by
 rw [List.take_add_one,ze h,List.foldl_append]
 rfl
theorem sizeStep_spec (e : LExpr) (ih : ∀ a ∈ e.args,aH Tryz.prog 133 [ky a] (.tup [ak (fv a).1,ak (fv a).2])) :
  aH Tryz.prog 133 [ky e] (.tup [ak (fv e).1,ak (fv e).2]) := by
 refine PH.aw Tryz.func133 Tryz.ntmps133 ?_
 repeat (first | refine ag tk rfl ?_ | refine ac ?_ | refine ab ?_ | refine aa ?_ | refine aC ?_ | refine aD ?_)
 refine gO tk 11 rfl rfl fun hl _=>?_
 rw [zl] at hl
 refine iN (X := Nat) (fun j=>⟨32,upd (upd (upd (upd (upd (fun _=>.any) 5 (ak (((e.args.map fv).take j).foldl jt (1,0)).2)) 4 (ak (((e.args.map fv).take j).foldl jt (1,0)).1)) 11 (pexprs e.args)) 12 (ak (e.args.map cJ).length)) 13 (ak j),fun _=>none,fun _=>none⟩)
  (fun j=>j ≤ e.args.length) (fun j=>e.args.length - j) 0 (Nat.zero_le _) (Gh.le (aI (aI (aI (aI (aI bN))))) bf be) ?_
 intro j hj
 repeat (first | refine ag tk rfl ?_ | refine ac ?_ | refine ab ?_ | refine aa ?_)
 refine cS rfl (fun h=>?_) (fun h=>?_)
 ·have hlt : j < e.args.length := by simpa using h
  repeat (first | refine ab ?_ | refine aa ?_ | refine ao ?_ | refine aC ?_)
  refine aX tk (zn j) (getExpr hlt) ?_
  repeat (first | refine ag tk rfl ?_ | refine ac ?_ | refine ab ?_ | refine aa ?_ | refine aB tk ?_ | (refine jl tk rfl rfl rfl rfl rfl rfl ?_; intro bk) | refine aE tk ?_)
  refine am Tryz.call133 (fW.r) (ih _ (List.getElem_mem hlt)) ?_
  repeat (first | refine ag tk rfl ?_ | refine ac ?_ | refine aa ?_ | refine aP ?_)
  have e1 := foldl_take jt (1,0) (l := e.args.map fv) (j := j) (by simpa using hlt)
  rw [List.getElem_map] at e1
  refine jm (j + 1) (by omega) hlt (Gh.le (cp (PLe.q (eV (by omega))) (aI (aI (cp (PLe.q (by rw [e1]; rfl)) (cp (PLe.q (by rw [e1]; rfl)) bN))))) bf be)
 have hge : j = e.args.length := by have : ¬ j < e.args.length := by simpa using h
                                    omega
 subst hge
 rw [show (e.args.map fv).take e.args.length = e.args.map fv from by rw [List.take_of_length_le]; simp]
 repeat (first | refine ag tk rfl ?_ | refine ac ?_ | refine ab ?_ | refine aa ?_ | refine cT rfl ?_)
 refine oS tk rfl rfl rfl (PLe.q ?_)
 rw [sizeE_eq]
 rfl
theorem size_spec : ∀ e : LExpr,aH Tryz.prog 133 [ky e] (.tup [ak (fv e).1,ak (fv e).2])
 | .mk k n i x args=>sizeStep_spec (.mk k n i x args) fun a ha=>by
  have ha' : a ∈ args := ha
  exact size_spec a
def kP (c : UInt8) : Bool := (decide ((c.toNat : Int) ≥ 97) && decide ((c.toNat : Int) ≤ 122)) || (decide ((c.toNat : Int) ≥ 48) && decide ((c.toNat : Int) ≤ 57))
theorem inner_spec (c : UInt8) : aH Tryz.prog 142 [.val (.int .u8 c.toNat)] (az (kP c)) := by
 refine PH.aw Tryz.func142 Tryz.ntmps142 ?_
 repeat' (first | (show Ao _ _ _ _ _; first | refine ag tk rfl ?_ | refine ac ?_ | ((fail_if_success refine gK rfl ?_); refine gI rfl rfl rfl (fun h=>?_) (fun h=>?_))) | (show V _ _ _ _ _; first | refine ab ?_ | refine aa ?_))
 all_goals refine dQ tk (PLe.q ?_)
 all_goals simp_all [kP]
 all_goals omega
theorem colIs_spec (c : LCol) (name : List UInt8) : aH Tryz.prog 209 [pcol c,.ptr [.str name]] (az (c.name == name)) := by
 refine PH.aw Tryz.func209 Tryz.ntmps209 ?_
 repeat' (first | (show Ao _ _ _ _ _; first | refine ag tk rfl ?_ | refine ac ?_ | refine aD ?_) | (show V _ _ _ _ _; first | refine ab ?_ | refine aa ?_))
 all_goals refine dQ tk (PLe.q rfl)
def findV (l : List LCol) (name : List UInt8) : LCol × Bool :=
 let i := bg (fun c : LCol=>c.name == name) l
 if i < 0 then (⟨[],0,false⟩,false) else (l.getD i.toNat ⟨[],0,false⟩,true)
theorem getCol {l : List LCol} {j : Int} (h0 : 0 ≤ j) (h : j < l.length) : (l.map ap)[j.toNat]? = some (ap (l.getD j.toNat ⟨[],0,false⟩)) := by
 have : j.toNat < l.length := by omega
 simp [this]
theorem idxOf_lt {α : Type} {p : α → Bool} {l : List α} : bg p l < l.length := by
 simp only [bg]
 split
 ·rename_i i h
  have := (List.findIdx?_eq_some_iff_getElem.1 h).1
  omega
 ·omega
theorem find_spec (l : List LCol) (name : List UInt8) : aH Tryz.prog 178 [gr l,.str name] (.tup [pcol (findV l name).1,az (findV l name).2]) := by
 refine PH.aw Tryz.func178 Tryz.ntmps178 ?_
 repeat' (first | (show Ao _ _ _ _ _; first | refine ag tk rfl ?_ | refine ac ?_ | refine aD ?_ | (refine jl tk rfl rfl rfl rfl rfl rfl ?_; intro bk) | refine aE tk ?_ | refine am Tryz.call129 (fW.r) (indexCol (p := fun c=>c.name == name) _ Tryz.call209 fun c _=>colIs_spec c name) ?_ | refine nv tk rfl rfl rfl rfl rfl rfl (Int.not_lt.1 (of_decide_eq_false (by assumption))) (getCol (Int.not_lt.1 (of_decide_eq_false (by assumption))) idxOf_lt) rfl ?_) | (show V _ _ _ _ _; first | refine ab ?_ | refine aa ?_ | refine ao ?_ | refine cS rfl (fun h=>?_) (fun h=>?_)))
 all_goals refine V.retCT tk rfl rfl rfl rfl rfl rfl (PLe.q ?_)
 all_goals simp_all [findV]
 all_goals rw [zy (by omega)]
 all_goals exact ⟨⟨rfl,rfl,rfl⟩,rfl⟩
def cw (s : List UInt8) : Bool := decide (1 ≤ s.length) && decide (s.length ≤ 12) && (match s with | []=>false | c :: _=>decide (c.toNat ≥ 97) && decide (c.toNat ≤ 122)) && s.all kP
theorem idxStrAt {l : List UInt8} {j : Nat} (h : j < l.length) : l[((j : Nat) : Int).toNat]? = some l[j] := by simp [h]
theorem gY (s : List UInt8) : aH Tryz.prog 95 [.str s] (az (cw s)) := by
 cases s with
 | nil =>
  refine PH.aw Tryz.func95 Tryz.ntmps95 ?_
  repeat' (first | (show Ao _ _ _ _ _; first | refine ag tk rfl ?_ | refine ac ?_) | (show V _ _ _ _ _; first | refine ab ?_ | refine aa ?_ | refine bX rfl ?_))
  all_goals refine dQ tk (PLe.q rfl)
 | cons c s =>
  refine PH.aw Tryz.func95 Tryz.ntmps95 ?_
  refine V.strF 0 rfl fun hl=>?_
  repeat' (first | (show Ao _ _ _ _ _; first | refine ag tk rfl ?_ | refine ac ?_ | ((fail_if_success refine gK rfl ?_); refine gI rfl rfl rfl (fun h=>?_) (fun h=>?_))) | (show V _ _ _ _ _; first | refine ab ?_ | refine aa ?_ | refine ao ?_ | refine bX rfl ?_ | refine aC ?_ | refine cS rfl (fun h=>?_) (fun h=>?_)))
  case cons.refine_1 =>
   refine dQ tk (PLe.q ?_)
   have : ¬ (c :: s).length ≤ 12 := by simp only [decide_eq_true_eq] at h; omega
   have : cw (c :: s) = false := by simp only [cw,this]; simp
   rw [this]
  case cons.refine_2.refine_1 =>
   refine dQ tk (PLe.q ?_)
   have : ¬ c.toNat ≥ 97 := by simp only [decide_eq_true_eq] at h; omega
   simp [cw,this]
  case cons.refine_2.refine_2.refine_1 =>
   refine dQ tk (PLe.q ?_)
   have : ¬ c.toNat ≤ 122 := by simp only [decide_eq_true_eq] at h; omega
   simp [cw,this]
  rename_i h1 h2
  have hs : cw (c :: s) = (c :: s).all kP := by
   simp only [decide_eq_false_iff_not] at h1 h2 h
   have e1 : (c :: s).length ≤ 12 := by omega
   have e2 : c.toNat ≥ 97 := by omega
   have e3 : c.toNat ≤ 122 := by omega
   simp only [cw,e1,e2,e3]
   simp
  rw [hs]
  clear hs h h1 h2
  generalize hL : c :: s = L at *
  refine iN (X := Nat) (fun j=>⟨33,upd (upd (upd (fun _=>.any) 0 (.str L)) 23 (ak L.length)) 24 (ak j),fun _=>none,fun _=>none⟩)
   (fun j=>j ≤ L.length ∧ ∀ x ∈ L.take j,kP x = true) (fun j=>L.length - j) 0 ⟨Nat.zero_le _,by simp⟩ (Gh.le (aI (aI (aI bN))) bf be) ?_
  rintro j ⟨hj,hpre⟩
  repeat (first | refine ag tk rfl ?_ | refine ac ?_ | refine ab ?_ | refine aa ?_)
  refine cS rfl (fun h=>?_) (fun h=>?_)
  ·have hlt : j < L.length := by simpa using h
   repeat (first | refine ag tk rfl ?_ | refine ac ?_ | refine ab ?_ | refine aa ?_ | refine ao ?_ | refine aC ?_)
   refine oz tk rfl rfl rfl rfl rfl rfl (zn j) (idxStrAt hlt) rfl ?_
   skip
   refine am Tryz.call142 (fW.r) (inner_spec _) ?_
   repeat (first | refine ag tk rfl ?_ | refine ac ?_)
   refine cS rfl (fun h=>?_) (fun h=>?_)
   ·repeat (first | refine ag tk rfl ?_ | refine ac ?_ | refine ab ?_ | refine aa ?_)
    refine dQ tk (PLe.q ?_)
    have : L.all kP = false := by
     rw [List.all_eq_false]
     exact ⟨L[j],List.getElem_mem hlt,by simpa using h⟩
    rw [this]
   ·repeat (first | refine ag tk rfl ?_ | refine ac ?_ | refine aa ?_ | refine ao ?_ | refine aP ?_)
    refine jm (j + 1) (by omega) ⟨hlt,?_⟩ (Gh.le (cp (PLe.q (eV (by unfold maxLen; unfold hM at hl; omega))) (aI (aI bN))) bf be)
    intro x hx
    rw [List.take_add_one,ze hlt] at hx
    simp only [Option.toList,List.mem_append,List.mem_singleton] at hx
    rcases hx with hx | rfl
    ·exact hpre x hx
    ·simpa using h
  have hge : j = L.length := by have : ¬ j < L.length := by simpa using h
                                omega
  repeat (first | refine ag tk rfl ?_ | refine ac ?_ | refine ab ?_ | refine aa ?_ | refine cT rfl ?_)
  refine dQ tk (PLe.q ?_)
  have : L.all kP = true := by
   rw [List.all_eq_true]
   rw [hge] at hpre
   simpa using hpre
  rw [this]
abbrev KR := Int × Bool × Int
abbrev pkr (r : KR) : PV := .tup [ak r.1,az r.2.1,ak r.2.2]
def jO (kind : Int) (nullable ok : Bool) : KR := if ok then (kind,nullable,0) else (0,false,7)
theorem dO (kind : Int) (nullable ok : Bool) : aH Tryz.prog 214 [ak kind,az nullable,az ok] (pkr (jO kind nullable ok)) := by
 refine PH.aw Tryz.func214 Tryz.ntmps214 ?_
 repeat' (first | (show Ao _ _ _ _ _; first | refine ag tk rfl ?_ | refine ac ?_) | (show V _ _ _ _ _; first | refine ab ?_ | refine aa ?_ | refine ao ?_ | refine cS rfl (fun h=>?_) (fun h=>?_)))
 all_goals refine dw tk (PLe.q ?_)
 all_goals simp_all [jO]
def alikeB (a b : Int) : Bool := a == b || a == 0 || b == 0
theorem jY (a b : Int) : aH Tryz.prog 213 [ak a,ak b] (az (alikeB a b)) := by
 refine PH.aw Tryz.func213 Tryz.ntmps213 ?_
 repeat' (first | (show Ao _ _ _ _ _; first | refine ag tk rfl ?_ | refine ac ?_ | ((fail_if_success refine gK rfl ?_); refine gI rfl rfl rfl (fun h=>?_) (fun h=>?_))) | (show V _ _ _ _ _; first | refine ab ?_ | refine aa ?_))
 all_goals refine dQ tk (PLe.q ?_)
 all_goals simp_all [alikeB]
theorem allOf1_spec (n want : Int) : aH Tryz.prog 212 [ak n,.ptr [ak want]] (az (n != want && n != 0)) := by
 refine PH.aw Tryz.func212 Tryz.ntmps212 ?_
 repeat' (first | (show Ao _ _ _ _ _; first | refine ag tk rfl ?_ | refine ac ?_ | ((fail_if_success refine gK rfl ?_); refine gI rfl rfl rfl (fun h=>?_) (fun h=>?_))) | (show V _ _ _ _ _; first | refine ab ?_ | refine aa ?_))
 all_goals refine dQ tk (PLe.q ?_)
 all_goals simp_all
def allOf (want : Int) (l : List Int) : Bool := !(l.any fun n=>n != want && n != 0)
theorem fY (want : Int) (l : List Int) : aH Tryz.prog 210 [ak want,.ptr [pints l]] (az (allOf want l)) := by
 refine PH.aw Tryz.func210 Tryz.ntmps210 ?_
 repeat' (first | (show Ao _ _ _ _ _; first | refine ag tk rfl ?_ | refine ac ?_ | refine aD ?_ | refine am Tryz.call211 (fW.r) (containsInt (p := fun n=>n != want && n != 0) l Tryz.call212 fun n _=>allOf1_spec n want) ?_) | (show V _ _ _ _ _; first | refine ab ?_ | refine aa ?_))
 all_goals refine dQ tk (PLe.q rfl)
def gV (x : Int) : KR := (0,false,x)
def ff (name : List UInt8) (kinds : List Int) (nullable : Bool) : KR :=
 if name == [43] || name == [45] || name == [42] then jO 1 true (allOf 1 kinds)
 else if name == [124,124] then jO 3 true (allOf 3 kinds)
 else if name == [108,101,110,103,116,104] then jO 1 nullable (allOf 3 kinds)
 else if name == [97,110,100] || name == [111,114] || name == [110,111,116] then jO 2 nullable (allOf 2 kinds)
 else if name == [105,115,32,110,117,108,108] then (2,false,0)
 else if name == [105,102] then jO (if kinds.getD 2 0 > kinds.getD 1 0 then kinds.getD 2 0 else kinds.getD 1 0) nullable (alikeB (kinds.getD 0 0) 2 && alikeB (kinds.getD 1 0) (kinds.getD 2 0))
 else jO 2 nullable (alikeB (kinds.getD 0 0) (kinds.getD 1 0))
def im (name : List UInt8) (i : Int) (x : LVal) (ks : List KR) : KR :=
 if kF name ≠ some ks.length ∨ i ≠ 0 ∨ x ≠ .nul then gV 3
 else match ks.find? fun r=>r.2.2 != 0 with
  | some r=>gV r.2.2
  | none=>ff name (ks.map (·.1)) (ks.any (·.2.1))
mutual
def dv (cols vars : List LCol) : LExpr → KR
 | .mk k n i x args =>
  if k ≠ 5 ∧ 0 < args.length then gV 3
  else if k == 1 then (if iv x && n == [] && i == 0 then (x.kind,x.kind == 0,0) else gV 3)
  else if k == 3 then (if i < 0 ∨ i ≥ 8 ∨ n ≠ [] ∨ x.kind < 1 ∨ x.kind > 3 ∨ x ≠ ⟨x.kind,0,[]⟩ then gV 3 else (x.kind,true,0))
  else if k == 2 || k == 4 then
   (if cw n && i == 0 && decide (x = .nul) then
    (let r := findV (if k == 4 then vars else cols) n
     if r.2 then (r.1.kind,r.1.nullable,0) else gV 23)
    else gV 3)
  else if k == 5 then im n i x (kindsE cols vars args)
  else gV 3
def kindsE (cols vars : List LCol) : List LExpr → List KR
 | []=>[]
 | e :: r=>dv cols vars e :: kindsE cols vars r
end
theorem kindsE_map (cols vars : List LCol) : ∀ l,kindsE cols vars l = l.map (dv cols vars)
 | []=>rfl
 | e :: r=>by simp [kindsE,kindsE_map cols vars r]
theorem arity_of_idx (name : List UInt8) : (bg (fun x=>name == x) gT < 0 ∧ kF name = none) ∨
  ∃ a : Nat,0 ≤ bg (fun x=>name == x) gT ∧ (opArity.map fun n=>[ak n])[(bg (fun x=>name == x) gT).toNat]? = some [ak a] ∧ kF name = some a := by
 by_cases hn : name ∈ gT
 ·refine .inr ?_
  simp only [gT,List.mem_cons,List.mem_nil_iff,or_false] at hn
  rcases hn with rfl | rfl | rfl | rfl | rfl | rfl | rfl | rfl | rfl | rfl | rfl | rfl | rfl <;> exact ⟨_,by decide,rfl,rfl⟩
 ·refine .inl ⟨?_,?_⟩
  ·rw [iX fun x hx=>by
    cases hb : name == x with
    | false=>rfl
    | true=>exact absurd (by rw [eq_of_beq hb]; exact hx) hn]
   decide
  ·simp only [gT,List.mem_cons,List.mem_nil_iff,or_false,not_or] at hn
   simp [kF,hn]
theorem find_at {α : Type} {p : α → Bool} {l : List α} {j : Nat} (hlt : j < l.length) (hpre : ∀ x ∈ l.take j,p x = false) (h : p l[j] = true) : l.find? p = some l[j] := by
 rw [List.find?_eq_some_iff_getElem]
 refine ⟨h,j,hlt,rfl,fun i hi=>?_⟩
 have := hpre l[i] (List.mem_take_iff_getElem.2 ⟨i,by omega,rfl⟩)
 simp [this]
theorem kindRows {cols vars : List LCol} {args : List LExpr} {j : Nat} (h : j < args.length) : ((args.take j).map (dv cols vars)).map (fun r=>[ak r.1]) ++ [[ak (dv cols vars args[j]).1]] = ((args.take (j + 1)).map (dv cols vars)).map fun r=>[ak r.1] := by
 rw [List.take_add_one,ze h]
 simp only [List.map_append,Option.toList,List.map_cons,List.map_nil]
theorem kindAny {cols vars : List LCol} {args : List LExpr} {j : Nat} (h : j < args.length) : ((args.take (j + 1)).map (dv cols vars)).any (·.2.1) = (((args.take j).map (dv cols vars)).any (·.2.1) || (dv cols vars args[j]).2.1) := by
 rw [List.take_add_one,ze h]
 simp only [List.map_append,List.any_append,Option.toList,List.map_cons,List.map_nil,List.any_cons,List.any_nil,Bool.or_false]
theorem opKind_spec (cols vars : List LCol) (e : LExpr) (ih : ∀ a ∈ e.args,aH Tryz.prog 134 [gr cols,gr vars,ky a] (pkr (dv cols vars a))) :
  aH Tryz.prog 179 [gr cols,gr vars,ky e] (pkr (im e.name e.index e.value (e.args.map (dv cols vars)))) := by
 rcases arity_of_idx e.name with ⟨hK,ha⟩ | ⟨ar,hK,hr,ha⟩
 ·refine PH.aw Tryz.func179 Tryz.ntmps179 ?_
  repeat' (first | (show Ao _ _ _ _ _; first | refine ag tk rfl ?_ | refine ac ?_ | refine aD ?_ | refine am Tryz.call199 (fW.r) (opsS) ?_ | refine am Tryz.call169 (fW.r) (indexStr _ _) ?_) | (show V _ _ _ _ _; first | refine ab ?_ | refine aa ?_ | refine bX rfl ?_ | (show V _ _ _ (.code (.region 3 _ true) :: _) _; refine bD tk mok ⟨false,false,[]⟩ [0,1,2,3,4,5,6,7,8,9,10,11,12,13,14,15,16,17,18,19,20,21,22] rfl (by decide +kernel) rfl ?_)) | (show Do _ _ _ _ _ _ _; first | refine bY rfl ?_ | refine bi ?_ | ((fail_if_success refine mu rfl rfl ?_); refine mB rfl rfl rfl rfl (fun h=>?_) (fun h=>?_))))
  all_goals try (exfalso; simp_all <;> omega; done)
  all_goals refine dw tk (PLe.q ?_)
  all_goals (have : im e.name e.index e.value (e.args.map (dv cols vars)) = gV 3 := by simp [im,ha])
  all_goals (rw [this]; rfl)
 ·refine PH.aw Tryz.func179 Tryz.ntmps179 ?_
  repeat' (first | (show Ao _ _ _ _ _; first | refine ag tk rfl ?_ | refine ac ?_ | refine aD ?_ | (refine jl tk rfl rfl rfl rfl rfl rfl ?_; intro bk) | refine am Tryz.call199 (fW.r) (opsS) ?_ | refine am Tryz.call169 (fW.r) (indexStr _ _) ?_) | (show V _ _ _ _ _; first | refine ab ?_ | refine aa ?_ | refine ao ?_ | refine bX rfl ?_ | refine aC ?_ | (show V _ _ _ (.code (.region 3 _ true) :: _) _; refine bD tk mok ⟨false,false,[]⟩ [0,1,2,3,4,5,6,7,8,9,10,11,12,13,14,15,16,17,18,19,20,21,22] rfl (by decide +kernel) rfl ?_) | refine cS rfl (fun h=>?_) (fun h=>?_)) | (show Do _ _ _ _ _ _ _; first | refine bY rfl ?_ | refine bi ?_ | refine bH hK hr ?_ | ((fail_if_success refine mu rfl rfl ?_); refine mB rfl rfl rfl rfl (fun h=>?_) (fun h=>?_))))
  all_goals try (exfalso; simp_all <;> omega; done)
  case inr.refine_2.refine_1 =>
   refine dw tk (PLe.q ?_)
   rw [im,zp (.inl (by rw [ha]; simp at h ⊢; omega))]
   rfl
  case inr.refine_2.refine_2.refine_1 =>
   refine dw tk (PLe.q ?_)
   rw [im,zp (.inr (.inl (by simpa using h)))]
   rfl
  case inr.refine_2.refine_2.refine_2.refine_1 =>
   refine dw tk (PLe.q ?_)
   rw [im,zp (.inr (.inr (by intro hh; rw [hh] at h; simp [LVal.nul] at h)))]
   rfl
  rename_i h0 h1 h2
  have hlen : e.args.length = ar := by
   simp at h1
   omega
  have hgood : ¬ (kF e.name ≠ some (e.args.map (dv cols vars)).length ∨ e.index ≠ 0 ∨ e.value ≠ .nul) := by
   rw [ha]
   rintro (h3 | h3 | h3)
   ·simp [hlen] at h3
   ·exact h3 (by simpa using h2)
   ·apply h3
    cases hv : e.value
    rw [hv] at h
    simp at h
    simp [LVal.nul,h]
  rw [im,zy hgood]
  refine gO tk 53 rfl rfl fun hl hby=>?_
  rw [zl] at hl hby
  have hby' : e.args.length * 88 ≤ 2 ^ 47 := hby
  refine oM tk 12 0 12 (e := 3) rfl rfl rfl rfl ?_
  refine iN (X := Nat × OwnRef) (fun X=>⟨164,upd (upd (upd (upd (upd (upd (upd (upd (fun _=>.any) 13 (az (((e.args.take X.1).map (dv cols vars)).any (·.2.1)))) 12 (.box 12 bk 0)) 5 (.ptr (fj e))) 1 (gr vars)) 0 (gr cols)) 53 (pexprs e.args)) 54 (ak (e.args.map cJ).length)) 55 (ak X.1),upd (fun _=>none) 12 (some ⟨bk,[.own 12 X.2 (((e.args.take X.1).map (dv cols vars)).map fun r=>[ak r.1]).length]⟩),upd (fun _=>none) 12 (some ⟨X.2,3,((e.args.take X.1).map (dv cols vars)).map fun r=>[ak r.1],true⟩)⟩)
   (fun X=>X.1 ≤ e.args.length ∧ ∀ x ∈ (e.args.map (dv cols vars)).take X.1,(x.2.2 != 0) = false) (fun X=>e.args.length - X.1) (0,⟨none,0⟩) ⟨Nat.zero_le _,by simp⟩ (Gh.le (aI (aI (aI (aI (aI (aI (aI (aI bN)))))))) (aT rfl (fW.r) bf) (eu be)) ?_
  rintro ⟨j,g⟩ ⟨hj,hpre⟩
  replace hj : j ≤ e.args.length := hj
  replace hpre : ∀ x ∈ (e.args.map (dv cols vars)).take j,(x.2.2 != 0) = false := hpre
  repeat (first | refine ag tk rfl ?_ | refine ac ?_ | refine ab ?_ | refine aa ?_)
  refine cS rfl (fun h=>?_) (fun h=>?_)
  ·have hlt : j < e.args.length := by simpa using h
   have hlt' : j < (e.args.map (dv cols vars)).length := by simpa using hlt
   repeat (first | refine ab ?_ | refine aa ?_ | refine ao ?_ | refine aC ?_)
   refine aX tk (zn j) (getExpr hlt) ?_
   repeat (first | refine ag tk rfl ?_ | refine ac ?_ | refine ab ?_ | refine aa ?_ | refine aB tk ?_ | (refine jl tk rfl rfl rfl rfl rfl rfl ?_; intro bk) | refine aE tk ?_)
   refine am Tryz.call134 (fW.r) (ih _ (List.getElem_mem hlt)) ?_
   repeat (first | refine ag tk rfl ?_ | refine ac ?_ | refine ab ?_ | refine aa ?_)
   refine cS rfl (fun h=>?_) (fun h=>?_)
   ·repeat (first | refine ag tk rfl ?_ | refine ac ?_ | refine ab ?_ | refine aa ?_)
    refine dw tk (PLe.q ?_)
    rw [find_at hlt' hpre (by simpa using h),List.getElem_map]
    rfl
   ·repeat (first | refine ag tk rfl ?_ | refine aa ?_ | refine ao ?_ | refine aB tk ?_ | refine oH tk rfl rfl rfl rfl rfl rfl ?_)
    refine oR (rows2 := [[ak (dv cols vars e.args[j]).1]]) tk rfl rfl rfl rfl rfl rfl rfl rfl rfl rfl rfl rfl rfl ?_ ?_ fun g'=>?_
    ·simp only [zl,List.length_take,List.length_cons,List.length_nil]
     rw [Nat.min_eq_left hj]
     show (j + 1) * 8 ≤ 2 ^ 47
     omega
    ·simp only [zl,List.length_take,List.length_cons,List.length_nil]
     omega
    repeat (refine ag tk rfl ?_)
    have hpre' : ∀ x ∈ (e.args.map (dv cols vars)).take (j + 1),(x.2.2 != 0) = false := mE (p := fun x : KR=>x.2.2 != 0) hlt' hpre (by rw [List.getElem_map]; exact h)
    have hany := kindAny (cols := cols) (vars := vars) hlt
    refine gI rfl rfl rfl (fun hn=>?_) (fun hn=>?_)
    ·repeat (first | refine ag tk rfl ?_ | refine ac ?_ | refine aa ?_ | refine aP ?_ | refine aE tk ?_)
     rw [kindRows hlt]
     refine jm (j + 1,g') ?_ ⟨hlt,hpre'⟩ (Gh.le (cp (PLe.q (eV (by omega))) (aI (aI (aI (aI (aI (aI (cp (PLe.q (by rw [hany,hn]; rfl)) bN)))))))) (aT rfl (fW.r) bf) (eu be))
     show e.args.length - (j + 1) < e.args.length - j
     omega
    ·repeat (first | refine ag tk rfl ?_ | refine ac ?_ | refine aa ?_ | refine aP ?_ | refine aE tk ?_)
     rw [kindRows hlt]
     refine jm (j + 1,g') ?_ ⟨hlt,hpre'⟩ (Gh.le (cp (PLe.q (eV (by omega))) (aI (aI (aI (aI (aI (aI (cp (PLe.q (by rw [hany,hn]; rfl)) bN)))))))) (aT rfl (fW.r) bf) (eu be))
     show e.args.length - (j + 1) < e.args.length - j
     omega
  have hge : j = e.args.length := by have : ¬ j < e.args.length := by simpa using h
                                     omega
  subst hge
  refine om 12 0 rfl rfl rfl rfl rfl (oD 12 rfl rfl rfl rfl ?_)
  have hks : (e.args.map (dv cols vars)).find? (fun r=>r.2.2 != 0) = none := by
   rw [List.find?_eq_none]
   intro x hx
   have := hpre x (by rw [List.take_of_length_le (by simp)]; exact hx)
   simp [this]
  rw [hks]
  simp only [List.take_length]
  have hlk : (e.args.map (dv cols vars)).length = ar := by simp [hlen]
  generalize e.args.map (dv cols vars) = KS at hlk
  refine gA (st' := ⟨164,upd (upd (upd (fun _=>.any) 13 (az (KS.any (·.2.1)))) 12 (.ptr [pints (KS.map (·.1))])) 5 (.ptr [ak e.kind,.str e.name,ak e.index,ak e.value.kind,ak e.value.int,.str e.value.text,pexprs e.args]),fun _=>none,fun _=>none⟩) (Gh.le (aI (cp (PLe.q (show PV.ptr [.list 3 (KS.map fun r=>[ak r.1])] = _ from by simp)) (aI bN))) bf be) ?_
  replace hlk : (KS.map (·.1)).length = ar := by simpa using hlk
  generalize KS.map (·.1) = kinds at hlk
  generalize KS.any (·.2.1) = nl
  generalize e.name = name at ha
  clear hpre hks hgood h0 h1 h2 h hr hK ih hlen
  by_cases hn : name ∈ gT
  ·simp only [gT,List.mem_cons,List.mem_nil_iff,or_false] at hn
   rcases hn with rfl | rfl | rfl | rfl | rfl | rfl | rfl | rfl | rfl | rfl | rfl | rfl | rfl
   ·have har : ar = 2 := by have : some 2 = some ar := ha; exact (Option.some.inj this).symm
    subst har
    obtain ⟨a,b,rfl⟩ := len2 hlk
    repeat' (first | (show Ao _ _ _ _ _; first | refine ag tk rfl ?_ | refine ac ?_ | refine am Tryz.call210 (fW.r) (fY _ _) ?_ | refine am Tryz.call214 (fW.r) (dO _ _ _) ?_) | (show V _ _ _ _ _; first | refine ab ?_ | refine aa ?_ | refine ao ?_ | refine bX rfl ?_ | refine aC ?_ | refine cT rfl ?_))
    all_goals refine dw tk (PLe.q ?_)
    all_goals simp_all [ff]
   ·have har : ar = 2 := by have : some 2 = some ar := ha; exact (Option.some.inj this).symm
    subst har
    obtain ⟨a,b,rfl⟩ := len2 hlk
    repeat' (first | (show Ao _ _ _ _ _; first | refine ag tk rfl ?_ | refine ac ?_ | refine am Tryz.call210 (fW.r) (fY _ _) ?_ | refine am Tryz.call214 (fW.r) (dO _ _ _) ?_) | (show V _ _ _ _ _; first | refine ab ?_ | refine aa ?_ | refine ao ?_ | refine bX rfl ?_ | refine cQ rfl ?_ | refine aC ?_ | refine cT rfl ?_))
    all_goals refine dw tk (PLe.q ?_)
    all_goals simp_all [ff]
   ·have har : ar = 2 := by have : some 2 = some ar := ha; exact (Option.some.inj this).symm
    subst har
    obtain ⟨a,b,rfl⟩ := len2 hlk
    repeat' (first | (show Ao _ _ _ _ _; first | refine ag tk rfl ?_ | refine ac ?_ | refine am Tryz.call210 (fW.r) (fY _ _) ?_ | refine am Tryz.call214 (fW.r) (dO _ _ _) ?_) | (show V _ _ _ _ _; first | refine ab ?_ | refine aa ?_ | refine bX rfl ?_ | refine cQ rfl ?_ | refine aC ?_ | refine cT rfl ?_))
    all_goals refine dw tk (PLe.q ?_)
    all_goals simp_all [ff]
   ·have har : ar = 2 := by have : some 2 = some ar := ha; exact (Option.some.inj this).symm
    subst har
    obtain ⟨a,b,rfl⟩ := len2 hlk
    repeat' (first | (show Ao _ _ _ _ _; first | refine ag tk rfl ?_ | refine ac ?_) | (show V _ _ _ _ _; first | refine ab ?_ | refine aa ?_ | refine ao ?_ | refine cQ rfl ?_ | refine aC ?_ | refine aP ?_ | refine cT rfl ?_ | (show V _ _ _ (.code (.region 34 _ true) :: _) _; refine bD tk mok ⟨false,false,[]⟩ [0,1,2,3,4,5,6,7,8,9,10,11,12,13,14,15] rfl (by decide +kernel) rfl ?_)) | (show Do _ _ _ _ _ _ _; first | refine bY rfl ?_ | refine bi ?_ | refine bj Tryz.call213 (fW.r) (jY _ _) ?_ | refine bj Tryz.call214 (fW.r) (dO _ _ _) ?_))
    all_goals refine dw tk (PLe.q ?_)
    all_goals simp_all [ff]
   ·have har : ar = 2 := by have : some 2 = some ar := ha; exact (Option.some.inj this).symm
    subst har
    obtain ⟨a,b,rfl⟩ := len2 hlk
    repeat' (first | (show Ao _ _ _ _ _; first | refine ag tk rfl ?_ | refine ac ?_) | (show V _ _ _ _ _; first | refine ab ?_ | refine aa ?_ | refine ao ?_ | refine cQ rfl ?_ | refine aC ?_ | refine aP ?_ | refine cT rfl ?_ | (show V _ _ _ (.code (.region 34 _ true) :: _) _; refine bD tk mok ⟨false,false,[]⟩ [0,1,2,3,4,5,6,7,8,9,10,11,12,13,14,15] rfl (by decide +kernel) rfl ?_)) | (show Do _ _ _ _ _ _ _; first | refine bY rfl ?_ | refine bi ?_ | refine bj Tryz.call213 (fW.r) (jY _ _) ?_ | refine bj Tryz.call214 (fW.r) (dO _ _ _) ?_))
    all_goals refine dw tk (PLe.q ?_)
    all_goals simp_all [ff]
   ·have har : ar = 2 := by have : some 2 = some ar := ha; exact (Option.some.inj this).symm
    subst har
    obtain ⟨a,b,rfl⟩ := len2 hlk
    repeat' (first | (show Ao _ _ _ _ _; first | refine ag tk rfl ?_ | refine ac ?_) | (show V _ _ _ _ _; first | refine ab ?_ | refine aa ?_ | refine ao ?_ | refine cQ rfl ?_ | refine aC ?_ | refine aP ?_ | refine cT rfl ?_ | (show V _ _ _ (.code (.region 34 _ true) :: _) _; refine bD tk mok ⟨false,false,[]⟩ [0,1,2,3,4,5,6,7,8,9,10,11,12,13,14,15] rfl (by decide +kernel) rfl ?_)) | (show Do _ _ _ _ _ _ _; first | refine bY rfl ?_ | refine bi ?_ | refine bj Tryz.call213 (fW.r) (jY _ _) ?_ | refine bj Tryz.call214 (fW.r) (dO _ _ _) ?_))
    all_goals refine dw tk (PLe.q ?_)
    all_goals simp_all [ff]
   ·have har : ar = 2 := by have : some 2 = some ar := ha; exact (Option.some.inj this).symm
    subst har
    obtain ⟨a,b,rfl⟩ := len2 hlk
    repeat' (first | (show Ao _ _ _ _ _; first | refine ag tk rfl ?_ | refine ac ?_ | refine am Tryz.call210 (fW.r) (fY _ _) ?_ | refine am Tryz.call214 (fW.r) (dO _ _ _) ?_) | (show V _ _ _ _ _; first | refine ab ?_ | refine aa ?_ | refine ao ?_ | refine bX rfl ?_ | refine cQ rfl ?_ | refine aC ?_ | refine cT rfl ?_))
    all_goals refine dw tk (PLe.q ?_)
    all_goals simp_all [ff]
   ·have har : ar = 2 := by have : some 2 = some ar := ha; exact (Option.some.inj this).symm
    subst har
    obtain ⟨a,b,rfl⟩ := len2 hlk
    repeat' (first | (show Ao _ _ _ _ _; first | refine ag tk rfl ?_ | refine ac ?_ | refine am Tryz.call210 (fW.r) (fY _ _) ?_ | refine am Tryz.call214 (fW.r) (dO _ _ _) ?_) | (show V _ _ _ _ _; first | refine ab ?_ | refine aa ?_ | refine ao ?_ | refine bX rfl ?_ | refine cQ rfl ?_ | refine aC ?_ | refine cT rfl ?_))
    all_goals refine dw tk (PLe.q ?_)
    all_goals simp_all [ff]
   ·have har : ar = 1 := by have : some 1 = some ar := ha; exact (Option.some.inj this).symm
    subst har
    obtain ⟨a,rfl⟩ := List.length_eq_one_iff.1 hlk
    repeat' (first | (show Ao _ _ _ _ _; first | refine ag tk rfl ?_ | refine ac ?_ | refine am Tryz.call210 (fW.r) (fY _ _) ?_ | refine am Tryz.call214 (fW.r) (dO _ _ _) ?_) | (show V _ _ _ _ _; first | refine ab ?_ | refine aa ?_ | refine bX rfl ?_ | refine cQ rfl ?_ | refine aC ?_ | refine cT rfl ?_))
    all_goals refine dw tk (PLe.q ?_)
    all_goals simp_all [ff]
   ·have har : ar = 2 := by have : some 2 = some ar := ha; exact (Option.some.inj this).symm
    subst har
    obtain ⟨a,b,rfl⟩ := len2 hlk
    repeat' (first | (show Ao _ _ _ _ _; first | refine ag tk rfl ?_ | refine ac ?_ | refine am Tryz.call210 (fW.r) (fY _ _) ?_ | refine am Tryz.call214 (fW.r) (dO _ _ _) ?_) | (show V _ _ _ _ _; first | refine ab ?_ | refine aa ?_ | refine bX rfl ?_ | refine cQ rfl ?_ | refine aC ?_ | refine cT rfl ?_))
    all_goals refine dw tk (PLe.q ?_)
    all_goals simp_all [ff]
   ·have har : ar = 1 := by have : some 1 = some ar := ha; exact (Option.some.inj this).symm
    subst har
    obtain ⟨a,rfl⟩ := List.length_eq_one_iff.1 hlk
    repeat' (first | (show Ao _ _ _ _ _; first | refine ag tk rfl ?_ | refine ac ?_) | (show V _ _ _ _ _; first | refine ab ?_ | refine aa ?_ | refine bX rfl ?_ | refine cQ rfl ?_ | refine aC ?_ | refine cT rfl ?_))
    all_goals refine dw tk (PLe.q ?_)
    all_goals simp_all [ff]
   ·have har : ar = 1 := by have : some 1 = some ar := ha; exact (Option.some.inj this).symm
    subst har
    obtain ⟨a,rfl⟩ := List.length_eq_one_iff.1 hlk
    repeat' (first | (show Ao _ _ _ _ _; first | refine ag tk rfl ?_ | refine ac ?_ | refine am Tryz.call210 (fW.r) (fY _ _) ?_ | refine am Tryz.call214 (fW.r) (dO _ _ _) ?_) | (show V _ _ _ _ _; first | refine ab ?_ | refine aa ?_ | refine bX rfl ?_ | refine cQ rfl ?_ | refine aC ?_ | refine cT rfl ?_))
    all_goals refine dw tk (PLe.q ?_)
    all_goals simp_all [ff]
   ·have har : ar = 3 := by have : some 3 = some ar := ha; exact (Option.some.inj this).symm
    subst har
    obtain ⟨a,b,c,rfl⟩ := len3 hlk
    repeat' (first | (show Ao _ _ _ _ _; first | refine ag tk rfl ?_ | refine ac ?_) | (show V _ _ _ _ _; first | refine ab ?_ | refine aa ?_ | refine bX rfl ?_ | refine cQ rfl ?_ | refine aC ?_ | refine cT rfl ?_ | (show V _ _ _ (.code (.region 33 _ true) :: _) _; refine bD tk mok ⟨false,false,[]⟩ [0,1,2,3,4,5,6,7,8,9,10,11,12,13,14,15,16,17,18,19,20,21,22,23,24,25,26,27,28,29] rfl (by decide +kernel) rfl ?_)) | (show Do _ _ _ _ _ _ _; first | refine bY rfl ?_ | refine bi ?_ | refine bj Tryz.call213 (fW.r) (jY _ _) ?_ | refine bj Tryz.call214 (fW.r) (dO _ _ _) ?_ | ((fail_if_success refine mu rfl rfl ?_); refine mB rfl rfl rfl rfl (fun h=>?_) (fun h=>?_))))
    all_goals refine dw tk (PLe.q ?_)
    all_goals simp_all [ff]
  ·simp only [gT,List.mem_cons,List.mem_nil_iff,or_false,not_or] at hn
   simp [kF,hn] at ha
theorem kindE_eq (cols vars : List LCol) (e : LExpr) : dv cols vars e =
  if e.kind ≠ 5 ∧ 0 < e.args.length then gV 3
  else if e.kind == 1 then (if iv e.value && e.name == [] && e.index == 0 then (e.value.kind,e.value.kind == 0,0) else gV 3)
  else if e.kind == 3 then (if e.index < 0 ∨ e.index ≥ 8 ∨ e.name ≠ [] ∨ e.value.kind < 1 ∨ e.value.kind > 3 ∨ e.value ≠ ⟨e.value.kind,0,[]⟩ then gV 3 else (e.value.kind,true,0))
  else if e.kind == 2 || e.kind == 4 then
   (if cw e.name && e.index == 0 && decide (e.value = .nul) then
    (if (findV (if e.kind == 4 then vars else cols) e.name).2 then ((findV (if e.kind == 4 then vars else cols) e.name).1.kind,(findV (if e.kind == 4 then vars else cols) e.name).1.nullable,0) else gV 23)
    else gV 3)
  else if e.kind == 5 then im e.name e.index e.value (e.args.map (dv cols vars))
  else gV 3 := by
 cases e
 rw [dv,kindsE_map]
 rfl
theorem valNul_iff (x : LVal) : x = .nul ↔ x.kind = 0 ∧ x.int = 0 ∧ x.text = [] := by
 cases x
 simp [LVal.nul]
theorem valK_iff (x : LVal) : x = ⟨x.kind,0,[]⟩ ↔ x.int = 0 ∧ x.text = [] := by
 cases x
 simp
theorem kindStep (cols vars : List LCol) (e : LExpr) (ih : ∀ a ∈ e.args,aH Tryz.prog 134 [gr cols,gr vars,ky a] (pkr (dv cols vars a))) :
  aH Tryz.prog 134 [gr cols,gr vars,ky e] (pkr (dv cols vars e)) := by
 refine PH.aw Tryz.func134 Tryz.ntmps134 ?_
 repeat' (first | (show Ao _ _ _ _ _; first | refine ag tk rfl ?_ | refine ac ?_ | refine aD ?_ | (refine jl tk rfl rfl rfl rfl rfl rfl ?_; intro bk) | refine aE tk ?_ | refine am Tryz.call30 (fW.r) (nX _) ?_ | refine am Tryz.call95 (fW.r) (gY _) ?_ | refine am Tryz.call178 (fW.r) (find_spec _ _) ?_ | refine am Tryz.call179 (fW.r) (opKind_spec cols vars e ih) ?_ | ((fail_if_success refine gK rfl ?_); refine gI rfl rfl rfl (fun h=>?_) (fun h=>?_))) | (show V _ _ _ _ _; first | refine ab ?_ | refine aa ?_ | refine ao ?_ | refine bX rfl ?_ | refine cQ rfl ?_ | refine aC ?_ | refine aP ?_ | (show V _ _ _ (.code (.region 7 _ true) :: _) _; refine bD tk mok ⟨true,false,[]⟩ [0,1,2,3,4,5,6,7,8,9] rfl (by decide +kernel) rfl ?_) | (show V _ _ _ (.code (.region 22 _ true) :: _) _; refine bD tk mok ⟨true,false,[]⟩ [0,1,2,3,4,5,6] rfl (by decide +kernel) rfl ?_) | refine cS rfl (fun h=>?_) (fun h=>?_)) | (show Do _ _ _ _ _ _ _; first | refine bY rfl ?_ | refine bi ?_ | refine bE ?_))
 all_goals refine dw tk (PLe.q ?_)
 all_goals rw [kindE_eq]
 all_goals (simp only [zl,Bool.not_eq_true',decide_eq_true_eq,decide_eq_false_iff_not,bne_iff_ne,beq_iff_eq,ne_eq,beq_eq_false_iff_ne,bne_eq_false_iff_eq] at *)
 all_goals try simp_all [gV,valNul_iff,valK_iff]
 all_goals (rw [zy (by first | omega | (rintro ⟨q1,q2,q3⟩; exact h q1 q2 q3))]; exact ⟨rfl,rfl,rfl⟩)
theorem kind_spec (cols vars : List LCol) : ∀ e : LExpr,aH Tryz.prog 134 [gr cols,gr vars,ky e] (pkr (dv cols vars e))
 | .mk k n i x args=>kindStep cols vars (.mk k n i x args) fun a ha=>by
  have ha' : a ∈ args := ha
  exact kind_spec cols vars a
def dK (cols vars : List LCol) (e : LExpr) : KR := if (fv e).1 > 60 ∨ (fv e).2 > 12 then gV 2 else dv cols vars e
theorem gR (cols vars : List LCol) (e : LExpr) : aH Tryz.prog 86 [gr cols,gr vars,ky e] (pkr (dK cols vars e)) := by
 refine PH.aw Tryz.func86 Tryz.ntmps86 ?_
 repeat' (first | (show Ao _ _ _ _ _; first | refine ag tk rfl ?_ | refine ac ?_ | refine aD ?_ | refine am Tryz.call133 (fW.r) (size_spec _) ?_ | refine am Tryz.call134 (fW.r) (kind_spec _ _ _) ?_ | ((fail_if_success refine gK rfl ?_); refine gI rfl rfl rfl (fun h=>?_) (fun h=>?_))) | (show V _ _ _ _ _; first | refine ab ?_ | refine aa ?_ | refine ao ?_ | refine bX rfl ?_ | refine cS rfl (fun h=>?_) (fun h=>?_)))
 all_goals refine dw tk (PLe.q ?_)
 all_goals simp_all [dK,gV]
 rw [zy (by omega)]
 exact ⟨rfl,rfl,rfl⟩
end
end Go.Proofs.YteceobbkljmbmaaGreatDoor

namespace Go.Proofs.YteceobbkljmbmaaGreatDoor
noncomputable section
open Go Go.Ab
set_option maxRecDepth 4000
def FitsK (x : LVal) (k : Int) (nl : Bool) : Prop := iv x = true ∧ (x.kind = k ∨ x.kind = 0) ∧ (x.kind = 0 → nl = true)
theorem idxOf_nonneg {α : Type} {p : α → Bool} {l : List α} (h : 0 ≤ bg p l) : (bg p l).toNat < l.length := by
 have := idxOf_lt (p := p) (l := l)
 omega
end
end Go.Proofs.YteceobbkljmbmaaGreatDoor

namespace Go.Proofs.YteceobbkljmbmaaGreatDoor
noncomputable section
open Go Go.Ab
structure LTable where
 name : List UInt8
 columns : List LCol
 primaryKey : List Int
 deriving DecidableEq
@[simp] def bu (x : LTable) : List PV := [(.str x.name),(.list 70 (x.columns.map ap)),(.list 3 (x.primaryKey.map aZ))]
structure LForeignKey where
 table : List UInt8
 columns : List Int
 refTable : List UInt8
 deriving DecidableEq
@[simp] def ft (x : LForeignKey) : List PV := [(.str x.table),(.list 3 (x.columns.map aZ)),(.str x.refTable)]
structure LConstraint where
 table : List UInt8
 left : Int
 op : List UInt8
 right : Int
 value : LVal
 deriving DecidableEq
@[simp] def gp (x : LConstraint) : List PV := [(.str x.table),(ak x.left),(.str x.op),(ak x.right),(ak x.value.kind),(ak x.value.int),(.str x.value.text)]
structure LSchema where
 tables : List LTable
 foreignKeys : List LForeignKey
 constraints : List LConstraint
 deriving DecidableEq
@[simp] def bK (x : LSchema) : List PV := [(.list 73 (x.tables.map bu)),(.list 131 (x.foreignKeys.map ft)),(.list 137 (x.constraints.map gp))]
structure LAggregateCall where
 name : List UInt8
 function : List UInt8
 args : List LExpr
@[simp] def iS (x : LAggregateCall) : List PV := [(.str x.name),(.str x.function),(.list 92 (x.args.map cJ))]
inductive LQuery where
 | mk (kind : Int) (table : List UInt8) (names : List (List UInt8)) (exprs : List LExpr) (aggregates : List LAggregateCall) (descending : List Bool) (count : Int) (offset : Int) (inputs : List LQuery)
def LQuery.kind : LQuery → Int | .mk a _ _ _ _ _ _ _ _=>a
def LQuery.table : LQuery → List UInt8 | .mk _ a _ _ _ _ _ _ _=>a
def LQuery.names : LQuery → List (List UInt8) | .mk _ _ a _ _ _ _ _ _=>a
def LQuery.exprs : LQuery → List LExpr | .mk _ _ _ a _ _ _ _ _=>a
def LQuery.aggregates : LQuery → List LAggregateCall | .mk _ _ _ _ a _ _ _ _=>a
def LQuery.descending : LQuery → List Bool | .mk _ _ _ _ _ a _ _ _=>a
def LQuery.count : LQuery → Int | .mk _ _ _ _ _ _ a _ _=>a
def LQuery.offset : LQuery → Int | .mk _ _ _ _ _ _ _ a _=>a
def LQuery.inputs : LQuery → List LQuery | .mk _ _ _ _ _ _ _ _ a=>a
mutual
def bI : LQuery → List PV
 | .mk f0 f1 f2 f3 f4 f5 f6 f7 f8=>[(ak f0),(.str f1),(.list 9 (f2.map rStr)),(.list 92 (f3.map cJ)),(.list 107 (f4.map iS)),(.list 4 (f5.map rBool)),(ak f6),(ak f7),.list 35 (ln f8)]
def ln : List LQuery → List (List PV)
 | []=>[]
 | e :: r=>bI e :: ln r
end
theorem mG : ∀ l,ln l = l.map bI
 | []=>rfl
 | e :: r=>by simp [ln,mG r]
def aU (x : LQuery) : List PV := [(ak x.kind),(.str x.table),(.list 9 (x.names.map rStr)),(.list 92 (x.exprs.map cJ)),(.list 107 (x.aggregates.map iS)),(.list 4 (x.descending.map rBool)),(ak x.count),(ak x.offset),(.list 35 (x.inputs.map bI))]
theorem dz (x : LQuery) : bI x = aU x := by
 cases x
 simp [bI,aU,mG,LQuery.kind,LQuery.table,LQuery.names,LQuery.exprs,LQuery.aggregates,LQuery.descending,LQuery.count,LQuery.offset,LQuery.inputs]
structure LResult where
 columns : List LCol
 rows : Rz
 deriving DecidableEq
@[simp] def nk (x : LResult) : List PV := [(.list 70 (x.columns.map ap)),(.list 77 (x.rows.map (gL 75 aY)))]
structure LCardinalityBounds where
 low : Int
 high : Int
 deriving DecidableEq
@[simp] def encCardinalityBounds (x : LCardinalityBounds) : List PV := [(ak x.low),(ak x.high)]
inductive LProcedureStatement where
 | mk (kind : Int) (code : Int) (name : List UInt8) (table : List UInt8) (names : List (List UInt8)) (exprs : List LExpr) (whereF : List LExpr) (query : List LQuery) (body : List LProcedureStatement) (elseF : List LProcedureStatement)
def LProcedureStatement.kind : LProcedureStatement → Int | .mk a _ _ _ _ _ _ _ _ _=>a
def LProcedureStatement.code : LProcedureStatement → Int | .mk _ a _ _ _ _ _ _ _ _=>a
def LProcedureStatement.name : LProcedureStatement → List UInt8 | .mk _ _ a _ _ _ _ _ _ _=>a
def LProcedureStatement.table : LProcedureStatement → List UInt8 | .mk _ _ _ a _ _ _ _ _ _=>a
def LProcedureStatement.names : LProcedureStatement → List (List UInt8) | .mk _ _ _ _ a _ _ _ _ _=>a
def LProcedureStatement.exprs : LProcedureStatement → List LExpr | .mk _ _ _ _ _ a _ _ _ _=>a
def LProcedureStatement.whereF : LProcedureStatement → List LExpr | .mk _ _ _ _ _ _ a _ _ _=>a
def LProcedureStatement.query : LProcedureStatement → List LQuery | .mk _ _ _ _ _ _ _ a _ _=>a
def LProcedureStatement.body : LProcedureStatement → List LProcedureStatement | .mk _ _ _ _ _ _ _ _ a _=>a
def LProcedureStatement.elseF : LProcedureStatement → List LProcedureStatement | .mk _ _ _ _ _ _ _ _ _ a=>a
mutual
def ah : LProcedureStatement → List PV
 | .mk f0 f1 f2 f3 f4 f5 f6 f7 f8 f9=>[(ak f0),(ak f1),(.str f2),(.str f3),(.list 9 (f4.map rStr)),(.list 92 (f5.map cJ)),(.list 92 (f6.map cJ)),(.list 35 (f7.map bI)),.list 55 (ek f8),.list 55 (ek f9)]
def ek : List LProcedureStatement → List (List PV)
 | []=>[]
 | e :: r=>ah e :: ek r
end
theorem gM : ∀ l,ek l = l.map ah
 | []=>rfl
 | e :: r=>by simp [ek,gM r]
def aq (x : LProcedureStatement) : List PV := [(ak x.kind),(ak x.code),(.str x.name),(.str x.table),(.list 9 (x.names.map rStr)),(.list 92 (x.exprs.map cJ)),(.list 92 (x.whereF.map cJ)),(.list 35 (x.query.map bI)),(.list 55 (x.body.map ah)),(.list 55 (x.elseF.map ah))]
theorem bs (x : LProcedureStatement) : ah x = aq x := by
 cases x
 simp [ah,aq,gM,LProcedureStatement.kind,LProcedureStatement.code,LProcedureStatement.name,LProcedureStatement.table,LProcedureStatement.names,LProcedureStatement.exprs,LProcedureStatement.whereF,LProcedureStatement.query,LProcedureStatement.body,LProcedureStatement.elseF]
structure LProcedureProcedure where
 parameters : List Int
 body : List LProcedureStatement
@[simp] def bw (x : LProcedureProcedure) : List PV := [(.list 3 (x.parameters.map aZ)),(.list 55 (x.body.map ah))]
structure LRelation where
 table : List UInt8
 rows : Rz
 deriving DecidableEq
@[simp] def cy (x : LRelation) : List PV := [(.str x.table),(.list 77 (x.rows.map (gL 75 aY)))]
structure LCardinalityTableSize where
 table : List UInt8
 rows : Int
 deriving DecidableEq
@[simp] def encCardinalityTableSize (x : LCardinalityTableSize) : List PV := [(.str x.table),(ak x.rows)]
structure LChange where
 kind : Int
 table : List UInt8
 key : Rq
 row : Rq
 deriving DecidableEq
@[simp] def ni (x : LChange) : List PV := [(ak x.kind),(.str x.table),(.list 75 (x.key.map aY)),(.list 75 (x.row.map aY))]
structure LProcedureRun where
 s : LSchema
 st : List LRelation
 args : Rq
 vars : List LCol
 vals : Rq
 changes : List LChange
 results : List LResult
 left : Int
 stopped : Bool
 deriving DecidableEq
@[simp] def bJ (x : LProcedureRun) : List PV := [(.list 73 (x.s.tables.map bu)),(.list 131 (x.s.foreignKeys.map ft)),(.list 137 (x.s.constraints.map gp)),(.list 79 (x.st.map cy)),(.list 75 (x.args.map aY)),(.list 70 (x.vars.map ap)),(.list 75 (x.vals.map aY)),(.list 179 (x.changes.map ni)),(.list 42 (x.results.map nk)),(ak x.left),(az x.stopped)]
structure LProcedureChecker where
 s : LSchema
 args : List Int
 deriving DecidableEq
@[simp] def aQ (x : LProcedureChecker) : List PV := [(.list 73 (x.s.tables.map bu)),(.list 131 (x.s.foreignKeys.map ft)),(.list 137 (x.s.constraints.map gp)),(.list 3 (x.args.map aZ))]
structure LRun where
 s : LSchema
 st : List LRelation
 args : Rq
 vars : List LCol
 names : List (List UInt8)
 vals : Rq
 deriving DecidableEq
@[simp] def encRun (x : LRun) : List PV := [(.list 73 (x.s.tables.map bu)),(.list 131 (x.s.foreignKeys.map ft)),(.list 137 (x.s.constraints.map gp)),(.list 79 (x.st.map cy)),(.list 75 (x.args.map aY)),(.list 70 (x.vars.map ap)),(.list 9 (x.names.map rStr)),(.list 75 (x.vals.map aY))]
structure LChecker where
 s : LSchema
 vars : List LCol
 deriving DecidableEq
@[simp] def cK (x : LChecker) : List PV := [(.list 73 (x.s.tables.map bu)),(.list 131 (x.s.foreignKeys.map ft)),(.list 137 (x.s.constraints.map gp)),(.list 70 (x.vars.map ap))]
end
end Go.Proofs.YteceobbkljmbmaaGreatDoor

namespace Go.Ab
noncomputable section
section
variable {P : Program} {T : TT}
theorem detS_idxO (hT : T.Ok P) {o : Oper} {ev : Operand → PV} {H : Heap} {t : TypeId} {x i : Operand} (ho : o.op = .indexAddr t x i) {ti ei : TInfo} {e : TypeId} (hti : T.get t = some ti) (hd : ti.desc = .slice e) (hei : T.get e = some ei)
  {tag : Nat} {g : OwnRef} {len : Nat} (hx : ev x = .own tag g len) {k : IntKind} {j : Int} (hi : ev i = .val (.int k j)) (hj : 0 ≤ j ∧ j.toNat < len) (hb : ∃ b,g.blk = some b) : DetS P o ev H (.optr tag g ei.size j.toNat 0) := by
 intro C M a w _ he
 have hxr := he x (by rw [ho]; simp [Op.operands])
 have hir := he i (by rw [ho]; simp [Op.operands])
 rw [hx] at hxr
 rw [hi] at hir
 simp only [Rep] at hxr hir
 obtain ⟨b,hb⟩ := hb
 have hu := (hT.get hti).rund w
 rw [hd] at hu
 have hsz := (hT.get hei).rsize w
 have h2 : j < (len : Int) := by omega
 refine ⟨.pointer (some ⟨b,j.toNat * ei.size,none⟩),?_,?_⟩
 ·simp [execOp,ho,Instr.indexAt,hir,hxr.2,OwnRef.val,hb,asIntOf,hu,hj.1,h2,hsz,dP]
 ·simp only [Rep]
  exact ⟨trivial,b,hb,by simp⟩
theorem jT {k : Nat} : ∀ {rows : List (List PV)} {j : Nat} {r : List PV},(∀ q ∈ rows,q.length = k) → rows[j]? = some r → ∀ i p,r[i]? = some p → rows.flatten[j * k + i]? = some p
 | [],j,r,_,h,_,_,_=>by simp at h
 | q :: rows,0,r,hl,h,i,p,hp=>by
  simp only [List.getElem?_cons_zero,zo] at h
  subst h
  simp only [List.flatten_cons,Nat.zero_mul,Nat.zero_add]
  rw [List.getElem?_append_left (zg.1 hp).1]
  exact hp
 | q :: rows,j + 1,r,hl,h,i,p,hp=>by
  have hq := hl q (by simp)
  have := jT (rows := rows) (j := j) (fun q hq=>hl q (by simp [hq])) (by simpa using h) i p hp
  simp only [List.flatten_cons]
  rw [List.getElem?_append_right (by rw [hq,Nat.add_mul]; omega),hq,show (j + 1) * k + i - k = j * k + i from by rw [Nat.add_mul]; omega]
  exact this
theorem detS_loadO (hT : T.Ok P) {o : Oper} {ev : Operand → PV} {H : Heap} {t : TypeId} {x : Operand} (ho : o.op = .load t x) {ti : TInfo} (hti : T.get t = some ti) {tag : Nat} {g : OwnRef} {k row off : Nat} (hx : ev x = .optr tag g k row off)
  {e : TypeId} {rows : List (List PV)} {wr : Bool} (hob : H.ob tag = some ⟨g,e,rows,wr⟩) {ei : TInfo} (hei : T.get e = some ei) (hk : k = ei.size) {cells : List PV} (hr : rows[row]? = some cells) {r : PV} (hc : cf ti off cells = some r) : DetS P o ev H r := by
 intro C M a w hi he
 have hxr := he x (by rw [ho]; simp [Op.operands])
 rw [hx] at hxr
 simp only [Rep] at hxr
 obtain ⟨_,b,hb,hv⟩ := hxr
 obtain ⟨i,h1,h2,h3,h4⟩ := hi.objs tag _ hob
 obtain ⟨i',h5,h6,_,_⟩ := (hT.get hei).info
 simp only at h1 h3 h4
 rw [h1] at h5
 cases h5
 rcases h4 with ⟨hn,_⟩ | ⟨b',cur,hb',hm,hcur,hcs,hlc,hcm,hcr,h1c,_,_⟩
 ·rw [hb] at hn; cases hn
 ·rw [hb] at hb'
  cases hb'
  have hlt : row < rows.length := (zg.1 hr).1
  have hcl : cells.length = i.size := h3 cells (List.mem_of_getElem? hr)
  have hks : k = i.size := by rw [hk,h6]
  subst hks
  -- the cells of that row
  have hflat : rows.flatten.length = rows.length * i.size := by
   have : ∀ l : List (List PV),(∀ q ∈ l,q.length = i.size) → l.flatten.length = l.length * i.size := by
    intro l
    induction l with
    | nil=>simp
    | cons q l ih=>intro hl; simp [ih fun q hq=>hl q (by simp [hq]),hl q (by simp),Nat.add_mul]; omega
   exact this rows h3
  have hseg : au P M false cells ((cur.toList.take (rows.length * i.size)).drop (row * i.size) |>.take i.size) := by
   have h7 := (hcr.drop (row * i.size)).take i.size
   have e1 : (rows.flatten.drop (row * i.size)).take i.size = cells := by
    apply List.ext_getElem?
    intro m
    rw [List.getElem?_take]
    split
    ·rename_i hm
     rw [List.getElem?_drop]
     have hcm : cells[m]? = some cells[m] := ze (by omega)
     rw [hcm]
     exact jT h3 hr m _ hcm
    ·rw [List.getElem?_eq_none (by omega)]
   rwa [e1] at h7
  obtain ⟨v,h8,h9⟩ := jx (hT.get hti) w b (row * i.size) off cells _ hseg (fun j y hj=>by
   rw [cell_of_row w b (row * i.size + j) cur e (0,0) hcur]
   rw [List.getElem?_take] at hj
   split at hj
   ·rw [List.getElem?_drop,List.getElem?_take] at hj
    split at hj
    ·simpa using hj
    ·cases hj
   ·cases hj) hc
  refine ⟨v,?_,h9.slot⟩
  simp [execOp,ho,hv,Instr.loadAt,Instr.sureAddr,h8]
theorem splice_seg {α : Type} (X Y Z cs : List α) (off : Nat) (h : off + cs.length ≤ Y.length) :
  X ++ (Y.take off ++ cs ++ Y.drop (off + cs.length)) ++ Z = (X ++ (Y ++ Z)).take (X.length + off) ++ cs ++ (X ++ (Y ++ Z)).drop (X.length + off + cs.length) := by
 rw [List.take_length_add_append,List.take_append_of_le_length (by omega),show X.length + off + cs.length = X.length + (off + cs.length) from by omega,List.drop_length_add_append,List.drop_append_of_le_length h]
 simp
theorem splice_take {α : Type} (l cs : List α) (p N : Nat) (h : p + cs.length ≤ N) (hN : N ≤ l.length) :
  (l.take p ++ cs ++ l.drop (p + cs.length)).take N = (l.take N).take p ++ cs ++ (l.take N).drop (p + cs.length) := by
 obtain ⟨U,hU⟩ : ∃ U,U = l.take N := ⟨_,rfl⟩
 obtain ⟨W,hW⟩ : ∃ W,W = l.drop N := ⟨_,rfl⟩
 have hl : l = U ++ W := by rw [hU,hW,List.take_append_drop]
 have hUl : U.length = N := by rw [hU]; simp; omega
 rw [← hU,hl,List.take_append_of_le_length (l₁ := U) (i := p) (by omega),List.drop_append_of_le_length (l₁ := U) (i := p + cs.length) (by omega)]
 rw [← List.append_assoc]
 have e : (U.take p ++ cs ++ U.drop (p + cs.length)).length = N := by simp; omega
 rw [← e,List.take_left]
def setRow (rows : List (List PV)) (row off : Nat) (cs : List PV) : List (List PV) := rows.set row (splice (rows.getD row []) off cs)
theorem set_flat {k : Nat} : ∀ {rows : List (List PV)} {j : Nat} {q : List PV},(∀ r ∈ rows,r.length = k) → q.length = k → j < rows.length → (rows.set j q).flatten = rows.flatten.take (j * k) ++ q ++ rows.flatten.drop (j * k + k)
 | [],j,q,_,_,h=>by simp at h
 | r :: rows,0,q,hl,hq,_=>by
  have hr := hl r (by simp)
  simp only [List.set_cons_zero,List.flatten_cons,Nat.zero_mul,List.take_zero,List.nil_append,Nat.zero_add]
  rw [← hr,List.drop_left]
 | r :: rows,j + 1,q,hl,hq,h=>by
  have hr := hl r (by simp)
  have ih := set_flat (rows := rows) (j := j) (q := q) (fun r hr=>hl r (by simp [hr])) hq (by simpa using h)
  simp only [List.set_cons_succ,List.flatten_cons,ih]
  have e1 : (j + 1) * k = r.length + j * k := by rw [Nat.add_mul,hr]; omega
  have e2 : r.length + j * k + k = r.length + (j * k + k) := by omega
  rw [e1,List.take_length_add_append,e2,List.drop_length_add_append]
  simp
theorem eff_storeO (hT : T.Ok P) {o : Oper} {ev : Operand → PV} {H : Heap} {t : TypeId} {x y : Operand} (ho : o.op = .store t x y) {ti : TInfo} (hti : T.get t = some ti) {tag : Nat} {g : OwnRef} {k row off : Nat} (hx : ev x = .optr tag g k row off)
  {e : TypeId} {rows : List (List PV)} (hob : H.ob tag = some ⟨g,e,rows,true⟩) {ei : TInfo} (hei : T.get e = some ei) (hk : k = ei.size) (hrow : row < rows.length) {py : PV} (hy : PLe P (ev y) py) {cs : List PV} (hc : cz py = some cs) (hf : PV.frozL cs = true) (h1 : cs.all PV.one = true) (hl : cs.length = ti.size) (hle : off + ti.size ≤ ei.size)
  {K : PV → Heap → Prop} (hK : K .any ⟨H.bx,upd H.ob tag (some ⟨g,e,setRow rows row off cs,true⟩)⟩) : Eff P o ev H K := by
 intro C M a w next Q hi he hn
 have hxr := he x (by rw [ho]; simp [Op.operands])
 have hyr := he y (by rw [ho]; simp [Op.operands])
 rw [hx] at hxr
 simp only [Rep] at hxr
 obtain ⟨_,b,hb,hv⟩ := hxr
 have hr := gN hc (hy M _ hyr)
 have hone := au.oneCell h1 hr
 have hrf := au.unslot hf hr
 have hvs : (a.eval y).cells.size = ti.size := by have := hr.length; simp at this; omega
 obtain ⟨i,g1,g2,g3,g4⟩ := hi.objs tag _ hob
 obtain ⟨i',g5,g6,_,_⟩ := (hT.get hei).info
 simp only at g1 g2 g3 g4
 rw [g1] at g5
 cases g5
 rcases g4 with ⟨hn',_⟩ | ⟨b',cur,hb',hm,hcur,hcs,hlc,hcm,hcr,h1c,hw1,hw2⟩
 ·rw [hb] at hn'; cases hn'
 rw [hb] at hb'
 cases hb'
 have hks : k = i.size := by rw [hk,g6]
 subst hks
 rw [← g6] at hle
 have hfit : row * i.size + i.size ≤ rows.length * i.size := by
  have := Nat.mul_le_mul_right i.size (show row + 1 ≤ rows.length from hrow)
  rw [Nat.add_mul] at this
  omega
 have hcap : rows.length * i.size ≤ cur.size := by rw [hcs]; exact Nat.mul_le_mul_right _ hlc
 have hvl : (a.eval y).cells.toList.length = ti.size := by simpa using hvs
 have hst := run_storeCells_at P b (row * i.size + off) e (a.eval y).cells.toList 0 cur w hcur (by rw [hvl]; omega) hone
 simp only [Nat.add_zero] at hst
 have hrun : (execOp a.eval o).run P w = .ok .skip (w.setRow b (cur.toList.take (row * i.size + off) ++ (a.eval y).cells.toList ++ cur.toList.drop (row * i.size + off + (a.eval y).cells.toList.length)).toArray) := by
  simp only [execOp,ho,Instr.storeAt,hv,Instr.sureAddr,Sem.run_bind,Sem.run_pure,Result.andThen_ok,storeVar,(hT.get hti).rsize w,hvs]
  simp only [ne_eq,not_true_eq_false,if_false]
  rw [hst]
  rfl
 unfold Oper.wp
 rw [hrun]
 have hgetD : rows.getD row [] = rows[row] := by simp [hrow]
 have hrl : (rows.getD row []).length = i.size := by rw [hgetD]; exact g3 _ (List.getElem_mem hrow)
 have hspl : (splice (rows.getD row []) off cs).length = i.size := by
  unfold splice
  rw [List.length_append,List.length_append,List.length_take,List.length_drop,hrl,hl]
  omega
 have hlens : ∀ r ∈ setRow rows row off cs,r.length = i.size := by
  intro r hr'
  rcases List.mem_or_eq_of_mem_set hr' with h | h
  ·exact g3 r h
  ·rw [h]; exact hspl
 have hlen : (setRow rows row off cs).length = rows.length := by simp [setRow]
 have hflat : rows.flatten.length = rows.length * i.size := by
  have : ∀ l : List (List PV),(∀ q ∈ l,q.length = i.size) → l.flatten.length = l.length * i.size := by
   intro l
   induction l with
   | nil=>simp
   | cons q l ih=>intro hl; simp [ih fun q hq=>hl q (by simp [hq]),hl q (by simp),Nat.add_mul]; omega
  exact this rows g3
 have hrl2 : rows[row].length = i.size := g3 _ (List.getElem_mem hrow)
 have hrowcells : (rows.flatten.drop (row * i.size)).take i.size = rows.getD row [] := by
  rw [hgetD]
  apply List.ext_getElem?
  intro m
  rw [List.getElem?_take]
  split
  ·rename_i hm'
   rw [List.getElem?_drop]
   have hml : m < rows[row].length := by rw [hrl2]; exact hm'
   have hcm' : rows[row][m]? = some (rows[row][m]'hml) := ze hml
   rw [hcm']
   exact jT g3 (ze hrow) m _ hcm'
  ·rw [List.getElem?_eq_none (by rw [hrl2]; omega)]
 have hpv : (setRow rows row off cs).flatten = splice rows.flatten (row * i.size + off) cs := by
  unfold setRow
  rw [set_flat g3 hspl hrow,← hrowcells]
  have hA : (rows.flatten.take (row * i.size)).length = row * i.size := by rw [List.length_take,hflat]; omega
  have hY : ((rows.flatten.drop (row * i.size)).take i.size).length = i.size := by rw [List.length_take,List.length_drop,hflat]; omega
  have hdec : rows.flatten = rows.flatten.take (row * i.size) ++ ((rows.flatten.drop (row * i.size)).take i.size ++ rows.flatten.drop (row * i.size + i.size)) := by
   rw [← List.drop_drop,List.take_append_drop,List.take_append_drop]
  have key := splice_seg (rows.flatten.take (row * i.size)) ((rows.flatten.drop (row * i.size)).take i.size) (rows.flatten.drop (row * i.size + i.size)) cs off (by rw [hY,hl]; omega)
  rw [← hdec,hA] at key
  exact key
 have hvlist : (cur.toList.take (row * i.size + off) ++ (a.eval y).cells.toList ++ cur.toList.drop (row * i.size + off + (a.eval y).cells.toList.length)).take (rows.length * i.size) =
   (cur.toList.take (rows.length * i.size)).take (row * i.size + off) ++ (a.eval y).cells.toList ++ (cur.toList.take (rows.length * i.size)).drop (row * i.size + off + (a.eval y).cells.toList.length) := by
  exact splice_take cur.toList (a.eval y).cells.toList (row * i.size + off) (rows.length * i.size) (by rw [hvl]; omega) (by simpa using hcap)
 refine hn undef _ _ M _ hK (Mem.le_refl M) (hi.set_obj tag _ hob b hb (setRow rows row off cs) true _ i g1 ?_ hlens ?_ ?_ hcm ?_ ?_ ?_ (fun _=>hw1 trivial) ?_) (by simp [Rep])
 ·rw [hlen]; exact g2
 ·simp only [List.size_toArray,List.length_append,List.length_take,List.length_drop,Array.length_toList,hvl]
  omega
 ·rw [hlen]; exact hlc
 ·rw [hlen,hpv]
  simp only
  rw [hvlist]
  exact mt hcr hrf (row * i.size + off)
 ·rw [hlen]
  simp only
  rw [hvlist]
  intro v hv'
  simp only [List.mem_append] at hv'
  rcases hv' with (h | h) | h
  ·exact h1c v (List.mem_of_mem_take h)
  ·exact hone v h
  ·exact h1c v (List.mem_of_mem_drop h)
 ·intro o' v' hm'
  rw [hw1 trivial o'] at hm'
  cases hm'
 ·intro o' _
  exact hw1 trivial o'
end
section
variable {P : Program} {ops : Array Oper} {rest : List Oper} {o : Oper} {n : Nat} {s s' : Nat → PV} {bx : Nat → Option Box} {ob : Nat → Option Obj} {K : PState → Prop} {T : TT} {rb : RB} {k : Nat} {L : List Nat}
theorem oA (hg : aJ ops s o = some true) {r : PV} (hd : DetS P o (evS s) ⟨bx,ob⟩ r) (hp : putD n s o.dst r = some s') (h : Ao P ops rest ⟨n,s',bx,ob⟩ K) : Ao P ops (o :: rest) ⟨n,s,bx,ob⟩ K :=
 eR hg (fun C M a w next Q hi he hn=>by
  obtain ⟨v,hrun,hr⟩ := hd C M a w hi he
  unfold Oper.wp
  rw [hrun]
  exact hn v r ⟨bx,ob⟩ M w ⟨s',hp,h⟩ (Mem.le_refl M) hi hr)
theorem oC (ho : ops[k]? = some o) (hg : aJ ops s o = some true) (hc : cX o.op = .det) {r : PV} (hd : ∀ bx',DetS P o (evS s) ⟨bx',if rb.o o && ep o.op then ob else fun _=>none⟩ r) (hp : putD n s o.dst r = some s')
  (h : Do P T rb ops L ⟨n,s',bx,ob⟩ K) : Do P T rb ops (k :: L) ⟨n,s,bx,ob⟩ K := by
 refine ⟨o,ho,true,hg,?_⟩
 simp only [if_true,hc]
 exact ⟨r,s',.inr hd,hp,h⟩
theorem kH (hT : T.Ok P) (hg : aJ ops s o = some true) {t : TypeId} {x i : Operand} (ho : o.op = .indexAddr t x i) {ti ei : TInfo} {e : TypeId} (hti : T.get t = some ti) (hd : ti.desc = .slice e) (hei : T.get e = some ei)
  {tag : Nat} {g : OwnRef} {len : Nat} (hx : evS s x = .own tag g len) {kk : IntKind} {j : Int} (hi : evS s i = .val (.int kk j)) (hj : 0 ≤ j ∧ j.toNat < len) (hb : ∃ b,g.blk = some b) (hp : putD n s o.dst (.optr tag g ei.size j.toNat 0) = some s') (h : Ao P ops rest ⟨n,s',bx,ob⟩ K) :
  Ao P ops (o :: rest) ⟨n,s,bx,ob⟩ K := oA hg (detS_idxO hT ho hti hd hei hx hi hj hb) hp h
theorem oN (hT : T.Ok P) (ho : ops[k]? = some o) (hg : aJ ops s o = some true) {t : TypeId} {x i : Operand} (hop : o.op = .indexAddr t x i) {ti ei : TInfo} {e : TypeId} (hti : T.get t = some ti) (hd : ti.desc = .slice e) (hei : T.get e = some ei)
  {tag : Nat} {g : OwnRef} {len : Nat} (hx : evS s x = .own tag g len) {kk : IntKind} {j : Int} (hi : evS s i = .val (.int kk j)) (hj : 0 ≤ j ∧ j.toNat < len) (hb : ∃ b,g.blk = some b) (hp : putD n s o.dst (.optr tag g ei.size j.toNat 0) = some s') (h : Do P T rb ops L ⟨n,s',bx,ob⟩ K) :
  Do P T rb ops (k :: L) ⟨n,s,bx,ob⟩ K := oC ho hg (by rw [hop]; rfl) (fun _=>detS_idxO hT hop hti hd hei hx hi hj hb) hp h
theorem oI (hT : T.Ok P) (hg : aJ ops s o = some true) {t : TypeId} {x : Operand} (ho : o.op = .load t x) {ti : TInfo} (hti : T.get t = some ti) {tag : Nat} {g : OwnRef} {kz row off : Nat} (hx : evS s x = .optr tag g kz row off)
  {e : TypeId} {rows : List (List PV)} {wr : Bool} (hob : ob tag = some ⟨g,e,rows,wr⟩) {ei : TInfo} (hei : T.get e = some ei) (hk : kz = ei.size) {cells : List PV} (hr : rows[row]? = some cells) {r : PV} (hc : cf ti off cells = some r) (hp : putD n s o.dst r = some s') (h : Ao P ops rest ⟨n,s',bx,ob⟩ K) :
  Ao P ops (o :: rest) ⟨n,s,bx,ob⟩ K := oA hg (detS_loadO hT ho hti hx hob hei hk hr hc) hp h
theorem pj (hT : T.Ok P) (ho : ops[k]? = some o) (hro : rb.o o = true) (hg : aJ ops s o = some true) {t : TypeId} {x : Operand} (hop : o.op = .load t x) {ti : TInfo} (hti : T.get t = some ti) {tag : Nat} {g : OwnRef} {kz row off : Nat} (hx : evS s x = .optr tag g kz row off)
  {e : TypeId} {rows : List (List PV)} {wr : Bool} (hob : ob tag = some ⟨g,e,rows,wr⟩) {ei : TInfo} (hei : T.get e = some ei) (hk : kz = ei.size) {cells : List PV} (hr : rows[row]? = some cells) {r : PV} (hc : cf ti off cells = some r) (hp : putD n s o.dst r = some s') (h : Do P T rb ops L ⟨n,s',bx,ob⟩ K) :
  Do P T rb ops (k :: L) ⟨n,s,bx,ob⟩ K := by
 refine oC ho hg (by rw [hop]; rfl) (fun bx'=>?_) hp h
 have : (rb.o o && ep o.op) = true := by rw [hro,hop]; rfl
 rw [this]
 exact detS_loadO hT hop hti hx hob hei hk hr hc
theorem lr (hT : T.Ok P) (hg : aJ ops s o = some true) {t : TypeId} {x y : Operand} (ho : o.op = .store t x y) (hdst : o.dst = none) {ti : TInfo} (hti : T.get t = some ti) {tag : Nat} {g : OwnRef} {kz row off : Nat} (hx : evS s x = .optr tag g kz row off)
  {e : TypeId} {rows rows' : List (List PV)} (hob : ob tag = some ⟨g,e,rows,true⟩) {ei : TInfo} (hei : T.get e = some ei) (hk : kz = ei.size) (hrow : row < rows.length) {py : PV} (hy : PLe P (evS s y) py) {cs : List PV} (hc : cz py = some cs) (hf : PV.frozL cs = true) (h1 : cs.all PV.one = true) (hl : cs.length = ti.size) (hle : off + ti.size ≤ ei.size)
  (hr : setRow rows row off cs = rows') (h : Ao P ops rest ⟨n,s,bx,upd ob tag (some ⟨g,e,rows',true⟩)⟩ K) : Ao P ops (o :: rest) ⟨n,s,bx,ob⟩ K := by
 subst hr
 exact eR hg (eff_storeO hT ho hti hx hob hei hk hrow hy hc hf h1 hl hle ⟨s,by simp [hdst,putD],h⟩)
theorem oT (hT : T.Ok P) (ho : ops[k]? = some o) (hg : aJ ops s o = some true) {t : TypeId} {x y : Operand} (hop : o.op = .store t x y) (hdst : o.dst = none) {ti : TInfo} (hti : T.get t = some ti) {tag : Nat} {g : OwnRef} {kz row off : Nat} (hx : evS s x = .optr tag g kz row off)
  {e : TypeId} {rows rows' : List (List PV)} (hob : ob tag = some ⟨g,e,rows,true⟩) {ei : TInfo} (hei : T.get e = some ei) (hk : kz = ei.size) (hrow : row < rows.length) {py : PV} (hy : PLe P (evS s y) py) {cs : List PV} (hc : cz py = some cs) (hf : PV.frozL cs = true) (h1 : cs.all PV.one = true) (hl : cs.length = ti.size) (hle : off + ti.size ≤ ei.size)
  (hr : setRow rows row off cs = rows') (h : Do P T rb ops L ⟨n,s,bx,upd ob tag (some ⟨g,e,rows',true⟩)⟩ K) : Do P T rb ops (k :: L) ⟨n,s,bx,ob⟩ K := by
 subst hr
 refine ⟨o,ho,true,hg,?_⟩
 simp only [if_true,hop,cX]
 exact ⟨hdst,.inr fun bx'=>eff_storeO hT hop hti hx hob hei hk hrow hy hc hf h1 hl hle ⟨rfl,h⟩⟩
theorem jK {α β : Type} {f : α → β} {xs : List α} {j : Nat} {x : α} (h : xs[j]? = some x) : j < (xs.map f).length := by
 have := (zg.1 h).1
 simpa using this
theorem jC {α : Type} {f : α → List PV} {xs : List α} {j : Nat} {x : α} {g : OwnRef} (ho : xs.map f ≠ [] → ∃ b,g.blk = some b) (h : xs[j]? = some x) : ∃ b,g.blk = some b := by
 refine ho fun e=>?_
 have := (zg.1 h).1
 rw [List.map_eq_nil_iff] at e
 rw [e] at this
 simp at this
theorem jb {α : Type} {f f' : α → List PV} (hE : ∀ x,f' x = f x) {xs ys : List α} {j off : Nat} {x v : α} {cs : List PV} (h : xs[j]? = some x) (hs : splice (f x) off cs = f v) (hy : xs.set j v = ys) : setRow (xs.map f') j off cs = ys.map f' := by
 subst hy
 have hlt := (zg.1 h).1
 unfold setRow
 have e : (xs.map f').getD j [] = f x := by simp [h,hE]
 rw [e,hs,← hE v,List.map_set]
theorem lM {α β : Type} {f : α → β} {xs ys : List α} {j : Nat} {v : α} (hy : xs.set j v = ys) : (xs.map f).length = (ys.map f).length := by subst hy; simp
theorem oG {fn : Func} {R : PV → Heap → Prop} {ks : List KI} {tag : Nat} {g : OwnRef} {e : TypeId} {rows : List (List PV)} {wr : Bool} (hob : ob tag = some ⟨g,e,rows,wr⟩) (h : (rows ≠ [] → ∃ b,g.blk = some b) → V P fn R ks ⟨n,s,bx,ob⟩) : V P fn R ks ⟨n,s,bx,ob⟩ := fun C M a w hi=>by
 refine h (fun hne=>?_) C M a w hi
 obtain ⟨_,_,_,_,h4⟩ := hi.2.objs tag _ hob
 rcases h4 with ⟨_,h5,_⟩ | ⟨b,_,h5,_⟩
 ·exact absurd h5 hne
 ·exact ⟨b,h5⟩
end
def kC (bx : Nat → Option Box) (m : List (Nat × Nat)) : Nat → Option Box := fun t=>match m.find? (fun p=>Nat.beq p.2 t) with
 | some p=>bx p.1
 | none=>none
def kd (ob : Nat → Option Obj) (m : List (Nat × Nat)) : Nat → Option Obj := fun t=>match m.find? (fun p=>Nat.beq p.2 t) with
 | some p=>ob p.1
 | none=>none
theorem beqC (a b : Nat) : Nat.beq a b = Nat.beq b a := by
 cases h : Nat.beq a b with
 | true=>rw [Nat.eq_of_beq_eq_true h]; exact (Nat.beq_refl b).symm
 | false =>
  cases h' : Nat.beq b a with
  | true=>rw [Nat.eq_of_beq_eq_true h'] at h; rw [show Nat.beq a a = true from Nat.beq_refl a] at h; cases h
  | false=>rfl
theorem hJ (bx : Nat → Option Box) : kC bx [] = fun _=>none := rfl
theorem hC (ob : Nat → Option Obj) : kd ob [] = fun _=>none := rfl
theorem dF (bx : Nat → Option Box) (c k : Nat) (m : List (Nat × Nat)) : kC bx ((c,k) :: m) = upd (kC bx m) k (bx c) := by
 funext t
 simp only [kC,upd,List.find?_cons]
 rw [beqC t k]
 cases Nat.beq k t <;> rfl
theorem jd (ob : Nat → Option Obj) (c k : Nat) (m : List (Nat × Nat)) : kd ob ((c,k) :: m) = upd (kd ob m) k (ob c) := by
 funext t
 simp only [kd,upd,List.find?_cons]
 rw [beqC t k]
 cases Nat.beq k t <;> rfl
def backB (bx : Nat → Option Box) (m : List (Nat × Nat)) (bx' : Nat → Option Box) : Nat → Option Box := fun t=>match m.find? (fun p=>Nat.beq p.1 t) with
 | some p=>bx' p.2
 | none=>bx t
def backO (ob : Nat → Option Obj) (m : List (Nat × Nat)) (ob' : Nat → Option Obj) : Nat → Option Obj := fun t=>match m.find? (fun p=>Nat.beq p.1 t) with
 | some p=>ob' p.2
 | none=>ob t
def cL : List Nat → Bool
 | []=>true
 | a :: l=>l.all (fun b=>!Nat.beq a b) && cL l
theorem fH {f : Nat × Nat → Nat} : ∀ {m : List (Nat × Nat)} {p : Nat × Nat},cL (m.map f) = true → p ∈ m → m.find? (fun q=>Nat.beq (f q) (f p)) = some p
 | [],_,_,h=>by simp at h
 | q :: m,p,hd,h=>by
  simp only [List.map_cons,cL,Bool.and_eq_true] at hd
  rw [List.find?_cons]
  rcases List.mem_cons.1 h with rfl | h
  ·rw [show Nat.beq (f p) (f p) = true from Nat.beq_refl _]
  ·have hne : Nat.beq (f q) (f p) = false := by
    have := (List.all_eq_true.1 hd.1) (f p) (List.mem_map.2 ⟨p,h,rfl⟩)
    simpa using this
   rw [hne]
   exact fH hd.2 h
theorem ma {f : Nat × Nat → Nat} {m : List (Nat × Nat)} {t : Nat} {p : Nat × Nat} (h : m.find? (fun q=>Nat.beq (f q) t) = some p) : p ∈ m ∧ f p = t :=
 ⟨List.mem_of_find?_eq_some h,by
  have := List.find?_some h
  exact Nat.eq_of_beq_eq_true this⟩
def fu (H : Heap) (mb mo : List (Nat × Nat)) : List Nat := mb.filterMap (fun p=>(H.bx p.1).map Box.b) ++ mo.filterMap (fun p=>(H.ob p.1).bind fun x=>x.g.blk)
theorem ls {H : Heap} {mb mo : List (Nat × Nat)} {b : Nat} (h : b ∈ fu H mb mo) : (∃ p x,p ∈ mb ∧ H.bx p.1 = some x ∧ x.b = b) ∨ ∃ p x,p ∈ mo ∧ H.ob p.1 = some x ∧ x.g.blk = some b := by
 simp only [fu,List.mem_append,List.mem_filterMap] at h
 rcases h with ⟨p,hp,h⟩ | ⟨p,hp,h⟩
 ·rw [Option.map_eq_some_iff] at h
  obtain ⟨x,hx,rfl⟩ := h
  exact .inl ⟨p,x,hp,hx,rfl⟩
 ·rw [Option.bind_eq_some_iff] at h
  obtain ⟨x,hx,h⟩ := h
  exact .inr ⟨p,x,hp,hx,h⟩
theorem ownOf_box {H : Heap} {mb mo : List (Nat × Nat)} {p : Nat × Nat} {x : Box} (hp : p ∈ mb) (hx : H.bx p.1 = some x) : x.b ∈ fu H mb mo := by
 simp only [fu,List.mem_append,List.mem_filterMap]
 exact .inl ⟨p,hp,by rw [hx]; rfl⟩
theorem ownOf_obj {H : Heap} {mb mo : List (Nat × Nat)} {p : Nat × Nat} {x : Obj} {b : Nat} (hp : p ∈ mo) (hx : H.ob p.1 = some x) (hb : x.g.blk = some b) : b ∈ fu H mb mo := by
 simp only [fu,List.mem_append,List.mem_filterMap]
 exact .inr ⟨p,hp,by rw [hx]; exact hb⟩
section
variable {P : Program} {C : Ctx} {M : Mem} {H : Heap} {w : World} {mb mo : List (Nat × Nat)}
theorem ke {bx : Nat → Option Box} {m : List (Nat × Nat)} {t : Nat} {x : Box} (h : kC bx m t = some x) : ∃ p,p ∈ m ∧ p.2 = t ∧ bx p.1 = some x := by
 unfold kC at h
 split at h
 ·rename_i p hp
  obtain ⟨h1,h2⟩ := ma (f := Prod.snd) hp
  exact ⟨p,h1,h2,h⟩
 ·cases h
theorem kl {ob : Nat → Option Obj} {m : List (Nat × Nat)} {t : Nat} {x : Obj} (h : kd ob m t = some x) : ∃ p,p ∈ m ∧ p.2 = t ∧ ob p.1 = some x := by
 unfold kd at h
 split at h
 ·rename_i p hp
  obtain ⟨h1,h2⟩ := ma (f := Prod.snd) hp
  exact ⟨p,h1,h2,h⟩
 ·cases h
theorem fst_inj {m : List (Nat × Nat)} (hd : cL (m.map Prod.fst) = true) {p q : Nat × Nat} (hp : p ∈ m) (hq : q ∈ m) (h : p.1 = q.1) : p = q := by
 have h1 := fH (f := Prod.fst) hd hp
 have h2 := fH (f := Prod.fst) hd hq
 rw [h] at h1
 rw [h1] at h2
 exact Option.some.inj h2
theorem InvH.ownMine (h : InvH P C M H w) : ∀ b ∈ fu H mb mo,C.mine b := by
 intro b hb
 rcases ls hb with ⟨p,x,_,hx,rfl⟩ | ⟨p,x,_,hx,hb⟩
 ·exact (h.boxes _ _ hx).1
 ·obtain ⟨_,_,_,_,h4⟩ := h.objs _ _ hx
  rcases h4 with ⟨h5,_⟩ | ⟨b',_,h5,h6,_⟩
  ·rw [h5] at hb; cases hb
  ·rw [h5] at hb; cases hb; exact h6
theorem InvH.enterH (h : InvH P C M H w) (hb1 : cL (mb.map Prod.fst) = true) (ho1 : cL (mo.map Prod.fst) = true) : InvH P ⟨w,fu H mb mo,M,h.gl h.ownMine⟩ M ⟨kC H.bx mb,kd H.ob mo⟩ w := by
 refine ⟨h.mem,Mem.le_refl M,fun _ _ _ hm=>.inl hm,rfl,rfl,rfl,Nat.le_refl _,fun _ _ _=>rfl,?_,?_,?_,?_,?_⟩
 ·intro t x hx
  obtain ⟨p,hp,_,hx⟩ := ke hx
  obtain ⟨_,h2,h3⟩ := h.boxes _ _ hx
  exact ⟨.inr (ownOf_box hp hx),h2,h3⟩
 ·intro t x hx
  obtain ⟨p,hp,_,hx⟩ := kl hx
  obtain ⟨i,h1,h2,h3,h4⟩ := h.objs _ _ hx
  refine ⟨i,h1,h2,h3,?_⟩
  rcases h4 with h4 | ⟨b,cur,hb,_,h5⟩
  ·exact .inl h4
  ·exact .inr ⟨b,cur,hb,.inr (ownOf_obj hp hx hb),h5⟩
 ·intro t t' x x' hx hx' hb
  obtain ⟨p,hp,e1,hy⟩ := ke hx
  obtain ⟨q,hq,e2,hy'⟩ := ke hx'
  rw [← e1,← e2,fst_inj hb1 hp hq (h.dbox _ _ x x' hy hy' hb)]
 ·intro t t' x x' b hx hx' hb hb'
  obtain ⟨p,hp,e1,hy⟩ := kl hx
  obtain ⟨q,hq,e2,hy'⟩ := kl hx'
  rw [← e1,← e2,fst_inj ho1 hp hq (h.dobj _ _ x x' b hy hy' hb hb')]
 ·intro t t' x x' hx hx' hb
  obtain ⟨p,hp,_,hy⟩ := ke hx
  obtain ⟨q,hq,_,hy'⟩ := kl hx'
  exact h.dmix _ _ x x' hy hy' hb
theorem InvH.afterH {M' : Mem} {H' : Heap} {w' : World} (h : InvH P C M H w) (_hb1 : cL (mb.map Prod.fst) = true) (hb2 : cL (mb.map Prod.snd) = true) (_ho1 : cL (mo.map Prod.fst) = true) (ho2 : cL (mo.map Prod.snd) = true)
  {hg : Gl w (fu H mb mo)} (h' : InvH P ⟨w,fu H mb mo,M,hg⟩ M' H' w') : InvH P C M' ⟨backB H.bx mb H'.bx,backO H.ob mo H'.ob⟩ w' := by
 have hown : ∀ b,b ∈ fu H mb mo → C.mine b := by
  intro b hb
  rcases ls hb with ⟨p,x,_,hx,rfl⟩ | ⟨p,x,_,hx,hb⟩
  ·exact (h.boxes _ _ hx).1
  ·obtain ⟨_,_,_,_,h4⟩ := h.objs _ _ hx
   rcases h4 with ⟨h5,_⟩ | ⟨b',_,h5,h6,_⟩
   ·rw [h5] at hb; cases hb
   ·rw [h5] at hb; cases hb; exact h6
 have hup : ∀ b,(⟨w,fu H mb mo,M,hg⟩ : Ctx).mine b → C.mine b := fun b hb=>by
  rcases hb with hb | hb
  ·exact .inl (Nat.le_trans h.size hb)
  ·exact hown b hb
 have hnone : ∀ b o,b < w.heap.size → b ∉ fu H mb mo → M b o = none → M' b o = none := by
  intro b o hb hno hn
  cases hm : M' b o with
  | none=>rfl
  | some v =>
   rcases h'.new b o v hm with h1 | h1 | h1
   ·rw [show M b o = some v from h1] at hn; cases hn
   ·exact absurd hb (Nat.not_lt.2 h1)
   ·exact absurd h1 hno
 have kb : ∀ t x,backB H.bx mb H'.bx t = some x → (∃ p,p ∈ mb ∧ p.1 = t ∧ H'.bx p.2 = some x) ∨ ((∀ p ∈ mb,p.1 ≠ t) ∧ H.bx t = some x) := by
  intro t x hx
  unfold backB at hx
  split at hx
  ·rename_i p hp
   obtain ⟨h1,h2⟩ := ma (f := Prod.fst) hp
   exact .inl ⟨p,h1,h2,hx⟩
  ·rename_i hp
   rw [List.find?_eq_none] at hp
   exact .inr ⟨fun p hp' e=>hp p hp' (by rw [e]; exact Nat.beq_refl _),hx⟩
 have ko : ∀ t x,backO H.ob mo H'.ob t = some x → (∃ p,p ∈ mo ∧ p.1 = t ∧ H'.ob p.2 = some x) ∨ ((∀ p ∈ mo,p.1 ≠ t) ∧ H.ob t = some x) := by
  intro t x hx
  unfold backO at hx
  split at hx
  ·rename_i p hp
   obtain ⟨h1,h2⟩ := ma (f := Prod.fst) hp
   exact .inl ⟨p,h1,h2,hx⟩
  ·rename_i hp
   rw [List.find?_eq_none] at hp
   exact .inr ⟨fun p hp' e=>hp p hp' (by rw [e]; exact Nat.beq_refl _),hx⟩
 -- what was kept is not among what was handed over
 have nb : ∀ t x,(∀ p ∈ mb,p.1 ≠ t) → H.bx t = some x → x.b ∉ fu H mb mo := by
  intro t x hn hx hm
  rcases ls hm with ⟨p,y,hp,hy,e⟩ | ⟨p,y,hp,hy,e⟩
  ·exact hn p hp (h.dbox _ _ y x hy hx e)
  ·exact h.dmix _ _ x y hx hy e
 have no : ∀ t x b,(∀ p ∈ mo,p.1 ≠ t) → H.ob t = some x → x.g.blk = some b → b ∉ fu H mb mo := by
  intro t x b hn hx hb hm
  rcases ls hm with ⟨p,y,hp,hy,e⟩ | ⟨p,y,hp,hy,e⟩
  ·exact h.dmix _ _ y x hy hx (by rw [hb,e])
  ·exact hn p hp (h.dobj _ _ y x b hy hx e hb)
 have mb' : ∀ t x,H'.bx t = some x → w.heap.size ≤ x.b ∨ x.b ∈ fu H mb mo := fun t x hx=>(h'.boxes t x hx).1
 have mo' : ∀ t x b,H'.ob t = some x → x.g.blk = some b → w.heap.size ≤ b ∨ b ∈ fu H mb mo := by
  intro t x b hx hb
  obtain ⟨_,_,_,_,h4⟩ := h'.objs t x hx
  rcases h4 with ⟨h5,_⟩ | ⟨b',_,h5,h6,_⟩
  ·rw [h5] at hb; cases hb
  ·rw [h5] at hb; cases hb; exact h6
 have bz : ∀ t x b,H.ob t = some x → x.g.blk = some b → b < w.heap.size := fun t x b hx hb=>h.obj_lt hx hb
 have snd_eq : ∀ {m : List (Nat × Nat)},cL (m.map Prod.snd) = true → ∀ {p q : Nat × Nat},p ∈ m → q ∈ m → p.2 = q.2 → p = q := by
  intro m hd p q hp hq e
  have h1 := fH (f := Prod.snd) hd hp
  have h2 := fH (f := Prod.snd) hd hq
  rw [e] at h1
  rw [h1] at h2
  exact Option.some.inj h2
 refine ⟨h'.mem,Mem.le_trans h.ext h'.ext,?_,h'.os.trans h.os,h'.tape.trans h.tape,h'.output.trans h.output,Nat.le_trans h.size h'.size,?_,?_,?_,?_,?_,?_⟩
 ·intro b o v hm
  rcases h'.new b o v hm with h1 | h1
  ·exact h.new b o v h1
  ·exact .inr (hup b h1)
 ·intro b hb hn
  have hno : b ∉ fu H mb mo := fun hm=>by
   rcases hown b hm with h1 | h1
   ·omega
   ·exact hn h1
  exact (h'.frame b (Nat.lt_of_lt_of_le hb h.size) hno).trans (h.frame b hb hn)
 ·intro t x hx
  rcases kb t x hx with ⟨p,hp,_,hx⟩ | ⟨hn,hx⟩
  ·obtain ⟨h1,h2,h3⟩ := h'.boxes _ _ hx
   exact ⟨hup _ h1,h2,h3⟩
  ·have hno := nb t x hn hx
   exact (h.boxes t x hx).keep h'.ext (fun o ho=>hnone _ o (h.box_lt hx) hno ho) (h'.frame _ (h.box_lt hx) hno)
 ·intro t x hx
  rcases ko t x hx with ⟨p,hp,_,hx⟩ | ⟨hn,hx⟩
  ·obtain ⟨i,h1,h2,h3,h4⟩ := h'.objs _ _ hx
   refine ⟨i,h1,h2,h3,?_⟩
   rcases h4 with h4 | ⟨b,cur,h5,h6,h7⟩
   ·exact .inl h4
   ·exact .inr ⟨b,cur,h5,hup _ h6,h7⟩
  ·exact (h.objs t x hx).keep h'.ext (fun b o hb ho=>hnone _ o (h.obj_lt hx hb) (no t x b hn hx hb) ho) (fun b hb=>h'.frame _ (h.obj_lt hx hb) (no t x b hn hx hb))
 ·intro t t' x x' hx hx' hb
  rcases kb t x hx with ⟨p,hp,e,hx⟩ | ⟨hn,hx⟩ <;> rcases kb t' x' hx' with ⟨q,hq,e',hx'⟩ | ⟨hn',hx'⟩
  ·have := snd_eq hb2 hp hq (h'.dbox _ _ x x' hx hx' hb)
   rw [← e,← e',this]
  ·rcases mb' _ _ hx with h1 | h1
   ·have := h.box_lt hx'; omega
   ·exact absurd (hb ▸ h1) (nb t' x' hn' hx')
  ·rcases mb' _ _ hx' with h1 | h1
   ·have := h.box_lt hx; omega
   ·exact absurd (hb ▸ h1) (nb t x hn hx)
  ·exact h.dbox t t' x x' hx hx' hb
 ·intro t t' x x' b hx hx' hb hb'
  rcases ko t x hx with ⟨p,hp,e,hx⟩ | ⟨hn,hx⟩ <;> rcases ko t' x' hx' with ⟨q,hq,e',hx'⟩ | ⟨hn',hx'⟩
  ·have := snd_eq ho2 hp hq (h'.dobj _ _ x x' b hx hx' hb hb')
   rw [← e,← e',this]
  ·rcases mo' _ _ b hx hb with h1 | h1
   ·have := h.obj_lt hx' hb'; omega
   ·exact absurd h1 (no t' x' b hn' hx' hb')
  ·rcases mo' _ _ b hx' hb' with h1 | h1
   ·have := h.obj_lt hx hb; omega
   ·exact absurd h1 (no t x b hn hx hb)
  ·exact h.dobj t t' x x' b hx hx' hb hb'
 ·intro t t' x x' hx hx' hb
  rcases kb t x hx with ⟨p,hp,e,hx⟩ | ⟨hn,hx⟩ <;> rcases ko t' x' hx' with ⟨q,hq,e',hx'⟩ | ⟨hn',hx'⟩
  ·exact h'.dmix _ _ x x' hx hx' hb
  ·rcases mb' _ _ hx with h1 | h1
   ·have := h.obj_lt hx' hb; omega
   ·exact no t' x' _ hn' hx' hb h1
  ·rcases mo' _ _ _ hx' hb with h1 | h1
   ·have := h.box_lt hx; omega
   ·exact nb t x hn hx h1
  ·exact h.dmix t t' x x' hx hx' hb
theorem eff_callH {o : Oper} {ev : Operand → PV} {H : Heap} {fx : Operand} {av0 : Array Operand} {ts : Array TypeId} (ho : o.op = .call { callee := .value fx,args := av0,argTypes := ts }) {g : FuncId} {caps : List PV}
  (hf : ev fx = .fn g caps) (hcall : ∀ vs w,(callFunc g vs).run P w = .ok (.enter g vs) w) (mb mo : List (Nat × Nat)) (hb1 : cL (mb.map Prod.fst) = true) (hb2 : cL (mb.map Prod.snd) = true) (ho1 : cL (mo.map Prod.fst) = true) (ho2 : cL (mo.map Prod.snd) = true)
  {args : List PV} (hle : fW P (av0.toList.map ev ++ caps) args) {R : PV → Heap → Prop} (hc : PH P g args ⟨kC H.bx mb,kd H.ob mo⟩ R)
  {K : PV → Heap → Prop} (hk : ∀ u H',R u H' → K u ⟨backB H.bx mb H'.bx,backO H.ob mo H'.ob⟩) : Eff P o ev H K := by
 intro C M a w next Q hi he hn
 have hfr := he fx (by rw [ho]; simp [Op.operands,Call.operands])
 rw [hf] at hfr
 simp only [Rep] at hfr
 obtain ⟨cs,hv,hcaps⟩ := hfr
 have hargs : au P M true (av0.toList.map ev) (av0.map a.eval).toList := by
  simpa using kr av0.toList fun x hx=>he x (by rw [ho]; simp_all [Op.operands,Call.operands])
 have hrep := hle M _ (hargs.append hcaps)
 have hrun : (execOp a.eval o).run P w = .ok (.enter g (av0.map a.eval ++ cs)) w := by
  simp [execOp,ho,resolve,hv,Deferred.ofValue,invoke,hcall]
 unfold Oper.wp
 rw [hrun]
 simp only [Oper.upon]
 refine (hc w M (fu H mb mo) (hi.gl hi.ownMine) _ (hi.enterH hb1 ho1) (by simpa using hrep)).mono ?_
 rintro e w' ⟨v,u,H',M',rfl,hR,hi',hr⟩
 exact hn v u _ M' w' (hk u H' hR) hi'.ext (hi.afterH hb1 hb2 ho1 ho2 hi') hr
end
section
variable {P : Program} {ops : Array Oper} {rest : List Oper} {o : Oper} {n : Nat} {s s' : Nat → PV} {bx bx1 : Nat → Option Box} {ob ob1 : Nat → Option Obj} {K : PState → Prop} {T : TT} {rb : RB} {k : Nat} {L : List Nat}
theorem iG (hg : aJ ops s o = some true) {fx : Operand} {av0 : Array Operand} {ts : Array TypeId} (ho : o.op = .call { callee := .value fx,args := av0,argTypes := ts }) {g : FuncId} {caps : List PV}
  (hf : evS s fx = .fn g caps) (hcall : ∀ vs w,(callFunc g vs).run P w = .ok (.enter g vs) w) (mb mo : List (Nat × Nat)) (hb1 : cL (mb.map Prod.fst) = true) (hb2 : cL (mb.map Prod.snd) = true) (ho1 : cL (mo.map Prod.fst) = true) (ho2 : cL (mo.map Prod.snd) = true)
  {args : List PV} (hle : fW P (av0.toList.map (evS s) ++ caps) args) {Hin : Heap} (hin : Hin = ⟨kC bx mb,kd ob mo⟩) {R : PV → Heap → Prop} (hc : PH P g args Hin R)
  (h : ∀ u H',R u H' → ∃ s',putD n s o.dst u = some s' ∧ Ao P ops rest ⟨n,s',backB bx mb H'.bx,backO ob mo H'.ob⟩ K) : Ao P ops (o :: rest) ⟨n,s,bx,ob⟩ K :=
 eR hg (eff_callH ho hf hcall mb mo hb1 hb2 ho1 ho2 hle (hin ▸ hc) h)
theorem PLe2.own {t t' : Nat} {g : OwnRef} {l l' : Nat} (h : l = l') : PLe2 P (.own t g l) (.own t' g l') := by
 subst h
 intro M s x hx
 simpa only [Rep] using hx
theorem PLe2.boxT {t t' b o : Nat} : PLe2 P (.box t b o) (.box t' b o) := by
 intro M s x hx
 simpa only [Rep] using hx
theorem ik {fn : Func} {R : PV → Heap → Prop} {ks : List KI} {T : TT} (hT : T.Ok P) {rs : Array ResultVar} (hres : fn.results = rs) {ps : List PV} (h : iY T ⟨n,s,bx,ob⟩ rs.toList ps) {u : PV} (hu : PLe P (jB ps) u) (hR : R u ⟨bx,ob⟩) :
  V P fn R (.code .ret :: ks) ⟨n,s,bx,ob⟩ := V.ret hT hres h hu ⟨fun _ _ hx=>hx,fun _ _ hx=>hx⟩ hR
theorem V.endH {fn : Func} {R : PV → Heap → Prop} (hres : fn.results = #[]) {u : PV} (hu : PLe P (.tup []) u) (hR : R u ⟨bx,ob⟩) : V P fn R [] ⟨n,s,bx,ob⟩ := by
 intro C M a w hi
 have hr : (results fn a.tmps).run P w = .ok (.tuple #[]) w := by
  rw [mj hres]
  simp
 exact ⟨hi.1.2.1,.tuple #[],hr,.tuple #[],u,⟨bx,ob⟩,M,rfl,hR,hi.2,hu M _ (by simp [Rep,au])⟩
end
end
end Go.Ab

namespace Go.Ab
noncomputable section
open Classical in
def eU {β : Type} (F : Nat → Option β) : Option β :=
 if h : ∃ r,∃ n,∀ m,n ≤ m → F m = some r then some h.choose else none
theorem gF {β : Type} {F : Nat → Option β} {r : β} (h : eU F = some r) : ∃ n,F n = some r := by
 unfold eU at h
 split at h
 ·next hx =>
  obtain ⟨n,hn⟩ := hx.choose_spec
  exact ⟨n,by rw [hn n (Nat.le_refl n)]; exact h⟩
 ·cases h
theorem limN_eq {β : Type} {F : Nat → Option β} {r : β} (n : Nat) (h : ∀ m,n ≤ m → F m = some r) : eU F = some r := by
 have hx : ∃ r,∃ n,∀ m,n ≤ m → F m = some r := ⟨r,n,h⟩
 unfold eU
 rw [dif_pos hx]
 obtain ⟨k,hk⟩ := hx.choose_spec
 have e1 := hk (max n k) (Nat.le_max_right n k)
 have e2 := h (max n k) (Nat.le_max_left n k)
 rw [← e1,e2]
theorem limN_ev {β : Type} {F : Nat → Option β} {r : β} (h : eU F = some r) : ∃ n,∀ m,n ≤ m → F m = some r := by
 unfold eU at h
 split at h
 ·next hx =>
  obtain ⟨n,hn⟩ := hx.choose_spec
  exact ⟨n,fun m hm=>by rw [hn m hm]; exact h⟩
 ·cases h
end
end Go.Ab

namespace Go.Ab
noncomputable section
def cutI {α : Type} (xs : List α) (m : Int) : Option (List α) := if 0 ≤ m ∧ m.toNat ≤ xs.length then some (xs.take m.toNat) else none
theorem cutI_some {α : Type} {xs ys : List α} {m : Int} (h : cutI xs m = some ys) : 0 ≤ m ∧ m.toNat ≤ xs.length ∧ ys = xs.take m.toNat := by
 unfold cutI at h
 split at h
 ·rename_i h0; exact ⟨h0.1,h0.2,(Option.some.inj h).symm⟩
 ·cases h
def OwnRef.sub (g : OwnRef) (k lo hi mx : Nat) : Value := .slice (if mx = lo then g.blk.map (fun b=>⟨b,0,none⟩) else (g.blk.map fun b=>(⟨b,0,none⟩ : Addr)).map (·.add (lo * k))) (hi - lo) (mx - lo)
section
variable {P : Program} {T : TT}
def optAt (ev : Operand → PV) (o : Option Operand) (dflt n : Nat) : Prop := match o with
 | none=>n = dflt
 | some x=>∃ kk z,ev x = .val (.int kk z) ∧ z = (n : Int)
theorem detS_subV (hT : T.Ok P) {o : Oper} {ev : Operand → PV} {H : Heap} {t : TypeId} {x : Operand} {lo hi mx : Option Operand} (ho : o.op = .slice t x lo hi mx) {ti ei : TInfo} {e : TypeId} (hti : T.get t = some ti) (hd : ti.desc = .slice e) (hei : T.get e = some ei)
  {tag : Nat} {g : OwnRef} {len : Nat} (hx : ev x = .own tag g len) {l h m : Nat} (hl : optAt ev lo 0 l) (hh : optAt ev hi len h) (hm : optAt ev mx g.cap m) (hs : mx.isSome = true → hi.isSome = true) (h1 : l ≤ h) (h2 : h ≤ m) (h3 : m ≤ g.cap) :
  DetS P o ev H (.val (g.sub ei.size l h m)) := by
 intro C M a w _ he
 have hxr := he x (by rw [ho]; cases lo <;> cases hi <;> cases mx <;> simp [Op.operands])
 rw [hx] at hxr
 simp only [Rep] at hxr
 have hu := (hT.get hti).und
 rw [hd] at hu
 refine ⟨g.sub ei.size l h m,?_,by simp only [Rep]⟩
 have hbnd : ∀ (z y : Nat) (kk : IntKind) (c : BoundsCode),z ≤ y → (Instr.sliceBound (.int kk (z : Int)) y c).run P w = .ok z w := by
  intro z y kk c hzy
  have : (0 : Int) ≤ (z : Int) ∧ (z : Int) ≤ (y : Int) := ⟨by omega,by omega⟩
  simp [Instr.sliceBound,asIntOf,hzy]
 have get : ∀ y,y ∈ lo ∨ y ∈ hi ∨ y ∈ mx → Rep P M true (ev y) (a.eval y) := by
  intro y hy
  refine he y ?_
  rw [ho]
  clear he hl hh hm hs ho
  cases lo <;> cases hi <;> cases mx <;> simp [Op.operands] at hy ⊢ <;> (first | exact .inr (hy.imp Eq.symm Eq.symm) | exact .inr (hy.imp Eq.symm (Or.imp Eq.symm Eq.symm)) | exact .inr hy.symm | (rcases hy with h | h | h <;> simp [h]) | (rcases hy with h | h <;> simp [h]))
 have hsz := (hT.get hei).rsize w
 have key : ∀ (lv hv mv : Option Value),(match lv with | none=>l = 0 | some v=>∃ kk,v = .int kk (l : Int)) → (match hv with | none=>h = len | some v=>∃ kk,v = .int kk (h : Int)) →
   (match mv with | none=>m = g.cap | some v=>∃ kk,v = .int kk (m : Int)) → (mv.isSome = true → hv.isSome = true) → (Instr.slice t (g.val len) lv hv mv).run P w = .ok (g.sub ei.size l h m) w := by
  intro lv hv mv p1 p2 p3 p4
  have b : (Instr.sliceBounds true len g.cap lv hv mv).run P w = .ok (l,h,m) w := by
   cases mv with
   | none =>
    simp only at p3
    subst p3
    cases hv with
    | none =>
     simp only at p2
     subst p2
     cases lv with
     | none=>simp only at p1; subst p1; simp [Instr.sliceBounds]
     | some v=>obtain ⟨kk,rfl⟩ := p1; simp [Instr.sliceBounds,hbnd _ _ _ _ h1]
    | some v' =>
     obtain ⟨kk',rfl⟩ := p2
     cases lv with
     | none=>simp only at p1; subst p1; simp [Instr.sliceBounds,hbnd _ _ _ _ h2]
     | some v=>obtain ⟨kk,rfl⟩ := p1; simp [Instr.sliceBounds,hbnd _ _ _ _ h1,hbnd _ _ _ _ h2]
   | some v2 =>
    obtain ⟨k2,rfl⟩ := p3
    cases hv with
    | none=>exact absurd (p4 rfl) (by simp)
    | some v' =>
     obtain ⟨kk',rfl⟩ := p2
     cases lv with
     | none=>simp only at p1; subst p1; simp [Instr.sliceBounds,hbnd _ _ _ _ h2,hbnd _ _ _ _ h3]
     | some v=>obtain ⟨kk,rfl⟩ := p1; simp [Instr.sliceBounds,hbnd _ _ _ _ h1,hbnd _ _ _ _ h2,hbnd _ _ _ _ h3]
  simp only [Instr.slice,OwnRef.val,run_underlying hu,Sem.run_bind,Result.andThen_ok,b,hsz]
  rfl
 have gl : ∀ (oo : Option Operand) (df n : Nat),(∀ y,y ∈ oo → Rep P M true (ev y) (a.eval y)) → optAt ev oo df n → (match oo.map a.eval with | none=>n = df | some v=>∃ kk,v = .int kk (n : Int)) := by
  intro oo df n hr ha
  cases oo with
  | none=>exact ha
  | some y =>
   obtain ⟨kk,z,e1,rfl⟩ := ha
   have := hr y rfl
   rw [e1] at this
   simp only [Rep] at this
   exact ⟨kk,this⟩
 have := key (lo.map a.eval) (hi.map a.eval) (mx.map a.eval) (gl lo 0 l (fun y hy=>get y (.inl hy)) hl) (gl hi len h (fun y hy=>get y (.inr (.inl hy))) hh) (gl mx g.cap m (fun y hy=>get y (.inr (.inr hy))) hm) (by simpa using hs)
 simp only [execOp,ho,Instr.sliceAt,hxr.2]
 rw [Sem.run_bind,Sem.run_bind,run_underlying hu]
 simp only [Result.andThen_ok]
 rw [this]
 rfl
theorem eff_clearB (hT : T.Ok P) {o : Oper} {ev : Operand → PV} {H : Heap} {x : Operand} {t : TypeId} (ho : o.op = .call { callee := .builtin .clear,args := #[x],argTypes := #[t] }) {ti ei : TInfo} {e : TypeId} (hti : T.get t = some ti) (hd : ti.desc = .slice e) (hei : T.get e = some ei)
  (hz : Nat.beq ei.zero.cells.size ei.size = true) (h1 : (eP ei).all PV.one = true) {tag : Nat} {g : OwnRef} {rows : List (List PV)} (hob : H.ob tag = some ⟨g,e,rows,true⟩) {p q m : Nat} (hp : rows.length ≤ p) (hpq : p ≤ q) (hq : q ≤ m) (hm : m ≤ g.cap)
  (hx : ev x = .val (g.sub ei.size p q m)) {K : PV → Heap → Prop} (hk : K (.tup []) H) : Eff P o ev H K := by
 intro C M a w next Q hi he hn
 have hxr := he x (by rw [ho]; simp [Op.operands,Call.operands])
 rw [hx] at hxr
 simp only [Rep] at hxr
 obtain ⟨i,g1,g2,g3,g4⟩ := hi.objs tag _ hob
 obtain ⟨i',g5,g6,_,hzero⟩ := (hT.get hei).info
 simp only at g1 g2 g3 g4
 rw [g1] at g5
 cases g5
 have hu := (hT.get hti).und
 rw [hd] at hu
 have hself : upd H.ob tag (some ⟨g,e,rows,true⟩) = H.ob := mD _ _ _ hob
 have fin : ∀ w',(Builtin.clear_ #[t] o.type #[g.sub ei.size p q m]).run P w = .ok (.tuple #[]) w' → InvH P C M ⟨H.bx,upd H.ob tag (some ⟨g,e,rows,true⟩)⟩ w' → Oper.wp P o a w next Q := by
  intro w' hr hi'
  have hrun' : (execOp a.eval o).run P w = .ok (.value (.tuple #[])) w' := by
   simp only [execOp,ho,resolve,Sem.run_bind,Sem.run_pure,Result.andThen_ok,invoke,builtin,List.map_toArray,List.map_cons,List.map_nil,hxr]
   rw [hr]
   rfl
  unfold Oper.wp
  rw [hrun']
  rw [hself] at hi'
  exact hn _ _ _ M w' hk (Mem.le_refl M) hi' (by simp [Rep,au])
 by_cases h0 : q - p = 0
 ·refine fin w ?_ (by rw [hself]; exact hi)
  unfold OwnRef.sub
  rw [h0]
  split <;> (cases g.blk <;> simp [Builtin.clear_,run_underlying hu])
 ·rcases g4 with ⟨_,hn',hc0⟩ | ⟨b,cur,hb,hmn,hcur,hcs,hlc,hcm,hcr,h1c,hw1,hw2⟩
  ·omega
  ·have hz1 := Nat.eq_of_beq_eq_true hz
   have hcs' : cur.size = g.cap * i.size := hcs
   have hcs2 : cur.toList.length = g.cap * i.size := by rw [Array.length_toList]; exact hcs
   have e1 : g.sub ei.size p q m = .slice (some ⟨b,p * i.size,none⟩) (q - p) (m - p) := by unfold OwnRef.sub; rw [zy (by omega),hb,g6]; simp [dP]
   have hzl : (eP ei).length = i.size := by simp [eP,hz1,g6]
   have hzc : (Builtin.zeroCells ei.zero.cells (q - p)).toList = (List.replicate (q - p) ei.zero.cells.toList).flatten := by
    unfold Builtin.zeroCells
    exact mf ei.zero.cells (q - p)
   have hzs : (Builtin.zeroCells ei.zero.cells (q - p)).toList.length = (q - p) * i.size := by rw [hzc]; simp [hz1,g6]
   have hrep : au P M false (List.replicate (q - p) (eP ei)).flatten (List.replicate (q - p) ei.zero.cells.toList).flatten := ly (jX _) (q - p)
   have hone : ∀ v ∈ (Builtin.zeroCells ei.zero.cells (q - p)).toList,v.oneCell' = true := by
    rw [hzc]
    refine au.oneCell ?_ hrep
    rw [List.all_eq_true]
    intro x hx
    rw [List.mem_flatten] at hx
    obtain ⟨l,hl,hx⟩ := hx
    rw [List.eq_of_mem_replicate hl] at hx
    exact List.all_eq_true.1 h1 x hx
   have hmq : q * i.size ≤ g.cap * i.size := Nat.mul_le_mul_right _ (by omega)
   have hmp : rows.length * i.size ≤ p * i.size := Nat.mul_le_mul_right _ hp
   have hsub : (q - p) * i.size = q * i.size - p * i.size := Nat.sub_mul _ _ _
   have hpq' : p * i.size ≤ q * i.size := Nat.mul_le_mul_right _ hpq
   have hst := run_storeCells_at P b (p * i.size) e (Builtin.zeroCells ei.zero.cells (q - p)).toList 0 cur w hcur (by rw [hzs]; omega) hone
   simp only [Nat.add_zero] at hst
   obtain ⟨k,hk1⟩ : ∃ k,q - p = k + 1 := ⟨q - p - 1,by omega⟩
   have htake : (cur.toList.take (p * i.size) ++ (Builtin.zeroCells ei.zero.cells (q - p)).toList ++ cur.toList.drop (p * i.size + (Builtin.zeroCells ei.zero.cells (q - p)).toList.length)).take (rows.length * i.size) = cur.toList.take (rows.length * i.size) := by
    rw [List.append_assoc,List.take_append_of_le_length (by rw [List.length_take,hcs2]; omega),List.take_take,Nat.min_eq_left hmp]
   refine fin _ ?_ (hi.set_obj tag _ hob b hb rows true (cur.toList.take (p * i.size) ++ (Builtin.zeroCells ei.zero.cells (q - p)).toList ++ cur.toList.drop (p * i.size + (Builtin.zeroCells ei.zero.cells (q - p)).toList.length)).toArray i g1 g2 g3 ?_ hlc hcm ?_ ?_ ?_ (fun _=>hw1 trivial) (fun o' _=>hw1 trivial o'))
   ·rw [e1]
    have hzv : (zeroValue e).run P w = .ok ei.zero w := by simp [zeroValue,typeInfo,g1,hzero]
    rw [hk1] at hst ⊢
    simp [Builtin.clear_,run_underlying hu,hzv]
    rw [hst]
    simp
   ·have e9 : (cur.toList.take (p * i.size) ++ (Builtin.zeroCells ei.zero.cells (q - p)).toList ++ cur.toList.drop (p * i.size + (Builtin.zeroCells ei.zero.cells (q - p)).toList.length)).length = g.cap * i.size := by
     rw [List.length_append,List.length_append,List.length_take,List.length_drop,hcs2,hzs]
     omega
    simpa using e9
   ·simp only
    rw [htake]
    exact hcr
   ·simp only
    rw [htake]
    exact h1c
   ·intro o' v' hm'
    rw [hw1 trivial o'] at hm'
    cases hm'
end
section
variable {P : Program} {ops : Array Oper} {rest : List Oper} {o : Oper} {n : Nat} {s s' : Nat → PV} {bx : Nat → Option Box} {ob : Nat → Option Obj} {K : PState → Prop} {T : TT} {rb : RB} {k : Nat} {L : List Nat}
theorem Ao.subV (hT : T.Ok P) (hg : aJ ops s o = some true) {t : TypeId} {x : Operand} {lo hi mx : Option Operand} (ho : o.op = .slice t x lo hi mx) {ti ei : TInfo} {e : TypeId} (hti : T.get t = some ti) (hd : ti.desc = .slice e) (hei : T.get e = some ei)
  {tag : Nat} {g : OwnRef} {len : Nat} (hx : evS s x = .own tag g len) {l h m : Nat} (hl : optAt (evS s) lo 0 l) (hh : optAt (evS s) hi len h) (hm : optAt (evS s) mx g.cap m) (hs : mx.isSome = true → hi.isSome = true) (h1 : l ≤ h) (h2 : h ≤ m) (h3 : m ≤ g.cap)
  (hp : putD n s o.dst (.val (g.sub ei.size l h m)) = some s') (hr : Ao P ops rest ⟨n,s',bx,ob⟩ K) : Ao P ops (o :: rest) ⟨n,s,bx,ob⟩ K :=
 oA hg (detS_subV hT ho hti hd hei hx hl hh hm hs h1 h2 h3) hp hr
theorem oU (hT : T.Ok P) (hg : aJ ops s o = some true) {x : Operand} {t : TypeId} (ho : o.op = .call { callee := .builtin .clear,args := #[x],argTypes := #[t] }) (hdst : o.dst = none) {ti ei : TInfo} {e : TypeId} (hti : T.get t = some ti) (hd : ti.desc = .slice e) (hei : T.get e = some ei)
  (hz : Nat.beq ei.zero.cells.size ei.size = true) (h1 : (eP ei).all PV.one = true) {tag : Nat} {g : OwnRef} {rows : List (List PV)} (hob : ob tag = some ⟨g,e,rows,true⟩) {p q m : Nat} (hp : rows.length ≤ p) (hpq : p ≤ q) (hq : q ≤ m) (hm : m ≤ g.cap)
  (hx : evS s x = .val (g.sub ei.size p q m)) (h : Ao P ops rest ⟨n,s,bx,ob⟩ K) : Ao P ops (o :: rest) ⟨n,s,bx,ob⟩ K :=
 eR hg (eff_clearB hT ho hti hd hei hz h1 hob hp hpq hq hm hx ⟨s,by simp [hdst,putD],h⟩)
theorem kD {tag : Nat} {g : OwnRef} {e : TypeId} {rows : List (List PV)} {wr : Bool} (hob : ob tag = some ⟨g,e,rows,wr⟩) (h : (rows ≠ [] → ∃ b,g.blk = some b) → Ao P ops rest ⟨n,s,bx,ob⟩ K) : Ao P ops rest ⟨n,s,bx,ob⟩ K := fun C M a w Q hi hq=>by
 refine h (fun hne=>?_) C M a w Q hi hq
 obtain ⟨_,_,_,_,h4⟩ := hi.2.objs tag _ hob
 rcases h4 with ⟨_,h5,_⟩ | ⟨b,_,h5,_⟩
 ·exact absurd h5 hne
 ·exact ⟨b,h5⟩
theorem Ao.ownC {tag : Nat} {g : OwnRef} {e : TypeId} {rows : List (List PV)} {wr : Bool} (hob : ob tag = some ⟨g,e,rows,wr⟩) (h : rows.length ≤ g.cap → Ao P ops rest ⟨n,s,bx,ob⟩ K) : Ao P ops rest ⟨n,s,bx,ob⟩ K := fun C M a w Q hi hq=>by
 refine h ?_ C M a w Q hi hq
 obtain ⟨_,_,_,_,h4⟩ := hi.2.objs tag _ hob
 rcases h4 with ⟨_,h5,h6⟩ | ⟨b,_,h5,_,_,_,h6,h7,_⟩
 ·simp only at h5; rw [h5]; simp
 ·exact h6
theorem Gh.cutO {st : PState} {tag : Nat} {g : OwnRef} {e : TypeId} {rows rows' : List (List PV)} (hob : st.ob tag = some ⟨g,e,rows,true⟩) (m : Nat) (hr : rows.take m = rows') : Gh P st ⟨st.n,st.s,st.bx,upd st.ob tag (some ⟨g,e,rows',true⟩)⟩ := by
 subst hr
 intro C M a w hi
 exact ⟨M,hi.1,hi.2.cutO hob m⟩
theorem Ao.cutP (hT : T.Ok P) (hg : aJ ops s o = some true) {t : TypeId} {x y : Operand} (ho : o.op = .slice t x none (some y) none) {ti : TInfo} {e : TypeId} (hti : T.get t = some ti) (hd : ti.desc = .slice e) {ei : TInfo} (hei : T.get e = some ei)
  {tag : Nat} {g : OwnRef} {len : Nat} {rows rows' : List (List PV)} (hx : evS s x = .own tag g len) (hob : ob tag = some ⟨g,e,rows,true⟩) {kk : IntKind} {m : Int} (hy : evS s y = .val (.int kk m)) (hm : 0 ≤ m ∧ m.toNat ≤ rows.length) (hr : rows.take m.toNat = rows') {d : Nat} (hdst : o.dst = some d) (hlt : Nat.blt d n = true)
  (h : Ao P ops rest ⟨n,upd s d (.own tag g rows'.length),bx,upd ob tag (some ⟨g,e,rows',true⟩)⟩ K) : Ao P ops (o :: rest) ⟨n,s,bx,ob⟩ K := by
 subst hr
 refine eR hg (fun C M a w next Q hi he hn=>?_)
 have hxr := he x (by rw [ho]; simp [Op.operands])
 have hyr := he y (by rw [ho]; simp [Op.operands])
 rw [show (⟨n,s,bx,ob⟩ : PState).s = s from rfl,hx] at hxr
 rw [show (⟨n,s,bx,ob⟩ : PState).s = s from rfl,hy] at hyr
 simp only [Rep] at hxr hyr
 have hu := (hT.get hti).und
 rw [hd] at hu
 have hcap : rows.length ≤ g.cap := by
  obtain ⟨i,_,_,_,h4⟩ := hi.objs tag _ hob
  rcases h4 with ⟨_,b,_⟩ | ⟨_,_,_,_,_,_,h9,_⟩
  ·simp only at b; rw [b]; simp
  ·exact h9
 have hmc : m ≤ (g.cap : Int) := by omega
 have hl2 : (rows.take m.toNat).length = m.toNat := by simp; omega
 have hrun : (execOp a.eval o).run P w = .ok (.value (g.val (rows.take m.toNat).length)) w := by
  rw [hl2]
  simp only [execOp,ho,Sem.run_bind,Sem.run_pure,Option.map_some,Option.map_none,hxr.2,hyr,OwnRef.val]
  cases hb : g.blk with
  | none=>simp [Instr.sliceAt,Instr.slice,run_underlying hu,Instr.sliceBounds,Instr.sliceBound,asIntOf,(hT.get hei).rsize w,hm.1,hmc]
  | some b =>
   have e0 : (⟨b,0,none⟩ : Addr).add 0 = ⟨b,0,none⟩ := by rw [dP]
   simp [Instr.sliceAt,Instr.slice,run_underlying hu,Instr.sliceBounds,Instr.sliceBound,asIntOf,(hT.get hei).rsize w,hm.1,hmc,e0]
 unfold Oper.wp
 rw [hrun]
 exact hn _ (.own tag g (rows.take m.toNat).length) ⟨bx,upd ob tag (some ⟨g,e,rows.take m.toNat,true⟩)⟩ M w ⟨_,by simp [hdst,putD,hlt],h⟩ (Mem.le_refl M) (hi.cutO hob m.toNat) (by simp [Rep])
end
def jk (T : TT) : List (Nat × Nat) → List PV → List PV → Option Bool
 | [],_,_=>some true
 | (t,off) :: r,xs,ys=>match T.get t with
  | some ti=>match (bif ti.eqf.isEmpty then (match xs[off]?,ys[off]? with | some p,some q=>mm ti.desc p q | _,_=>none) else it T ti.eqf ((xs.drop off).take ti.size) ((ys.drop off).take ti.size)),jk T r xs ys with
   | some b,some c=>some (b && c)
   | _,_=>none
  | none=>none
section
variable {P : Program} {T : TT}
theorem lF (hT : T.Ok P) (w : World) {M : Mem} {d : Nat} {xs ys : List PV} {cs ds : Array Value} (hx : au P M true xs cs.toList) (hy : au P M true ys ds.toList) :
  ∀ (fs : List Field) (eqf : List (Nat × Nat)) (b : Bool),bV fs eqf → jk T eqf xs ys = some b → (Op.eqFields (d + 2) cs ds fs).run P w = .ok b w
 | [],[],b,_,h=>by simp only [jk,zo] at h; subst h; simp [Op.eqFields]
 | f :: fs,(t,o) :: r,b,hm,h=>by
  simp only [bV] at hm
  obtain ⟨hn,rfl,rfl,hm⟩ := hm
  simp only [jk] at h
  split at h
  ·rename_i ti hti
   split at h
   ·rename_i b1 b2 h1 h2
    simp only [zo] at h
    subst h
    have ih := lF hT w (d := d) hx hy fs r b2 hm h2
    cases he : ti.eqf.isEmpty with
    | true =>
     simp only [he,zc] at h1
     split at h1
     ·rename_i p q hp hq
      obtain ⟨x,hx1,hx2⟩ := hx.get _ _ hp
      obtain ⟨y,hy1,hy2⟩ := hy.get _ _ hq
      obtain ⟨hag,heq⟩ := lG w (d := d + 1) (hT.get hti) hx2 hy2 h1
      have hpx : ∀ (c : Array Value) (z : Value),c.toList[f.offset]? = some z → (part f.type c f.offset).run P w = .ok z w := by
       intro c z hz
       rw [Array.getElem?_toList] at hz
       simp [part,(hT.get hti).ragg w,hag,hz]
      simp only [Op.eqFields, zp (show f.name ≠ "_" from hn), Sem.run_bind, hpx _ _ hx1, hpx _ _ hy1, Result.andThen_ok, heq]
      cases b1 <;> simp [ih]
     ·cases h1
    | false =>
     simp only [he,zd] at h1
     obtain ⟨k1,k2,k3,k4⟩ := (hT.get hti).eqs (by intro h0; simp [h0] at he)
     have hag : hZ ti.desc = true := by
      have hu := (hT.get hti).und
      rw [k4] at hu
      rw [← Option.some.inj hu]
      rfl
     have hpx : ∀ (c : Array Value),(part f.type c f.offset).run P w = .ok (.agg (c.extract f.offset (f.offset + ti.size))) w := by
      intro c
      simp [part,(hT.get hti).ragg w,hag,(hT.get hti).rsize w]
     have hsub : ∀ (zs : List PV) (c : Array Value),au P M true zs c.toList → au P M true ((zs.drop f.offset).take ti.size) (c.extract f.offset (f.offset + ti.size)).toList := by
      intro zs c hz
      have e : (c.extract f.offset (f.offset + ti.size)).toList = (c.toList.drop f.offset).take ti.size := by
       rw [Array.toList_extract]
       simp [List.extract_eq_take_drop]
      rw [e]
      exact (hz.drop _).take _
     have heq : (Op.equalIn (d + 2) f.type (.agg (cs.extract f.offset (f.offset + ti.size))) (.agg (ds.extract f.offset (f.offset + ti.size)))).run P w = .ok b1 w := by
      rw [run_equalIn_agg w (d + 1) f.type _ _ k4 k1]
      exact iD hT w (d := d) (hsub _ _ hx) (hsub _ _ hy) _ _ b1 k3 h1
     simp only [Op.eqFields, zp (show f.name ≠ "_" from hn), Sem.run_bind, hpx, Result.andThen_ok, heq]
     cases b1 <;> simp [ih]
   ·cases h
  ·cases h
 | [],_ :: _,b,hm,_=>by simp [bV] at hm
 | _ :: _,[],b,hm,_=>by simp [bV] at hm
theorem detS_eqNest (hT : T.Ok P) {o : Oper} {ev : Operand → PV} {H : Heap} {t t' : TypeId} {x y : Operand} (ho : o.op = .binOp .eql t x y t') {xs ys : List PV} (hx : ev x = .agg xs) (hy : ev y = .agg ys) (h1 : P.stoodInHeld t = false) (h2 : P.eqGuardType P.depth t = false)
  {eqf : List (Nat × Nat)} (h3 : bV (P.fieldsOf t).toList eqf) (h4 : P.underlying t = some (.struct (P.fieldsOf t))) {b : Bool} (hb : jk T eqf xs ys = some b) : DetS P o ev H (.val (.bool b)) := by
 intro C M a w _ he
 have hxr := he x (by rw [ho]; simp [Op.operands])
 have hyr := he y (by rw [ho]; simp [Op.operands])
 rw [hx] at hxr
 rw [hy] at hyr
 simp only [Rep] at hxr hyr
 obtain ⟨cs,ex,hc⟩ := hxr
 obtain ⟨ds,ey,hd⟩ := hyr
 refine ⟨.bool b,?_,by simp only [Rep]⟩
 have key : (binOp .eql t (.agg cs) (.agg ds)).run P w = .ok (.bool b) w := by
  rw [run_eql_struct w t cs ds,show (10000 : Nat) = 9997 + 2 + 1 from rfl,run_equalIn_agg w (9997 + 2) t cs ds h4 h1,lF hT w (d := 9997) hc hd _ _ b h3 hb]
  rfl
 have hg := run_eqGuard_agg (P := P) w .eql t x y cs ds h2
 simp only [execOp,ho,ex,ey]
 simp only [Sem.run_bind,hg,Result.andThen_ok,key]
 rfl
end
section
variable {P : Program} {ops : Array Oper} {rest : List Oper} {o : Oper} {n : Nat} {s s' : Nat → PV} {bx : Nat → Option Box} {ob : Nat → Option Obj} {K : PState → Prop} {T : TT} {rb : RB} {k : Nat} {L : List Nat}
theorem oX (hT : T.Ok P) (ho : ops[k]? = some o) (hg : aJ ops s o = some true) {t t' : TypeId} {x y : Operand} (hop : o.op = .binOp .eql t x y t') {xs ys : List PV} (hx : evS s x = .agg xs) (hy : evS s y = .agg ys) (h1 : P.stoodInHeld t = false) (h2 : P.eqGuardType P.depth t = false)
  {eqf : List (Nat × Nat)} (h3 : bV (P.fieldsOf t).toList eqf) (h4 : P.underlying t = some (.struct (P.fieldsOf t))) {b : Bool} (hb : jk T eqf xs ys = some b) (hp : putD n s o.dst (.val (.bool b)) = some s') (h : Do P T rb ops L ⟨n,s',bx,ob⟩ K) : Do P T rb ops (k :: L) ⟨n,s,bx,ob⟩ K :=
 oC ho hg (by rw [hop]; rfl) (fun _=>detS_eqNest hT hop hx hy h1 h2 h3 h4 hb) hp h
end
section
variable {P : Program} {C : Ctx} {M : Mem} {H : Heap} {w : World}
theorem InvH.alloc_part (h : InvH P C M H w) (pre cs : Array Value) (e : TypeId) (fz : Nat × Nat) (hp : ∀ (o : Nat) (v : Value),pre[o]? = some v → cs[o]? = some v) : InvH P C (M.add w.heap.size pre) H (w.alloc (.cells cs e fz)) := by
 have hle := h.add_le pre
 refine ⟨?_,Mem.le_trans h.ext hle,?_,h.os,h.tape,h.output,?_,?_,?_,?_,h.dbox,h.dobj,h.dmix⟩
 ·intro b o v hm
  by_cases hb : b = w.heap.size
  ·subst hb
   rw [cell_of_row (w.alloc (.cells cs e fz)) w.heap.size o cs e fz (heap_alloc_new w _)]
   exact hp o v (by simpa [Mem.add] using hm)
  ·simp only [Mem.add,hb,if_false] at hm
   rw [js w _ (h.mem_lt hm)]
   exact h.mem b o v hm
 ·intro b o v hm
  by_cases hb : b = w.heap.size
  ·exact .inr (.inl (hb ▸ h.size))
  ·simp only [Mem.add,hb,if_false] at hm
   exact h.new b o v hm
 ·rw [je]; exact Nat.le_succ_of_le h.size
 ·intro b hb hn
  rw [heap_alloc_old w _ (Nat.lt_of_lt_of_le hb h.size)]
  exact h.frame b hb hn
 ·intro t x hx
  have hlt := h.box_lt hx
  exact (h.boxes t x hx).keep hle (fun o ho=>by simp [Mem.add,Nat.ne_of_lt hlt,ho]) (heap_alloc_old w _ hlt)
 ·intro t x hx
  exact (h.objs t x hx).keep hle (fun b o hb ho=>by simp [Mem.add,Nat.ne_of_lt (h.obj_lt hx hb),ho]) (fun b hb=>heap_alloc_old w _ (h.obj_lt hx hb))
theorem freeze_new (w : World) (cs : Array Value) (e : TypeId) (n : Nat) : (w.alloc (.cells cs e)).freeze ⟨w.heap.size,n,none⟩ 1 = w.alloc (.cells cs e (n,n + 1)) := by
 unfold World.freeze World.alloc
 simp only [Nat.one_ne_zero,if_false]
 congr 1
 apply Array.ext
 ·simp
 ·intro i h1 h2
  rw [Array.getElem_modify]
  split
  ·rename_i hi
   subst hi
   simp
  ·rename_i hi
   have : i < w.heap.size := by simp at h2; omega
   simp [Array.getElem_push,this]
end
section
variable {P : Program} {ops : Array Oper} {rest : List Oper} {o : Oper} {n : Nat} {s s' : Nat → PV} {bx : Nat → Option Box} {ob : Nat → Option Obj} {K : PState → Prop} {T : TT} {rb : RB} {k : Nat} {L : List Nat}
theorem byteRows_rep (M : Mem) (xs : List UInt8) : au P M false (ig xs).flatten (xs.map fun c=>Value.int .u8 c.toNat) := by
 induction xs with
 | nil=>simp [ig,au]
 | cons c xs ih=>simp only [ig,List.map_cons,List.flatten_cons,List.cons_append,List.nil_append,au,Rep]; exact ⟨_,_,rfl,rfl,ih⟩
theorem Ao.s2b (hT : T.Ok P) (hg : aJ ops s o = some true) {src dst e : TypeId} {x : Operand} (ho : o.op = .convert src dst x) {si di ei : TInfo} (hsi : T.get src = some si) (hsd : si.desc = .string) (hdi : T.get dst = some di) (hdd : di.desc = .slice e) (hei : T.get e = some ei) (hed : ei.desc = .int .u8) (hes : ei.size = 1) (heb : ei.bytes = 1)
  {xs : List UInt8} (hx : evS s x = .str xs) (hl : xs.length ≤ 2 ^ 47) (hp : putD n s o.dst (.list e (ig xs)) = some s') (h : Ao P ops rest ⟨n,s',bx,ob⟩ K) : Ao P ops (o :: rest) ⟨n,s,bx,ob⟩ K := by
 refine eR hg (fun C M a w next Q hi he hn=>?_)
 have hxr := he x (by rw [ho]; simp [Op.operands])
 rw [show (⟨n,s,bx,ob⟩ : PState).s = s from rfl,hx] at hxr
 simp only [Rep] at hxr
 have hs := (hT.get hsi).und
 have hd := (hT.get hdi).und
 have hee := (hT.get hei).und
 rw [hsd] at hs
 rw [hdd] at hd
 rw [hed] at hee
 obtain ⟨i,hinf,hsz,hby,_⟩ := (hT.get hei).info
 have hge := grownCap_ge w xs.length 0 e
 have hml : xs.length ≤ maxLen := by unfold maxLen; omega
 have hgm : grownCap w xs.length 0 e ≤ maxLen := grownCap_le_maxLen w xs.length 0 e hml
 obtain ⟨pre,hpre⟩ : ∃ pre : Array Value,pre = xs.toArray.map fun b=>Value.int .u8 b.toNat := ⟨_,rfl⟩
 obtain ⟨cs,hcs⟩ : ∃ cs : Array Value,cs = pre ++ Array.replicate (grownCap w xs.length 0 e - xs.length) (.int .u8 0) := ⟨_,rfl⟩
 have hrun : (execOp a.eval o).run P w = .ok (.value (.slice (some ⟨w.heap.size,0,none⟩) xs.length (grownCap w xs.length 0 e))) (w.drew.alloc (.cells cs e (cs.size,cs.size + 1))) := by
  have hz : (ByteArray.mk xs.toArray).size = xs.length := by simp [ByteArray.size]
  have key : (Conv.stringToBytes e ⟨xs.toArray⟩).run P w = .ok (.slice (some ⟨w.heap.size,0,none⟩) xs.length (grownCap w xs.length 0 e)) (w.drew.alloc (.cells cs e (cs.size,cs.size + 1))) := by
   have hmk : ∀ w0 : World,(markStringish ⟨w0.heap.size,0,none⟩).run P (w0.alloc (.cells cs e)) = .ok () (w0.alloc (.cells cs e (cs.size,cs.size + 1))) := by
    intro w0
    have hsh : (w0.alloc (.cells cs e)).shape? w0.heap.size = some (e,cs.size) := by unfold World.shape?; rw [heap_alloc_new]
    unfold markStringish
    simp only [Sem.run_bind,run_shape,Result.andThen_ok,hsh]
    rw [run_freeze,freeze_new]
   have hm0 := hmk w.drew
   subst hcs
   subst hpre
   unfold Conv.stringToBytes
   simp only [Sem.run_bind,hz,run_choose,Question.forced]
   simp [newRow]
   simp [grownCap] at hm0 ⊢
   rw [hm0]
   simp
  simp only [execOp,ho,hxr.1,convert,Sem.run_bind,run_underlying hs,run_underlying hd,run_underlying hee,Result.andThen_ok,key]
  rfl
 unfold Oper.wp
 rw [hrun]
 have hle := (show InvH P C M ⟨bx,ob⟩ w.drew from hi.drew).add_le pre
 have hi' := (show InvH P C M ⟨bx,ob⟩ w.drew from hi.drew).alloc_part pre cs e (cs.size,cs.size + 1) (fun o v hv=>by rw [hcs,Array.getElem?_append_left (Array.getElem?_eq_some_iff.1 hv).1]; exact hv)
 refine hn _ (.list e (ig xs)) ⟨bx,ob⟩ (M.add w.drew.heap.size pre) _ ⟨s',hp,h⟩ hle hi' ?_
 simp only [Rep]
 have hbl : (ig xs).length = xs.length := by simp [ig]
 refine ⟨_,grownCap w xs.length 0 e,i,by rw [hbl],by rw [hbl]; exact hge,hgm,hinf,by rw [hbl,hby,heb]; omega,fun _=>⟨_,_,rfl,?_⟩⟩
 refine cd.of_flat (fun r hr=>?_) (nf (show InvH P C M ⟨bx,ob⟩ w.drew from hi.drew) (ig xs).flatten pre ?_ ?_)
 ·obtain ⟨c,_,rfl⟩ := List.mem_map.1 hr
  rw [hsz,hes]; rfl
 ·rw [hpre]
  intro v hv
  simp at hv
  obtain ⟨c,_,rfl⟩ := hv
  rfl
 ·rw [hpre]
  simpa using byteRows_rep M xs
theorem Ao.ext (hg : aJ ops s o = some true) {fx : Operand} {av0 : Array Operand} {ts : Array TypeId} (ho : o.op = .call { callee := .value fx,args := av0,argTypes := ts }) {g : FuncId} (hf : evS s fx = .fn g []) {r : PV}
  (hcall : ∀ (M : Mem) (vs : Array Value) (w : World),au P M true (av0.toList.map (evS s)) vs.toList → ∃ v,(callFunc g vs).run P w = .ok (.value v) w ∧ Rep P M true r v)
  (hp : putD n s o.dst r = some s') (h : Ao P ops rest ⟨n,s',bx,ob⟩ K) : Ao P ops (o :: rest) ⟨n,s,bx,ob⟩ K := by
 refine eR hg (fun C M a w next Q hi he hn=>?_)
 have hfr := he fx (by rw [ho]; simp [Op.operands,Call.operands])
 rw [show (⟨n,s,bx,ob⟩ : PState).s = s from rfl,hf] at hfr
 simp only [Rep] at hfr
 obtain ⟨cs,hv,hcaps⟩ := hfr
 have hargs : au P M true (av0.toList.map (evS s)) (av0.map a.eval).toList := by
  simpa using kr av0.toList fun x hx=>he x (by rw [ho]; simp_all [Op.operands,Call.operands])
 have hc0 : cs = #[] := by
  simp only [au] at hcaps
  exact Array.toList_eq_nil_iff.1 hcaps
 subst hc0
 obtain ⟨v,hrun,hr⟩ := hcall M (av0.map a.eval) w hargs
 have hrun' : (execOp a.eval o).run P w = .ok (.value v) w := by
  simp [execOp,ho,resolve,hv,Deferred.ofValue,invoke,hrun]
 unfold Oper.wp
 rw [hrun']
 exact hn v r ⟨bx,ob⟩ M w ⟨s',hp,h⟩ (Mem.le_refl M) hi hr
theorem Ao.cmpS (hg : aJ ops s o = some true) {fx x y : Operand} {ts : Array TypeId} (ho : o.op = .call { callee := .value fx, args := #[x, y], argTypes := ts }) {g : FuncId} (hf : evS s fx = .fn g []) {fn : Func} (h1 : P.funcs[g]? = some fn) (h2 : (fn.name == "runtime.NumGoroutine") = false) (h3 : fn.body.isNone = true) (h4 : Extern.findNext fn = none) (h5 : Extern.find fn = some Extern.BytealgCompare.compare)
  {a b : List UInt8} (hx : evS s x = .str a) (hy : evS s y = .str b) (hp : putD n s o.dst (.val (.int .i64 (Lib.compareBytes a b))) = some s') (h : Ao P ops rest ⟨n,s',bx,ob⟩ K) : Ao P ops (o :: rest) ⟨n,s,bx,ob⟩ K := by
 refine Ao.ext hg ho hf (fun M vs w hr=>?_) hp h
 simp only [List.map_cons,List.map_nil,hx,hy,au,Rep] at hr
 obtain ⟨v1,l1,e1,⟨r1,_⟩,v2,l2,e2,⟨r2,_⟩,e3⟩ := hr
 subst e3 e2 r1 r2
 have hvs : vs = #[.string ⟨a.toArray⟩,.string ⟨b.toArray⟩] := by
  apply Array.toList_inj.1
  rw [e1]
 subst hvs
 refine ⟨.int .i64 (Lib.compareBytes a b),?_,by simp only [Rep]⟩
 rw [run_callFunc_extern h1 h2 h3 h4 h5,Lib.run_compareString]
 rfl
end
def arrI {α : Type} (n : Nat) (xs : List α) (i : Int) : Option α := if 0 ≤ i ∧ i < n then xs[i.toNat]? else none
theorem arrI_some {α : Type} {n : Nat} {xs : List α} {i : Int} {x : α} (h : arrI n xs i = some x) : (0 ≤ i ∧ i < n) ∧ xs[i.toNat]? = some x := by
 unfold arrI at h
 split at h
 ·rename_i h0; exact ⟨h0,h⟩
 ·cases h
theorem arrI_eq {α : Type} {n : Nat} {xs : List α} {i : Int} {x : α} (h0 : 0 ≤ i ∧ i < n) (h : xs[i.toNat]? = some x) : arrI n xs i = some x := by
 unfold arrI
 rw [zp h0,h]
theorem splice_map {α : Type} (f : α → PV) (xs : List α) (k : Nat) (v : α) {ys : List α} (hk : k < xs.length) (hy : xs.set k v = ys) : splice (xs.map f) k [f v] = ys.map f := by
 subst hy
 unfold splice
 rw [List.map_set,List.length_singleton]
 have hk' : k < (xs.map f).length := by simpa using hk
 rw [List.set_eq_take_append_cons_drop,zp hk',List.append_assoc]
 rfl
section
variable {P : Program} {ops : Array Oper} {rest : List Oper} {o : Oper} {n : Nat} {s s' : Nat → PV} {bx : Nat → Option Box} {ob : Nat → Option Obj} {K : PState → Prop} {T : TT} {rb : RB} {k : Nat} {L : List Nat}
theorem oP (ho : ops[k]? = some o) (hg : aJ ops s o = some true) {t : TypeId} {x i : Operand} (hop : o.op = .indexAddr t x i) {ti ei : TInfo} {e : TypeId} {len : Nat} (hti : T.get t = some ti) (hd : ti.desc = .array len e) (hei : T.get e = some ei) (hes : ei.size = 1)
  {tag b : Nat} (hx : evS s x = .box tag b 0) {kk : IntKind} {j : Int} (hi : evS s i = .val (.int kk j)) (hj : 0 ≤ j ∧ j < len) (hp : putD n s o.dst (.box tag b j.toNat) = some s') (h : Do P T rb ops L ⟨n,s',bx,ob⟩ K) : Do P T rb ops (k :: L) ⟨n,s,bx,ob⟩ K := by
 refine ol ho hg (by rw [hop]; rfl) (r := .box tag b j.toNat) ?_ hp h
 rw [hop]
 simp [eY,fK,hti,hx,hi,hd,hei,hj,hes]
theorem ph (ho : ops[k]? = some o) (hrb : rb.b o = true) (hg : aJ ops s o = some true) {t : TypeId} {x : Operand} (hop : o.op = .load t x) {ti : TInfo} (hti : T.get t = some ti) (hta : hZ ti.desc = false) {tag b off : Nat} {cells : List PV}
  (hx : evS s x = .box tag b off) (hb : bx tag = some ⟨b,cells⟩) {r : PV} (hr : cells[off]? = some r) (hp : putD n s o.dst r = some s') (h : Do P T rb ops L ⟨n,s',bx,ob⟩ K) : Do P T rb ops (k :: L) ⟨n,s,bx,ob⟩ K :=
 Do.lB ho hrb hg hop hti hx hb (by simp [cf,hta,hr,gc]) hp h
theorem oV (ho : ops[k]? = some o) (hg : aJ ops s o = some true) {t : TypeId} {x y : Operand} (hop : o.op = .store t x y) (hd : o.dst = none) {ti : TInfo} (hti : T.get t = some ti) (hts : ti.size = 1) {tag b off : Nat} {cells cells' : List PV} (hx : evS s x = .box tag b off) (hb : bx tag = some ⟨b,cells⟩)
  {p : PV} (hc : cz (evS s y) = some [p]) (h1 : PV.one p = true) (hk : off < cells.length) (hs : splice cells off [p] = cells') (h : Do P T rb ops L ⟨n,s,upd bx tag (some ⟨b,cells'⟩),ob⟩ K) : Do P T rb ops (k :: L) ⟨n,s,bx,ob⟩ K :=
 nD ho hg hop hd hti hx hb (cs := [p]) (by simp [hc,cU]) (by simp [h1]) (by rw [hts]; rfl) (by rw [hts]; exact Nat.ble_eq.mpr hk) (by rw [cU,hs]) h
end
end
end Go.Ab

namespace Go.Cx
noncomputable section
open Go Go.Ab
inductive DV where
 | bad
 | v (x : Value)
 | s (l : List UInt8)
 | a (l : List DV)
 | t (l : List DV)
 | p (id off : Nat)
 | l (id off row len : Nat)
 | e (id off : Nat)
 | f (g : FuncId) (caps : List DV)
 | i (t : TypeId) (d : DV)
inductive Tr (α : Type) where
 | nil
 | node (l : Tr α) (v : Option α) (r : Tr α)
def Tr.get {α : Type} : Tr α → Nat → Option α
 | .nil,_=>none
 | .node l v r,k=>bif Nat.beq k 0 then v else bif Nat.beq (k % 2) 1 then l.get (k / 2) else r.get (k / 2 - 1)
def Tr.set {α : Type} : Nat → Tr α → Nat → α → Tr α
 | 0,_,_,_=>.nil
 | n + 1,.nil,k,x=>bif Nat.beq k 0 then .node .nil (some x) .nil else bif Nat.beq (k % 2) 1 then .node (Tr.set n .nil (k / 2) x) none .nil else .node .nil none (Tr.set n .nil (k / 2 - 1) x)
 | n + 1,.node l v r,k,x=>bif Nat.beq k 0 then .node l (some x) r else bif Nat.beq (k % 2) 1 then .node (Tr.set n l (k / 2) x) v r else .node l v (Tr.set n r (k / 2 - 1) x)
structure Blk where
 e : TypeId
 sz : Nat
 cap : Option Nat
 wr : Bool
 cells : List DV
structure Hp where
 h : Tr (Option Blk)
 nx : Nat
def cN (h : Tr (Option Blk)) (id : Nat) : Option Blk := match h.get id with
 | some b=>b
 | none=>none
def const1 : Value → DV
 | .string x=>.s x.data.toList
 | x=>.v x
def constD : Value → DV
 | .agg cs=>.a (cs.toList.map const1)
 | x=>const1 x
def evD (s : Tr DV) : Operand → DV
 | .tmp t=>(s.get t).getD .bad
 | .const x=>constD x
 | .global _=>.bad
 | .func g=>.f g []
def DV.one : DV → Bool
 | .v x=>x.oneCell'
 | .bad | .a _ | .t _=>false
 | _=>true
def kK : DV → Option (List DV)
 | .a l=>bif l.all DV.one then some l else none
 | d=>bif d.one then some [d] else none
def readD (ti : TInfo) (off : Nat) (cells : List DV) : Option DV :=
 bif hZ ti.desc then (bif Nat.ble (off + ti.size) cells.length then some (.a ((cells.drop off).take ti.size)) else none)
 else cells[off]?
def gS (cells : List DV) (off : Nat) (new : List DV) : List DV := cells.take off ++ new ++ cells.drop (off + new.length)
def jz (place : Nat → Option (Nat × Nat)) (cells : List DV) : List (Nat × DV) → Option (List DV)
 | []=>some cells
 | (i,p) :: r=>match place i,kK p with
  | some (off,size),some cs=>bif Nat.beq cs.length size && Nat.ble (off + size) cells.length then jz place (gS cells off cs) r else none
  | _,_=>none
def ip (ti : TInfo) : List DV := ti.zero.cells.toList.map const1
def partsD (ev : Operand → DV) (ps : Array (Nat × Operand)) : List (Nat × DV) := ps.toList.map fun p=>(p.1,ev p.2)
def buildD (T : TT) (t : TypeId) (parts : List (Nat × DV)) : Option DV :=
 match T.get t with
 | some ti=>match ti.desc with
  | .struct fs=>match jf T fs.toList with
   | some l=>(jz (fun (i : Nat)=>l[i]?) (ip ti) parts).map .a
   | none=>none
  | _=>none
 | none=>none
def nu : TypeDesc → DV → DV → Option Bool
 | .int _,.v (.int k a),.v (.int k' b)=>bif decide (k = k') then some (a == b) else none
 | .bool,.v (.bool a),.v (.bool b)=>some (a == b)
 | .string,.s a,.s b=>some (a == b)
 | _,_,_=>none
def ib (T : TT) : List (Nat × Nat) → List DV → List DV → Option Bool
 | [],_,_=>some true
 | (t,off) :: r,xs,ys=>match T.get t,xs[off]?,ys[off]? with
  | some ti,some p,some q=>match nu ti.desc p q,ib T r xs ys with
   | some b,some c=>some (b && c)
   | _,_=>none
  | _,_,_=>none
def binD (T : TT) (op : BinOp) (t : TypeId) (p q : DV) : Option DV :=
 match p,q with
 | .v (.int k a),.v (.int k' b) =>
  bif decide (k = k') then
   match op with
   | .add=>some (.v (.int k (k.wrap (a + b))))
   | .sub=>some (.v (.int k (k.wrap (a - b))))
   | .mul=>some (.v (.int k (k.wrap (a * b))))
   | .quo=>if b = 0 then none else some (.v (.int k (k.wrap (a.tdiv b))))
   | .rem=>if b = 0 then none else some (.v (.int k (a.tmod b)))
   | op=>(cmpInt op a b).map fun c=>.v (.bool c)
  else none
 | .s a,.s b=>match op with
  | .add=>if a.length + b.length ≤ hM then some (.s (a ++ b)) else none
  | op=>(cmpStr op a b).map fun c=>.v (.bool c)
 | .v (.bool a),.v (.bool b)=>match T.get t,op with
  | some ⟨.bool,_,_,_,_⟩,.eql=>some (.v (.bool (a == b)))
  | some ⟨.bool,_,_,_,_⟩,.neq=>some (.v (.bool (!(a == b))))
  | _,_=>none
 | .a xs,.a ys=>match T.get t with
  | some ti=>bif ti.eqf.isEmpty then none else
   match op with
   | .eql=>(ib T ti.eqf xs ys).map fun c=>.v (.bool c)
   | .neq=>(ib T ti.eqf xs ys).map fun c=>.v (.bool (!c))
   | _=>none
  | none=>none
 | _,_=>none
def nilD (T : TT) (op : BinOp) (t : TypeId) (y : Operand) (p : DV) : Option DV :=
 match y,p with
 | .const .nilIface,.v .nilIface=>match T.get t with
  | some ti=>match ti.desc,op with
   | .interface _,.eql=>some (.v (.bool true))
   | .interface _,.neq=>some (.v (.bool false))
   | _,_=>none
  | none=>none
 | .const (.slice none 0 0),p=>match T.get t with
  | some ti=>match ti.desc,op,p with
   | .slice _,.eql,.v (.slice none 0 0)=>some (.v (.bool true))
   | .slice _,.eql,.l _ _ _ _=>some (.v (.bool false))
   | .slice _,.eql,.e _ _=>some (.v (.bool false))
   | _,_,_=>none
  | none=>none
 | _,_=>none
def kL (p : Option DV) (dflt : Nat) : Option Int :=
 match p with
 | none=>some dflt
 | some (.v (.int _ n))=>some n
 | _=>none
def sliceD (T : TT) (d : TypeDesc) (p : DV) (lo hi : Option DV) : Option DV :=
 match d,p with
 | .string,.s l=>match kL lo 0,kL hi l.length with
  | some a,some b=>if 0 ≤ a ∧ a ≤ b ∧ b ≤ l.length then some (.s ((l.take b.toNat).drop a.toNat)) else none
  | _,_=>none
 | .slice e,.l id off row len=>match kL lo 0,kL hi len,T.get e with
   | some a,some b,some ei=>if 0 ≤ a ∧ a ≤ b ∧ b ≤ len ∧ (a < len ∨ a = 0) then some (.l id (off + a.toNat * ei.size) (row + a.toNat) (b.toNat - a.toNat)) else none
   | _,_,_=>none
 | _,_=>none
def isZ : Option Operand → Bool
 | some (.const (.int .i64 n))=>n == 0
 | _=>false
def emptyD (T : TT) (d : TypeDesc) (p : DV) : Option DV :=
 match d with
 | .slice e=>match T.get e,p with
  | some _,.l id off _ _=>some (.e id off)
  | some _,.e id off=>some (.e id off)
  | some _,.v (.slice none 0 0)=>some p
  | _,_=>none
 | _=>none
def offD : DV → Nat → Option DV
 | .p id off,n=>some (.p id (off + n))
 | _,_=>none
def jR : DV → Option Nat
 | .l _ _ _ n=>some n
 | .e _ _=>some 0
 | .v (.slice none 0 0)=>some 0
 | _=>none
def loadD (h : Tr (Option Blk)) (ti : TInfo) : DV → Option DV
 | .p id off=>match cN h id with
  | some b=>readD ti off b.cells
  | none=>none
 | _=>none
def noNilD : DV → Bool
 | .p _ _ | .f _ _=>true
 | _=>false
def callD (T : TT) (c : Call) (ev : Operand → DV) : Option DV :=
 match c.callee,c.args.toList,c.argTypes.toList with
 | .builtin .len,[x],t :: _=>match T.get t with
  | some ti=>match ti.desc,ev x with
   | .string,.s l=>some (.v (.int .i64 l.length))
   | .slice _,p=>(jR p).bind fun n=>some (.v (.int .i64 n))
   | _,_=>none
  | none=>none
 | .builtin .min,[x,y],_=>match ev x,ev y with
  | .v (.int k a),.v (.int _ b)=>some (.v (.int k (if b < a then b else a)))
  | _,_=>none
 | .builtin .max,[x,y],_=>match ev x,ev y with
  | .v (.int k a),.v (.int _ b)=>some (.v (.int k (if b > a then b else a)))
  | _,_=>none
 | _,_,_=>none
def eF (T : TT) (h : Tr (Option Blk)) (op : Op) (ev : Operand → DV) : Option DV :=
 match op with
 | .move x | .assign x=>some (ev x)
 | .pick c a b=>match ev c with
  | .v (.bool true)=>some (ev a)
  | .v (.bool false)=>some (ev b)
  | _=>none
 | .load t x=>match T.get t with
  | some ti=>loadD h ti (ev x)
  | none=>none
 | .fieldAddr t x f=>match T.get t with
  | some ti=>match ti.desc with
   | .struct fs=>match fs[f]? with
    | some fd=>match T.get fd.type with
     | some fi=>bif Nat.beq fi.size 0 then none else offD (ev x) fd.offset
     | none=>none
    | none=>none
   | _=>none
  | none=>none
 | .field t x f=>match T.get t with
  | some ti=>match ti.desc with
   | .struct fs=>match fs[f]? with
    | some fd=>match T.get fd.type,ev x with
     | some fi,.a cells=>readD fi fd.offset cells
     | _,_=>none
    | none=>none
   | _=>none
  | none=>none
 | .indexAddr t x i=>match T.get t,ev x,ev i with
  | some ti,.l id off _ len,.v (.int _ n)=>match ti.desc with
   | .slice e=>match T.get e with
    | some ei=>if 0 ≤ n ∧ n < len then some (.p id (off + n.toNat * ei.size)) else none
    | none=>none
   | _=>none
  | some ti,.p id off,.v (.int _ n)=>match ti.desc with
   | .array len e=>match T.get e with
    | some ei=>if 0 ≤ n ∧ n < len then some (.p id (off + n.toNat * ei.size)) else none
    | none=>none
   | _=>none
  | _,_,_=>none
 | .index t x i=>match T.get t,ev x,ev i with
  | some ti,.s l,.v (.int _ n)=>match ti.desc with
   | .string=>if 0 ≤ n then (l[n.toNat]?).map fun c=>.v (.int .u8 c.toNat) else none
   | _=>none
  | _,_,_=>none
 | .binOp op t x y _=>match nilD T op t y (ev x) with
  | some r=>some r
  | none=>binD T op t (ev x) (ev y)
 | .unOp op _ x=>match op,ev x with
  | .not,.v (.bool b)=>some (.v (.bool (!b)))
  | .neg,.v (.int k n)=>some (.v (.int k (k.wrap (0 - n))))
  | _,_=>none
 | .convert src dst x=>match T.get src,T.get dst,ev x with
  | some _,some ti,.v (.int _ n)=>match ti.desc with
   | .int k=>some (.v (.int k (k.wrap n)))
   | _=>none
  | some _,some ti,.s l=>match ti.desc with
   | .string=>some (.s l)
   | _=>none
  | _,_,_=>none
 | .extract x i=>match ev x with
  | .t vs=>vs[i]?
  | _=>none
 | .build t ps=>buildD T t (partsD ev ps)
 | .slice t x lo hi mx=>match T.get t with
  | some ti=>match mx with
   | none=>sliceD T ti.desc (ev x) (lo.map ev) (hi.map ev)
   | some m=>bif isZ lo && isZ hi && isZ (some m) then emptyD T ti.desc (ev x) else none
  | none=>none
 | .makeFunc (.func f) first caps=>bif first.isEmpty then some (.f f (caps.toList.map ev)) else none
 | .nilCheck x=>bif noNilD (ev x) then some (ev x) else none
 | .call c=>callD T c ev
 | _=>none
def jv (n : Nat) (l : List DV) : List DV := match n with
 | 0=>[]
 | n + 1=>l ++ jv n l
def newD (H : Hp) (b : Blk) : Hp := ⟨H.h.set 24 H.nx (some b),H.nx + 1⟩
def srcD (h : Tr (Option Blk)) (size : Nat) : DV → Option (List DV)
 | .l id off _ len=>match cN h id with
  | some b=>bif Nat.ble (off + len * size) b.cells.length then some ((b.cells.drop off).take (len * size)) else none
  | none=>none
 | .v (.slice none 0 0) | .e _ _=>some []
 | _=>none
def appendD (H : Hp) (e : TypeId) (size bytes : Nat) (x : DV) (new : List DV) (n : Nat) : Option (DV × Hp) :=
 bif Nat.beq n 0 then (match jR x with | some _=>some (x,H) | none=>none) else
 match x with
 | .v (.slice none 0 0) | .e _ _=>bif Nat.ble (n * bytes) 1000000 && Nat.ble n 1000000 then some (.l H.nx 0 0 n,newD H ⟨e,size,none,true,new⟩) else none
 | .l id off row len=>match cN H.h id with
  | some b =>
   bif b.wr && Nat.beq b.e e && Nat.beq b.sz size && Nat.beq off 0 && Nat.beq row 0 && Nat.beq b.cells.length (len * size) && Nat.ble ((len + n) * bytes) 1000000 && Nat.ble (len + n) 1000000 then
    some (.l H.nx 0 0 (len + n),newD ⟨H.h.set 24 id none,H.nx⟩ ⟨e,size,none,true,b.cells ++ new⟩)
   else none
  | none=>none
 | _=>none
def iz (T : TT) (op : Op) (ev : Operand → DV) (id : Nat) : Option (DV × Blk) :=
 match op with
 | .alloc t=>match T.get t with
  | some ti=>some (.p id 0,⟨t,0,none,true,ip ti⟩)
  | none=>none
 | .box t x=>match kK (ev x) with
  | some cs=>some (.p id 0,⟨t,0,none,true,cs⟩)
  | none=>none
 | .buildSlice t n ps=>match T.get t with
  | some ti=>match ti.desc with
   | .slice e=>match T.get e with
    | some ei=>bif Nat.ble (n * ei.bytes) 1000000 && Nat.blt 0 ei.size && Nat.ble (n * ei.size) 1000000 && Nat.beq ei.zero.cells.size ei.size then match jz (fun i=>some (i * ei.size,ei.size)) (jv n (ip ei)) (partsD ev ps) with
      | some cs=>some (.l id 0 0 n,⟨e,ei.size,some n,true,cs⟩)
      | none=>none
     else none
    | none=>none
   | _=>none
  | none=>none
 | _=>none
def ic (T : TT) (H : Hp) (op : Op) (ev : Operand → DV) : Option (DV × Hp) :=
 match op with
 | .store t x y=>match T.get t,ev x,kK (ev y) with
  | some ti,.p id off,some cs=>match cN H.h id with
   | some b=>bif b.wr && Nat.beq cs.length ti.size && Nat.ble (off + ti.size) b.cells.length then some (.bad,⟨H.h.set 24 id (some ⟨b.e,b.sz,b.cap,b.wr,gS b.cells off cs⟩),H.nx⟩) else none
   | none=>none
  | _,_,_=>none
 | .convert src dst x=>match T.get src,T.get dst,ev x with
  | some si,some ti,.s l=>match si.desc,ti.desc with
   | .string,.slice e=>match T.get e with
    | some ei=>match ei.desc with
     | .int .u8=>bif Nat.beq ei.size 1 && Nat.ble l.length 1000000 then some (.l H.nx 0 0 l.length,newD H ⟨e,1,none,false,l.map fun c=>.v (.int .u8 c.toNat)⟩) else none
     | _=>none
    | none=>none
   | _,_=>none
  | _,_,_=>none
 | .call ⟨.builtin .clear,av0,ts⟩=>match av0.toList,ts.toList with
  | [x],[t]=>match T.get t,ev x with
   | some ti,.l id off _ n=>match ti.desc,cN H.h id with
    | .slice e,some b=>match T.get e with
     | some ei=>bif Nat.beq n 0 then some (.t [],H) else bif b.wr && (ip ei).all DV.one && Nat.beq ei.zero.cells.size ei.size && Nat.ble (off + n * ei.size) b.cells.length then
       some (.t [],⟨H.h.set 24 id (some ⟨b.e,b.sz,b.cap,b.wr,gS b.cells off (jv n (ip ei))⟩),H.nx⟩) else none
     | none=>none
    | _,_=>none
   | _,_=>none
  | _,_=>none
 | .call ⟨.builtin .append,av0,ts⟩=>match av0.toList,ts.toList with
  | [x,y],[t,t']=>bif Nat.beq t t' then match T.get t with
   | some ti=>match ti.desc with
    | .slice e=>match T.get e with
     | some ei=>match srcD H.h ei.size (ev y),jR (ev y) with
      | some new,some n=>bif Nat.blt 0 ei.size && Nat.beq ei.zero.cells.size ei.size && new.all DV.one then appendD H e ei.size ei.bytes (ev x) new n else none
      | _,_=>none
     | none=>none
    | _=>none
   | none=>none
   else none
  | _,_=>none
 | _=>none
def loudD (T : TT) (H : Hp) (op : Op) (ev : Operand → DV) : Option (DV × Hp) :=
 match iz T op ev H.nx with
 | some (d,b)=>some (d,newD H b)
 | none=>ic T H op ev
def isLoud : Op → Bool
 | .alloc _ | .box _ _ | .store _ _ _ | .buildSlice _ _ _ | .makeSlice _ _ _ | .defer _=>true
 | .convert _ _ _=>true
 | .call ⟨.builtin .len,_,_⟩ | .call ⟨.builtin .min,_,_⟩ | .call ⟨.builtin .max,_,_⟩=>false
 | .call _=>true
 | _=>false
structure St where
 n : Nat
 s : Tr DV
 H : Hp
 df : List (FuncId × List DV)
abbrev eM := FuncId → List DV → Hp → Option (DV × Hp)
def oneD (T : TT) (call : eM) (op : Op) (ev : Operand → DV) (H : Hp) : Option (DV × Hp) :=
 match eF T H.h op ev with
 | some r=>some (r,H)
 | none=>match loudD T H op ev with
  | some x=>some x
  | none=>match op with
   | .call ⟨.value fx,av0,_⟩=>match ev fx with
    | .f g caps=>call g (av0.toList.map ev ++ caps) H
    | _=>none
   | _=>none
def cD (ops : Array Oper) (s : Tr DV) (o : Oper) : Option Bool :=
 match o.guard with
 | none=>some true
 | some (j,want)=>match (ops[j]?).bind (·.dst) with
  | some d=>match s.get d with
   | some (.v (.bool b))=>some (b == want)
   | some (.t [])=>some false
   | _=>none
  | none=>none
def eS (n : Nat) (s : Tr DV) (dst : Option Tmp) (d : DV) : Option (Tr DV) := match dst with
 | none=>some s
 | some k=>bif Nat.blt k n then some (s.set 16 k d) else none
def headD : DV → Bool
 | .v (.int _ n)=>match n with
  | .ofNat k=>Nat.beq k k
  | .negSucc k=>Nat.beq k k
 | _=>true
def stepD (T : TT) (call : eM) (ops : Array Oper) (o : Oper) (st : St) : Option St :=
 match cD ops st.s o with
 | some true=>match o.op with
  | .defer ⟨.value fx,av0,_⟩=>bif av0.isEmpty then (match evD st.s fx with
    | .f g caps=>(eS st.n st.s o.dst (.t [])).map fun s=>⟨st.n,s,st.H,(g,caps) :: st.df⟩
    | _=>none) else none
  | op=>match oneD T call op (evD st.s) st.H with
   | some (d,H)=>bif headD d then (eS st.n st.s o.dst d).map fun s=>⟨st.n,s,H,st.df⟩ else none
   | none=>none
 | some false=>(eS st.n st.s o.dst (.t [])).map fun s=>⟨st.n,s,st.H,st.df⟩
 | none=>none
def opsD (T : TT) (call : eM) (ops : Array Oper) : List Oper → St → Option St
 | [],st=>some st
 | o :: r,st=>match stepD T call ops o st with
  | some st'=>opsD T call ops r st'
  | none=>none
inductive Ex where
 | nm | rt | ex (j : Nat)
def resD (T : TT) (st : St) : ResultVar → Option DV
 | .tmp t=>match st.s.get t with
  | some .bad=>none
  | x=>x
 | .cell a t=>match T.get t,st.s.get a with
  | some ti,some d=>loadD st.H.h ti d
  | _,_=>none
def iK (T : TT) (st : St) : List ResultVar → Option (List DV)
 | []=>some []
 | r :: rs=>match resD T st r,iK T st rs with
  | some d,some ds=>some (d :: ds)
  | _,_=>none
def tupD : List DV → DV
 | [d]=>d
 | ds=>.t ds
def jZ (l : List DV) : Tr DV := (l.foldl (fun (x : Tr DV × Nat) d=>(x.1.set 16 x.2 d,x.2 + 1)) (.nil,0)).1
end
end Go.Cx
