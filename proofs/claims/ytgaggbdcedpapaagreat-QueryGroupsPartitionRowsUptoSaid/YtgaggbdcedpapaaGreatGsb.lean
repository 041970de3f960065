/- queryGroupsPartitionRowsUpto_holds, part 2: the layer, the plain functions and what they compute; conditions as in the statement. -/
import Derived.Test.YtgaggbdcedpapaaGreatGsa
namespace Go.Ab
noncomputable section
open Go.ChangeShapes
mutual
def PV.bulk : PV → Nat
 | .str l=>l.length + 1
 | .list _ rows=>eC rows + 1
 | .agg cs=>bj cs
 | .any=>1
 | .val _=>1
 | .tup _=>1
 | .ptr _=>1
 | .fn _ _=>1
 | .box _ _ _=>1
 | .own _ _ _=>1
 | .optr _ _ _ _ _=>1
def bj : List PV → Nat
 | []=>0
 | p :: ps=>p.bulk + bj ps
def eC : List (List PV) → Nat
 | []=>0
 | r :: rs=>bj r + eC rs
end
theorem mC : ∀ a b : List PV,bj (a ++ b) = bj a + bj b
 | [],b=>by simp [bj]
 | p :: a,b=>by simp only [List.cons_append,bj,mC a b]; omega
structure IsBulk (B : (H : Type) → DataW H → Nat) : Prop where
 one : ∀ H d,1 ≤ B H d
 str : ∀ H l,l.length + 1 ≤ B H (.lit (.string l))
 slice : ∀ H (a b : List (DataW H)),(a.map (B H)).sum + 1 ≤ B H (.slice a b)
 agg : ∀ H (a : List (DataW H)),(a.map (B H)).sum ≤ B H (.agg a)
theorem Sh.up {P : Program} : ∀ {n : Nat} {t : TypeId} {pvs : List PV},Sh P n t pvs → Sh P (n + 1) t pvs := by
 intro n
 induction n with
 | zero=>intro t pvs h; simp [Sh] at h
 | succ n ih =>
  intro t pvs h
  rw [Sh] at h ⊢
  split at h
  ·exact h
  ·exact h
  ·exact h
  ·obtain ⟨rows,rfl,hr⟩ := h
   exact ⟨rows,rfl,fun r hq=>ih (hr r hq)⟩
  ·rename_i fs hu
   have key : ∀ (ts : List TypeId) (l : List PV),eS (Sh P n) ts l → eS (Sh P (n + 1)) ts l := by
    intro ts
    induction ts with
    | nil=>intro l h; simp only [eS] at h ⊢; exact h
    | cons t ts iht =>
     intro l h
     simp only [eS] at h ⊢
     obtain ⟨a,b,h1,h2,h3⟩ := h
     exact ⟨a,b,h1,ih h2,iht b h3⟩
   exact key _ _ h
  ·cases h
theorem Sh.cast {P : Program} {n : Nat} {t t' : TypeId} {pvs : List PV} (h : P.underlying t = P.underlying t') (hs : Sh P n t pvs) : Sh P n t' pvs := by
 cases n with
 | zero=>simp [Sh] at hs
 | succ n=>rw [Sh] at hs ⊢; rwa [h] at hs
theorem gw {α : Type} {f : α → List PV} : ∀ {rows : List (List PV)},(∀ r ∈ rows,∃ x,r = f x) → ∃ xs : List α,rows = xs.map f
 | [],_=>⟨[],rfl⟩
 | r :: rs,h=>by
  obtain ⟨x,rfl⟩ := h r (by simp)
  obtain ⟨xs,rfl⟩ := gw (rows := rs) fun q hq=>h q (by simp [hq])
  exact ⟨x :: xs,rfl⟩
theorem rowsUp {α : Type} {f : α → List PV} {P : Program} {n : Nat} {e t : TypeId} (he : P.underlying e = P.underlying t) (ih : ∀ {pvs},Sh P (n + 1) t pvs → ∃ v,pvs = f v) {rows : List (List PV)} (hr : ∀ r ∈ rows,Sh P n e r) : ∃ xs : List α,rows = xs.map f :=
 gw fun r hq=>ih (Sh.up (Sh.cast he (hr r hq)))
def infosB (P : Program) (S : List TypeId) : Bool := S.all fun t=>match P.info? t with
 | some i=>Nat.beq i.bytes (P.bytesOf t) && Nat.beq i.size (P.cellsOf t)
 | none=>false
theorem infos_of {P : Program} {S : List TypeId} (h : infosB P S = true) : ∀ t ∈ S,∃ i,P.info? t = some i ∧ i.bytes = P.bytesOf t ∧ i.size = P.cellsOf t := by
 intro t ht
 have := List.all_eq_true.1 h t ht
 cases hi : P.info? t with
 | none=>rw [hi] at this; cases this
 | some i =>
  rw [hi] at this
  simp only [Bool.and_eq_true] at this
  exact ⟨i,rfl,Nat.eq_of_beq_eq_true this.1,Nat.eq_of_beq_eq_true this.2⟩
section
variable {B : (H : Type) → DataW H → Nat} {H : Type} {enc : TypeId × Value → H} {P : Program} {W : World} {S : List TypeId}
theorem oO {n : Nat} (ih : ∀ t ∈ S,∀ (cs : List Value) x,DataW.trod enc P W 0 (fun _=>true) true n t cs = some x → (x.1.weights P t).all (· ≤ reachBytes) = true → ∃ pvs,Sh P n t pvs ∧ aw P (iw W) false pvs cs ∧ bj pvs ≤ B H x.1) :
  ∀ (fs : List Field) (o : Nat) (cs : List Value) (xs : List (DataW H × List MemPlace)),laidFs P o fs = true → fs.all (fun f=>S.contains f.type) = true → o + (fs.map fun f=>P.cellsOf f.type).sum = cs.length →
   (fs.mapM fun f=>DataW.trod enc P W 0 (fun _=>true) true n f.type ((cs.drop f.offset).take (P.cellsOf f.type))) = some xs →
   (DataW.weightsEach P (fs.map (·.type)) (xs.map (·.1))).all (· ≤ reachBytes) = true → ∃ pvs,eS (Sh P n) (fs.map (·.type)) pvs ∧ aw P (iw W) false pvs (cs.drop o) ∧ bj pvs ≤ ((xs.map (·.1)).map (B H)).sum
 | [],o,cs,xs,_,_,hlen,_,_=>by
  refine ⟨[],by simp [eS],?_,by simp [bj]⟩
  simp only [aw]
  exact List.drop_eq_nil_of_le (by simp at hlen; omega)
 | f :: fs,o,cs,xs,hl,hS,hlen,hm,hw=>by
  simp only [laidFs,Bool.and_eq_true] at hl
  simp only [List.all_cons,Bool.and_eq_true] at hS
  simp only [List.map_cons,List.sum_cons] at hlen
  have hoff : f.offset = o := Nat.eq_of_beq_eq_true hl.1
  rw [List.mapM_cons] at hm
  cases hx : DataW.trod enc P W 0 (fun _=>true) true n f.type ((cs.drop f.offset).take (P.cellsOf f.type)) with
  | none=>rw [hx] at hm; cases hm
  | some x =>
   rw [hx] at hm
   cases hr : (fs.mapM fun f=>DataW.trod enc P W 0 (fun _=>true) true n f.type ((cs.drop f.offset).take (P.cellsOf f.type))) with
   | none=>rw [hr] at hm; cases hm
   | some r =>
    rw [hr] at hm
    have hm' : x :: r = xs := Option.some.inj hm
    subst hm'
    simp only [List.map_cons,DataW.weightsEach,List.all_append,Bool.and_eq_true] at hw
    obtain ⟨pa,ha1,ha2,ha3⟩ := ih f.type (by simpa using hS.1) _ x hx hw.1
    obtain ⟨pb,hb1,hb2,hb3⟩ := oO ih fs (o + P.cellsOf f.type) cs r hl.2 hS.2 (by omega) hr hw.2
    refine ⟨pa ++ pb,⟨pa,pb,rfl,ha1,hb1⟩,?_,by rw [mC]; simp only [List.map_cons,List.sum_cons]; omega⟩
    have := ha2.append hb2
    rw [hoff] at this
    have e : (cs.drop o).take (P.cellsOf f.type) ++ cs.drop (o + P.cellsOf f.type) = cs.drop o := by
     rw [← List.drop_drop]; exact List.take_append_drop _ _
    rwa [e] at this
theorem absB_rows {n : Nat} {e : TypeId} (ih : ∀ (cs : List Value) x,DataW.trod enc P W 0 (fun _=>true) true n e cs = some x → (x.1.weights P e).all (· ≤ reachBytes) = true → ∃ pvs,Sh P n e pvs ∧ aw P (iw W) false pvs cs ∧ bj pvs ≤ B H x.1)
  {b o c : Nat} : ∀ (elems : List (DataW H × List MemPlace)) (k : Nat),(∀ j,j < elems.length → ((W.cells? 0 ((⟨b,o,none⟩ : Addr).add ((k + j) * c)) c).bind (DataW.trod enc P W 0 (fun _=>true) true n e)) = elems[j]?) →
   (DataW.weightsAll P e (elems.map (·.1))).all (· ≤ reachBytes) = true → ∃ rows : List (List PV),rows.length = elems.length ∧ (∀ r ∈ rows,Sh P n e r) ∧ ck P (iw W) c b (o + k * c) rows ∧ eC rows ≤ ((elems.map (·.1)).map (B H)).sum
 | [],k,_,_=>⟨[],rfl,by simp,by simp [ck],by simp [eC]⟩
 | x :: r,k,hj,hw=>by
  simp only [List.map_cons,DataW.weightsAll,List.all_append,Bool.and_eq_true] at hw
  have h0 := hj 0 (by simp)
  simp only [Nat.add_zero,List.getElem?_cons_zero] at h0
  cases hcs : W.cells? 0 ((⟨b,o,none⟩ : Addr).add (k * c)) c with
  | none=>rw [hcs] at h0; cases h0
  | some cs =>
   rw [hcs] at h0
   simp only [Option.bind_some] at h0
   obtain ⟨pv,hp1,hp2,hp3⟩ := ih cs x h0 hw.1
   obtain ⟨_,hlen,hcell⟩ := World.cells?_some hcs
   obtain ⟨rows,hr1,hr2,hr3,hr4⟩ := absB_rows ih r (k + 1) (fun j hj'=>by
    have := hj (j + 1) (by simpa using hj')
    rw [show k + (j + 1) = k + 1 + j from by omega] at this
    simpa using this) hw.2
   refine ⟨pv :: rows,by simp [hr1],?_,?_,by simp only [eC,List.map_cons,List.sum_cons]; omega⟩
   ·intro q hq
    rcases List.mem_cons.1 hq with rfl | hq
    ·exact hp1
    ·exact hr2 q hq
   ·simp only [ck]
    have hpl : pv.length = c := by rw [← hlen]; exact (hp2.length).symm
    have hone : ∀ y ∈ cs,y.oneCell' = true := aw.oneCell hp1.one hp2
    refine ⟨hpl,bY.of_cells hp2 hone fun j hj'=>?_,?_⟩
    ·have := hcell j (by omega)
     rw [← this,eX,eX]
    ·rw [show o + (k + 1) * c = o + k * c + c from by rw [Nat.add_mul]; omega] at hr3
     exact hr3
theorem absB (hB : IsBulk B) (hS : S.all (okT P S) = true) (hinf : ∀ t ∈ S,∃ i,P.info? t = some i ∧ i.bytes = P.bytesOf t ∧ i.size = P.cellsOf t) : ∀ (n : Nat) (t : TypeId),t ∈ S → ∀ (cs : List Value) x,DataW.trod enc P W 0 (fun _=>true) true n t cs = some x →
  (x.1.weights P t).all (· ≤ reachBytes) = true → ∃ pvs,Sh P n t pvs ∧ aw P (iw W) false pvs cs ∧ bj pvs ≤ B H x.1 := by
 intro n
 induction n with
 | zero=>intro t _ cs x h; simp [DataW.trod] at h
 | succ n ih =>
  intro t ht cs x h hw
  have hok := List.all_eq_true.1 hS t ht
  unfold okT at hok
  simp only [Sh]
  split at hok
  ·rename_i hu
   obtain ⟨b,rfl⟩ := trod_bool_some hu h
   exact ⟨_,⟨b,rfl⟩,by simp [aw,Rep],by simp only [bj,PV.bulk]; exact hB.one _ _⟩
  ·rename_i k hu
   obtain ⟨m,rfl,hm⟩ := trod_int_some hu h
   exact ⟨_,⟨m,rfl,hm⟩,by simp [aw,Rep],by simp only [bj,PV.bulk]; exact hB.one _ _⟩
  ·rename_i hu
   obtain ⟨s,rfl,hx⟩ := trod_str_some hu h
   rw [hx] at hw
   simp only [DataW.weights,List.all_cons,List.all_nil,Bool.and_true,decide_eq_true_eq] at hw
   have hle : s.data.toList.length ≤ 2 ^ 47 := Nat.le_trans hw (by unfold reachBytes; omega)
   refine ⟨_,⟨s.data.toList,rfl,hle⟩,?_,by simp only [bj,PV.bulk]; rw [hx]; exact hB.str _ _⟩
   simp only [aw,Rep]
   exact ⟨_,[],rfl,⟨by simp,Nat.le_trans hle (by unfold gd; omega)⟩,rfl⟩
  ·rename_i e hu
   simp only [Bool.and_eq_true] at hok
   have he : e ∈ S := by simpa using hok.1
   obtain ⟨i,hi1,hi2,hi3⟩ := hinf e he
   rcases oZ hu h with ⟨rfl,rfl⟩ | ⟨a,len,cap,elems,rest,rfl,hlc,hcm,hel,hre,hx⟩
   ·refine ⟨_,⟨[],rfl,by simp⟩,?_,by simp only [bj,PV.bulk,eC]; exact hB.one _ _⟩
    simp only [aw,Rep]
    exact ⟨_,[],rfl,⟨none,0,i,rfl,by simp,by simp,hi1,by simp,by simp⟩,rfl⟩
   ·have hlen : elems.length = len := by simpa using mapM_some_length hel
    have hrlen : rest.length = cap - len := by simpa using mapM_some_length hre
    rw [hx] at hw
    simp only [DataW.weights,hu,List.all_cons,List.all_append,List.length_map,Bool.and_eq_true,decide_eq_true_eq] at hw
    have hpos : 0 < P.cellsOf e := by simpa [Nat.blt_eq] using hok.2
    have hget : ∀ j,j < elems.length → (W.cells? 0 (a.add (j * P.cellsOf e)) (P.cellsOf e)).bind (DataW.trod enc P W 0 (fun _=>true) true n e) = elems[j]? := fun j hj=>mapM_some_get hel j j (List.getElem?_range (by omega))
    have hsp : elems ≠ [] → a.spot = none := fun hne=>by
     have h0 := hget 0 (List.length_pos_iff.2 hne)
     rw [Nat.zero_mul] at h0
     cases hcs : W.cells? 0 (a.add 0) (P.cellsOf e) with
     | none=>rw [hcs] at h0; cases elems with
      | nil=>exact absurd rfl hne
      | cons _ _=>cases h0
     | some cs =>
      obtain ⟨_,hl,hc⟩ := World.cells?_some hcs
      have := hc 0 hpos
      cases hs : a.spot with
      | none=>rfl
      | some q =>
       have h1 : W.cell? ((a.add 0).add 0) = none := by
        simp only [World.cell?,Addr.add,hs,if_true]
        split <;> simp
       rw [h1] at this
       have := List.getElem?_eq_none_iff.1 this.symm
       omega
    have hby : len * i.bytes ≤ 2 ^ 47 := by
     have h1 := hw.1
     rw [hi2]
     have : len * P.bytesOf e ≤ (elems.length + rest.length) * P.bytesOf e := Nat.mul_le_mul_right _ (by omega)
     unfold reachBytes at h1
     omega
    by_cases hne : elems = []
    ·subst hne
     refine ⟨_,⟨[],rfl,by simp⟩,?_,by simp only [bj,PV.bulk,eC]; exact hB.one _ _⟩
     simp only [List.length_nil] at hlen
     subst hlen
     simp only [aw,Rep]
     exact ⟨_,[],rfl,⟨some a,cap,i,rfl,by simp,hcm,hi1,by simp,by simp⟩,rfl⟩
    ·obtain ⟨b,o,sp⟩ := a
     have := hsp hne
     simp only at this
     subst this
     obtain ⟨rows,hr1,hr2,hr3,hr4⟩ := absB_rows (B := B) (fun cs x hx hw=>ih e he cs x hx hw) elems 0 (fun j hj=>by rw [Nat.zero_add]; exact hget j hj) hw.2.1
     refine ⟨_,⟨rows,rfl,hr2⟩,?_,by simp only [bj,PV.bulk]; rw [hx]; exact Nat.le_trans (by omega) (hB.slice _ _ _)⟩
     simp only [aw,Rep]
     have hrl : rows.length = len := by omega
     rw [hrl]
     refine ⟨_,[],rfl,⟨some ⟨b,o,none⟩,cap,i,rfl,hlc,hcm,hi1,hby,fun _=>⟨b,o,rfl,?_⟩⟩,rfl⟩
     rw [hi3]
     simpa using hr3
  ·rename_i fs hu
   simp only [Bool.and_eq_true] at hok
   obtain ⟨hl,xs,hm,hx⟩ := oU hu h
   rw [hx] at hw
   simp only [DataW.weights,hu] at hw
   have hsum := Nat.eq_of_beq_eq_true hok.2
   obtain ⟨pvs,h1,h2,h3⟩ := oO (B := B) ih fs.toList 0 cs xs hok.1.1 hok.1.2 (by rw [hsum,hl]; omega) hm hw
   exact ⟨pvs,h1,by simpa using h2,by rw [hx]; exact Nat.le_trans h3 (hB.agg _ _)⟩
  ·cases hok
omit enc W S in
theorem argPV_bulk (hB : IsBulk B) (t : TypeId) (pvs : List PV) : (gW P t pvs).bulk ≤ max (bj pvs) 1 := by
 have _ := hB
 unfold gW
 split
 ·simp only [PV.bulk]; omega
 ·cases pvs with
  | nil=>simp [PV.bulk,bj]
  | cons p ps=>simp only [List.headD_cons,bj]; omega
theorem absB_val (hB : IsBulk B) (hS : S.all (okT P S) = true) (hinf : ∀ t ∈ S,∃ i,P.info? t = some i ∧ i.bytes = P.bytesOf t ∧ i.size = P.cellsOf t) {base : Nat} {t : TypeId} (ht : t ∈ S) {v : Value} {d : DataW H} {ps : List MemPlace}
  (hv : Value.okWide P W .any base t v) (h : DataW.Trod enc P W 0 (fun _=>true) true t v d ps) (hw : (d.weights P t).all (· ≤ reachBytes) = true) : ∃ n pvs,Sh P n t pvs ∧ Rep P (iw W) true (gW P t pvs) v ∧ (gW P t pvs).bulk ≤ B H d := by
 obtain ⟨n,hn⟩ := h
 obtain ⟨pvs,h1,h2,hb⟩ := absB hB hS hinf n t ht _ (d,ps) hn hw
 refine ⟨n,pvs,h1,?_,Nat.le_trans (argPV_bulk hB t pvs) (Nat.max_le.2 ⟨hb,hB.one _ _⟩)⟩
 have h2' := aw.slot h2
 have hok := List.all_eq_true.1 hS t ht
 unfold okT at hok
 unfold gW
 have one : v.cells = #[v] → Rep P (iw W) true (pvs.headD .any) v := by
  intro e
  rw [e] at h2'
  cases pvs with
  | nil=>simp [aw] at h2'
  | cons p ps =>
   simp only [aw] at h2'
   obtain ⟨x,xs,hx,hp,_⟩ := h2'
   simp only [List.cons.injEq] at hx
   rw [hx.1]
   exact hp
 cases hu : P.underlying t with
 | none=>rw [hu] at hok; cases hok
 | some td =>
  rw [hu] at hok
  cases td <;> first | (simp only [Bool.false_eq_true] at hok; done) | skip
  case bool=>obtain ⟨b,rfl⟩ := WideShapes.okWide_bool hu hv; exact one rfl
  case int k=>obtain ⟨m,rfl⟩ := WideShapes.okWide_int hu hv; exact one rfl
  case string=>obtain ⟨s,rfl⟩ := WideShapes.okWide_string hu hv; exact one rfl
  case slice e=>obtain ⟨a,len,cap,rfl⟩ := WideShapes.okWide_slice hu hv; exact one rfl
  case struct fs =>
   obtain ⟨cs,rfl,_⟩ := WideShapes.okWide_struct hu hv
   simp only [Rep]
   exact ⟨cs,rfl,h2'⟩
theorem absB_args (hB : IsBulk B) (hS : S.all (okT P S) = true) (hinf : ∀ t ∈ S,∃ i,P.info? t = some i ∧ i.bytes = P.bytesOf t ∧ i.size = P.cellsOf t) {base : Nat} : ∀ {ts : List TypeId} {vs : List Value} {ds : List (DataW H)} {ps : List MemPlace},(∀ t ∈ ts,t ∈ S) →
  (∀ (j : Nat) t v,ts[j]? = some t → vs[j]? = some v → Value.okWide P W .any base t v) → DataW.TrodAll enc P W 0 (fun _=>true) true ts vs ds ps → (DataW.weightsEach P ts ds).all (· ≤ reachBytes) = true →
  ∃ av0,ArgsSh P ts av0 ∧ aw P (iw W) true av0 vs ∧ bj av0 ≤ (ds.map (B H)).sum
 | [],_,_,_,_,_,h,_=>by
  obtain ⟨rfl,rfl,rfl⟩ := trodAll_nil h
  exact ⟨[],rfl,by simp [aw],by simp [bj]⟩
 | t :: ts,_,_,_,hm,hv,h,hw=>by
  obtain ⟨v,vs,d,ds,p,q,rfl,rfl,rfl,h1,h2⟩ := trodAll_cons h
  simp only [DataW.weightsEach,List.all_append,Bool.and_eq_true] at hw
  obtain ⟨n,pvs,a1,a2,a3⟩ := absB_val hB hS hinf (hm t (by simp)) (hv 0 t v rfl rfl) h1 hw.1
  obtain ⟨av0,b1,b2,b3⟩ := absB_args hB hS hinf (fun t ht=>hm t (by simp [ht])) (fun j t v ht hv'=>hv (j + 1) t v (by simpa using ht) (by simpa using hv')) h2 hw.2
  refine ⟨gW P t pvs :: av0,⟨n,pvs,av0,rfl,a1,b1⟩,?_,by simp only [bj,List.map_cons,List.sum_cons]; omega⟩
  simp only [aw]
  exact ⟨v,vs,rfl,a2,b2⟩
theorem law_callsB {N : Nat} (hB : IsBulk B) (hl : laidOutB P = true) {f : FuncId} {fn : Func} {s : ChangeSpec} {fresh handsOn again : Bool} {tb : TypeId} (hvars : s.vars = []) (hr : ∀ t ∈ fn.params.toList,P.readableRec t = true ∧ t < P.types.size) (hres : fn.resultTypes = #[tb]) (htb : P.underlying tb = some .bool)
  (hfn : ∀ ds : List (DataW H),ds.length = fn.params.toList.length → s.fn H ds = { results := [.lit (.bool true)],args := ds })
  (hS : S.all (okT P S) = true) (hinf : ∀ t ∈ S,∃ i,P.info? t = some i ∧ i.bytes = P.bytesOf t ∧ i.size = P.cellsOf t) (hm : ∀ t ∈ fn.params.toList,t ∈ S)
  (hspec : ∀ av0,ArgsSh P fn.params.toList av0 → bj av0 ≤ N → aG P f av0 (.val (.bool true)))
  {base : Nat} {args : Array Value} {ds gs : List (DataW H)} {before : List MemPlace} (hval : ∀ (j : Nat) t v,fn.params[j]? = some t → args[j]? = some v → Value.okWide P W .any base t v)
  (hW : DataW.Whole enc P fn.params.toList s.vars false W args.toList ds gs before) (hsz : (DataW.weightsEach P (fn.params.toList ++ s.plain.varTypes P) (ds ++ gs)).all (· ≤ reachBytes) = true) (hN : ((ds ++ gs).map (B H)).sum ≤ N) :
  Calls P f args W fun e W'=>∃ v,e = .returned v ∧ s.post enc P fn false fresh handsOn again W args v W' := by
 have hlt := hW.lt
 have hW' := hW
 obtain ⟨p,q,hA,hV,rfl,hz,hn⟩ := hW
 have hV' := hV
 rw [hvars] at hV
 obtain ⟨rfl,rfl⟩ := trodVars_none hV
 have hvt : s.plain.varTypes P = [] := by simp [DataSpec.varTypes,ChangeSpec.plain,hvars]
 rw [hvt,List.append_nil,List.append_nil] at hsz
 rw [List.append_nil] at hN
 have hlen : ds.length = fn.params.toList.length := oL hA
 obtain ⟨av0,h1,h2,h3⟩ := absB_args hB hS hinf hm (fun j t v ht hv=>hval j t v (by simpa using ht) (by simpa using hv)) hA hsz
 refine (hspec av0 h1 (Nat.le_trans h3 hN) W (iw W) [] args (InvH.start W) h2).mono ?_
 rintro e W' ⟨v,u,H',M',rfl,⟨rfl,rfl⟩,hi,hrep⟩
 simp only [Rep] at hrep
 subst hrep
 have hb := hi.below
 refine ⟨_,rfl,?_⟩
 have hfn' : s.fn H (ds ++ []) = { results := [.lit (.bool true)],args := ds } := by rw [List.append_nil]; exact hfn ds hlen
 have hargs : ∀ sp : Nat → Bool,(∀ x ∈ p ++ [],sp x.block = true) → DataW.TrodAll enc P W' 0 sp true fn.params.toList args.toList ds p := fun sp hsp =>
  ny hl hb hr hA (fun x hx=>hlt x (by simp [hx])) (fun x hx=>hsp x (by simp [hx]))
 have hres' : ∀ (b : Nat) (sp : Nat → Bool) (hd : Bool),DataW.TrodAll enc P W' b sp hd fn.resultTypes.toList ((Value.bool true).resultList fn.resultTypes.size) [.lit (.bool true)] [] := by
  intro b sp hd
  rw [hres]
  refine trodAll_mk1 ⟨1,?_⟩
  show DataW.trod enc P W' b sp hd 1 tb [.bool true] = _
  unfold DataW.trod
  rw [htb]
 have hvs : ∀ sp : Nat → Bool,DataW.TrodVars enc P W' sp s.vars ([] : List (DataW H)) [] := fun sp=>by rw [hvars]; simp [DataW.TrodVars]
 have hold : ∀ x ∈ p ++ [],(fun b=>decide (b < W.heap.size)) x.block = true := fun x hx=>by simpa using hlt x hx
 refine ⟨ds,[],p ++ [],[],p,[],hW',?_,?_,?_,hb.frame _,fun _=>⟨RowKit.ok_one hres rfl (RowKit.okWide_bool_mk htb true),[.lit (.bool true)] ++ ds,[],([] ++ p) ++ [],⟨[] ++ p,[],?_,hvs _,rfl,?_,fun h=>by cases h⟩,?_⟩⟩
 ·rw [hfn']; exact hres' _ _ _
 ·rw [hfn']; exact hargs _ hold
 ·rw [hfn']; exact hvs _
 ·exact trodAll_append (hargs _ fun _ _=>rfl) (hres' _ _ _)
 ·intro b off hx
  have hx' : MemPlace.cell b off ∈ p ++ [] := by simpa using hx
  rw [hb.frozen (hlt _ hx')]
  exact hz b off hx'
 ·intro x hx _
  simpa using hx
end
end
end Go.Ab

namespace Go.Ab
noncomputable section
open Go
theorem joined_of {P : Program} {f : FuncId} {fn : Func} {s : ChangeSpec} {c : OpenClaim}
  (h_wf : (c.wf (OpenSpec.ofChange s)) = true)
  (h_laid : (laidOutB P) = true)
  (h_mapsRowed : (mapsRowed P) = true)
  (h_rr : (fn.params.all (P.readableRec ·)) = true)
  (h_nt : (namedTie P c.named s.vars) = true)
  (h_st : ((c.stops == []) && (P.stops == []) && (c.knobs == []) && (P.stopKnobs == [])) = true)
  (h_inPlace : (c.inPlace == P.inPlace f) = true)
  (h_unf : (c.unfollowed == P.unfollowed f) = true)
  (h_rec : (c.recurses == P.recurses f) = true)
  (h_named : (c.named == P.varsNamed f) = true)
  (h_maps : ((c.maps == (fn.params.toList ++ s.plain.varTypes P).any (P.mapsRec ·)) && (c.ifaces == (fn.params.toList ++ s.plain.varTypes P).any (P.ifacesRec ·)) && (c.mapsOut == P.mapsAmong fn.resultTypes.toList)) = true)
  (h_loops : ((c.loops == (fn.params.toList ++ s.plain.varTypes P).any (P.loopsFrom ·))) = true)
  (h_wide : ((c.wideKeys == (fn.params.toList ++ s.plain.varTypes P ++ fn.resultTypes.toList).any (P.wideKeysFrom ·))) = true)
  (h_rest1 : (s.vars.all (P.varReadable ·) && fn.resultTypes.all (fun t=>P.readableRec t && decide (t < P.types.size)) && (c.ifacesOut == fn.resultTypes.toList.any (P.ifacesRec ·)) && (c.loopsOut == fn.resultTypes.toList.any (P.loopsFrom ·))) = true)
  (h_plainKeys : (c.plainKeys == P.plainKeys) = true)
  (h_rest2 : (c.shortTexts.isNone && P.stopsHeard && P.mayEnter && (c.lifted == P.liftsFinal) && (P.make == some c.make)) = true)
  (h_kinds : ((c.kinds == (if c.domain.isEmpty then [] else fn.params.toList.map fun t=>match P.underlying t with | some (.int k)=>some k | _=>none)) && (c.pinned == c.pinnedBy)) = true)
  (h_veil : ((c.veiled == (fn.params.toList ++ s.plain.varTypes P ++ fn.resultTypes.toList).any (P.veiledRec ·)) && c.veiledFits P fn.params.toList (fn.params.toList ++ s.plain.varTypes P ++ fn.resultTypes.toList)) = true)
  : joinedFacts P f fn s c = true := by
 simp only [Bool.and_eq_true] at h_st h_maps h_rest1 h_rest2 h_kinds h_veil
 simp only [joinedFacts,Bool.and_eq_true]
 exact ⟨⟨⟨⟨⟨⟨⟨⟨⟨⟨⟨⟨⟨⟨⟨⟨⟨⟨⟨⟨⟨⟨⟨⟨⟨⟨⟨⟨⟨⟨⟨h_wf,h_laid⟩,h_mapsRowed⟩,h_rr⟩,h_nt⟩,h_st.1.1.1⟩,h_st.1.1.2⟩,h_st.1.2⟩,h_st.2⟩,h_inPlace⟩,h_unf⟩,h_rec⟩,h_named⟩,h_maps.1.1⟩,h_maps.1.2⟩,h_maps.2⟩,h_loops⟩,h_wide⟩,h_rest1.1.1.1⟩,h_rest1.1.1.2⟩,h_rest1.1.2⟩,h_rest1.2⟩,h_plainKeys⟩,h_rest2.1.1.1.1⟩,h_rest2.1.1.1.2⟩,h_rest2.1.1.2⟩,h_rest2.1.2⟩,h_rest2.2⟩,h_kinds.1⟩,h_kinds.2⟩,h_veil.1⟩,h_veil.2⟩
end
end Go.Ab

namespace Go.Ab
noncomputable section
section
variable {P : Program} {ops : Array Oper} {rest : List Oper} {o : Oper} {n : Nat} {s s' : Nat → PV} {bx : Nat → Option Box} {ob : Nat → Option Obj} {K : PState → Prop} {T : TT}
abbrev iT (xs : List UInt8) : List (List PV) := xs.map fun c=>[.val (.int .u8 c.toNat)]
end
end
end Go.Ab

namespace Go.Ab
noncomputable section
def af {α β : Type} (o : Option α) (k : α → Option β) : Option β := match o with
 | some a=>k a
 | none=>none
def ba {α β : Type} (a : α) (k : α → β) : β := k a
inductive Flow (σ ρ : Type) where
 | next (s : σ)
 | brk (s : σ)
 | ret (r : ρ)
def Flow.thenR {σ ρ : Type} (fl : Flow σ ρ) (k : σ → Option ρ) : Option ρ := match fl with
 | .next s=>k s
 | .brk s=>k s
 | .ret r=>some r
def Flow.thenF {σ τ ρ : Type} (fl : Flow σ ρ) (k : σ → Option (Flow τ ρ)) : Option (Flow τ ρ) := match fl with
 | .next s=>k s
 | .brk s=>k s
 | .ret r=>some (.ret r)
def aE {α σ ρ : Type} (step : Nat → α → σ → Option (Flow σ ρ)) : Nat → List α → σ → Option (Flow σ ρ)
 | _,[],s=>some (.next s)
 | j,x :: xs,s=>match step j x s with
  | none=>none
  | some (.next s')=>aE step (j + 1) xs s'
  | some (.brk s')=>some (.next s')
  | some (.ret r)=>some (.ret r)
def gI {σ ρ : Type} (step : σ → Option (Flow σ ρ)) : Nat → σ → Option (Flow σ ρ)
 | 0,_=>none
 | n + 1,s=>match step s with
  | none=>none
  | some (.next s')=>gI step n s'
  | some (.brk s')=>some (.next s')
  | some (.ret r)=>some (.ret r)
open Classical in
def ef {σ ρ : Type} (step : σ → Option (Flow σ ρ)) (s : σ) : Option (Flow σ ρ) :=
 if h : ∃ r,∃ n,gI step n s = some r then some h.choose else none
theorem iterM_le {σ ρ : Type} {step : σ → Option (Flow σ ρ)} : ∀ {n m : Nat} {s : σ} {r : Flow σ ρ},gI step n s = some r → n ≤ m → gI step m s = some r
 | 0,_,_,_,h,_=>by simp [gI] at h
 | n + 1,0,_,_,_,hm=>by omega
 | n + 1,m + 1,s,r,h,hm=>by
  simp only [gI] at h ⊢
  split at h
  ·cases h
  ·exact iterM_le h (by omega)
  ·exact h
  ·exact h
theorem whileM_iff {σ ρ : Type} {step : σ → Option (Flow σ ρ)} {s : σ} {r : Flow σ ρ} : ef step s = some r ↔ ∃ n,gI step n s = some r := by
 unfold ef
 constructor
 ·intro h
  split at h
  ·rename_i hx
   obtain ⟨n,hn⟩ := hx.choose_spec
   exact ⟨n,by rw [hn]; exact h⟩
  ·cases h
 ·rintro ⟨n,hn⟩
  have hx : ∃ r,∃ n,gI step n s = some r := ⟨r,n,hn⟩
  rw [dif_pos hx]
  obtain ⟨m,hm⟩ := hx.choose_spec
  have h1 := iterM_le hn (Nat.le_max_left n m)
  have h2 := iterM_le hm (Nat.le_max_right n m)
  rw [h1] at h2
  exact h2.symm
theorem jk {σ ρ : Type} {step : σ → Option (Flow σ ρ)} {s : σ} {fl r : Flow σ ρ} (h : step s = some fl) (hr : match fl with | .next s'=>ef step s' = some r | .brk s'=>r = .next s' | .ret x=>r = .ret x) : ef step s = some r := by
 rw [whileM_iff]
 cases fl with
 | next s' =>
  obtain ⟨n,hn⟩ := whileM_iff.1 hr
  exact ⟨n + 1,by simp only [gI,h,hn]⟩
 | brk s'=>exact ⟨1,by simp only [gI,h,hr]⟩
 | ret x=>exact ⟨1,by simp only [gI,h,hr]⟩
theorem aj {α β : Type} {o : Option α} {k : α → Option β} {r : β} (h : af o k = some r) : ∃ a,o = some a ∧ k a = some r := by
 cases o with
 | none=>cases h
 | some a=>exact ⟨a,rfl,h⟩
theorem bA {α β : Type} {a : α} {k : α → β} {r : β} (h : ba a k = r) : ∃ x,a = x ∧ k x = r := ⟨a,rfl,h⟩
theorem condT {α : Type} {c : Bool} {A B r : α} (h : c = true) (H : cond c A B = r) : A = r := by subst h; exact H
theorem condF {α : Type} {c : Bool} {A B r : α} (h : c = false) (H : cond c A B = r) : B = r := by subst h; exact H
theorem nS {σ τ ρ : Type} {r : ρ} {k : σ → Option (Flow τ ρ)} {x : Flow τ ρ} (h : Flow.thenF (.ret r) k = some x) : x = .ret r := (Option.some.inj h).symm
theorem aL {σ ρ : Type} {r x : ρ} {k : σ → Option ρ} (h : Flow.thenR (.ret r) k = some x) : r = x := Option.some.inj h
theorem ai {α : Type} {a b : α} (h : some a = some b) : a = b := Option.some.inj h
def rangeGo {α σ ρ : Type} (step : Nat → α → σ → Option (Flow σ ρ)) (xs : List α) (j : Nat) (res : Flow σ ρ) : Flow σ ρ → Prop
 | .next s'=>aE step (j + 1) (xs.drop (j + 1)) s' = some res
 | .brk s'=>res = .next s'
 | .ret r=>res = .ret r
theorem rMc {α σ ρ : Type} {step : Nat → α → σ → Option (Flow σ ρ)} {xs : List α} {j : Nat} {s : σ} {res : Flow σ ρ} (hj : j < xs.length) (h : aE step j (xs.drop j) s = some res) :
  ∃ x fl,xs[j]? = some x ∧ step j x s = some fl ∧ rangeGo step xs j res fl := by
 rw [List.drop_eq_getElem_cons hj,aE] at h
 refine ⟨xs[j],?_⟩
 split at h
 ·cases h
 ·rename_i s' hs; exact ⟨_,List.getElem?_eq_getElem hj,hs,h⟩
 ·rename_i s' hs; exact ⟨_,List.getElem?_eq_getElem hj,hs,(Option.some.inj h).symm⟩
 ·rename_i s' hs; exact ⟨_,List.getElem?_eq_getElem hj,hs,(Option.some.inj h).symm⟩
theorem rMd {α σ ρ : Type} {step : Nat → α → σ → Option (Flow σ ρ)} {xs : List α} {j : Nat} {s : σ} {res : Flow σ ρ} (hj : xs.length ≤ j) (h : aE step j (xs.drop j) s = some res) : res = .next s := by
 rw [List.drop_eq_nil_of_le hj,aE] at h
 exact (Option.some.inj h).symm
def iterGo {σ ρ : Type} (step : σ → Option (Flow σ ρ)) (n : Nat) (res : Flow σ ρ) : Flow σ ρ → Prop
 | .next s'=>gI step n s' = some res
 | .brk s'=>res = .next s'
 | .ret r=>res = .ret r
theorem dV {σ ρ : Type} {step : σ → Option (Flow σ ρ)} {n : Nat} {s : σ} {res : Flow σ ρ} (h : gI step (n + 1) s = some res) : ∃ fl,step s = some fl ∧ iterGo step n res fl := by
 rw [gI] at h
 split at h
 ·cases h
 ·rename_i s' hs; exact ⟨_,hs,h⟩
 ·rename_i s' hs; exact ⟨_,hs,(Option.some.inj h).symm⟩
 ·rename_i s' hs; exact ⟨_,hs,(Option.some.inj h).symm⟩
section
variable {P : Program} {fn : Func} {R : PV → Heap → Prop} {k : List KI} {n : Nat} {s : Nat → PV} {bx : Nat → Option Box} {ob : Nat → Option Obj} {T : TT} {st : PState}
theorem V.cut {τ γ : Type} (J : τ → γ → PState) (Gd : τ → Prop) {c : Code} (h : V P fn R (.code c :: .stop (fun st'=>∃ t g,Gd t ∧ st' = J t g) :: k) st) (hk : ∀ t g,Gd t → V P fn R k (J t g)) :
  V P fn R (.code c :: k) st := by
 intro C M a w hi
 have := h C M a w hi
 simp only [after] at this ⊢
 refine wp_mono this ?_
 intro e a w he
 cases e with
 | normal =>
  obtain ⟨st',M',⟨t,g,hG,rfl⟩,hi'⟩ := he
  exact hk t g hG C M' a w hi'
 | _=>exact he
theorem V.at {τ γ : Type} {J : τ → γ → PState} {Gd : τ → Prop} (t : τ) (g : γ) (hG : Gd t) (h : Gh P st (J t g)) : V P fn R (.stop (fun st'=>∃ t g,Gd t ∧ st' = J t g) :: k) st :=
 V.gh h (V.stop ⟨t,g,hG,rfl⟩)
theorem V.aP {α σ ρ γ : Type} {step : Nat → α → σ → Option (Flow σ ρ)} {xs : List α} {res : Flow σ ρ} (F : Nat → σ → γ → PState) {s₀ : σ} (g₀ : γ) {c : Code}
  (hres : aE step 0 xs s₀ = some res) (h₀ : Gh P st (F 0 s₀ g₀))
  (round : ∀ j s g,j ≤ xs.length → aE step j (xs.drop j) s = some res →
   V P fn R (.code c :: .stop (fun st'=>∃ s' g',(j + 1 ≤ xs.length ∧ aE step (j + 1) (xs.drop (j + 1)) s' = some res) ∧ st' = F (j + 1) s' g') :: k) (F j s g)) :
  V P fn R (.code (.loop c) :: k) st := by
 refine V.ij (X := Nat × σ × γ) (fun X=>F X.1 X.2.1 X.2.2) (fun X=>X.1 ≤ xs.length ∧ aE step X.1 (xs.drop X.1) X.2.1 = some res) (fun X=>xs.length - X.1) (0,s₀,g₀) ⟨Nat.zero_le _,by simpa using hres⟩ h₀ ?_
 rintro ⟨j,s,g⟩ ⟨h1,h2⟩
 have := round j s g h1 h2
 intro C M a w hi
 have h3 := this C M a w hi
 simp only [after] at h3 ⊢
 refine wp_mono h3 ?_
 intro e a w he
 cases e with
 | normal =>
  obtain ⟨st',M',⟨s',g',⟨h4,h5⟩,rfl⟩,hi'⟩ := he
  exact ⟨_,M',⟨(j + 1,s',g'),by show xs.length - (j + 1) < xs.length - j; omega,⟨h4,h5⟩,rfl⟩,hi'⟩
 | _=>exact he
theorem V.ax {σ γ : Type} {Q : σ → Prop} {F : σ → γ → PState} (s' : σ) (g' : γ) (hQ : Q s') (h : Gh P st (F s' g')) : V P fn R (.stop (fun st'=>∃ s' g',Q s' ∧ st' = F s' g') :: k) st :=
 V.gh h (V.stop ⟨s',g',hQ,rfl⟩)
theorem V.fe {σ ρ γ : Type} {step : σ → Option (Flow σ ρ)} {res : Flow σ ρ} (F : σ → γ → PState) {s₀ : σ} (g₀ : γ) {c : Code}
  (hres : ef step s₀ = some res) (h₀ : Gh P st (F s₀ g₀))
  (round : ∀ m s g,gI step (m + 1) s = some res → V P fn R (.code c :: .stop (fun st'=>∃ s' g',gI step m s' = some res ∧ st' = F s' g') :: k) (F s g)) :
  V P fn R (.code (.loop c) :: k) st := by
 obtain ⟨m,hm⟩ := whileM_iff.1 hres
 refine V.ij (X := Nat × σ × γ) (fun X=>F X.2.1 X.2.2) (fun X=>gI step X.1 X.2.1 = some res) (fun X=>X.1) (m,s₀,g₀) hm h₀ ?_
 rintro ⟨j,s,g⟩ h2
 cases j with
 | zero=>simp [gI] at h2
 | succ j =>
 have := round j s g h2
 intro C M a w hi
 have h3 := this C M a w hi
 simp only [after] at h3 ⊢
 refine wp_mono h3 ?_
 intro e a w he
 cases e with
 | normal =>
  obtain ⟨st',M',⟨s',g',h5,rfl⟩,hi'⟩ := he
  exact ⟨_,M',⟨(j,s',g'),Nat.lt_succ_self j,h5,rfl⟩,hi'⟩
 | _=>exact he
theorem Gh.cast (d : Nat) {p q : PV} (hs : s d = p) (h : PLe P p q) : Gh P ⟨n,s,bx,ob⟩ ⟨n,upd s d q,bx,ob⟩ := fun _ M _ _ hi =>
 ⟨M,⟨hi.1.1,hi.1.2.1,fun t=>by
  show Rep P M true (upd s d q t) _
  rw [dy]
  split
  ·rename_i e; subst e; have := hi.1.2.2 t; exact h M _ (hs ▸ this)
  ·exact hi.1.2.2 t⟩,hi.2⟩
end
section
variable {α : Type} {f f' : α → List PV}
theorem aY (hE : ∀ x,f' x = f x) {xs : List α} {j : Nat} {x : α} (h : xs[j]? = some x) : (xs.map f')[((j : Nat) : Int).toNat]? = some (f x) := by
 simp [h,hE]
theorem aH (hE : ∀ x,f' x = f x) {xs : List α} {i : Int} {x : α} (h : xs[i.toNat]? = some x) : (xs.map f')[i.toNat]? = some (f x) := by
 simp [h,hE]
theorem om (hE : ∀ x,f' x = f x) (xs : List α) : xs.map f = xs.map f' := by
 apply List.map_congr_left
 intro x _
 exact (hE x).symm
theorem lP {xs ys : List α} {a b : Nat} (h : ys = (xs.take b).drop a) : ((xs.map f).take b).drop a = ys.map f := by rw [h]; simp
theorem bn {xs : List α} {j : Nat} (h : decide ((j : Int) < ((xs.length : Nat) : Int)) = true) : j < xs.length := by simpa using h
theorem bm {xs : List α} {j : Nat} (h : decide ((j : Int) < ((xs.length : Nat) : Int)) = false) : xs.length ≤ j := by simpa using h
end
theorem fj.of_eq {P : Program} {a b : List (List PV)} (h : a = b) : fj P a b := h ▸ fj.refl a
theorem fj.trans {P : Program} {a b c : List (List PV)} (h : fj P a b) (h' : fj P b c) : fj P a c := ⟨h.1.trans h'.1,fun M k x o hx=>h'.2 M k x o (h.2 M k x o hx)⟩
def aC {α : Type} (xs : List α) (i : Int) : Option α := if 0 ≤ i then xs[i.toNat]? else none
theorem gIs {α : Type} {xs : List α} {i : Int} {x : α} (h : aC xs i = some x) : 0 ≤ i ∧ xs[i.toNat]? = some x := by
 unfold aC at h
 split at h
 ·rename_i h0; exact ⟨h0,h⟩
 ·cases h
def kv {α : Type} (xs : List α) (a b : Int) : Option (List α) := if 0 ≤ a ∧ a ≤ b ∧ b ≤ xs.length then some ((xs.take b.toNat).drop a.toNat) else none
theorem kF {α : Type} {xs ys : List α} {a b : Int} (h : kv xs a b = some ys) : (0 ≤ a ∧ a ≤ b ∧ b ≤ xs.length) ∧ ys = (xs.take b.toNat).drop a.toNat := by
 unfold kv at h
 split at h
 ·rename_i h0; exact ⟨h0,(Option.some.inj h).symm⟩
 ·cases h
def cI {α : Type} (bytes : Nat) (xs ys : List α) : Option (List α) := if (xs.length + ys.length) * bytes ≤ 2 ^ 47 ∧ xs.length + ys.length ≤ maxLen then some (xs ++ ys) else none
theorem cf {α : Type} {bytes : Nat} {xs ys zs : List α} (h : cI bytes xs ys = some zs) : (xs.length + ys.length) * bytes ≤ 2 ^ 47 ∧ xs.length + ys.length ≤ maxLen ∧ zs = xs ++ ys := by
 unfold cI at h
 split at h
 ·rename_i h0; exact ⟨h0.1,h0.2,(Option.some.inj h).symm⟩
 ·cases h
theorem dp {α β : Type} {f : α → β} {bytes : Nat} {xs ys : List α} (h : (xs.length + ys.length) * bytes ≤ 2 ^ 47) : ((xs.map f).length + (ys.map f).length) * bytes ≤ 2 ^ 47 := by simpa using h
theorem dv {α β : Type} {f : α → β} {xs ys : List α} (h : xs.length + ys.length ≤ maxLen) : (xs.map f).length + (ys.map f).length ≤ maxLen := by simpa using h
theorem du {α β : Type} {f : α → β} {xs ys zs : List α} (h : zs = xs ++ ys) : xs.map f ++ ys.map f = zs.map f := by rw [h,List.map_append]
def Flow.thenP {σ β : Type} (fl : Flow σ Empty) (k : σ → Option β) : Option β := match fl with
 | .next s=>k s
 | .brk s=>k s
 | .ret r=>r.elim
theorem aW {σ β : Type} {fl : Flow σ Empty} {t : σ} {k : σ → Option β} {r : β} (h : fl = .next t) (H : fl.thenP k = some r) : k t = some r := by subst h; exact H
theorem br {σ ρ : Type} {fl : Flow σ ρ} {t : σ} {k : σ → Option ρ} {r : ρ} (h : fl = .next t) (H : fl.thenR k = some r) : k t = some r := by subst h; exact H
theorem thenF_next {σ τ ρ : Type} {fl : Flow σ ρ} {t : σ} {k : σ → Option (Flow τ ρ)} {r : Flow τ ρ} (h : fl = .next t) (H : fl.thenF k = some r) : k t = some r := by subst h; exact H
def lz (n : Int) : Option Nat := if n ≤ 2 ^ 62 then some n.toNat else none
theorem mu {n : Int} {m : Nat} (h : lz n = some m) : n ≤ 2 ^ 62 ∧ m = n.toNat := by
 unfold lz at h
 split at h
 ·rename_i h0; exact ⟨h0,(Option.some.inj h).symm⟩
 ·cases h
section
variable {P : Program} {ops : Array Oper} {rest : List Oper} {o : Oper} {n : Nat} {s s' : Nat → PV} {bx : Nat → Option Box} {ob : Nat → Option Obj} {K : PState → Prop} {T : TT} {rb : RB} {k : Nat} {L : List Nat}
theorem Ao.cast (d : Nat) {p q : PV} (hs : s d = p) (h : PLe P p q) (hV : Ao P ops rest ⟨n,upd s d q,bx,ob⟩ K) : Ao P ops rest ⟨n,s,bx,ob⟩ K := Ao.gh (Gh.cast d hs h) hV
theorem Ao.ay (hT : T.Ok P) (hg : aM ops s o = some true) {x : Operand} {t : TypeId} {ts : List TypeId} (ho : o.op = .call { callee := .builtin .len,args := #[x],argTypes := (t :: ts).toArray }) {ti : TInfo} {e' : TypeId} (hti : T.get t = some ti) (hd : ti.desc = .slice e')
  {e : TypeId} {rows : List (List PV)} (hx : evS s x = .list e rows) {m : Nat} (hm : rows.length = m) (hp : putD n s o.dst (.val (.int .i64 m)) = some s') (h : Ao P ops rest ⟨n,s',bx,ob⟩ K) : Ao P ops (o :: rest) ⟨n,s,bx,ob⟩ K := by
 refine Ao.det hT hg (r := .val (.int .i64 m)) ?_ hp h
 rw [ho]
 simp [fU,lI,hti,hd,hx,lenPV,hm]
theorem Ao.lenO (hT : T.Ok P) (hg : aM ops s o = some true) {x : Operand} {t : TypeId} {ts : List TypeId} (ho : o.op = .call { callee := .builtin .len,args := #[x],argTypes := (t :: ts).toArray }) {ti : TInfo} {e' : TypeId} (hti : T.get t = some ti) (hd : ti.desc = .slice e')
  {tg l : Nat} {g : OwnRef} (hx : evS s x = .own tg g l) {m : Nat} (hm : l = m) (hp : putD n s o.dst (.val (.int .i64 m)) = some s') (h : Ao P ops rest ⟨n,s',bx,ob⟩ K) : Ao P ops (o :: rest) ⟨n,s,bx,ob⟩ K := by
 refine Ao.det hT hg (r := .val (.int .i64 m)) ?_ hp h
 rw [ho]
 simp [fU,lI,hti,hd,hx,lenPV,hm]
theorem Do.lenL (ho : ops[k]? = some o) (hg : aM ops s o = some true) {x : Operand} {t : TypeId} {ts : List TypeId} (hop : o.op = .call { callee := .builtin .len,args := #[x],argTypes := (t :: ts).toArray }) {ti : TInfo} {e' : TypeId} (hti : T.get t = some ti) (hd : ti.desc = .slice e')
  {e : TypeId} {rows : List (List PV)} (hx : evS s x = .list e rows) {m : Nat} (hm : rows.length = m) (hp : putD n s o.dst (.val (.int .i64 m)) = some s') (h : Do P T rb ops L ⟨n,s',bx,ob⟩ K) : Do P T rb ops (k :: L) ⟨n,s,bx,ob⟩ K := by
 refine Do.by ho hg (by rw [hop]; rfl) (r := .val (.int .i64 m)) ?_ hp h
 rw [hop]
 simp [fH,fU,lI,hti,hd,hx,lenPV,hm]
theorem Ao.subL (hT : T.Ok P) (hg : aM ops s o = some true) {t : TypeId} {x : Operand} {lo hi : Option Operand} (ho : o.op = .slice t x lo hi none) {ti : TInfo} {e : TypeId} (hti : T.get t = some ti) (hd : ti.desc = .slice e)
  {rows : List (List PV)} (hx : evS s x = .list e rows) {m : Nat} (hm : rows.length = m) {a b : Int} (ha : iJ (lo.map (evS s)) 0 = some a) (hb : iJ (hi.map (evS s)) m = some b) (hab : 0 ≤ a ∧ a ≤ b ∧ b ≤ m)
  {rows' : List (List PV)} (hr : (rows.take b.toNat).drop a.toNat = rows') (hp : putD n s o.dst (.list e rows') = some s') (h : Ao P ops rest ⟨n,s',bx,ob⟩ K) : Ao P ops (o :: rest) ⟨n,s,bx,ob⟩ K := by
 subst hm
 refine Ao.det hT hg (r := .list e rows') ?_ hp h
 rw [ho]
 simp only [fU,hti,hd,hx,mM,Nat.beq_refl,cond_true,ha,hb]
 rw [if_pos hab,hr]
theorem Do.subL (ho : ops[k]? = some o) (hg : aM ops s o = some true) {t : TypeId} {x : Operand} {lo hi : Option Operand} (hop : o.op = .slice t x lo hi none) {ti : TInfo} {e : TypeId} (hti : T.get t = some ti) (hd : ti.desc = .slice e)
  {rows : List (List PV)} (hx : evS s x = .list e rows) {m : Nat} (hm : rows.length = m) {a b : Int} (ha : iJ (lo.map (evS s)) 0 = some a) (hb : iJ (hi.map (evS s)) m = some b) (hab : 0 ≤ a ∧ a ≤ b ∧ b ≤ m)
  {rows' : List (List PV)} (hr : (rows.take b.toNat).drop a.toNat = rows') (hp : putD n s o.dst (.list e rows') = some s') (h : Do P T rb ops L ⟨n,s',bx,ob⟩ K) : Do P T rb ops (k :: L) ⟨n,s,bx,ob⟩ K := by
 subst hm
 refine Do.by ho hg (by rw [hop]; rfl) (r := .list e rows') ?_ hp h
 rw [hop]
 simp only [fH,fU,hti,hd,hx,mM,Nat.beq_refl,cond_true,ha,hb]
 rw [if_pos hab,hr]
theorem Rep.rowsLe {M : Mem} {b : Bool} {e : TypeId} {rows rows' : List (List PV)} (h : fj P rows rows') {x : Value} (hx : Rep P M b (.list e rows) x) : Rep P M b (.list e rows') x := kW.list h M b x hx
theorem oF (hT : T.Ok P) {o : Oper} {ev : Operand → PV} {H : Heap} {x y : Operand} {t : TypeId} (ho : o.op = .call { callee := .builtin .append,args := #[x,y],argTypes := #[t,t] }) {ti ei : TInfo} {e : TypeId} (hti : T.get t = some ti) (hd : ti.desc = .slice e) (hei : T.get e = some ei)
  (hz : Nat.beq ei.zero.cells.size ei.size = true) (hsz : Nat.blt 0 ei.size = true) {tag : Nat} {g : OwnRef} {len : Nat} {rows rows2 rows2' rows' : List (List PV)} {wr : Bool} (hx : ev x = .own tag g len) (hob : H.ob tag = some ⟨g,e,rows,wr⟩) (hlen : len = rows.length) (hy : ev y = .list e rows2)
  (hle : fj P rows2 rows2') (hby : (rows.length + rows2'.length) * ei.bytes ≤ 2 ^ 47) (hmx : rows.length + rows2'.length ≤ maxLen) (heq : rows ++ rows2' = rows') {K : PV → Heap → Prop} (hk : ∀ g',K (.own tag g' rows'.length) ⟨H.bx,upd H.ob tag (some ⟨g',e,rows',wr⟩)⟩) : Eff P o ev H K := by
 subst heq
 classical
 have hxy : x ≠ y := fun e=>by subst e; rw [hx] at hy; cases hy
 intro C M a w next Q hi he hn
 have key := oN (P := P) (o := o) (ev := fun z=>if z = y then PV.list e rows2' else ev z) (H := H) hT ho hti hd hei hz hsz (rows2 := rows2') (by simp [hxy,hx]) hob hlen (by simp) hby hmx (K := K) hk
 refine key C M a w next Q hi (fun z hz=>?_) hn
 by_cases hzy : z = y
 ·subst hzy
  simp only [if_true]
  have := he z hz
  rw [hy] at this
  exact Rep.rowsLe hle this
 ·simp only [hzy,if_false]
  exact he z hz
theorem Ao.co (hT : T.Ok P) (hg : aM ops s o = some true) {x y : Operand} {t : TypeId} (ho : o.op = .call { callee := .builtin .append,args := #[x,y],argTypes := #[t,t] }) {d : Nat} (hdst : o.dst = some d) (hlt : Nat.blt d n = true) {ti ei : TInfo} {e : TypeId} (hti : T.get t = some ti) (hd : ti.desc = .slice e) (hei : T.get e = some ei)
  (hz : Nat.beq ei.zero.cells.size ei.size = true) (hsz : Nat.blt 0 ei.size = true) {tag : Nat} {g : OwnRef} {len : Nat} {rows rows2 rows2' rows' : List (List PV)} {wr : Bool} (hx : evS s x = .own tag g len) (hob : ob tag = some ⟨g,e,rows,wr⟩) (hlen : len = rows.length) (hy : evS s y = .list e rows2)
  (hle : fj P rows2 rows2') (hby : (rows.length + rows2'.length) * ei.bytes ≤ 2 ^ 47) (hmx : rows.length + rows2'.length ≤ maxLen) (heq : rows ++ rows2' = rows') (h : ∀ g',Ao P ops rest ⟨n,upd s d (.own tag g' rows'.length),bx,upd ob tag (some ⟨g',e,rows',wr⟩)⟩ K) : Ao P ops (o :: rest) ⟨n,s,bx,ob⟩ K :=
 Ao.eff hg (oF hT ho hti hd hei hz hsz hx hob hlen hy hle hby hmx heq fun g'=>⟨_,by simp [hdst,putD,hlt],h g'⟩)
theorem Do.jM (hT : T.Ok P) (ho : ops[k]? = some o) (hg : aM ops s o = some true) {x y : Operand} {t : TypeId} (hop : o.op = .call { callee := .builtin .append,args := #[x,y],argTypes := #[t,t] }) {d : Nat} (hdst : o.dst = some d) (hlt : Nat.blt d n = true) {ti ei : TInfo} {e : TypeId} (hti : T.get t = some ti) (hd : ti.desc = .slice e) (hei : T.get e = some ei)
  (hz : Nat.beq ei.zero.cells.size ei.size = true) (hsz : Nat.blt 0 ei.size = true) {tag : Nat} {g : OwnRef} {len : Nat} {rows rows2 rows2' rows' : List (List PV)} {wr : Bool} (hx : evS s x = .own tag g len) (hob : ob tag = some ⟨g,e,rows,wr⟩) (hlen : len = rows.length) (hy : evS s y = .list e rows2)
  (hle : fj P rows2 rows2') (hby : (rows.length + rows2'.length) * ei.bytes ≤ 2 ^ 47) (hmx : rows.length + rows2'.length ≤ maxLen) (heq : rows ++ rows2' = rows') (h : ∀ g',Do P T rb ops L ⟨n,upd s d (.own tag g' rows'.length),bx,upd ob tag (some ⟨g',e,rows',wr⟩)⟩ K) : Do P T rb ops (k :: L) ⟨n,s,bx,ob⟩ K := by
 refine ⟨o,ho,true,hg,?_⟩
 simp only [if_true,hop,de]
 exact fun bx'=>oF hT hop hti hd hei hz hsz hx hob hlen hy hle hby hmx heq fun g'=>⟨rfl,_,by simp [hdst,putD,hlt],h g'⟩
theorem Ao.bsC (hT : T.Ok P) (hg : aM ops s o = some true) {t e : TypeId} {m : Nat} {ps : Array (Nat × Operand)} (ho : o.op = .buildSlice t m ps) {ti : TInfo} (hti : T.get t = some ti) (hd : ti.desc = .slice e) {rows rows' : List (List PV)}
  (hr : iM T e m (fq (evS s) ps) = some rows) (hle : fj P rows rows') {d : Nat} (hdst : o.dst = some d) (hlt : Nat.blt d n = true) (h : Ao P ops rest ⟨n,upd s d (.list e rows'),bx,ob⟩ K) : Ao P ops (o :: rest) ⟨n,s,bx,ob⟩ K := by
 refine Ao.bsF hT hg ho hti hd hr (s' := upd s d (.list e rows)) (by simp [hdst,putD,hlt]) (Ao.cast d (ep _ _ _) (PLe.of2 (kW.list hle)) ?_)
 have : upd (upd s d (PV.list e rows)) d (.list e rows') = upd s d (.list e rows') := by
  funext t
  simp only [dy]
  split <;> rfl
 rw [this]
 exact h
end
section
variable {P : Program} {fn : Func} {R : PV → Heap → Prop} {ks : List KI} {n : Nat} {s : Nat → PV} {bx : Nat → Option Box} {ob : Nat → Option Obj} {T : TT}
end
end
end Go.Ab

namespace Go.Ab
noncomputable section
section
variable {P : Program} {C : Ctx} {M : Mem} {H : Heap} {w : World}
theorem InvH.reobj (h : InvH P C M H w) {tag : Nat} {g : OwnRef} {e : TypeId} {rows rows' : List (List PV)} {wr : Bool} (hx : H.ob tag = some ⟨g,e,rows,wr⟩) (hl : rows'.map List.length = rows.map List.length) (hle : fQ P rows.flatten rows'.flatten) :
  InvH P C M ⟨H.bx,upd H.ob tag (some ⟨g,e,rows',wr⟩)⟩ w := by
 have hlen : rows'.length = rows.length := by simpa using congrArg List.length hl
 have key : ∀ t y,upd H.ob tag (some ⟨g,e,rows',wr⟩) t = some y → (t = tag ∧ y = ⟨g,e,rows',wr⟩) ∨ H.ob t = some y := by
  intro t y hy
  rw [dy] at hy
  split at hy
  ·rename_i e; exact .inl ⟨e,(Option.some.inj hy).symm⟩
  ·exact .inr hy
 have same : ∀ t y,upd H.ob tag (some ⟨g,e,rows',wr⟩) t = some y → ∃ z,H.ob t = some z ∧ z.g = y.g := by
  intro t y hy
  rcases key t y hy with ⟨rfl,rfl⟩ | hy
  ·exact ⟨_,hx,rfl⟩
  ·exact ⟨y,hy,rfl⟩
 refine ⟨h.mem,h.ext,h.new,h.os,h.tape,h.output,h.size,h.frame,h.boxes,?_,h.dbox,?_,?_⟩
 ·intro t y hy
  rcases key t y hy with ⟨rfl,rfl⟩ | hy
  ·obtain ⟨i,h1,h2,h3,h4⟩ := h.objs _ _ hx
   simp only at h1 h2 h3 h4
   refine ⟨i,h1,?_,?_,?_⟩
   ·simpa only [hlen] using h2
   ·intro r hr
    have : r.length ∈ rows'.map List.length := List.mem_map.2 ⟨r,hr,rfl⟩
    rw [hl] at this
    obtain ⟨q,hq,e1⟩ := List.mem_map.1 this
    rw [← e1]
    exact h3 q hq
   ·rcases h4 with ⟨a,b,c⟩ | ⟨b,cur,h5,h6,h7,h8,h9,h10,h11,h12,h13,h14⟩
    ·refine .inl ⟨a,?_,c⟩
     rw [b] at hlen
     exact List.length_eq_zero_iff.1 hlen
    ·refine .inr ⟨b,cur,h5,h6,h7,h8,?_,h10,?_,?_,h13,?_⟩
     ·simpa only [hlen] using h9
     ·simp only [hlen]; exact hle M false _ h11
     ·simpa only [hlen] using h12
     ·simpa only [hlen] using h14
  ·exact h.objs t y hy
 ·intro t t' y y' b hy hy' hb hb'
  obtain ⟨z,hz,e1⟩ := same t y hy
  obtain ⟨z',hz',e1'⟩ := same t' y' hy'
  exact h.dobj t t' z z' b hz hz' (e1 ▸ hb) (e1' ▸ hb')
 ·intro t t' y y' hy hy' hb
  obtain ⟨z',hz',e1'⟩ := same t' y' hy'
  exact h.dmix t t' y z' hy hz' (e1' ▸ hb)
theorem InvH.cutO (h : InvH P C M H w) {tag : Nat} {g : OwnRef} {e : TypeId} {rows : List (List PV)} (hx : H.ob tag = some ⟨g,e,rows,true⟩) (k : Nat) :
  InvH P C M ⟨H.bx,upd H.ob tag (some ⟨g,e,rows.take k,true⟩)⟩ w := by
 have key : ∀ t y,upd H.ob tag (some ⟨g,e,rows.take k,true⟩) t = some y → (t = tag ∧ y = ⟨g,e,rows.take k,true⟩) ∨ H.ob t = some y := by
  intro t y hy
  rw [dy] at hy
  split at hy
  ·rename_i e; exact .inl ⟨e,(Option.some.inj hy).symm⟩
  ·exact .inr hy
 have same : ∀ t y,upd H.ob tag (some ⟨g,e,rows.take k,true⟩) t = some y → ∃ z,H.ob t = some z ∧ z.g = y.g := by
  intro t y hy
  rcases key t y hy with ⟨rfl,rfl⟩ | hy
  ·exact ⟨_,hx,rfl⟩
  ·exact ⟨y,hy,rfl⟩
 refine ⟨h.mem,h.ext,h.new,h.os,h.tape,h.output,h.size,h.frame,h.boxes,?_,h.dbox,?_,?_⟩
 ·intro t y hy
  rcases key t y hy with ⟨rfl,rfl⟩ | hy
  ·obtain ⟨i,h1,h2,h3,h4⟩ := h.objs _ _ hx
   simp only at h1 h2 h3 h4
   have hle : (rows.take k).length ≤ rows.length := by simp; omega
   refine ⟨i,h1,Nat.le_trans (Nat.mul_le_mul_right _ hle) h2,fun r hr=>h3 r (List.mem_of_mem_take hr),?_⟩
   rcases h4 with ⟨a,b,c⟩ | ⟨b,cur,h5,h6,h7,h8,h9,h10,h11,h12,h13,h14⟩
   ·exact .inl ⟨a,by simp [b],c⟩
   ·refine .inr ⟨b,cur,h5,h6,h7,h8,Nat.le_trans hle h9,h10,?_,?_,fun _=>h13 trivial,?_⟩
    ·have hflat : (rows.take k).flatten = rows.flatten.take ((rows.take k).length * i.size) := by
      have aux : ∀ (l : List (List PV)) (m : Nat),(∀ r ∈ l,r.length = i.size) → (l.take m).flatten = l.flatten.take ((l.take m).length * i.size) := by
       intro l
       induction l with
       | nil=>intro m _; simp
       | cons r l ih =>
        intro m hr
        cases m with
        | zero=>simp
        | succ m =>
         have h1 := hr r (by simp)
         have := ih m fun r hr'=>hr r (by simp [hr'])
         simp only [List.take_succ_cons,List.flatten_cons,List.length_cons]
         have e1 : ((l.take m).length + 1) * i.size = r.length + (l.take m).length * i.size := by rw [Nat.add_mul,h1]; omega
         rw [e1,List.take_length_add_append,this]
      exact aux rows k h3
     rw [hflat]
     have := h11.take ((rows.take k).length * i.size)
     rw [List.take_take,Nat.min_eq_left (Nat.mul_le_mul_right _ hle)] at this
     exact this
    ·intro v hv
     refine h12 v ?_
     have e1 : cur.toList.take ((rows.take k).length * i.size) = (cur.toList.take (rows.length * i.size)).take ((rows.take k).length * i.size) := by
      rw [List.take_take,Nat.min_eq_left (Nat.mul_le_mul_right _ hle)]
     rw [e1] at hv
     exact List.mem_of_mem_take hv
    ·intro o _
     exact h13 trivial o
  ·exact h.objs t y hy
 ·intro t t' y y' b hy hy' hb hb'
  obtain ⟨z,hz,e1⟩ := same t y hy
  obtain ⟨z',hz',e1'⟩ := same t' y' hy'
  exact h.dobj t t' z z' b hz hz' (e1 ▸ hb) (e1' ▸ hb')
 ·intro t t' y y' hy hy' hb
  obtain ⟨z',hz',e1'⟩ := same t' y' hy'
  exact h.dmix t t' y z' hy hz' (e1' ▸ hb)
end
theorem fQ.of_eq {P : Program} {a b : List PV} (h : a = b) : fQ P a b := h ▸ fQ.refl a
theorem fQ.trans {P : Program} {a b c : List PV} (h : fQ P a b) (h' : fQ P b c) : fQ P a c := fun M s xs hx=>h' M s xs (h M s xs hx)
def me (bytes : Nat) (n : Int) : Option Unit := if 0 ≤ n ∧ n.toNat * bytes ≤ 2 ^ 47 ∧ n.toNat ≤ maxLen then some () else none
theorem growI_some {bytes : Nat} {n : Int} {u : Unit} (h : me bytes n = some u) : 0 ≤ n ∧ n.toNat * bytes ≤ 2 ^ 47 ∧ n.toNat ≤ maxLen := by
 unfold me at h
 split at h
 ·assumption
 ·cases h
section
variable {P : Program} {ops : Array Oper} {rest : List Oper} {o : Oper} {n : Nat} {s s' : Nat → PV} {bx : Nat → Option Box} {ob : Nat → Option Obj} {K : PState → Prop} {T : TT} {rb : RB} {k : Nat} {L : List Nat}
theorem Ao.isNil (hT : T.Ok P) (hg : aM ops s o = some true) {t t' : TypeId} {x : Operand} (ho : o.op = .binOp .eql t x (.const (.slice none 0 0)) t') {ti : TInfo} {e : TypeId} (hti : T.get t = some ti) (hd : ti.desc = .slice e) {e' : TypeId} {rows : List (List PV)} (hx : evS s x = .list e' rows) {d : Nat} (hdst : o.dst = some d) (hlt : Nat.blt d n = true)
  (h : ∀ b : Bool,(b = true → rows = []) → Ao P ops rest ⟨n,upd s d (.val (.bool b)),bx,ob⟩ K) : Ao P ops (o :: rest) ⟨n,s,bx,ob⟩ K := by
 refine Ao.eff hg (fun C M a w next Q hi he hn=>?_)
 have hxr := he x (by rw [ho]; simp [Op.operands])
 rw [show (⟨n,s,bx,ob⟩ : PState).s = s from rfl,hx] at hxr
 simp only [Rep] at hxr
 obtain ⟨ad,c,i,hv,_,_,_,_,hr⟩ := hxr
 have hu := (hT.get hti).und
 rw [hd] at hu
 have hrun : (execOp a.eval o).run P w = .ok (.value (.bool ad.isNone)) w := by
  have h1 := run_equal_slice_nil (P := P) w t e ad rows.length c hu
  have h2 : (eqGuard .eql t x (.const (.slice none 0 0)) (.slice ad rows.length c) (.slice none 0 0)).run P w = .ok () w := by unfold eqGuard; split <;> simp
  simp only [execOp,ho,hv,show a.eval (.const (.slice none 0 0)) = .slice none 0 0 from rfl,Sem.run_bind,h2,Result.andThen_ok,binOp,h1]
  rfl
 unfold Oper.wp
 rw [hrun]
 refine hn _ (.val (.bool ad.isNone)) ⟨bx,ob⟩ M w ⟨_,by simp [hdst,putD,hlt],h ad.isNone fun hb=>?_⟩ (Mem.le_refl M) hi (by simp only [Rep])
 cases rows with
 | nil=>rfl
 | cons r rows =>
  obtain ⟨b,o,e1,_⟩ := hr (by simp)
  rw [e1] at hb
  cases hb
theorem Ao.bsOC (hT : T.Ok P) (hg : aM ops s o = some true) {t e : TypeId} {m : Nat} {ps : Array (Nat × Operand)} (ho : o.op = .buildSlice t m ps) {d : Nat} (hdst : o.dst = some d) (hlt : Nat.blt d n = true) {ti : TInfo} (hti : T.get t = some ti) (hd : ti.desc = .slice e) {rows rows' : List (List PV)}
  (hr : iM T e m (fq (evS s) ps) = some rows) (hl : rows'.map List.length = rows.map List.length) (hm : rows.length = m) (hle : fQ P rows.flatten rows'.flatten) (h : ∀ g,Ao P ops rest ⟨n,upd s d (.own d g rows'.length),bx,upd ob d (some ⟨g,e,rows',true⟩)⟩ K) : Ao P ops (o :: rest) ⟨n,s,bx,ob⟩ K := by
 refine Ao.bsO hT hg ho hdst hlt hti hd hr fun g=>?_
 have hlen : rows'.length = m := by rw [← hm]; simpa using congrArg List.length hl
 have h' := h g
 rw [hlen] at h'
 refine Ao.gh (st' := ⟨n,upd s d (.own d g m),bx,upd ob d (some ⟨g,e,rows',true⟩)⟩) ?_ h'
 intro C M a w hi
 refine ⟨M,hi.1,?_⟩
 have := hi.2.reobj (tag := d) (rows' := rows') (ep _ _ _) hl hle
 simp only [PState.heap] at this ⊢
 have e2 : upd (upd ob d (some ⟨g,e,rows,true⟩)) d (some ⟨g,e,rows',true⟩) = upd ob d (some ⟨g,e,rows',true⟩) := by
  funext t
  simp only [dy]
  split <;> rfl
 rwa [e2] at this
theorem Ao.capN (hT : T.Ok P) (hg : aM ops s o = some true) {x : Operand} {t : TypeId} {ts : List TypeId} (ho : o.op = .call { callee := .builtin .cap,args := #[x],argTypes := (t :: ts).toArray }) {ti : TInfo} {e : TypeId} (hti : T.get t = some ti) (hd : ti.desc = .slice e)
  (hx : evS s x = .val (.slice none 0 0)) (hp : putD n s o.dst (.val (.int .i64 0)) = some s') (h : Ao P ops rest ⟨n,s',bx,ob⟩ K) : Ao P ops (o :: rest) ⟨n,s,bx,ob⟩ K := by
 refine Ao.eff hg (fun C M a w next Q hi he hn=>?_)
 have hxr := he x (by rw [ho]; simp [Op.operands,Call.operands])
 rw [show (⟨n,s,bx,ob⟩ : PState).s = s from rfl,hx] at hxr
 simp only [Rep] at hxr
 have hu := (hT.get hti).und
 rw [hd] at hu
 have hrun : (execOp a.eval o).run P w = .ok (.value (.int .i64 0)) w := by
  simp only [execOp,ho,resolve,Sem.run_bind,Sem.run_pure,Result.andThen_ok,invoke,builtin,List.map_toArray,List.map_cons,List.map_nil,hxr]
  simp [Builtin.cap_,run_underlying hu,goInt]
 unfold Oper.wp
 rw [hrun]
 exact hn _ _ ⟨bx,ob⟩ M w ⟨s',hp,h⟩ (Mem.le_refl M) hi (by simp only [Rep])
theorem Ao.subN (hT : T.Ok P) (hg : aM ops s o = some true) {t : TypeId} {x y : Operand} (ho : o.op = .slice t x none (some y) none) {ti : TInfo} {e : TypeId} (hti : T.get t = some ti) (hd : ti.desc = .slice e) {ei : TInfo} (hei : T.get e = some ei)
  (hx : evS s x = .val (.slice none 0 0)) {kk : IntKind} (hy : evS s y = .val (.int kk 0)) (hp : putD n s o.dst (.val (.slice none 0 0)) = some s') (h : Ao P ops rest ⟨n,s',bx,ob⟩ K) : Ao P ops (o :: rest) ⟨n,s,bx,ob⟩ K := by
 refine Ao.eff hg (fun C M a w next Q hi he hn=>?_)
 have hxr := he x (by rw [ho]; simp [Op.operands])
 have hyr := he y (by rw [ho]; simp [Op.operands])
 rw [show (⟨n,s,bx,ob⟩ : PState).s = s from rfl,hx] at hxr
 rw [show (⟨n,s,bx,ob⟩ : PState).s = s from rfl,hy] at hyr
 simp only [Rep] at hxr hyr
 have hu := (hT.get hti).und
 rw [hd] at hu
 have hrun : (execOp a.eval o).run P w = .ok (.value (.slice none 0 0)) w := by
  simp only [execOp,ho,Sem.run_bind,Sem.run_pure,Option.map_some,Option.map_none,hxr,hyr]
  simp [Instr.sliceAt,Instr.slice,run_underlying hu,Instr.sliceBounds,Instr.sliceBound,asIntOf,(hT.get hei).rsize w]
 unfold Oper.wp
 rw [hrun]
 exact hn _ _ ⟨bx,ob⟩ M w ⟨s',hp,h⟩ (Mem.le_refl M) hi (by simp only [Rep])
theorem Ao.cutO (hT : T.Ok P) (hg : aM ops s o = some true) {t : TypeId} {x y : Operand} (ho : o.op = .slice t x none (some y) none) {ti : TInfo} {e : TypeId} (hti : T.get t = some ti) (hd : ti.desc = .slice e) {ei : TInfo} (hei : T.get e = some ei)
  {tag : Nat} {g : OwnRef} {len : Nat} {rows rows' : List (List PV)} (hx : evS s x = .own tag g len) (hob : ob tag = some ⟨g,e,rows,true⟩) (hlen : len = rows.length) {kk : IntKind} {m : Int} (hy : evS s y = .val (.int kk m)) (hm : 0 ≤ m ∧ m.toNat ≤ rows.length) (hr : rows.take m.toNat = rows') {d : Nat} (hdst : o.dst = some d) (hlt : Nat.blt d n = true)
  (h : Ao P ops rest ⟨n,upd s d (.own tag g rows'.length),bx,upd ob tag (some ⟨g,e,rows',true⟩)⟩ K) : Ao P ops (o :: rest) ⟨n,s,bx,ob⟩ K := by
 subst hlen
 subst hr
 refine Ao.eff hg (fun C M a w next Q hi he hn=>?_)
 have hxr := he x (by rw [ho]; simp [Op.operands])
 have hyr := he y (by rw [ho]; simp [Op.operands])
 rw [show (⟨n,s,bx,ob⟩ : PState).s = s from rfl,hx] at hxr
 rw [show (⟨n,s,bx,ob⟩ : PState).s = s from rfl,hy] at hyr
 simp only [Rep] at hxr hyr
 have hu := (hT.get hti).und
 rw [hd] at hu
 have hcap : rows.length ≤ g.cap := by
  obtain ⟨i,_,_,_,h4⟩ := hi.objs tag _ hob
  rcases h4 with ⟨_,b,_⟩ | ⟨_,_,_,_,_,_,h9,_⟩
  ·simp only at b; rw [b]; simp
  ·exact h9
 have hmc : m ≤ (g.cap : Int) := by omega
 have hl2 : (rows.take m.toNat).length = m.toNat := by simp; omega
 have hrun : (execOp a.eval o).run P w = .ok (.value (g.val (rows.take m.toNat).length)) w := by
  rw [hl2]
  simp only [execOp,ho,Sem.run_bind,Sem.run_pure,Option.map_some,Option.map_none,hxr.2,hyr,OwnRef.val]
  cases hb : g.blk with
  | none=>simp [Instr.sliceAt,Instr.slice,run_underlying hu,Instr.sliceBounds,Instr.sliceBound,asIntOf,(hT.get hei).rsize w,hm.1,hmc]
  | some b =>
   have e0 : (⟨b,0,none⟩ : Addr).add 0 = ⟨b,0,none⟩ := by rw [eX]
   simp [Instr.sliceAt,Instr.slice,run_underlying hu,Instr.sliceBounds,Instr.sliceBound,asIntOf,(hT.get hei).rsize w,hm.1,hmc,e0]
 unfold Oper.wp
 rw [hrun]
 exact hn _ (.own tag g (rows.take m.toNat).length) ⟨bx,upd ob tag (some ⟨g,e,rows.take m.toNat,true⟩)⟩ M w ⟨_,by simp [hdst,putD,hlt],h⟩ (Mem.le_refl M) (hi.cutO hob m.toNat) (by simp [Rep])
theorem Ao.appendMakeN (hT : T.Ok P) (hg : aM ops s o = some true) {x y : Operand} {t u : TypeId} (ho : o.op = .call { callee := .builtin .append,args := #[x,y],argTypes := #[t,u] }) {d : Nat} (hdst : o.dst = some d) (hlt : Nat.blt d n = true) {ti ui ei : TInfo} {e : TypeId} (hti : T.get t = some ti) (hd : ti.desc = .slice e) (hui : T.get u = some ui) (hud : ui.desc = .int .i64) (hei : T.get e = some ei)
  (hz : Nat.beq ei.zero.cells.size ei.size = true) (hsz : Nat.blt 0 ei.size = true) (_hf : PV.frozL (cr ei) = true) (h1 : (cr ei).all PV.one = true) (hx : evS s x = .val (.slice none 0 0)) {m : Int} (hy : evS s y = .val (.int .i64 m)) (hm : 0 < m) (hby : m.toNat * ei.bytes ≤ 2 ^ 47) (hmx : m.toNat ≤ maxLen)
  (h : ∀ g,Ao P ops rest ⟨n,upd s d (.own d g (List.replicate m.toNat (cr ei)).length),bx,upd ob d (some ⟨g,e,List.replicate m.toNat (cr ei),true⟩)⟩ K) : Ao P ops (o :: rest) ⟨n,s,bx,ob⟩ K := by
 refine Ao.eff hg (fun C M a w next Q hi he hn=>?_)
 have hxr := he x (by rw [ho]; simp [Op.operands,Call.operands])
 have hyr := he y (by rw [ho]; simp [Op.operands,Call.operands])
 rw [show (⟨n,s,bx,ob⟩ : PState).s = s from rfl,hx] at hxr
 rw [show (⟨n,s,bx,ob⟩ : PState).s = s from rfl,hy] at hyr
 simp only [Rep] at hxr hyr
 have hu := (hT.get hti).und
 rw [hd] at hu
 have hu2 := (hT.get hui).und
 rw [hud] at hu2
 have hu3 := (hT.get hei).und
 obtain ⟨i,hinf,hs,hbs,hzero⟩ := (hT.get hei).info
 have hz1 := Nat.eq_of_beq_eq_true hz
 have hsz' : 0 < i.size := by have : 0 < ei.size := by simpa [Nat.blt_eq] using hsz
                              omega
 obtain ⟨k,hk⟩ : ∃ k : Nat,k = m.toNat := ⟨_,rfl⟩
 rw [← hk] at hby hmx h
 have hkm : m = (k : Int) := by omega
 subst hkm
 have hk0 : 0 < k := by omega
 have hwrap : IntKind.i64.wrap (k : Int) = k := by
  simp only [IntKind.wrap,IntKind.bits,IntKind.signed]
  simp
  unfold maxLen at hmx
  omega
 have h63 : ¬ (9223372036854775807 < (k : Int)) := by unfold maxLen at hmx; omega
 have hby2 : k * i.bytes ≤ 140737488355328 := by rw [hbs]; exact hby
 have h48 : ¬ (281474976710656 < Builtin.nextslicecap k 0 * i.bytes) := by rw [nextslicecap_zero hk0]; omega
 have h48' : ¬ (281474976710656 < (k : Int) * (i.bytes : Int)) := by
  have : ((k * i.bytes : Nat) : Int) ≤ 140737488355328 := Int.ofNat_le.2 hby2
  rw [Int.natCast_mul] at this
  omega
 have hne : ¬ (k * i.size = 0) := by
  have := Nat.mul_pos hk0 hsz'
  omega
 have hrun : (Builtin.append_ #[t,u] o.type #[.slice none 0 0,.int .i64 k]).run P w = .ok (.slice (some ⟨w.heap.size,0,none⟩) k (grownCap w k 0 e)) (w.drew.alloc (.cells (Builtin.zeroCells ei.zero.cells k ++ Builtin.zeroCells ei.zero.cells (grownCap w k 0 e - k)) e)) := by
  have hk1 : k ≠ 0 := by omega
  have hk3 : ¬ ((k : Int) < 0) := by omega
  simp [Builtin.append_,run_underlying hu,run_underlying hu2,sizeOf,typeInfo,zeroValue,hinf,hzero,asInt,asIntOf,hwrap,hk1,hk3,h63,h48,h48',Question.forced,run_firstCells_none,newRow,grownCap]
  exact fun h0=>absurd h0 hne
 have hrun' : (execOp a.eval o).run P w = .ok (.value (.slice (some ⟨w.heap.size,0,none⟩) k (grownCap w k 0 e))) (w.drew.alloc (.cells (Builtin.zeroCells ei.zero.cells k ++ Builtin.zeroCells ei.zero.cells (grownCap w k 0 e - k)) e)) := by
  simp only [execOp,ho,resolve,Sem.run_bind,Sem.run_pure,Result.andThen_ok,invoke,builtin,List.map_toArray,List.map_cons,List.map_nil,hxr,hyr]
  rw [hrun]
  rfl
 unfold Oper.wp
 rw [hrun']
 have hge := grownCap_ge w k 0 e
 have hgm : grownCap w k 0 e ≤ maxLen := grownCap_le_maxLen w k 0 e hmx
 have hzl : (cr ei).length = i.size := by simp [cr,hz1,hs]
 have hzc : (Builtin.zeroCells ei.zero.cells k).toList = (List.replicate k ei.zero.cells.toList).flatten := by
  unfold Builtin.zeroCells
  exact lE ei.zero.cells k
 have hzs : (Builtin.zeroCells ei.zero.cells k).toList.length = k * i.size := by
  rw [hzc]; simp [hz1,hs]
 have hrep : aw P M false (List.replicate k (cr ei)).flatten (List.replicate k ei.zero.cells.toList).flatten := ji (ja _) k
 have htake : ((Builtin.zeroCells ei.zero.cells k ++ Builtin.zeroCells ei.zero.cells (grownCap w k 0 e - k)).toList.take ((List.replicate k (cr ei)).length * i.size)) = (List.replicate k ei.zero.cells.toList).flatten := by
  rw [List.length_replicate,Array.toList_append,← hzc]
  rw [← hzs]
  exact List.take_left
 refine hn _ (.own d ⟨some w.heap.size,grownCap w k 0 e⟩ (List.replicate k (cr ei)).length) _ M _ ⟨_,by simp [hdst,putD,hlt],h ⟨some w.heap.size,grownCap w k 0 e⟩⟩ (Mem.le_refl M)
  ((show InvH P C M ⟨bx,ob⟩ w.drew from hi.drew).alloc_obj d e (List.replicate k (cr ei)) true _ _ i hinf ?_ ?_ ?_ ?_ hgm ?_ ?_) ?_
 ·rw [List.length_replicate]; exact hby2
 ·intro r hr
  rw [List.eq_of_mem_replicate hr]
  exact hzl
 ·simp only [Array.size_append,size_zeroCells,hz1,← hs,← Nat.add_mul]
  congr 1
  omega
 ·rw [List.length_replicate]; exact hge
 ·rw [htake]; exact hrep
 ·rw [htake]
  refine aw.oneCell ?_ hrep
  rw [List.all_flatten]
  rw [List.all_eq_true]
  intro r hr
  rw [List.eq_of_mem_replicate hr]
  exact h1
 ·simp [Rep,OwnRef.val]
end
end
end Go.Ab

namespace Go.Ab
noncomputable section
@[simp] theorem bPs {α β : Type} (a : α) (k : α → Option β) : af (some a) k = k a := rfl
@[simp] theorem bindP_none {α β : Type} (k : α → Option β) : af none k = none := rfl
@[simp] theorem bp {α β : Type} (a : α) (k : α → β) : ba a k = k a := rfl
@[simp] theorem bF {σ β : Type} (s : σ) (k : σ → Option β) : Flow.thenP (.next s) k = k s := rfl
@[simp] theorem gm {σ ρ : Type} (s : σ) (k : σ → Option ρ) : Flow.thenR (.next s) k = k s := rfl
@[simp] theorem kZ {σ ρ : Type} (r : ρ) (k : σ → Option ρ) : Flow.thenR (.ret r) k = some r := rfl
@[simp] theorem thenF_nextS {σ τ ρ : Type} (s : σ) (k : σ → Option (Flow τ ρ)) : Flow.thenF (.next s) k = k s := rfl
@[simp] theorem thenF_retS {σ τ ρ : Type} (r : ρ) (k : σ → Option (Flow τ ρ)) : Flow.thenF (.ret r) k = some (.ret r) := rfl
theorem appI_ok {α : Type} {bytes : Nat} {xs ys : List α} (h1 : (xs.length + ys.length) * bytes ≤ 2 ^ 47) (h2 : xs.length + ys.length ≤ maxLen) : cI bytes xs ys = some (xs ++ ys) := by
 unfold cI; rw [if_pos ⟨h1,h2⟩]
theorem jE {α : Type} {xs : List α} {i : Int} {x : α} (h0 : 0 ≤ i) (h : xs[i.toNat]? = some x) : aC xs i = some x := by unfold aC; rw [if_pos h0,h]
theorem jA {α : Type} {xs : List α} {j : Nat} {x : α} (h : xs[j]? = some x) : aC xs (j : Int) = some x := jE (by omega) (by simpa using h)
theorem lx {α : Type} {xs : List α} {a b : Int} (h : 0 ≤ a ∧ a ≤ b ∧ b ≤ xs.length) : kv xs a b = some ((xs.take b.toNat).drop a.toNat) := by unfold kv; rw [if_pos h]
theorem growI_ok {bytes : Nat} {n : Int} (h : 0 ≤ n ∧ n.toNat * bytes ≤ 2 ^ 47 ∧ n.toNat ≤ maxLen) : me bytes n = some () := by unfold me; rw [if_pos h]
theorem nQ {n : Int} (h : n ≤ 2 ^ 62) : lz n = some n.toNat := by unfold lz; rw [if_pos h]
theorem eE {α σ ρ : Type} {step : Nat → α → σ → Option (Flow σ ρ)} (I : Nat → σ → Prop) (Q : ρ → Prop) :
  ∀ (xs : List α) (j : Nat) (s : σ),I j s → (∀ k x s,xs[k]? = some x → I (j + k) s → ∃ fl,step (j + k) x s = some fl ∧ (match fl with | .next s'=>I (j + k + 1) s' | .brk _=>False | .ret r=>Q r)) →
   ∃ fl,aE step j xs s = some fl ∧ (match fl with | .next s'=>I (j + xs.length) s' | .brk _=>False | .ret r=>Q r)
 | [],j,s,h,_=>⟨.next s,rfl,by simpa using h⟩
 | x :: xs,j,s,h,hs=>by
  obtain ⟨fl,h1,h2⟩ := hs 0 x s rfl (by simpa using h)
  rw [Nat.add_zero] at h1
  cases fl with
  | next s' =>
   obtain ⟨fl,h3,h4⟩ := eE I Q xs (j + 1) s' (by simpa using h2) (fun k y t hk hI=>by
    obtain ⟨fl,h5,h6⟩ := hs (k + 1) y t (by simpa using hk) (by rw [show j + (k + 1) = j + 1 + k from by omega]; exact hI)
    rw [show j + (k + 1) = j + 1 + k from by omega] at h5 h6
    exact ⟨fl,h5,h6⟩)
   refine ⟨fl,by rw [aE,h1]; exact h3,?_⟩
   rw [show j + (x :: xs).length = j + 1 + xs.length from by simp; omega]
   exact h4
  | brk s'=>exact absurd h2 (by simp)
  | ret r=>exact ⟨.ret r,by rw [aE,h1],h2⟩
theorem rMa {α σ ρ : Type} {step : Nat → α → σ → Option (Flow σ ρ)} {xs : List α} {s : σ} (S : Nat → σ) (h0 : S 0 = s) (hs : ∀ k x,xs[k]? = some x → step k x (S k) = some (.next (S (k + 1)))) : aE step 0 xs s = some (.next (S xs.length)) := by
 subst h0
 obtain ⟨fl,h1,h2⟩ := eE (step := step) (fun j s=>s = S j) (fun _=>False) xs 0 (S 0) rfl (fun k x s hk hI=>by
  simp only [Nat.zero_add] at hI
  subst hI
  exact ⟨_,by rw [Nat.zero_add]; exact hs k x hk,by simp⟩)
 cases fl with
 | next s'=>simp only [Nat.zero_add] at h2; rw [h1,h2]
 | brk s'=>exact absurd h2 (by simp)
 | ret r=>exact absurd h2 (by simp)
theorem nk {α β ρ : Type} {step : Nat → α → List β → Option (Flow (List β) ρ)} {xs : List α} (f : α → β) (hs : ∀ k x,xs[k]? = some x → step k x ((xs.take k).map f) = some (.next ((xs.take k).map f ++ [f x]))) :
  aE step 0 xs [] = some (.next (xs.map f)) := by
 have := rMa (step := step) (xs := xs) (fun k=>(xs.take k).map f) rfl (fun k x hk=>by
  rw [hs k x hk,List.take_add_one,hk]
  simp)
 simpa using this
theorem kE {α σ ρ : Type} {step : Nat → α → σ → Option (Flow σ ρ)} {xs : List α} {s : σ} (g : σ → α → σ) (hs : ∀ k x,xs[k]? = some x → step k x ((xs.take k).foldl g s) = some (.next (g ((xs.take k).foldl g s) x))) :
  aE step 0 xs s = some (.next (xs.foldl g s)) := by
 have := rMa (step := step) (xs := xs) (fun k=>(xs.take k).foldl g s) rfl (fun k x hk=>by
  rw [hs k x hk,List.take_add_one,hk,List.foldl_append]
  rfl)
 simpa using this
theorem kA {α ρ : Type} {step : Nat → α → Unit → Option (Flow Unit ρ)} (p : α → Bool) (out : Nat → α → ρ) : ∀ (xs : List α) (j : Nat),(∀ k x,xs[k]? = some x → step (j + k) x () = some (if p x then .ret (out (j + k) x) else .next ())) →
  aE step j xs () = some (match xs.findIdx? p with | some i=>(match xs[i]? with | some x=>.ret (out (j + i) x) | none=>.next ()) | none=>.next ())
 | [],j,_=>rfl
 | x :: xs,j,hs=>by
  have h0 := hs 0 x rfl
  rw [Nat.add_zero] at h0
  rw [aE,h0,List.findIdx?_cons]
  cases hp : p x with
  | true=>simp
  | false =>
   simp only [Bool.false_eq_true,if_false]
   rw [kA p out xs (j + 1) (fun k y hk=>by
    have := hs (k + 1) y (by simpa using hk)
    rw [show j + (k + 1) = j + 1 + k from by omega] at this
    exact this)]
   cases xs.findIdx? p with
   | none=>simp
   | some i =>
    simp only [Option.map_some,List.getElem?_cons_succ]
    rw [show j + 1 + i = j + (i + 1) from by omega]
section
variable {P : Program} {T : TT} {M : Mem}
end
def dL {α : Type} (p : Prop) [Decidable p] (a : α) : Option α := if p then some a else none
theorem cF {α : Type} {p : Prop} [Decidable p] {a b : α} (h : dL p a = some b) : p ∧ a = b := by
 unfold dL at h
 split at h
 ·rename_i hp; exact ⟨hp,Option.some.inj h⟩
 ·cases h
@[simp] theorem dg {α : Type} {p : Prop} [Decidable p] {a : α} (h : p) : dL p a = some a := by unfold dL; rw [if_pos h]
end
end Go.Ab

namespace Go.Ab
noncomputable section
open Go.Proofs
def ti1 : TInfo := ⟨Tryz.t1.desc,1,8,.nilFunc,[]⟩
def ti2 : TInfo := ⟨Tryz.t2.desc,1,8,.int .i64 0,[]⟩
def ti3 : TInfo := ⟨Tryz.t3.desc,1,8,.int .i64 0,[]⟩
def ti4 : TInfo := ⟨Tryz.t4.desc,1,1,.bool false,[]⟩
def ti5 : TInfo := ⟨Tryz.t5.desc,1,1,.int .u8 0,[]⟩
def ti9 : TInfo := ⟨Tryz.t9.desc,1,16,.string ⟨#[]⟩,[]⟩
def ti20 : TInfo := ⟨Tryz.t20.desc,1,16,.nilIface,[]⟩
def ti21 : TInfo := ⟨Tryz.t21.desc,1,4,.int .i32 0,[]⟩
def ti22 : TInfo := ⟨Tryz.t22.desc,1,24,.slice none 0 0,[]⟩
def ti23 : TInfo := ⟨Tryz.t23.desc,1,24,.slice none 0 0,[]⟩
def ti24 : TInfo := ⟨Tryz.t24.desc,1,24,.slice none 0 0,[]⟩
def ti25 : TInfo := ⟨Tryz.t25.desc,3,72,.agg #[.slice none 0 0,.slice none 0 0,.slice none 0 0],[]⟩
def ti26 : TInfo := ⟨Tryz.t25.desc,3,72,.agg #[.slice none 0 0,.slice none 0 0,.slice none 0 0],[]⟩
def ti27 : TInfo := ⟨Tryz.t27.desc,1,24,.slice none 0 0,[]⟩
def ti28 : TInfo := ⟨Tryz.t27.desc,1,24,.slice none 0 0,[]⟩
def ti29 : TInfo := ⟨Tryz.t29.desc,1,24,.slice none 0 0,[]⟩
def ti30 : TInfo := ⟨Tryz.t30.desc,1,24,.slice none 0 0,[]⟩
def ti31 : TInfo := ⟨Tryz.t31.desc,1,24,.slice none 0 0,[]⟩
def ti32 : TInfo := ⟨Tryz.t32.desc,1,24,.slice none 0 0,[]⟩
def ti33 : TInfo := ⟨Tryz.t33.desc,1,24,.slice none 0 0,[]⟩
def ti34 : TInfo := ⟨Tryz.t34.desc,9,160,.agg #[.int .i64 0,.string ⟨#[]⟩,.slice none 0 0,.slice none 0 0,.slice none 0 0,.slice none 0 0,.int .i64 0,.int .i64 0,.slice none 0 0],[]⟩
def ti35 : TInfo := ⟨Tryz.t34.desc,9,160,.agg #[.int .i64 0,.string ⟨#[]⟩,.slice none 0 0,.slice none 0 0,.slice none 0 0,.slice none 0 0,.int .i64 0,.int .i64 0,.slice none 0 0],[]⟩
def ti36 : TInfo := ⟨Tryz.t36.desc,1,24,.slice none 0 0,[]⟩
def ti37 : TInfo := ⟨Tryz.t37.desc,1,8,.nilFunc,[]⟩
def ti38 : TInfo := ⟨Tryz.t38.desc,1,8,.nilFunc,[]⟩
def ti39 : TInfo := ⟨Tryz.t39.desc,1,24,.slice none 0 0,[]⟩
def ti40 : TInfo := ⟨Tryz.t40.desc,1,24,.slice none 0 0,[]⟩
def ti41 : TInfo := ⟨Tryz.t41.desc,2,48,.agg #[.slice none 0 0,.slice none 0 0],[]⟩
def ti42 : TInfo := ⟨Tryz.t41.desc,2,48,.agg #[.slice none 0 0,.slice none 0 0],[]⟩
def ti44 : TInfo := ⟨Tryz.t44.desc,1,8,.nilFunc,[]⟩
def ti45 : TInfo := ⟨Tryz.t3.desc,1,8,.int .i64 0,[]⟩
def ti47 : TInfo := ⟨Tryz.t47.desc,1,8,.nilFunc,[]⟩
def ti48 : TInfo := ⟨Tryz.t48.desc,1,8,.nilFunc,[]⟩
def ti49 : TInfo := ⟨Tryz.t49.desc,3,32,.agg #[.string ⟨#[]⟩,.int .i64 0,.bool false],[(9,0),(3,1),(4,2)]⟩
def ti50 : TInfo := ⟨Tryz.t49.desc,3,32,.agg #[.string ⟨#[]⟩,.int .i64 0,.bool false],[(9,0),(3,1),(4,2)]⟩
def ti51 : TInfo := ⟨Tryz.t36.desc,1,24,.slice none 0 0,[]⟩
def ti52 : TInfo := ⟨Tryz.t52.desc,3,32,.agg #[.int .i64 0,.int .i64 0,.string ⟨#[]⟩],[(3,0),(3,1),(9,2)]⟩
def ti53 : TInfo := ⟨Tryz.t52.desc,3,32,.agg #[.int .i64 0,.int .i64 0,.string ⟨#[]⟩],[(3,0),(3,1),(9,2)]⟩
def ti54 : TInfo := ⟨Tryz.t54.desc,1,8,.nilFunc,[]⟩
def ti55 : TInfo := ⟨Tryz.t55.desc,7,88,.agg #[.int .i64 0,.string ⟨#[]⟩,.int .i64 0,.int .i64 0,.int .i64 0,.string ⟨#[]⟩,.slice none 0 0],[]⟩
def ti56 : TInfo := ⟨Tryz.t55.desc,7,88,.agg #[.int .i64 0,.string ⟨#[]⟩,.int .i64 0,.int .i64 0,.int .i64 0,.string ⟨#[]⟩,.slice none 0 0],[]⟩
def ti57 : TInfo := ⟨Tryz.t57.desc,1,8,.nilFunc,[]⟩
def ti58 : TInfo := ⟨Tryz.t58.desc,1,8,.nilFunc,[]⟩
def ti59 : TInfo := ⟨Tryz.t59.desc,1,8,.nilFunc,[]⟩
def ti60 : TInfo := ⟨Tryz.t60.desc,1,8,.nilFunc,[]⟩
def ti61 : TInfo := ⟨Tryz.t61.desc,1,8,.nilFunc,[]⟩
def ti62 : TInfo := ⟨Tryz.t62.desc,1,8,.nilFunc,[]⟩
def ti63 : TInfo := ⟨Tryz.t63.desc,1,8,.nilFunc,[]⟩
def ti64 : TInfo := ⟨Tryz.t64.desc,1,8,.nilFunc,[]⟩
def ti65 : TInfo := ⟨Tryz.t65.desc,3,56,.agg #[.string ⟨#[]⟩,.string ⟨#[]⟩,.slice none 0 0],[]⟩
def ti66 : TInfo := ⟨Tryz.t65.desc,3,56,.agg #[.string ⟨#[]⟩,.string ⟨#[]⟩,.slice none 0 0],[]⟩
def ti67 : TInfo := ⟨Tryz.t67.desc,1,8,.nilFunc,[]⟩
def ti68 : TInfo := ⟨Tryz.t68.desc,1,8,.nilFunc,[]⟩
def ti69 : TInfo := ⟨Tryz.t69.desc,1,8,.nilFunc,[]⟩
def ti70 : TInfo := ⟨Tryz.t70.desc,1,8,.nilFunc,[]⟩
def ti71 : TInfo := ⟨Tryz.t71.desc,1,8,.nilFunc,[]⟩
def ti72 : TInfo := ⟨Tryz.t72.desc,1,8,.nilFunc,[]⟩
def ti73 : TInfo := ⟨Tryz.t73.desc,1,8,.nilFunc,[]⟩
def ti74 : TInfo := ⟨Tryz.t74.desc,1,8,.nilFunc,[]⟩
def ti75 : TInfo := ⟨Tryz.t75.desc,1,8,.nilFunc,[]⟩
def ti76 : TInfo := ⟨Tryz.t76.desc,1,8,.nilFunc,[]⟩
def ti77 : TInfo := ⟨Tryz.t77.desc,1,8,.nilFunc,[]⟩
def ti78 : TInfo := ⟨Tryz.t78.desc,1,8,.nilFunc,[]⟩
def ti79 : TInfo := ⟨Tryz.t79.desc,1,8,.nilFunc,[]⟩
def ti80 : TInfo := ⟨Tryz.t80.desc,1,8,.nilFunc,[]⟩
def ti81 : TInfo := ⟨Tryz.t81.desc,1,8,.nilFunc,[]⟩
def ti82 : TInfo := ⟨Tryz.t82.desc,1,8,.nilFunc,[]⟩
def ti83 : TInfo := ⟨Tryz.t83.desc,1,8,.nilFunc,[]⟩
def ti84 : TInfo := ⟨Tryz.t84.desc,1,8,.nilFunc,[]⟩
def ti85 : TInfo := ⟨Tryz.t85.desc,1,8,.nilFunc,[]⟩
def ti86 : TInfo := ⟨Tryz.t86.desc,2,40,.agg #[.string ⟨#[]⟩,.slice none 0 0],[]⟩
def ti87 : TInfo := ⟨Tryz.t86.desc,2,40,.agg #[.string ⟨#[]⟩,.slice none 0 0],[]⟩
def ti88 : TInfo := ⟨Tryz.t88.desc,1,8,.nilFunc,[]⟩
def ti89 : TInfo := ⟨Tryz.t89.desc,1,24,.slice none 0 0,[]⟩
def ti90 : TInfo := ⟨Tryz.t90.desc,3,64,.agg #[.string ⟨#[]⟩,.slice none 0 0,.slice none 0 0],[]⟩
def ti91 : TInfo := ⟨Tryz.t90.desc,3,64,.agg #[.string ⟨#[]⟩,.slice none 0 0,.slice none 0 0],[]⟩
def ti93 : TInfo := ⟨Tryz.t93.desc,1,8,.nilFunc,[]⟩
def ti94 : TInfo := ⟨Tryz.t94.desc,1,8,.nilFunc,[]⟩
def ti95 : TInfo := ⟨Tryz.t95.desc,1,8,.nilFunc,[]⟩
def ti96 : TInfo := ⟨Tryz.t96.desc,1,8,.nilFunc,[]⟩
def ti97 : TInfo := ⟨Tryz.t97.desc,1,8,.nilFunc,[]⟩
def ti98 : TInfo := ⟨Tryz.t98.desc,1,8,.nilFunc,[]⟩
def ti99 : TInfo := ⟨Tryz.t99.desc,1,8,.nilFunc,[]⟩
def ti100 : TInfo := ⟨Tryz.t100.desc,1,8,.nilFunc,[]⟩
def ti101 : TInfo := ⟨Tryz.t101.desc,1,8,.nilFunc,[]⟩
def ti102 : TInfo := ⟨Tryz.t102.desc,1,8,.nilFunc,[]⟩
def ti103 : TInfo := ⟨Tryz.t103.desc,1,8,.nilFunc,[]⟩
def ti104 : TInfo := ⟨Tryz.t104.desc,1,8,.nilFunc,[]⟩
def ti105 : TInfo := ⟨Tryz.t105.desc,1,8,.nilFunc,[]⟩
def ti106 : TInfo := ⟨Tryz.t106.desc,1,8,.nilFunc,[]⟩
def ti107 : TInfo := ⟨Tryz.t107.desc,1,8,.nilFunc,[]⟩
def ti108 : TInfo := ⟨Tryz.t108.desc,1,8,.nilFunc,[]⟩
def ti109 : TInfo := ⟨Tryz.t109.desc,1,8,.nilFunc,[]⟩
def ti110 : TInfo := ⟨Tryz.t110.desc,1,8,.nilFunc,[]⟩
def ti111 : TInfo := ⟨Tryz.t111.desc,1,8,.nilFunc,[]⟩
def ti112 : TInfo := ⟨Tryz.t112.desc,1,8,.nilFunc,[]⟩
def ti113 : TInfo := ⟨Tryz.t113.desc,1,8,.nilFunc,[]⟩
def ti114 : TInfo := ⟨Tryz.t114.desc,1,8,.nilFunc,[]⟩
def ti115 : TInfo := ⟨Tryz.t115.desc,1,8,.nilFunc,[]⟩
def ti116 : TInfo := ⟨Tryz.t116.desc,1,8,.nilFunc,[]⟩
def ti117 : TInfo := ⟨Tryz.t117.desc,1,8,.nilFunc,[]⟩
def ti118 : TInfo := ⟨Tryz.t118.desc,1,8,.nilFunc,[]⟩
def ti119 : TInfo := ⟨Tryz.t119.desc,1,8,.nilFunc,[]⟩
def ti120 : TInfo := ⟨Tryz.t120.desc,1,8,.nilFunc,[]⟩
def ti121 : TInfo := ⟨Tryz.t121.desc,1,8,.nilFunc,[]⟩
def ti122 : TInfo := ⟨Tryz.t122.desc,1,8,.nilFunc,[]⟩
def ti123 : TInfo := ⟨Tryz.t123.desc,1,8,.nilFunc,[]⟩
def ti125 : TInfo := ⟨Tryz.t125.desc,1,8,.nilFunc,[]⟩
def ti126 : TInfo := ⟨Tryz.t126.desc,1,8,.nilFunc,[]⟩
def ti127 : TInfo := ⟨Tryz.t127.desc,4,96,.agg #[.slice none 0 0,.slice none 0 0,.slice none 0 0,.slice none 0 0],[]⟩
def ti128 : TInfo := ⟨Tryz.t127.desc,4,96,.agg #[.slice none 0 0,.slice none 0 0,.slice none 0 0,.slice none 0 0],[]⟩
def ti129 : TInfo := ⟨Tryz.t129.desc,1,8,.nilFunc,[]⟩
def ti130 : TInfo := ⟨Tryz.t130.desc,1,8,.nilFunc,[]⟩
def ti131 : TInfo := ⟨Tryz.t131.desc,1,8,.nilFunc,[]⟩
def ti132 : TInfo := ⟨Tryz.t132.desc,1,8,.nilFunc,[]⟩
def ti133 : TInfo := ⟨Tryz.t133.desc,1,8,.int .u64 0,[]⟩
def ti134 : TInfo := ⟨Tryz.t134.desc,1,8,.nilFunc,[]⟩
def ti135 : TInfo := ⟨Tryz.t135.desc,1,8,.nilFunc,[]⟩
def ti136 : TInfo := ⟨Tryz.t136.desc,1,8,.nilFunc,[]⟩
def ti137 : TInfo := ⟨Tryz.t137.desc,8,192,.agg #[.slice none 0 0,.slice none 0 0,.slice none 0 0,.slice none 0 0,.slice none 0 0,.slice none 0 0,.slice none 0 0,.slice none 0 0],[]⟩
def ti138 : TInfo := ⟨Tryz.t137.desc,8,192,.agg #[.slice none 0 0,.slice none 0 0,.slice none 0 0,.slice none 0 0,.slice none 0 0,.slice none 0 0,.slice none 0 0,.slice none 0 0],[]⟩
def ti139 : TInfo := ⟨Tryz.t139.desc,1,8,.nilFunc,[]⟩
def ti140 : TInfo := ⟨Tryz.t140.desc,1,8,.nilFunc,[]⟩
def ti141 : TInfo := ⟨Tryz.t141.desc,3,56,.agg #[.string ⟨#[]⟩,.slice none 0 0,.string ⟨#[]⟩],[]⟩
def ti142 : TInfo := ⟨Tryz.t141.desc,3,56,.agg #[.string ⟨#[]⟩,.slice none 0 0,.string ⟨#[]⟩],[]⟩
def ti143 : TInfo := ⟨Tryz.t143.desc,1,8,.nilFunc,[]⟩
def ti144 : TInfo := ⟨Tryz.t144.desc,1,8,.nilFunc,[]⟩
def ti145 : TInfo := ⟨Tryz.t145.desc,1,8,.nilFunc,[]⟩
def ti146 : TInfo := ⟨Tryz.t146.desc,1,8,.nilFunc,[]⟩
def ti147 : TInfo := ⟨Tryz.t147.desc,7,80,.agg #[.string ⟨#[]⟩,.int .i64 0,.string ⟨#[]⟩,.int .i64 0,.int .i64 0,.int .i64 0,.string ⟨#[]⟩],[]⟩
def ti148 : TInfo := ⟨Tryz.t147.desc,7,80,.agg #[.string ⟨#[]⟩,.int .i64 0,.string ⟨#[]⟩,.int .i64 0,.int .i64 0,.int .i64 0,.string ⟨#[]⟩],[]⟩
def ti149 : TInfo := ⟨Tryz.t149.desc,1,8,.nilFunc,[]⟩
def ti150 : TInfo := ⟨Tryz.t150.desc,1,8,.nilFunc,[]⟩
def ti151 : TInfo := ⟨Tryz.t151.desc,1,8,.nilFunc,[]⟩
def ti152 : TInfo := ⟨Tryz.t152.desc,1,8,.nilFunc,[]⟩
def ti153 : TInfo := ⟨Tryz.t153.desc,1,8,.nilFunc,[]⟩
def ti154 : TInfo := ⟨Tryz.t154.desc,8,8,.agg #[.bool false,.bool false,.bool false,.bool false,.bool false,.bool false,.bool false,.bool false],[]⟩
def ti155 : TInfo := ⟨Tryz.t155.desc,1,8,.nilFunc,[]⟩
def ti157 : TInfo := ⟨Tryz.t157.desc,1,8,.nilFunc,[]⟩
def ti158 : TInfo := ⟨Tryz.t158.desc,1,8,.nilFunc,[]⟩
def ti159 : TInfo := ⟨Tryz.t159.desc,1,24,.slice none 0 0,[]⟩
def ti160 : TInfo := ⟨Tryz.t160.desc,1,8,.nilFunc,[]⟩
def ti161 : TInfo := ⟨Tryz.t161.desc,1,8,.nilFunc,[]⟩
def ti162 : TInfo := ⟨Tryz.t162.desc,1,8,.nilFunc,[]⟩
def ti163 : TInfo := ⟨Tryz.t3.desc,1,8,.int .i64 0,[]⟩
def ti165 : TInfo := ⟨Tryz.t165.desc,1,8,.nilFunc,[]⟩
def ti166 : TInfo := ⟨Tryz.t166.desc,1,8,.nilFunc,[]⟩
def ti167 : TInfo := ⟨Tryz.t167.desc,1,8,.nilFunc,[]⟩
def ti169 : TInfo := ⟨Tryz.t169.desc,1,8,.nilFunc,[]⟩
def ti170 : TInfo := ⟨Tryz.t170.desc,1,8,.nilFunc,[]⟩
def ti171 : TInfo := ⟨Tryz.t171.desc,1,4,.int .u32 0,[]⟩
def ti172 : TInfo := ⟨Tryz.t172.desc,1,8,.nilFunc,[]⟩
def ti173 : TInfo := ⟨Tryz.t173.desc,1,8,.int .u64 0,[]⟩
def ti174 : TInfo := ⟨Tryz.t174.desc,1,8,.nilFunc,[]⟩
def ti175 : TInfo := ⟨Tryz.t175.desc,1,8,.nilFunc,[]⟩
def ti176 : TInfo := ⟨Tryz.t176.desc,1,8,.nilFunc,[]⟩
def ti177 : TInfo := ⟨Tryz.t177.desc,1,8,.nilFunc,[]⟩
def ti178 : TInfo := ⟨Tryz.t178.desc,1,8,.nilFunc,[]⟩
def ti179 : TInfo := ⟨Tryz.t179.desc,1,8,.nilFunc,[]⟩
def ti180 : TInfo := ⟨Tryz.t180.desc,1,8,.nilFunc,[]⟩
def ti181 : TInfo := ⟨Tryz.t181.desc,1,8,.nilFunc,[]⟩
def ti182 : TInfo := ⟨Tryz.t182.desc,1,8,.nilFunc,[]⟩
def ti183 : TInfo := ⟨Tryz.t183.desc,5,120,.agg #[.slice none 0 0,.slice none 0 0,.slice none 0 0,.slice none 0 0,.slice none 0 0],[]⟩
def ti184 : TInfo := ⟨Tryz.t183.desc,5,120,.agg #[.slice none 0 0,.slice none 0 0,.slice none 0 0,.slice none 0 0,.slice none 0 0],[]⟩
def ti185 : TInfo := ⟨Tryz.t185.desc,1,8,.nilFunc,[]⟩
def ti186 : TInfo := ⟨Tryz.t186.desc,1,8,.nilFunc,[]⟩
def ti187 : TInfo := ⟨Tryz.t187.desc,1,8,.nilFunc,[]⟩
def ti188 : TInfo := ⟨Tryz.t188.desc,1,8,.nilFunc,[]⟩
def ti189 : TInfo := ⟨Tryz.t189.desc,1,8,.nilFunc,[]⟩
def ti190 : TInfo := ⟨Tryz.t190.desc,1,8,.nilFunc,[]⟩
def ti191 : TInfo := ⟨Tryz.t191.desc,1,8,.nilFunc,[]⟩
def ti193 : TInfo := ⟨Tryz.t193.desc,1,8,.nilFunc,[]⟩
def ti194 : TInfo := ⟨Tryz.t194.desc,1,8,.nilFunc,[]⟩
def ti195 : TInfo := ⟨Tryz.t195.desc,1,8,.nilFunc,[]⟩
def ti196 : TInfo := ⟨Tryz.t196.desc,1,8,.nilFunc,[]⟩
def ti197 : TInfo := ⟨Tryz.t197.desc,1,8,.nilFunc,[]⟩
def ti198 : TInfo := ⟨Tryz.t198.desc,1,8,.nilFunc,[]⟩
def ti199 : TInfo := ⟨Tryz.t199.desc,1,8,.nilFunc,[]⟩
def ti200 : TInfo := ⟨Tryz.t200.desc,1,8,.nilFunc,[]⟩
def ti201 : TInfo := ⟨Tryz.t201.desc,1,8,.nilFunc,[]⟩
def ti202 : TInfo := ⟨Tryz.t202.desc,1,8,.nilFunc,[]⟩
def ti203 : TInfo := ⟨Tryz.t203.desc,1,8,.nilFunc,[]⟩
def ti205 : TInfo := ⟨Tryz.t205.desc,1,8,.nilFunc,[]⟩
def ti206 : TInfo := ⟨Tryz.t173.desc,1,8,.int .u64 0,[]⟩
def ti207 : TInfo := ⟨Tryz.t207.desc,1,8,.nilFunc,[]⟩
def ti208 : TInfo := ⟨Tryz.t208.desc,1,8,.nilFunc,[]⟩
def ti209 : TInfo := ⟨Tryz.t209.desc,1,8,.nilFunc,[]⟩
def ti210 : TInfo := ⟨Tryz.t210.desc,1,8,.pointer none,[]⟩
def ti211 : TInfo := ⟨Tryz.t211.desc,1,8,.nilFunc,[]⟩
def ti212 : TInfo := ⟨Tryz.t212.desc,1,8,.nilFunc,[]⟩
def ti213 : TInfo := ⟨Tryz.t213.desc,1,8,.nilFunc,[]⟩
def ti214 : TInfo := ⟨Tryz.t214.desc,1,8,.nilFunc,[]⟩
def ti215 : TInfo := ⟨Tryz.t215.desc,1,24,.slice none 0 0,[]⟩
def ti216 : TInfo := ⟨Tryz.t216.desc,1,8,.nilFunc,[]⟩
def ti217 : TInfo := ⟨Tryz.t217.desc,1,24,.slice none 0 0,[]⟩
def ti218 : TInfo := ⟨Tryz.t218.desc,1,8,.nilFunc,[]⟩
def ti220 : TInfo := ⟨Tryz.t220.desc,1,8,.nilFunc,[]⟩
def ti221 : TInfo := ⟨Tryz.t221.desc,1,8,.nilFunc,[]⟩
def ti222 : TInfo := ⟨Tryz.t222.desc,1,8,.pointer none,[]⟩
def ti223 : TInfo := ⟨Tryz.t223.desc,1,8,.nilFunc,[]⟩
def ti224 : TInfo := ⟨Tryz.t224.desc,1,8,.nilFunc,[]⟩
def ti225 : TInfo := ⟨Tryz.t225.desc,1,8,.nilFunc,[]⟩
def ti227 : TInfo := ⟨Tryz.t227.desc,1,8,.nilFunc,[]⟩
def ti228 : TInfo := ⟨Tryz.t228.desc,1,8,.nilFunc,[]⟩
def ti229 : TInfo := ⟨Tryz.t229.desc,1,8,.nilFunc,[]⟩
def ti230 : TInfo := ⟨Tryz.t230.desc,1,8,.nilFunc,[]⟩
def ti231 : TInfo := ⟨Tryz.t231.desc,1,8,.nilFunc,[]⟩
def ti232 : TInfo := ⟨Tryz.t232.desc,1,8,.nilFunc,[]⟩
def ti233 : TInfo := ⟨Tryz.t233.desc,1,8,.nilFunc,[]⟩
def ti235 : TInfo := ⟨Tryz.t235.desc,1,8,.nilFunc,[]⟩
def ti236 : TInfo := ⟨Tryz.t236.desc,1,8,.nilFunc,[]⟩
def ti237 : TInfo := ⟨Tryz.t237.desc,1,8,.nilFunc,[]⟩
def ti238 : TInfo := ⟨Tryz.t238.desc,1,8,.nilFunc,[]⟩
def ti239 : TInfo := ⟨Tryz.t239.desc,1,8,.nilFunc,[]⟩
def ti240 : TInfo := ⟨Tryz.t240.desc,1,8,.nilFunc,[]⟩
def ti241 : TInfo := ⟨Tryz.t241.desc,1,8,.nilFunc,[]⟩
def ti242 : TInfo := ⟨Tryz.t242.desc,1,8,.nilFunc,[]⟩
def ti243 : TInfo := ⟨Tryz.t243.desc,1,8,.nilFunc,[]⟩
def ti244 : TInfo := ⟨Tryz.t244.desc,1,8,.nilFunc,[]⟩
def ti250 : TInfo := ⟨Tryz.t250.desc,1,8,.nilFunc,[]⟩
def ti254 : TInfo := ⟨Tryz.t254.desc,1,8,.pointer none,[]⟩
theorem ti1_ok : ti1.Ok Tryz.prog 1 := ⟨⟨Tryz.t1,by kernel_rfl,rfl,rfl,rfl⟩,Tryz.underlying1,fun h=>absurd rfl h⟩
theorem ti2_ok : ti2.Ok Tryz.prog 2 := ⟨⟨Tryz.t2,by kernel_rfl,rfl,rfl,rfl⟩,Tryz.underlying2,fun h=>absurd rfl h⟩
theorem ti3_ok : ti3.Ok Tryz.prog 3 := ⟨⟨Tryz.t3,by kernel_rfl,rfl,rfl,rfl⟩,Tryz.underlying3,fun h=>absurd rfl h⟩
theorem ti4_ok : ti4.Ok Tryz.prog 4 := ⟨⟨Tryz.t4,by kernel_rfl,rfl,rfl,rfl⟩,Tryz.underlying4,fun h=>absurd rfl h⟩
theorem ti5_ok : ti5.Ok Tryz.prog 5 := ⟨⟨Tryz.t5,by kernel_rfl,rfl,rfl,rfl⟩,Tryz.underlying5,fun h=>absurd rfl h⟩
theorem ti9_ok : ti9.Ok Tryz.prog 9 := ⟨⟨Tryz.t9,by kernel_rfl,rfl,rfl,rfl⟩,Tryz.underlying9,fun h=>absurd rfl h⟩
theorem ti20_ok : ti20.Ok Tryz.prog 20 := ⟨⟨Tryz.t20,by kernel_rfl,rfl,rfl,rfl⟩,Tryz.underlying20,fun h=>absurd rfl h⟩
theorem ti21_ok : ti21.Ok Tryz.prog 21 := ⟨⟨Tryz.t21,by kernel_rfl,rfl,rfl,rfl⟩,Tryz.underlying21,fun h=>absurd rfl h⟩
theorem ti22_ok : ti22.Ok Tryz.prog 22 := ⟨⟨Tryz.t22,by kernel_rfl,rfl,rfl,rfl⟩,Tryz.underlying22,fun h=>absurd rfl h⟩
theorem ti23_ok : ti23.Ok Tryz.prog 23 := ⟨⟨Tryz.t23,by kernel_rfl,rfl,rfl,rfl⟩,Tryz.underlying23,fun h=>absurd rfl h⟩
theorem ti24_ok : ti24.Ok Tryz.prog 24 := ⟨⟨Tryz.t24,by kernel_rfl,rfl,rfl,rfl⟩,Tryz.underlying24,fun h=>absurd rfl h⟩
theorem ti25_ok : ti25.Ok Tryz.prog 25 := ⟨⟨Tryz.t25,by kernel_rfl,rfl,rfl,rfl⟩,Tryz.underlying25,fun h=>absurd rfl h⟩
theorem ti26_ok : ti26.Ok Tryz.prog 26 := ⟨⟨Tryz.t26,by kernel_rfl,rfl,rfl,rfl⟩,Tryz.underlying26,fun h=>absurd rfl h⟩
theorem ti27_ok : ti27.Ok Tryz.prog 27 := ⟨⟨Tryz.t27,by kernel_rfl,rfl,rfl,rfl⟩,Tryz.underlying27,fun h=>absurd rfl h⟩
theorem ti28_ok : ti28.Ok Tryz.prog 28 := ⟨⟨Tryz.t28,by kernel_rfl,rfl,rfl,rfl⟩,Tryz.underlying28,fun h=>absurd rfl h⟩
theorem ti29_ok : ti29.Ok Tryz.prog 29 := ⟨⟨Tryz.t29,by kernel_rfl,rfl,rfl,rfl⟩,Tryz.underlying29,fun h=>absurd rfl h⟩
theorem ti30_ok : ti30.Ok Tryz.prog 30 := ⟨⟨Tryz.t30,by kernel_rfl,rfl,rfl,rfl⟩,Tryz.underlying30,fun h=>absurd rfl h⟩
theorem ti31_ok : ti31.Ok Tryz.prog 31 := ⟨⟨Tryz.t31,by kernel_rfl,rfl,rfl,rfl⟩,Tryz.underlying31,fun h=>absurd rfl h⟩
theorem ti32_ok : ti32.Ok Tryz.prog 32 := ⟨⟨Tryz.t32,by kernel_rfl,rfl,rfl,rfl⟩,Tryz.underlying32,fun h=>absurd rfl h⟩
theorem ti33_ok : ti33.Ok Tryz.prog 33 := ⟨⟨Tryz.t33,by kernel_rfl,rfl,rfl,rfl⟩,Tryz.underlying33,fun h=>absurd rfl h⟩
theorem ti34_ok : ti34.Ok Tryz.prog 34 := ⟨⟨Tryz.t34,by kernel_rfl,rfl,rfl,rfl⟩,Tryz.underlying34,fun h=>absurd rfl h⟩
theorem ti35_ok : ti35.Ok Tryz.prog 35 := ⟨⟨Tryz.t35,by kernel_rfl,rfl,rfl,rfl⟩,Tryz.underlying35,fun h=>absurd rfl h⟩
theorem ti36_ok : ti36.Ok Tryz.prog 36 := ⟨⟨Tryz.t36,by kernel_rfl,rfl,rfl,rfl⟩,Tryz.underlying36,fun h=>absurd rfl h⟩
theorem ti37_ok : ti37.Ok Tryz.prog 37 := ⟨⟨Tryz.t37,by kernel_rfl,rfl,rfl,rfl⟩,Tryz.underlying37,fun h=>absurd rfl h⟩
theorem ti38_ok : ti38.Ok Tryz.prog 38 := ⟨⟨Tryz.t38,by kernel_rfl,rfl,rfl,rfl⟩,Tryz.underlying38,fun h=>absurd rfl h⟩
theorem ti39_ok : ti39.Ok Tryz.prog 39 := ⟨⟨Tryz.t39,by kernel_rfl,rfl,rfl,rfl⟩,Tryz.underlying39,fun h=>absurd rfl h⟩
theorem ti40_ok : ti40.Ok Tryz.prog 40 := ⟨⟨Tryz.t40,by kernel_rfl,rfl,rfl,rfl⟩,Tryz.underlying40,fun h=>absurd rfl h⟩
theorem ti41_ok : ti41.Ok Tryz.prog 41 := ⟨⟨Tryz.t41,by kernel_rfl,rfl,rfl,rfl⟩,Tryz.underlying41,fun h=>absurd rfl h⟩
theorem ti42_ok : ti42.Ok Tryz.prog 42 := ⟨⟨Tryz.t42,by kernel_rfl,rfl,rfl,rfl⟩,Tryz.underlying42,fun h=>absurd rfl h⟩
theorem ti44_ok : ti44.Ok Tryz.prog 44 := ⟨⟨Tryz.t44,by kernel_rfl,rfl,rfl,rfl⟩,Tryz.underlying44,fun h=>absurd rfl h⟩
theorem ti45_ok : ti45.Ok Tryz.prog 45 := ⟨⟨Tryz.t45,by kernel_rfl,rfl,rfl,rfl⟩,Tryz.underlying45,fun h=>absurd rfl h⟩
theorem ti47_ok : ti47.Ok Tryz.prog 47 := ⟨⟨Tryz.t47,by kernel_rfl,rfl,rfl,rfl⟩,Tryz.underlying47,fun h=>absurd rfl h⟩
theorem ti48_ok : ti48.Ok Tryz.prog 48 := ⟨⟨Tryz.t48,by kernel_rfl,rfl,rfl,rfl⟩,Tryz.underlying48,fun h=>absurd rfl h⟩
theorem ti49_ok : ti49.Ok Tryz.prog 49 := ⟨⟨Tryz.t49,by kernel_rfl,rfl,rfl,rfl⟩,Tryz.underlying49,fun _=>⟨Tryz.stoodInHeld49,Tryz.eqGuardType49,by simp [dc,Program.fieldsOf,Tryz.underlying49,ti49],by kernel_rfl⟩⟩
theorem ti50_ok : ti50.Ok Tryz.prog 50 := ⟨⟨Tryz.t50,by kernel_rfl,rfl,rfl,rfl⟩,Tryz.underlying50,fun _=>⟨Tryz.stoodInHeld50,Tryz.eqGuardType50,by simp [dc,Program.fieldsOf,Tryz.underlying50,ti50],by kernel_rfl⟩⟩
theorem ti51_ok : ti51.Ok Tryz.prog 51 := ⟨⟨Tryz.t51,by kernel_rfl,rfl,rfl,rfl⟩,Tryz.underlying51,fun h=>absurd rfl h⟩
theorem ti52_ok : ti52.Ok Tryz.prog 52 := ⟨⟨Tryz.t52,by kernel_rfl,rfl,rfl,rfl⟩,Tryz.underlying52,fun _=>⟨Tryz.stoodInHeld52,Tryz.eqGuardType52,by simp [dc,Program.fieldsOf,Tryz.underlying52,ti52],by kernel_rfl⟩⟩
theorem ti53_ok : ti53.Ok Tryz.prog 53 := ⟨⟨Tryz.t53,by kernel_rfl,rfl,rfl,rfl⟩,Tryz.underlying53,fun _=>⟨Tryz.stoodInHeld53,Tryz.eqGuardType53,by simp [dc,Program.fieldsOf,Tryz.underlying53,ti53],by kernel_rfl⟩⟩
theorem ti54_ok : ti54.Ok Tryz.prog 54 := ⟨⟨Tryz.t54,by kernel_rfl,rfl,rfl,rfl⟩,Tryz.underlying54,fun h=>absurd rfl h⟩
theorem ti55_ok : ti55.Ok Tryz.prog 55 := ⟨⟨Tryz.t55,by kernel_rfl,rfl,rfl,rfl⟩,Tryz.underlying55,fun h=>absurd rfl h⟩
theorem ti56_ok : ti56.Ok Tryz.prog 56 := ⟨⟨Tryz.t56,by kernel_rfl,rfl,rfl,rfl⟩,Tryz.underlying56,fun h=>absurd rfl h⟩
theorem ti57_ok : ti57.Ok Tryz.prog 57 := ⟨⟨Tryz.t57,by kernel_rfl,rfl,rfl,rfl⟩,Tryz.underlying57,fun h=>absurd rfl h⟩
theorem ti58_ok : ti58.Ok Tryz.prog 58 := ⟨⟨Tryz.t58,by kernel_rfl,rfl,rfl,rfl⟩,Tryz.underlying58,fun h=>absurd rfl h⟩
theorem ti59_ok : ti59.Ok Tryz.prog 59 := ⟨⟨Tryz.t59,by kernel_rfl,rfl,rfl,rfl⟩,Tryz.underlying59,fun h=>absurd rfl h⟩
theorem ti60_ok : ti60.Ok Tryz.prog 60 := ⟨⟨Tryz.t60,by kernel_rfl,rfl,rfl,rfl⟩,Tryz.underlying60,fun h=>absurd rfl h⟩
theorem ti61_ok : ti61.Ok Tryz.prog 61 := ⟨⟨Tryz.t61,by kernel_rfl,rfl,rfl,rfl⟩,Tryz.underlying61,fun h=>absurd rfl h⟩
theorem ti62_ok : ti62.Ok Tryz.prog 62 := ⟨⟨Tryz.t62,by kernel_rfl,rfl,rfl,rfl⟩,Tryz.underlying62,fun h=>absurd rfl h⟩
theorem ti63_ok : ti63.Ok Tryz.prog 63 := ⟨⟨Tryz.t63,by kernel_rfl,rfl,rfl,rfl⟩,Tryz.underlying63,fun h=>absurd rfl h⟩
theorem ti64_ok : ti64.Ok Tryz.prog 64 := ⟨⟨Tryz.t64,by kernel_rfl,rfl,rfl,rfl⟩,Tryz.underlying64,fun h=>absurd rfl h⟩
theorem ti65_ok : ti65.Ok Tryz.prog 65 := ⟨⟨Tryz.t65,by kernel_rfl,rfl,rfl,rfl⟩,Tryz.underlying65,fun h=>absurd rfl h⟩
theorem ti66_ok : ti66.Ok Tryz.prog 66 := ⟨⟨Tryz.t66,by kernel_rfl,rfl,rfl,rfl⟩,Tryz.underlying66,fun h=>absurd rfl h⟩
theorem ti67_ok : ti67.Ok Tryz.prog 67 := ⟨⟨Tryz.t67,by kernel_rfl,rfl,rfl,rfl⟩,Tryz.underlying67,fun h=>absurd rfl h⟩
theorem ti68_ok : ti68.Ok Tryz.prog 68 := ⟨⟨Tryz.t68,by kernel_rfl,rfl,rfl,rfl⟩,Tryz.underlying68,fun h=>absurd rfl h⟩
theorem ti69_ok : ti69.Ok Tryz.prog 69 := ⟨⟨Tryz.t69,by kernel_rfl,rfl,rfl,rfl⟩,Tryz.underlying69,fun h=>absurd rfl h⟩
theorem ti70_ok : ti70.Ok Tryz.prog 70 := ⟨⟨Tryz.t70,by kernel_rfl,rfl,rfl,rfl⟩,Tryz.underlying70,fun h=>absurd rfl h⟩
theorem ti71_ok : ti71.Ok Tryz.prog 71 := ⟨⟨Tryz.t71,by kernel_rfl,rfl,rfl,rfl⟩,Tryz.underlying71,fun h=>absurd rfl h⟩
theorem ti72_ok : ti72.Ok Tryz.prog 72 := ⟨⟨Tryz.t72,by kernel_rfl,rfl,rfl,rfl⟩,Tryz.underlying72,fun h=>absurd rfl h⟩
theorem ti73_ok : ti73.Ok Tryz.prog 73 := ⟨⟨Tryz.t73,by kernel_rfl,rfl,rfl,rfl⟩,Tryz.underlying73,fun h=>absurd rfl h⟩
theorem ti74_ok : ti74.Ok Tryz.prog 74 := ⟨⟨Tryz.t74,by kernel_rfl,rfl,rfl,rfl⟩,Tryz.underlying74,fun h=>absurd rfl h⟩
theorem ti75_ok : ti75.Ok Tryz.prog 75 := ⟨⟨Tryz.t75,by kernel_rfl,rfl,rfl,rfl⟩,Tryz.underlying75,fun h=>absurd rfl h⟩
theorem ti76_ok : ti76.Ok Tryz.prog 76 := ⟨⟨Tryz.t76,by kernel_rfl,rfl,rfl,rfl⟩,Tryz.underlying76,fun h=>absurd rfl h⟩
theorem ti77_ok : ti77.Ok Tryz.prog 77 := ⟨⟨Tryz.t77,by kernel_rfl,rfl,rfl,rfl⟩,Tryz.underlying77,fun h=>absurd rfl h⟩
theorem ti78_ok : ti78.Ok Tryz.prog 78 := ⟨⟨Tryz.t78,by kernel_rfl,rfl,rfl,rfl⟩,Tryz.underlying78,fun h=>absurd rfl h⟩
theorem ti79_ok : ti79.Ok Tryz.prog 79 := ⟨⟨Tryz.t79,by kernel_rfl,rfl,rfl,rfl⟩,Tryz.underlying79,fun h=>absurd rfl h⟩
theorem ti80_ok : ti80.Ok Tryz.prog 80 := ⟨⟨Tryz.t80,by kernel_rfl,rfl,rfl,rfl⟩,Tryz.underlying80,fun h=>absurd rfl h⟩
theorem ti81_ok : ti81.Ok Tryz.prog 81 := ⟨⟨Tryz.t81,by kernel_rfl,rfl,rfl,rfl⟩,Tryz.underlying81,fun h=>absurd rfl h⟩
theorem ti82_ok : ti82.Ok Tryz.prog 82 := ⟨⟨Tryz.t82,by kernel_rfl,rfl,rfl,rfl⟩,Tryz.underlying82,fun h=>absurd rfl h⟩
theorem ti83_ok : ti83.Ok Tryz.prog 83 := ⟨⟨Tryz.t83,by kernel_rfl,rfl,rfl,rfl⟩,Tryz.underlying83,fun h=>absurd rfl h⟩
theorem ti84_ok : ti84.Ok Tryz.prog 84 := ⟨⟨Tryz.t84,by kernel_rfl,rfl,rfl,rfl⟩,Tryz.underlying84,fun h=>absurd rfl h⟩
theorem ti85_ok : ti85.Ok Tryz.prog 85 := ⟨⟨Tryz.t85,by kernel_rfl,rfl,rfl,rfl⟩,Tryz.underlying85,fun h=>absurd rfl h⟩
theorem ti86_ok : ti86.Ok Tryz.prog 86 := ⟨⟨Tryz.t86,by kernel_rfl,rfl,rfl,rfl⟩,Tryz.underlying86,fun h=>absurd rfl h⟩
theorem ti87_ok : ti87.Ok Tryz.prog 87 := ⟨⟨Tryz.t87,by kernel_rfl,rfl,rfl,rfl⟩,Tryz.underlying87,fun h=>absurd rfl h⟩
theorem ti88_ok : ti88.Ok Tryz.prog 88 := ⟨⟨Tryz.t88,by kernel_rfl,rfl,rfl,rfl⟩,Tryz.underlying88,fun h=>absurd rfl h⟩
theorem ti89_ok : ti89.Ok Tryz.prog 89 := ⟨⟨Tryz.t89,by kernel_rfl,rfl,rfl,rfl⟩,Tryz.underlying89,fun h=>absurd rfl h⟩
theorem ti90_ok : ti90.Ok Tryz.prog 90 := ⟨⟨Tryz.t90,by kernel_rfl,rfl,rfl,rfl⟩,Tryz.underlying90,fun h=>absurd rfl h⟩
theorem ti91_ok : ti91.Ok Tryz.prog 91 := ⟨⟨Tryz.t91,by kernel_rfl,rfl,rfl,rfl⟩,Tryz.underlying91,fun h=>absurd rfl h⟩
theorem ti93_ok : ti93.Ok Tryz.prog 93 := ⟨⟨Tryz.t93,by kernel_rfl,rfl,rfl,rfl⟩,Tryz.underlying93,fun h=>absurd rfl h⟩
theorem ti94_ok : ti94.Ok Tryz.prog 94 := ⟨⟨Tryz.t94,by kernel_rfl,rfl,rfl,rfl⟩,Tryz.underlying94,fun h=>absurd rfl h⟩
theorem ti95_ok : ti95.Ok Tryz.prog 95 := ⟨⟨Tryz.t95,by kernel_rfl,rfl,rfl,rfl⟩,Tryz.underlying95,fun h=>absurd rfl h⟩
theorem ti96_ok : ti96.Ok Tryz.prog 96 := ⟨⟨Tryz.t96,by kernel_rfl,rfl,rfl,rfl⟩,Tryz.underlying96,fun h=>absurd rfl h⟩
theorem ti97_ok : ti97.Ok Tryz.prog 97 := ⟨⟨Tryz.t97,by kernel_rfl,rfl,rfl,rfl⟩,Tryz.underlying97,fun h=>absurd rfl h⟩
theorem ti98_ok : ti98.Ok Tryz.prog 98 := ⟨⟨Tryz.t98,by kernel_rfl,rfl,rfl,rfl⟩,Tryz.underlying98,fun h=>absurd rfl h⟩
theorem ti99_ok : ti99.Ok Tryz.prog 99 := ⟨⟨Tryz.t99,by kernel_rfl,rfl,rfl,rfl⟩,Tryz.underlying99,fun h=>absurd rfl h⟩
theorem ti100_ok : ti100.Ok Tryz.prog 100 := ⟨⟨Tryz.t100,by kernel_rfl,rfl,rfl,rfl⟩,Tryz.underlying100,fun h=>absurd rfl h⟩
theorem ti101_ok : ti101.Ok Tryz.prog 101 := ⟨⟨Tryz.t101,by kernel_rfl,rfl,rfl,rfl⟩,Tryz.underlying101,fun h=>absurd rfl h⟩
theorem ti102_ok : ti102.Ok Tryz.prog 102 := ⟨⟨Tryz.t102,by kernel_rfl,rfl,rfl,rfl⟩,Tryz.underlying102,fun h=>absurd rfl h⟩
theorem ti103_ok : ti103.Ok Tryz.prog 103 := ⟨⟨Tryz.t103,by kernel_rfl,rfl,rfl,rfl⟩,Tryz.underlying103,fun h=>absurd rfl h⟩
theorem ti104_ok : ti104.Ok Tryz.prog 104 := ⟨⟨Tryz.t104,by kernel_rfl,rfl,rfl,rfl⟩,Tryz.underlying104,fun h=>absurd rfl h⟩
theorem ti105_ok : ti105.Ok Tryz.prog 105 := ⟨⟨Tryz.t105,by kernel_rfl,rfl,rfl,rfl⟩,Tryz.underlying105,fun h=>absurd rfl h⟩
theorem ti106_ok : ti106.Ok Tryz.prog 106 := ⟨⟨Tryz.t106,by kernel_rfl,rfl,rfl,rfl⟩,Tryz.underlying106,fun h=>absurd rfl h⟩
theorem ti107_ok : ti107.Ok Tryz.prog 107 := ⟨⟨Tryz.t107,by kernel_rfl,rfl,rfl,rfl⟩,Tryz.underlying107,fun h=>absurd rfl h⟩
theorem ti108_ok : ti108.Ok Tryz.prog 108 := ⟨⟨Tryz.t108,by kernel_rfl,rfl,rfl,rfl⟩,Tryz.underlying108,fun h=>absurd rfl h⟩
theorem ti109_ok : ti109.Ok Tryz.prog 109 := ⟨⟨Tryz.t109,by kernel_rfl,rfl,rfl,rfl⟩,Tryz.underlying109,fun h=>absurd rfl h⟩
theorem ti110_ok : ti110.Ok Tryz.prog 110 := ⟨⟨Tryz.t110,by kernel_rfl,rfl,rfl,rfl⟩,Tryz.underlying110,fun h=>absurd rfl h⟩
theorem ti111_ok : ti111.Ok Tryz.prog 111 := ⟨⟨Tryz.t111,by kernel_rfl,rfl,rfl,rfl⟩,Tryz.underlying111,fun h=>absurd rfl h⟩
theorem ti112_ok : ti112.Ok Tryz.prog 112 := ⟨⟨Tryz.t112,by kernel_rfl,rfl,rfl,rfl⟩,Tryz.underlying112,fun h=>absurd rfl h⟩
theorem ti113_ok : ti113.Ok Tryz.prog 113 := ⟨⟨Tryz.t113,by kernel_rfl,rfl,rfl,rfl⟩,Tryz.underlying113,fun h=>absurd rfl h⟩
theorem ti114_ok : ti114.Ok Tryz.prog 114 := ⟨⟨Tryz.t114,by kernel_rfl,rfl,rfl,rfl⟩,Tryz.underlying114,fun h=>absurd rfl h⟩
theorem ti115_ok : ti115.Ok Tryz.prog 115 := ⟨⟨Tryz.t115,by kernel_rfl,rfl,rfl,rfl⟩,Tryz.underlying115,fun h=>absurd rfl h⟩
theorem ti116_ok : ti116.Ok Tryz.prog 116 := ⟨⟨Tryz.t116,by kernel_rfl,rfl,rfl,rfl⟩,Tryz.underlying116,fun h=>absurd rfl h⟩
theorem ti117_ok : ti117.Ok Tryz.prog 117 := ⟨⟨Tryz.t117,by kernel_rfl,rfl,rfl,rfl⟩,Tryz.underlying117,fun h=>absurd rfl h⟩
theorem ti118_ok : ti118.Ok Tryz.prog 118 := ⟨⟨Tryz.t118,by kernel_rfl,rfl,rfl,rfl⟩,Tryz.underlying118,fun h=>absurd rfl h⟩
theorem ti119_ok : ti119.Ok Tryz.prog 119 := ⟨⟨Tryz.t119,by kernel_rfl,rfl,rfl,rfl⟩,Tryz.underlying119,fun h=>absurd rfl h⟩
theorem ti120_ok : ti120.Ok Tryz.prog 120 := ⟨⟨Tryz.t120,by kernel_rfl,rfl,rfl,rfl⟩,Tryz.underlying120,fun h=>absurd rfl h⟩
theorem ti121_ok : ti121.Ok Tryz.prog 121 := ⟨⟨Tryz.t121,by kernel_rfl,rfl,rfl,rfl⟩,Tryz.underlying121,fun h=>absurd rfl h⟩
theorem ti122_ok : ti122.Ok Tryz.prog 122 := ⟨⟨Tryz.t122,by kernel_rfl,rfl,rfl,rfl⟩,Tryz.underlying122,fun h=>absurd rfl h⟩
theorem ti123_ok : ti123.Ok Tryz.prog 123 := ⟨⟨Tryz.t123,by kernel_rfl,rfl,rfl,rfl⟩,Tryz.underlying123,fun h=>absurd rfl h⟩
theorem ti125_ok : ti125.Ok Tryz.prog 125 := ⟨⟨Tryz.t125,by kernel_rfl,rfl,rfl,rfl⟩,Tryz.underlying125,fun h=>absurd rfl h⟩
theorem ti126_ok : ti126.Ok Tryz.prog 126 := ⟨⟨Tryz.t126,by kernel_rfl,rfl,rfl,rfl⟩,Tryz.underlying126,fun h=>absurd rfl h⟩
theorem ti127_ok : ti127.Ok Tryz.prog 127 := ⟨⟨Tryz.t127,by kernel_rfl,rfl,rfl,rfl⟩,Tryz.underlying127,fun h=>absurd rfl h⟩
theorem ti128_ok : ti128.Ok Tryz.prog 128 := ⟨⟨Tryz.t128,by kernel_rfl,rfl,rfl,rfl⟩,Tryz.underlying128,fun h=>absurd rfl h⟩
theorem ti129_ok : ti129.Ok Tryz.prog 129 := ⟨⟨Tryz.t129,by kernel_rfl,rfl,rfl,rfl⟩,Tryz.underlying129,fun h=>absurd rfl h⟩
theorem ti130_ok : ti130.Ok Tryz.prog 130 := ⟨⟨Tryz.t130,by kernel_rfl,rfl,rfl,rfl⟩,Tryz.underlying130,fun h=>absurd rfl h⟩
theorem ti131_ok : ti131.Ok Tryz.prog 131 := ⟨⟨Tryz.t131,by kernel_rfl,rfl,rfl,rfl⟩,Tryz.underlying131,fun h=>absurd rfl h⟩
theorem ti132_ok : ti132.Ok Tryz.prog 132 := ⟨⟨Tryz.t132,by kernel_rfl,rfl,rfl,rfl⟩,Tryz.underlying132,fun h=>absurd rfl h⟩
theorem ti133_ok : ti133.Ok Tryz.prog 133 := ⟨⟨Tryz.t133,by kernel_rfl,rfl,rfl,rfl⟩,Tryz.underlying133,fun h=>absurd rfl h⟩
theorem ti134_ok : ti134.Ok Tryz.prog 134 := ⟨⟨Tryz.t134,by kernel_rfl,rfl,rfl,rfl⟩,Tryz.underlying134,fun h=>absurd rfl h⟩
theorem ti135_ok : ti135.Ok Tryz.prog 135 := ⟨⟨Tryz.t135,by kernel_rfl,rfl,rfl,rfl⟩,Tryz.underlying135,fun h=>absurd rfl h⟩
theorem ti136_ok : ti136.Ok Tryz.prog 136 := ⟨⟨Tryz.t136,by kernel_rfl,rfl,rfl,rfl⟩,Tryz.underlying136,fun h=>absurd rfl h⟩
theorem ti137_ok : ti137.Ok Tryz.prog 137 := ⟨⟨Tryz.t137,by kernel_rfl,rfl,rfl,rfl⟩,Tryz.underlying137,fun h=>absurd rfl h⟩
theorem ti138_ok : ti138.Ok Tryz.prog 138 := ⟨⟨Tryz.t138,by kernel_rfl,rfl,rfl,rfl⟩,Tryz.underlying138,fun h=>absurd rfl h⟩
theorem ti139_ok : ti139.Ok Tryz.prog 139 := ⟨⟨Tryz.t139,by kernel_rfl,rfl,rfl,rfl⟩,Tryz.underlying139,fun h=>absurd rfl h⟩
theorem ti140_ok : ti140.Ok Tryz.prog 140 := ⟨⟨Tryz.t140,by kernel_rfl,rfl,rfl,rfl⟩,Tryz.underlying140,fun h=>absurd rfl h⟩
theorem ti141_ok : ti141.Ok Tryz.prog 141 := ⟨⟨Tryz.t141,by kernel_rfl,rfl,rfl,rfl⟩,Tryz.underlying141,fun h=>absurd rfl h⟩
theorem ti142_ok : ti142.Ok Tryz.prog 142 := ⟨⟨Tryz.t142,by kernel_rfl,rfl,rfl,rfl⟩,Tryz.underlying142,fun h=>absurd rfl h⟩
theorem ti143_ok : ti143.Ok Tryz.prog 143 := ⟨⟨Tryz.t143,by kernel_rfl,rfl,rfl,rfl⟩,Tryz.underlying143,fun h=>absurd rfl h⟩
theorem ti144_ok : ti144.Ok Tryz.prog 144 := ⟨⟨Tryz.t144,by kernel_rfl,rfl,rfl,rfl⟩,Tryz.underlying144,fun h=>absurd rfl h⟩
theorem ti145_ok : ti145.Ok Tryz.prog 145 := ⟨⟨Tryz.t145,by kernel_rfl,rfl,rfl,rfl⟩,Tryz.underlying145,fun h=>absurd rfl h⟩
theorem ti146_ok : ti146.Ok Tryz.prog 146 := ⟨⟨Tryz.t146,by kernel_rfl,rfl,rfl,rfl⟩,Tryz.underlying146,fun h=>absurd rfl h⟩
theorem ti147_ok : ti147.Ok Tryz.prog 147 := ⟨⟨Tryz.t147,by kernel_rfl,rfl,rfl,rfl⟩,Tryz.underlying147,fun h=>absurd rfl h⟩
theorem ti148_ok : ti148.Ok Tryz.prog 148 := ⟨⟨Tryz.t148,by kernel_rfl,rfl,rfl,rfl⟩,Tryz.underlying148,fun h=>absurd rfl h⟩
theorem ti149_ok : ti149.Ok Tryz.prog 149 := ⟨⟨Tryz.t149,by kernel_rfl,rfl,rfl,rfl⟩,Tryz.underlying149,fun h=>absurd rfl h⟩
theorem ti150_ok : ti150.Ok Tryz.prog 150 := ⟨⟨Tryz.t150,by kernel_rfl,rfl,rfl,rfl⟩,Tryz.underlying150,fun h=>absurd rfl h⟩
theorem ti151_ok : ti151.Ok Tryz.prog 151 := ⟨⟨Tryz.t151,by kernel_rfl,rfl,rfl,rfl⟩,Tryz.underlying151,fun h=>absurd rfl h⟩
theorem ti152_ok : ti152.Ok Tryz.prog 152 := ⟨⟨Tryz.t152,by kernel_rfl,rfl,rfl,rfl⟩,Tryz.underlying152,fun h=>absurd rfl h⟩
theorem ti153_ok : ti153.Ok Tryz.prog 153 := ⟨⟨Tryz.t153,by kernel_rfl,rfl,rfl,rfl⟩,Tryz.underlying153,fun h=>absurd rfl h⟩
theorem ti154_ok : ti154.Ok Tryz.prog 154 := ⟨⟨Tryz.t154,by kernel_rfl,rfl,rfl,rfl⟩,Tryz.underlying154,fun h=>absurd rfl h⟩
theorem ti155_ok : ti155.Ok Tryz.prog 155 := ⟨⟨Tryz.t155,by kernel_rfl,rfl,rfl,rfl⟩,Tryz.underlying155,fun h=>absurd rfl h⟩
theorem ti157_ok : ti157.Ok Tryz.prog 157 := ⟨⟨Tryz.t157,by kernel_rfl,rfl,rfl,rfl⟩,Tryz.underlying157,fun h=>absurd rfl h⟩
theorem ti158_ok : ti158.Ok Tryz.prog 158 := ⟨⟨Tryz.t158,by kernel_rfl,rfl,rfl,rfl⟩,Tryz.underlying158,fun h=>absurd rfl h⟩
theorem ti159_ok : ti159.Ok Tryz.prog 159 := ⟨⟨Tryz.t159,by kernel_rfl,rfl,rfl,rfl⟩,Tryz.underlying159,fun h=>absurd rfl h⟩
theorem ti160_ok : ti160.Ok Tryz.prog 160 := ⟨⟨Tryz.t160,by kernel_rfl,rfl,rfl,rfl⟩,Tryz.underlying160,fun h=>absurd rfl h⟩
theorem ti161_ok : ti161.Ok Tryz.prog 161 := ⟨⟨Tryz.t161,by kernel_rfl,rfl,rfl,rfl⟩,Tryz.underlying161,fun h=>absurd rfl h⟩
theorem ti162_ok : ti162.Ok Tryz.prog 162 := ⟨⟨Tryz.t162,by kernel_rfl,rfl,rfl,rfl⟩,Tryz.underlying162,fun h=>absurd rfl h⟩
theorem ti163_ok : ti163.Ok Tryz.prog 163 := ⟨⟨Tryz.t163,by kernel_rfl,rfl,rfl,rfl⟩,Tryz.underlying163,fun h=>absurd rfl h⟩
theorem ti165_ok : ti165.Ok Tryz.prog 165 := ⟨⟨Tryz.t165,by kernel_rfl,rfl,rfl,rfl⟩,Tryz.underlying165,fun h=>absurd rfl h⟩
theorem ti166_ok : ti166.Ok Tryz.prog 166 := ⟨⟨Tryz.t166,by kernel_rfl,rfl,rfl,rfl⟩,Tryz.underlying166,fun h=>absurd rfl h⟩
theorem ti167_ok : ti167.Ok Tryz.prog 167 := ⟨⟨Tryz.t167,by kernel_rfl,rfl,rfl,rfl⟩,Tryz.underlying167,fun h=>absurd rfl h⟩
theorem ti169_ok : ti169.Ok Tryz.prog 169 := ⟨⟨Tryz.t169,by kernel_rfl,rfl,rfl,rfl⟩,Tryz.underlying169,fun h=>absurd rfl h⟩
theorem ti170_ok : ti170.Ok Tryz.prog 170 := ⟨⟨Tryz.t170,by kernel_rfl,rfl,rfl,rfl⟩,Tryz.underlying170,fun h=>absurd rfl h⟩
theorem ti171_ok : ti171.Ok Tryz.prog 171 := ⟨⟨Tryz.t171,by kernel_rfl,rfl,rfl,rfl⟩,Tryz.underlying171,fun h=>absurd rfl h⟩
theorem ti172_ok : ti172.Ok Tryz.prog 172 := ⟨⟨Tryz.t172,by kernel_rfl,rfl,rfl,rfl⟩,Tryz.underlying172,fun h=>absurd rfl h⟩
theorem ti173_ok : ti173.Ok Tryz.prog 173 := ⟨⟨Tryz.t173,by kernel_rfl,rfl,rfl,rfl⟩,Tryz.underlying173,fun h=>absurd rfl h⟩
theorem ti174_ok : ti174.Ok Tryz.prog 174 := ⟨⟨Tryz.t174,by kernel_rfl,rfl,rfl,rfl⟩,Tryz.underlying174,fun h=>absurd rfl h⟩
theorem ti175_ok : ti175.Ok Tryz.prog 175 := ⟨⟨Tryz.t175,by kernel_rfl,rfl,rfl,rfl⟩,Tryz.underlying175,fun h=>absurd rfl h⟩
theorem ti176_ok : ti176.Ok Tryz.prog 176 := ⟨⟨Tryz.t176,by kernel_rfl,rfl,rfl,rfl⟩,Tryz.underlying176,fun h=>absurd rfl h⟩
theorem ti177_ok : ti177.Ok Tryz.prog 177 := ⟨⟨Tryz.t177,by kernel_rfl,rfl,rfl,rfl⟩,Tryz.underlying177,fun h=>absurd rfl h⟩
theorem ti178_ok : ti178.Ok Tryz.prog 178 := ⟨⟨Tryz.t178,by kernel_rfl,rfl,rfl,rfl⟩,Tryz.underlying178,fun h=>absurd rfl h⟩
theorem ti179_ok : ti179.Ok Tryz.prog 179 := ⟨⟨Tryz.t179,by kernel_rfl,rfl,rfl,rfl⟩,Tryz.underlying179,fun h=>absurd rfl h⟩
theorem ti180_ok : ti180.Ok Tryz.prog 180 := ⟨⟨Tryz.t180,by kernel_rfl,rfl,rfl,rfl⟩,Tryz.underlying180,fun h=>absurd rfl h⟩
theorem ti181_ok : ti181.Ok Tryz.prog 181 := ⟨⟨Tryz.t181,by kernel_rfl,rfl,rfl,rfl⟩,Tryz.underlying181,fun h=>absurd rfl h⟩
theorem ti182_ok : ti182.Ok Tryz.prog 182 := ⟨⟨Tryz.t182,by kernel_rfl,rfl,rfl,rfl⟩,Tryz.underlying182,fun h=>absurd rfl h⟩
theorem ti183_ok : ti183.Ok Tryz.prog 183 := ⟨⟨Tryz.t183,by kernel_rfl,rfl,rfl,rfl⟩,Tryz.underlying183,fun h=>absurd rfl h⟩
theorem ti184_ok : ti184.Ok Tryz.prog 184 := ⟨⟨Tryz.t184,by kernel_rfl,rfl,rfl,rfl⟩,Tryz.underlying184,fun h=>absurd rfl h⟩
theorem ti185_ok : ti185.Ok Tryz.prog 185 := ⟨⟨Tryz.t185,by kernel_rfl,rfl,rfl,rfl⟩,Tryz.underlying185,fun h=>absurd rfl h⟩
theorem ti186_ok : ti186.Ok Tryz.prog 186 := ⟨⟨Tryz.t186,by kernel_rfl,rfl,rfl,rfl⟩,Tryz.underlying186,fun h=>absurd rfl h⟩
theorem ti187_ok : ti187.Ok Tryz.prog 187 := ⟨⟨Tryz.t187,by kernel_rfl,rfl,rfl,rfl⟩,Tryz.underlying187,fun h=>absurd rfl h⟩
theorem ti188_ok : ti188.Ok Tryz.prog 188 := ⟨⟨Tryz.t188,by kernel_rfl,rfl,rfl,rfl⟩,Tryz.underlying188,fun h=>absurd rfl h⟩
theorem ti189_ok : ti189.Ok Tryz.prog 189 := ⟨⟨Tryz.t189,by kernel_rfl,rfl,rfl,rfl⟩,Tryz.underlying189,fun h=>absurd rfl h⟩
theorem ti190_ok : ti190.Ok Tryz.prog 190 := ⟨⟨Tryz.t190,by kernel_rfl,rfl,rfl,rfl⟩,Tryz.underlying190,fun h=>absurd rfl h⟩
theorem ti191_ok : ti191.Ok Tryz.prog 191 := ⟨⟨Tryz.t191,by kernel_rfl,rfl,rfl,rfl⟩,Tryz.underlying191,fun h=>absurd rfl h⟩
theorem ti193_ok : ti193.Ok Tryz.prog 193 := ⟨⟨Tryz.t193,by kernel_rfl,rfl,rfl,rfl⟩,Tryz.underlying193,fun h=>absurd rfl h⟩
theorem ti194_ok : ti194.Ok Tryz.prog 194 := ⟨⟨Tryz.t194,by kernel_rfl,rfl,rfl,rfl⟩,Tryz.underlying194,fun h=>absurd rfl h⟩
theorem ti195_ok : ti195.Ok Tryz.prog 195 := ⟨⟨Tryz.t195,by kernel_rfl,rfl,rfl,rfl⟩,Tryz.underlying195,fun h=>absurd rfl h⟩
theorem ti196_ok : ti196.Ok Tryz.prog 196 := ⟨⟨Tryz.t196,by kernel_rfl,rfl,rfl,rfl⟩,Tryz.underlying196,fun h=>absurd rfl h⟩
theorem ti197_ok : ti197.Ok Tryz.prog 197 := ⟨⟨Tryz.t197,by kernel_rfl,rfl,rfl,rfl⟩,Tryz.underlying197,fun h=>absurd rfl h⟩
theorem ti198_ok : ti198.Ok Tryz.prog 198 := ⟨⟨Tryz.t198,by kernel_rfl,rfl,rfl,rfl⟩,Tryz.underlying198,fun h=>absurd rfl h⟩
theorem ti199_ok : ti199.Ok Tryz.prog 199 := ⟨⟨Tryz.t199,by kernel_rfl,rfl,rfl,rfl⟩,Tryz.underlying199,fun h=>absurd rfl h⟩
theorem ti200_ok : ti200.Ok Tryz.prog 200 := ⟨⟨Tryz.t200,by kernel_rfl,rfl,rfl,rfl⟩,Tryz.underlying200,fun h=>absurd rfl h⟩
theorem ti201_ok : ti201.Ok Tryz.prog 201 := ⟨⟨Tryz.t201,by kernel_rfl,rfl,rfl,rfl⟩,Tryz.underlying201,fun h=>absurd rfl h⟩
theorem ti202_ok : ti202.Ok Tryz.prog 202 := ⟨⟨Tryz.t202,by kernel_rfl,rfl,rfl,rfl⟩,Tryz.underlying202,fun h=>absurd rfl h⟩
theorem ti203_ok : ti203.Ok Tryz.prog 203 := ⟨⟨Tryz.t203,by kernel_rfl,rfl,rfl,rfl⟩,Tryz.underlying203,fun h=>absurd rfl h⟩
theorem ti205_ok : ti205.Ok Tryz.prog 205 := ⟨⟨Tryz.t205,by kernel_rfl,rfl,rfl,rfl⟩,Tryz.underlying205,fun h=>absurd rfl h⟩
theorem ti206_ok : ti206.Ok Tryz.prog 206 := ⟨⟨Tryz.t206,by kernel_rfl,rfl,rfl,rfl⟩,Tryz.underlying206,fun h=>absurd rfl h⟩
theorem ti207_ok : ti207.Ok Tryz.prog 207 := ⟨⟨Tryz.t207,by kernel_rfl,rfl,rfl,rfl⟩,Tryz.underlying207,fun h=>absurd rfl h⟩
theorem ti208_ok : ti208.Ok Tryz.prog 208 := ⟨⟨Tryz.t208,by kernel_rfl,rfl,rfl,rfl⟩,Tryz.underlying208,fun h=>absurd rfl h⟩
theorem ti209_ok : ti209.Ok Tryz.prog 209 := ⟨⟨Tryz.t209,by kernel_rfl,rfl,rfl,rfl⟩,Tryz.underlying209,fun h=>absurd rfl h⟩
theorem ti210_ok : ti210.Ok Tryz.prog 210 := ⟨⟨Tryz.t210,by kernel_rfl,rfl,rfl,rfl⟩,Tryz.underlying210,fun h=>absurd rfl h⟩
theorem ti211_ok : ti211.Ok Tryz.prog 211 := ⟨⟨Tryz.t211,by kernel_rfl,rfl,rfl,rfl⟩,Tryz.underlying211,fun h=>absurd rfl h⟩
theorem ti212_ok : ti212.Ok Tryz.prog 212 := ⟨⟨Tryz.t212,by kernel_rfl,rfl,rfl,rfl⟩,Tryz.underlying212,fun h=>absurd rfl h⟩
theorem ti213_ok : ti213.Ok Tryz.prog 213 := ⟨⟨Tryz.t213,by kernel_rfl,rfl,rfl,rfl⟩,Tryz.underlying213,fun h=>absurd rfl h⟩
theorem ti214_ok : ti214.Ok Tryz.prog 214 := ⟨⟨Tryz.t214,by kernel_rfl,rfl,rfl,rfl⟩,Tryz.underlying214,fun h=>absurd rfl h⟩
theorem ti215_ok : ti215.Ok Tryz.prog 215 := ⟨⟨Tryz.t215,by kernel_rfl,rfl,rfl,rfl⟩,Tryz.underlying215,fun h=>absurd rfl h⟩
theorem ti216_ok : ti216.Ok Tryz.prog 216 := ⟨⟨Tryz.t216,by kernel_rfl,rfl,rfl,rfl⟩,Tryz.underlying216,fun h=>absurd rfl h⟩
theorem ti217_ok : ti217.Ok Tryz.prog 217 := ⟨⟨Tryz.t217,by kernel_rfl,rfl,rfl,rfl⟩,Tryz.underlying217,fun h=>absurd rfl h⟩
theorem ti218_ok : ti218.Ok Tryz.prog 218 := ⟨⟨Tryz.t218,by kernel_rfl,rfl,rfl,rfl⟩,Tryz.underlying218,fun h=>absurd rfl h⟩
theorem ti220_ok : ti220.Ok Tryz.prog 220 := ⟨⟨Tryz.t220,by kernel_rfl,rfl,rfl,rfl⟩,Tryz.underlying220,fun h=>absurd rfl h⟩
theorem ti221_ok : ti221.Ok Tryz.prog 221 := ⟨⟨Tryz.t221,by kernel_rfl,rfl,rfl,rfl⟩,Tryz.underlying221,fun h=>absurd rfl h⟩
theorem ti222_ok : ti222.Ok Tryz.prog 222 := ⟨⟨Tryz.t222,by kernel_rfl,rfl,rfl,rfl⟩,Tryz.underlying222,fun h=>absurd rfl h⟩
theorem ti223_ok : ti223.Ok Tryz.prog 223 := ⟨⟨Tryz.t223,by kernel_rfl,rfl,rfl,rfl⟩,Tryz.underlying223,fun h=>absurd rfl h⟩
theorem ti224_ok : ti224.Ok Tryz.prog 224 := ⟨⟨Tryz.t224,by kernel_rfl,rfl,rfl,rfl⟩,Tryz.underlying224,fun h=>absurd rfl h⟩
theorem ti225_ok : ti225.Ok Tryz.prog 225 := ⟨⟨Tryz.t225,by kernel_rfl,rfl,rfl,rfl⟩,Tryz.underlying225,fun h=>absurd rfl h⟩
theorem ti227_ok : ti227.Ok Tryz.prog 227 := ⟨⟨Tryz.t227,by kernel_rfl,rfl,rfl,rfl⟩,Tryz.underlying227,fun h=>absurd rfl h⟩
theorem ti228_ok : ti228.Ok Tryz.prog 228 := ⟨⟨Tryz.t228,by kernel_rfl,rfl,rfl,rfl⟩,Tryz.underlying228,fun h=>absurd rfl h⟩
theorem ti229_ok : ti229.Ok Tryz.prog 229 := ⟨⟨Tryz.t229,by kernel_rfl,rfl,rfl,rfl⟩,Tryz.underlying229,fun h=>absurd rfl h⟩
theorem ti230_ok : ti230.Ok Tryz.prog 230 := ⟨⟨Tryz.t230,by kernel_rfl,rfl,rfl,rfl⟩,Tryz.underlying230,fun h=>absurd rfl h⟩
theorem ti231_ok : ti231.Ok Tryz.prog 231 := ⟨⟨Tryz.t231,by kernel_rfl,rfl,rfl,rfl⟩,Tryz.underlying231,fun h=>absurd rfl h⟩
theorem ti232_ok : ti232.Ok Tryz.prog 232 := ⟨⟨Tryz.t232,by kernel_rfl,rfl,rfl,rfl⟩,Tryz.underlying232,fun h=>absurd rfl h⟩
theorem ti233_ok : ti233.Ok Tryz.prog 233 := ⟨⟨Tryz.t233,by kernel_rfl,rfl,rfl,rfl⟩,Tryz.underlying233,fun h=>absurd rfl h⟩
theorem ti235_ok : ti235.Ok Tryz.prog 235 := ⟨⟨Tryz.t235,by kernel_rfl,rfl,rfl,rfl⟩,Tryz.underlying235,fun h=>absurd rfl h⟩
theorem ti236_ok : ti236.Ok Tryz.prog 236 := ⟨⟨Tryz.t236,by kernel_rfl,rfl,rfl,rfl⟩,Tryz.underlying236,fun h=>absurd rfl h⟩
theorem ti237_ok : ti237.Ok Tryz.prog 237 := ⟨⟨Tryz.t237,by kernel_rfl,rfl,rfl,rfl⟩,Tryz.underlying237,fun h=>absurd rfl h⟩
theorem ti238_ok : ti238.Ok Tryz.prog 238 := ⟨⟨Tryz.t238,by kernel_rfl,rfl,rfl,rfl⟩,Tryz.underlying238,fun h=>absurd rfl h⟩
theorem ti239_ok : ti239.Ok Tryz.prog 239 := ⟨⟨Tryz.t239,by kernel_rfl,rfl,rfl,rfl⟩,Tryz.underlying239,fun h=>absurd rfl h⟩
theorem ti240_ok : ti240.Ok Tryz.prog 240 := ⟨⟨Tryz.t240,by kernel_rfl,rfl,rfl,rfl⟩,Tryz.underlying240,fun h=>absurd rfl h⟩
theorem ti241_ok : ti241.Ok Tryz.prog 241 := ⟨⟨Tryz.t241,by kernel_rfl,rfl,rfl,rfl⟩,Tryz.underlying241,fun h=>absurd rfl h⟩
theorem ti242_ok : ti242.Ok Tryz.prog 242 := ⟨⟨Tryz.t242,by kernel_rfl,rfl,rfl,rfl⟩,Tryz.underlying242,fun h=>absurd rfl h⟩
theorem ti243_ok : ti243.Ok Tryz.prog 243 := ⟨⟨Tryz.t243,by kernel_rfl,rfl,rfl,rfl⟩,Tryz.underlying243,fun h=>absurd rfl h⟩
theorem ti244_ok : ti244.Ok Tryz.prog 244 := ⟨⟨Tryz.t244,by kernel_rfl,rfl,rfl,rfl⟩,Tryz.underlying244,fun h=>absurd rfl h⟩
theorem ti250_ok : ti250.Ok Tryz.prog 250 := ⟨⟨Tryz.t250,by kernel_rfl,rfl,rfl,rfl⟩,Tryz.underlying250,fun h=>absurd rfl h⟩
theorem ti254_ok : ti254.Ok Tryz.prog 254 := ⟨⟨Tryz.t254,by kernel_rfl,rfl,rfl,rfl⟩,Tryz.underlying254,fun h=>absurd rfl h⟩
def tt : TT := (.node 128 ti128 (.node 71 ti71 (.node 41 ti41 (.node 27 ti27 (.node 20 ti20 (.node 4 ti4 (.node 2 ti2 (.node 1 ti1 .leaf .leaf) (.node 3 ti3 .leaf .leaf)) (.node 9 ti9 (.node 5 ti5 .leaf .leaf) .leaf)) (.node 24 ti24 (.node 22 ti22 (.node 21 ti21 .leaf .leaf) (.node 23 ti23 .leaf .leaf)) (.node 26 ti26 (.node 25 ti25 .leaf .leaf) .leaf))) (.node 34 ti34 (.node 31 ti31 (.node 29 ti29 (.node 28 ti28 .leaf .leaf) (.node 30 ti30 .leaf .leaf)) (.node 33 ti33 (.node 32 ti32 .leaf .leaf) .leaf)) (.node 38 ti38 (.node 36 ti36 (.node 35 ti35 .leaf .leaf) (.node 37 ti37 .leaf .leaf)) (.node 40 ti40 (.node 39 ti39 .leaf .leaf) .leaf)))) (.node 57 ti57 (.node 50 ti50 (.node 47 ti47 (.node 44 ti44 (.node 42 ti42 .leaf .leaf) (.node 45 ti45 .leaf .leaf)) (.node 49 ti49 (.node 48 ti48 .leaf .leaf) .leaf)) (.node 54 ti54 (.node 52 ti52 (.node 51 ti51 .leaf .leaf) (.node 53 ti53 .leaf .leaf)) (.node 56 ti56 (.node 55 ti55 .leaf .leaf) .leaf))) (.node 64 ti64 (.node 61 ti61 (.node 59 ti59 (.node 58 ti58 .leaf .leaf) (.node 60 ti60 .leaf .leaf)) (.node 63 ti63 (.node 62 ti62 .leaf .leaf) .leaf)) (.node 68 ti68 (.node 66 ti66 (.node 65 ti65 .leaf .leaf) (.node 67 ti67 .leaf .leaf)) (.node 70 ti70 (.node 69 ti69 .leaf .leaf) .leaf))))) (.node 100 ti100 (.node 85 ti85 (.node 78 ti78 (.node 75 ti75 (.node 73 ti73 (.node 72 ti72 .leaf .leaf) (.node 74 ti74 .leaf .leaf)) (.node 77 ti77 (.node 76 ti76 .leaf .leaf) .leaf)) (.node 82 ti82 (.node 80 ti80 (.node 79 ti79 .leaf .leaf) (.node 81 ti81 .leaf .leaf)) (.node 84 ti84 (.node 83 ti83 .leaf .leaf) .leaf))) (.node 93 ti93 (.node 89 ti89 (.node 87 ti87 (.node 86 ti86 .leaf .leaf) (.node 88 ti88 .leaf .leaf)) (.node 91 ti91 (.node 90 ti90 .leaf .leaf) .leaf)) (.node 97 ti97 (.node 95 ti95 (.node 94 ti94 .leaf .leaf) (.node 96 ti96 .leaf .leaf)) (.node 99 ti99 (.node 98 ti98 .leaf .leaf) .leaf)))) (.node 114 ti114 (.node 107 ti107 (.node 104 ti104 (.node 102 ti102 (.node 101 ti101 .leaf .leaf) (.node 103 ti103 .leaf .leaf)) (.node 106 ti106 (.node 105 ti105 .leaf .leaf) .leaf)) (.node 111 ti111 (.node 109 ti109 (.node 108 ti108 .leaf .leaf) (.node 110 ti110 .leaf .leaf)) (.node 113 ti113 (.node 112 ti112 .leaf .leaf) .leaf))) (.node 121 ti121 (.node 118 ti118 (.node 116 ti116 (.node 115 ti115 .leaf .leaf) (.node 117 ti117 .leaf .leaf)) (.node 120 ti120 (.node 119 ti119 .leaf .leaf) .leaf)) (.node 125 ti125 (.node 123 ti123 (.node 122 ti122 .leaf .leaf) .leaf) (.node 127 ti127 (.node 126 ti126 .leaf .leaf) .leaf)))))) (.node 187 ti187 (.node 157 ti157 (.node 142 ti142 (.node 135 ti135 (.node 132 ti132 (.node 130 ti130 (.node 129 ti129 .leaf .leaf) (.node 131 ti131 .leaf .leaf)) (.node 134 ti134 (.node 133 ti133 .leaf .leaf) .leaf)) (.node 139 ti139 (.node 137 ti137 (.node 136 ti136 .leaf .leaf) (.node 138 ti138 .leaf .leaf)) (.node 141 ti141 (.node 140 ti140 .leaf .leaf) .leaf))) (.node 149 ti149 (.node 146 ti146 (.node 144 ti144 (.node 143 ti143 .leaf .leaf) (.node 145 ti145 .leaf .leaf)) (.node 148 ti148 (.node 147 ti147 .leaf .leaf) .leaf)) (.node 153 ti153 (.node 151 ti151 (.node 150 ti150 .leaf .leaf) (.node 152 ti152 .leaf .leaf)) (.node 155 ti155 (.node 154 ti154 .leaf .leaf) .leaf)))) (.node 173 ti173 (.node 165 ti165 (.node 161 ti161 (.node 159 ti159 (.node 158 ti158 .leaf .leaf) (.node 160 ti160 .leaf .leaf)) (.node 163 ti163 (.node 162 ti162 .leaf .leaf) .leaf)) (.node 170 ti170 (.node 167 ti167 (.node 166 ti166 .leaf .leaf) (.node 169 ti169 .leaf .leaf)) (.node 172 ti172 (.node 171 ti171 .leaf .leaf) .leaf))) (.node 180 ti180 (.node 177 ti177 (.node 175 ti175 (.node 174 ti174 .leaf .leaf) (.node 176 ti176 .leaf .leaf)) (.node 179 ti179 (.node 178 ti178 .leaf .leaf) .leaf)) (.node 184 ti184 (.node 182 ti182 (.node 181 ti181 .leaf .leaf) (.node 183 ti183 .leaf .leaf)) (.node 186 ti186 (.node 185 ti185 .leaf .leaf) .leaf))))) (.node 217 ti217 (.node 202 ti202 (.node 195 ti195 (.node 191 ti191 (.node 189 ti189 (.node 188 ti188 .leaf .leaf) (.node 190 ti190 .leaf .leaf)) (.node 194 ti194 (.node 193 ti193 .leaf .leaf) .leaf)) (.node 199 ti199 (.node 197 ti197 (.node 196 ti196 .leaf .leaf) (.node 198 ti198 .leaf .leaf)) (.node 201 ti201 (.node 200 ti200 .leaf .leaf) .leaf))) (.node 210 ti210 (.node 207 ti207 (.node 205 ti205 (.node 203 ti203 .leaf .leaf) (.node 206 ti206 .leaf .leaf)) (.node 209 ti209 (.node 208 ti208 .leaf .leaf) .leaf)) (.node 214 ti214 (.node 212 ti212 (.node 211 ti211 .leaf .leaf) (.node 213 ti213 .leaf .leaf)) (.node 216 ti216 (.node 215 ti215 .leaf .leaf) .leaf)))) (.node 233 ti233 (.node 225 ti225 (.node 222 ti222 (.node 220 ti220 (.node 218 ti218 .leaf .leaf) (.node 221 ti221 .leaf .leaf)) (.node 224 ti224 (.node 223 ti223 .leaf .leaf) .leaf)) (.node 230 ti230 (.node 228 ti228 (.node 227 ti227 .leaf .leaf) (.node 229 ti229 .leaf .leaf)) (.node 232 ti232 (.node 231 ti231 .leaf .leaf) .leaf))) (.node 241 ti241 (.node 238 ti238 (.node 236 ti236 (.node 235 ti235 .leaf .leaf) (.node 237 ti237 .leaf .leaf)) (.node 240 ti240 (.node 239 ti239 .leaf .leaf) .leaf)) (.node 244 ti244 (.node 243 ti243 (.node 242 ti242 .leaf .leaf) .leaf) (.node 254 ti254 (.node 250 ti250 .leaf .leaf) .leaf)))))))
theorem tk : tt.Ok Tryz.prog := ⟨ti128_ok,⟨ti71_ok,⟨ti41_ok,⟨ti27_ok,⟨ti20_ok,⟨ti4_ok,⟨ti2_ok,⟨ti1_ok,trivial,trivial⟩,⟨ti3_ok,trivial,trivial⟩⟩,⟨ti9_ok,⟨ti5_ok,trivial,trivial⟩,trivial⟩⟩,⟨ti24_ok,⟨ti22_ok,⟨ti21_ok,trivial,trivial⟩,⟨ti23_ok,trivial,trivial⟩⟩,⟨ti26_ok,⟨ti25_ok,trivial,trivial⟩,trivial⟩⟩⟩,⟨ti34_ok,⟨ti31_ok,⟨ti29_ok,⟨ti28_ok,trivial,trivial⟩,⟨ti30_ok,trivial,trivial⟩⟩,⟨ti33_ok,⟨ti32_ok,trivial,trivial⟩,trivial⟩⟩,⟨ti38_ok,⟨ti36_ok,⟨ti35_ok,trivial,trivial⟩,⟨ti37_ok,trivial,trivial⟩⟩,⟨ti40_ok,⟨ti39_ok,trivial,trivial⟩,trivial⟩⟩⟩⟩,⟨ti57_ok,⟨ti50_ok,⟨ti47_ok,⟨ti44_ok,⟨ti42_ok,trivial,trivial⟩,⟨ti45_ok,trivial,trivial⟩⟩,⟨ti49_ok,⟨ti48_ok,trivial,trivial⟩,trivial⟩⟩,⟨ti54_ok,⟨ti52_ok,⟨ti51_ok,trivial,trivial⟩,⟨ti53_ok,trivial,trivial⟩⟩,⟨ti56_ok,⟨ti55_ok,trivial,trivial⟩,trivial⟩⟩⟩,⟨ti64_ok,⟨ti61_ok,⟨ti59_ok,⟨ti58_ok,trivial,trivial⟩,⟨ti60_ok,trivial,trivial⟩⟩,⟨ti63_ok,⟨ti62_ok,trivial,trivial⟩,trivial⟩⟩,⟨ti68_ok,⟨ti66_ok,⟨ti65_ok,trivial,trivial⟩,⟨ti67_ok,trivial,trivial⟩⟩,⟨ti70_ok,⟨ti69_ok,trivial,trivial⟩,trivial⟩⟩⟩⟩⟩,⟨ti100_ok,⟨ti85_ok,⟨ti78_ok,⟨ti75_ok,⟨ti73_ok,⟨ti72_ok,trivial,trivial⟩,⟨ti74_ok,trivial,trivial⟩⟩,⟨ti77_ok,⟨ti76_ok,trivial,trivial⟩,trivial⟩⟩,⟨ti82_ok,⟨ti80_ok,⟨ti79_ok,trivial,trivial⟩,⟨ti81_ok,trivial,trivial⟩⟩,⟨ti84_ok,⟨ti83_ok,trivial,trivial⟩,trivial⟩⟩⟩,⟨ti93_ok,⟨ti89_ok,⟨ti87_ok,⟨ti86_ok,trivial,trivial⟩,⟨ti88_ok,trivial,trivial⟩⟩,⟨ti91_ok,⟨ti90_ok,trivial,trivial⟩,trivial⟩⟩,⟨ti97_ok,⟨ti95_ok,⟨ti94_ok,trivial,trivial⟩,⟨ti96_ok,trivial,trivial⟩⟩,⟨ti99_ok,⟨ti98_ok,trivial,trivial⟩,trivial⟩⟩⟩⟩,⟨ti114_ok,⟨ti107_ok,⟨ti104_ok,⟨ti102_ok,⟨ti101_ok,trivial,trivial⟩,⟨ti103_ok,trivial,trivial⟩⟩,⟨ti106_ok,⟨ti105_ok,trivial,trivial⟩,trivial⟩⟩,⟨ti111_ok,⟨ti109_ok,⟨ti108_ok,trivial,trivial⟩,⟨ti110_ok,trivial,trivial⟩⟩,⟨ti113_ok,⟨ti112_ok,trivial,trivial⟩,trivial⟩⟩⟩,⟨ti121_ok,⟨ti118_ok,⟨ti116_ok,⟨ti115_ok,trivial,trivial⟩,⟨ti117_ok,trivial,trivial⟩⟩,⟨ti120_ok,⟨ti119_ok,trivial,trivial⟩,trivial⟩⟩,⟨ti125_ok,⟨ti123_ok,⟨ti122_ok,trivial,trivial⟩,trivial⟩,⟨ti127_ok,⟨ti126_ok,trivial,trivial⟩,trivial⟩⟩⟩⟩⟩⟩,⟨ti187_ok,⟨ti157_ok,⟨ti142_ok,⟨ti135_ok,⟨ti132_ok,⟨ti130_ok,⟨ti129_ok,trivial,trivial⟩,⟨ti131_ok,trivial,trivial⟩⟩,⟨ti134_ok,⟨ti133_ok,trivial,trivial⟩,trivial⟩⟩,⟨ti139_ok,⟨ti137_ok,⟨ti136_ok,trivial,trivial⟩,⟨ti138_ok,trivial,trivial⟩⟩,⟨ti141_ok,⟨ti140_ok,trivial,trivial⟩,trivial⟩⟩⟩,⟨ti149_ok,⟨ti146_ok,⟨ti144_ok,⟨ti143_ok,trivial,trivial⟩,⟨ti145_ok,trivial,trivial⟩⟩,⟨ti148_ok,⟨ti147_ok,trivial,trivial⟩,trivial⟩⟩,⟨ti153_ok,⟨ti151_ok,⟨ti150_ok,trivial,trivial⟩,⟨ti152_ok,trivial,trivial⟩⟩,⟨ti155_ok,⟨ti154_ok,trivial,trivial⟩,trivial⟩⟩⟩⟩,⟨ti173_ok,⟨ti165_ok,⟨ti161_ok,⟨ti159_ok,⟨ti158_ok,trivial,trivial⟩,⟨ti160_ok,trivial,trivial⟩⟩,⟨ti163_ok,⟨ti162_ok,trivial,trivial⟩,trivial⟩⟩,⟨ti170_ok,⟨ti167_ok,⟨ti166_ok,trivial,trivial⟩,⟨ti169_ok,trivial,trivial⟩⟩,⟨ti172_ok,⟨ti171_ok,trivial,trivial⟩,trivial⟩⟩⟩,⟨ti180_ok,⟨ti177_ok,⟨ti175_ok,⟨ti174_ok,trivial,trivial⟩,⟨ti176_ok,trivial,trivial⟩⟩,⟨ti179_ok,⟨ti178_ok,trivial,trivial⟩,trivial⟩⟩,⟨ti184_ok,⟨ti182_ok,⟨ti181_ok,trivial,trivial⟩,⟨ti183_ok,trivial,trivial⟩⟩,⟨ti186_ok,⟨ti185_ok,trivial,trivial⟩,trivial⟩⟩⟩⟩⟩,⟨ti217_ok,⟨ti202_ok,⟨ti195_ok,⟨ti191_ok,⟨ti189_ok,⟨ti188_ok,trivial,trivial⟩,⟨ti190_ok,trivial,trivial⟩⟩,⟨ti194_ok,⟨ti193_ok,trivial,trivial⟩,trivial⟩⟩,⟨ti199_ok,⟨ti197_ok,⟨ti196_ok,trivial,trivial⟩,⟨ti198_ok,trivial,trivial⟩⟩,⟨ti201_ok,⟨ti200_ok,trivial,trivial⟩,trivial⟩⟩⟩,⟨ti210_ok,⟨ti207_ok,⟨ti205_ok,⟨ti203_ok,trivial,trivial⟩,⟨ti206_ok,trivial,trivial⟩⟩,⟨ti209_ok,⟨ti208_ok,trivial,trivial⟩,trivial⟩⟩,⟨ti214_ok,⟨ti212_ok,⟨ti211_ok,trivial,trivial⟩,⟨ti213_ok,trivial,trivial⟩⟩,⟨ti216_ok,⟨ti215_ok,trivial,trivial⟩,trivial⟩⟩⟩⟩,⟨ti233_ok,⟨ti225_ok,⟨ti222_ok,⟨ti220_ok,⟨ti218_ok,trivial,trivial⟩,⟨ti221_ok,trivial,trivial⟩⟩,⟨ti224_ok,⟨ti223_ok,trivial,trivial⟩,trivial⟩⟩,⟨ti230_ok,⟨ti228_ok,⟨ti227_ok,trivial,trivial⟩,⟨ti229_ok,trivial,trivial⟩⟩,⟨ti232_ok,⟨ti231_ok,trivial,trivial⟩,trivial⟩⟩⟩,⟨ti241_ok,⟨ti238_ok,⟨ti236_ok,⟨ti235_ok,trivial,trivial⟩,⟨ti237_ok,trivial,trivial⟩⟩,⟨ti240_ok,⟨ti239_ok,trivial,trivial⟩,trivial⟩⟩,⟨ti244_ok,⟨ti243_ok,⟨ti242_ok,trivial,trivial⟩,trivial⟩,⟨ti254_ok,⟨ti250_ok,trivial,trivial⟩,trivial⟩⟩⟩⟩⟩⟩⟩
end
end Go.Ab

namespace Go.Proofs.YtgaggbdcedpapaaGreat
noncomputable section
open Go Go.Ab
theorem mok : Tryz.prog.follows .mixedOrders = true := by kernel_rfl
abbrev ac (n : Int) : PV := .val (.int .i64 n)
abbrev au (b : Bool) : PV := .val (.bool b)
structure LVal where
 kind : Int
 int : Int
 text : List UInt8
 deriving DecidableEq
structure LCol where
 name : List UInt8
 kind : Int
 nullable : Bool
 deriving DecidableEq
inductive LExpr where
 | mk (kind : Int) (name : List UInt8) (index : Int) (value : LVal) (args : List LExpr)
def LExpr.kind : LExpr → Int | .mk k _ _ _ _=>k
def LExpr.name : LExpr → List UInt8 | .mk _ n _ _ _=>n
def LExpr.index : LExpr → Int | .mk _ _ i _ _=>i
def LExpr.value : LExpr → LVal | .mk _ _ _ v _=>v
def LExpr.args : LExpr → List LExpr | .mk _ _ _ _ a=>a
structure LEnv where
 cols : List LCol
 row : List LVal
 params : List LVal
 vnames : List (List UInt8)
 vvals : List LVal
def LVal.nul : LVal := ⟨0,0,[]⟩
@[simp] def ae (v : LVal) : List PV := [ac v.kind,ac v.int,.str v.text]
@[simp] def av (c : LCol) : List PV := [.str c.name,ac c.kind,au c.nullable]
mutual
def aI : LExpr → List PV
 | .mk k n i v a=>[ac k,.str n,ac i,ac v.kind,ac v.int,.str v.text,.list 56 (ni a)]
def ni : List LExpr → List (List PV)
 | []=>[]
 | e :: r=>aI e :: ni r
end
theorem nI : ∀ l,ni l = l.map aI
 | []=>rfl
 | e :: r=>by simp [ni,nI r]
def kp (e : LExpr) : List PV := [ac e.kind,.str e.name,ac e.index,ac e.value.kind,ac e.value.int,.str e.value.text,.list 56 (e.args.map aI)]
theorem cW (e : LExpr) : aI e = kp e := by
 cases e
 simp [aI,kp,nI,LExpr.kind,LExpr.name,LExpr.index,LExpr.value,LExpr.args]
abbrev ik (v : LVal) : PV := .agg (ae v)
abbrev pcol (c : LCol) : PV := .agg (av c)
abbrev gY (e : LExpr) : PV := .agg (kp e)
abbrev pvals (l : List LVal) : PV := .list 53 (l.map ae)
abbrev hX (l : List LCol) : PV := .list 50 (l.map av)
abbrev mE (l : List LExpr) : PV := .list 56 (l.map aI)
abbrev pstrs (l : List (List UInt8)) : PV := .list 9 (l.map fun s=>[.str s])
abbrev pints (l : List Int) : PV := .list 3 (l.map fun n=>[ac n])
@[simp] def encEnv (v : LEnv) : List PV := [hX v.cols,pvals v.row,pvals v.params,pstrs v.vnames,pvals v.vvals]
abbrev penv (v : LEnv) : PV := .agg (encEnv v)
theorem oe {l : List LExpr} {j : Nat} (h : j < l.length) : (l.map aI)[((j : Nat) : Int).toNat]? = some (kp l[j]) := by
 simp [h,cW]
def aK {α : Type} (p : α → Bool) (l : List α) : Int := match l.findIdx? p with
 | some i=>i
 | none=>-1
theorem lU {α : Type} {p : α → Bool} {l : List α} {j : Nat} (hlt : j < l.length) (hpre : ∀ x ∈ l.take j,p x = false) (h : p l[j] = true) : aK p l = (j : Int) := by
 have : l.findIdx? p = some j := by
  rw [List.findIdx?_eq_some_iff_getElem]
  refine ⟨hlt,h,fun i hi=>?_⟩
  have := hpre l[i] (List.mem_take_iff_getElem.2 ⟨i,by omega,rfl⟩)
  simp [this]
 simp [aK,this]
theorem iq {α : Type} {p : α → Bool} {l : List α} (hpre : ∀ x ∈ l,p x = false) : aK p l = -1 := by
 have : l.findIdx? p = none := by
  rw [List.findIdx?_eq_none_iff]
  exact hpre
 simp [aK,this]
theorem lA {α : Type} {p : α → Bool} {l : List α} {j : Nat} (hlt : j < l.length) (hpre : ∀ x ∈ l.take j,p x = false) (h : p l[j] = false) : ∀ x ∈ l.take (j + 1),p x = false := by
 intro x hx
 rw [List.take_add_one,List.getElem?_eq_getElem hlt] at hx
 simp only [Option.toList,List.mem_append,List.mem_singleton] at hx
 rcases hx with hx | rfl
 ·exact hpre x hx
 ·exact h
theorem aX {n : Int} (h1 : -9223372036854775808 ≤ n) (h2 : n ≤ 9223372036854775807) : IntKind.i64.wrap n = n := by
 simp only [IntKind.wrap,IntKind.bits,IntKind.signed]
 simp
 omega
theorem az {j : Nat} (h : j < maxLen) : ac (IntKind.i64.wrap ((j : Int) + 1)) = ac ((j + 1 : Nat) : Int) := by
 rw [aX (by omega) (by simp [maxLen] at h; omega)]
 simp
theorem fM {α : Type} {p : α → Bool} {l : List α} : (decide (aK p l ≥ 0)) = l.any p := by
 rw [Bool.eq_iff_iff]
 simp only [decide_eq_true_eq,List.any_eq_true]
 cases h : l.findIdx? p with
 | none =>
  have e : aK p l = -1 := by simp [aK,h]
  rw [List.findIdx?_eq_none_iff] at h
  rw [e]
  constructor
  ·intro h'; omega
  ·rintro ⟨x,hx,hp⟩; rw [h x hx] at hp; cases hp
 | some i =>
  have e : aK p l = (i : Int) := by simp [aK,h]
  rw [List.findIdx?_eq_some_iff_getElem] at h
  rw [e]
  exact ⟨fun _=>⟨_,List.getElem_mem h.1,h.2.1⟩,fun _=>by omega⟩
end
end Go.Proofs.YtgaggbdcedpapaaGreat

namespace Go.Proofs.YtgaggbdcedpapaaGreat
noncomputable section
open Go Go.Ab
abbrev aV : Int → List PV := fun n=>[ac n]
abbrev bB : Bool → List PV := fun b=>[au b]
abbrev bo : List UInt8 → List PV := fun s=>[.str s]
abbrev rU8 : UInt8 → List PV := fun c=>[.val (.int .u8 (c.toNat : Int))]
abbrev ag {α : Type} (e : TypeId) (f : α → List PV) : List α → List PV := fun l=>[.list e (l.map f)]
theorem natLt {n : Int} {m j : Nat} (hm : n ≤ 2 ^ 62 ∧ m = n.toNat) (h : decide ((j : Int) < n) = true) : j < (List.range m).length := by
 have := of_decide_eq_true h
 simp
 omega
theorem natGe {n : Int} {m j : Nat} (hm : n ≤ 2 ^ 62 ∧ m = n.toNat) (h : decide ((j : Int) < n) = false) : (List.range m).length ≤ j := by
 have := of_decide_eq_false h
 simp
 omega
theorem natX {m j x : Nat} (h : (List.range m)[j]? = some x) : j = x := by
 have := List.getElem?_eq_some_iff.1 h
 obtain ⟨h1,h2⟩ := this
 simpa using h2
theorem mZ {n : Int} {m j : Nat} (hm : n ≤ 2 ^ 62 ∧ m = n.toNat) (h : j < (List.range m).length) : ac (IntKind.i64.wrap ((j : Int) + 1)) = ac ((j + 1 : Nat) : Int) := by
 rw [aX (by omega) (by simp at h; omega)]
 simp
end
end Go.Proofs.YtgaggbdcedpapaaGreat

namespace Go.Proofs.YtgaggbdcedpapaaGreat
noncomputable section
open Go Go.Ab
attribute [local irreducible] V Ao Gh Eff PH
set_option maxRecDepth 4000
theorem indexCol {g : FuncId} {caps : List PV} {p : LCol → Bool} (xs : List LCol) (hg : ∀ (vs : Array Value) (w : World),(callFunc g vs).run Tryz.prog w = .ok (.enter g vs) w) (hp : ∀ x ∈ xs,aG Tryz.prog g (.agg (av x) :: caps) (au (p x))) :
  aG Tryz.prog 43 [.list 50 (xs.map av),.fn g caps] (ac (aK p xs)) := by
 refine PH.intro Tryz.func43 rfl Tryz.ntmps43 rfl ?_
 repeat (first | refine Ao.q tk rfl ?_ | refine Ao.nil ?_ | refine V.seq ?_ | refine V.ab ?_ | refine V.ap ?_)
 refine V.aZ tk 0 rfl rfl fun hl _=>?_
 refine V.ij (X := Nat) (fun j=>⟨19,upd (upd (upd (upd (fun _=>.any) 0 (.list 50 (xs.map av))) 1 (.fn g caps)) 7 (ac (xs.map av).length)) 8 (ac j),fun _=>none,fun _=>none⟩)
  (fun j=>j ≤ xs.length ∧ ∀ x ∈ xs.take j,p x = false) (fun j=>xs.length - j) 0 ⟨Nat.zero_le _,by simp⟩ (Gh.le (SLe.aa (PLe.q rfl) (SLe.aa (PLe.q rfl) (SLe.aa (PLe.q rfl) (SLe.aa (PLe.q rfl) SLe.nil)))) BLe.nil OLe.nil) ?_
 rintro j ⟨hj,hpre⟩
 repeat (first | refine Ao.q tk rfl ?_ | refine Ao.nil ?_ | refine V.seq ?_ | refine V.ab ?_)
 refine V.ak rfl (fun h=>?_) (fun h=>?_)
 ·have hlt : j < xs.length := by simpa using h
  have hget : xs[j]? = some xs[j] := List.getElem?_eq_getElem hlt
  repeat (first | refine Ao.q tk rfl ?_ | refine Ao.nil ?_ | refine V.seq ?_ | refine V.ab ?_ | refine V.al ?_ | refine V.ap ?_)
  refine Ao.idx tk rfl rfl rfl rfl rfl rfl (Int.natCast_nonneg j) (r := av xs[j]) (by simp [hget]) rfl ?_
  repeat (refine Ao.q tk rfl ?_)
  refine Ao.ah rfl rfl rfl hg (il.r) (hp xs[j] (List.getElem_mem hlt)) rfl ?_
  repeat (refine Ao.nil ?_)
  refine V.ak rfl (fun h=>?_) (fun h=>?_)
  ·repeat (first | refine Ao.q tk rfl ?_ | refine Ao.nil ?_ | refine V.seq ?_ | refine V.ab ?_)
   refine V.cG tk rfl rfl (PLe.q ?_)
   rw [lU hlt hpre h]
  ·repeat (first | refine Ao.q tk rfl ?_ | refine Ao.nil ?_ | refine V.ab ?_ | refine V.al ?_ | refine V.blk ?_)
   refine V.iB (j + 1) (by omega) ⟨hlt,?_⟩ (Gh.le (SLe.aa (PLe.q ?_) (SLe.aa (PLe.q rfl) (SLe.aa (PLe.q rfl) (SLe.aa (PLe.q rfl) SLe.nil)))) BLe.nil OLe.nil)
   ·exact lA hlt hpre h
   ·exact az (by simp at hl; omega)
 ·have hge : j = xs.length := by have : ¬ j < xs.length := by simpa using h
                                 omega
  repeat (first | refine Ao.q tk rfl ?_ | refine Ao.nil ?_ | refine V.seq ?_ | refine V.ab ?_ | refine V.aB rfl ?_)
  refine V.cG tk rfl rfl (PLe.q ?_)
  rw [iq (by rw [hge] at hpre; simpa using hpre)]
theorem indexVal {g : FuncId} {caps : List PV} {p : LVal → Bool} (xs : List LVal) (hg : ∀ (vs : Array Value) (w : World),(callFunc g vs).run Tryz.prog w = .ok (.enter g vs) w) (hp : ∀ x ∈ xs,aG Tryz.prog g (.agg (ae x) :: caps) (au (p x))) :
  aG Tryz.prog 200 [.list 53 (xs.map ae),.fn g caps] (ac (aK p xs)) := by
 refine PH.intro Tryz.func200 rfl Tryz.ntmps200 rfl ?_
 repeat (first | refine Ao.q tk rfl ?_ | refine Ao.nil ?_ | refine V.seq ?_ | refine V.ab ?_ | refine V.ap ?_)
 refine V.aZ tk 0 rfl rfl fun hl _=>?_
 refine V.ij (X := Nat) (fun j=>⟨19,upd (upd (upd (upd (fun _=>.any) 0 (.list 53 (xs.map ae))) 1 (.fn g caps)) 7 (ac (xs.map ae).length)) 8 (ac j),fun _=>none,fun _=>none⟩)
  (fun j=>j ≤ xs.length ∧ ∀ x ∈ xs.take j,p x = false) (fun j=>xs.length - j) 0 ⟨Nat.zero_le _,by simp⟩ (Gh.le (SLe.aa (PLe.q rfl) (SLe.aa (PLe.q rfl) (SLe.aa (PLe.q rfl) (SLe.aa (PLe.q rfl) SLe.nil)))) BLe.nil OLe.nil) ?_
 rintro j ⟨hj,hpre⟩
 repeat (first | refine Ao.q tk rfl ?_ | refine Ao.nil ?_ | refine V.seq ?_ | refine V.ab ?_)
 refine V.ak rfl (fun h=>?_) (fun h=>?_)
 ·have hlt : j < xs.length := by simpa using h
  have hget : xs[j]? = some xs[j] := List.getElem?_eq_getElem hlt
  repeat (first | refine Ao.q tk rfl ?_ | refine Ao.nil ?_ | refine V.seq ?_ | refine V.ab ?_ | refine V.al ?_ | refine V.ap ?_)
  refine Ao.idx tk rfl rfl rfl rfl rfl rfl (Int.natCast_nonneg j) (r := ae xs[j]) (by simp [hget]) rfl ?_
  repeat (refine Ao.q tk rfl ?_)
  refine Ao.ah rfl rfl rfl hg (il.r) (hp xs[j] (List.getElem_mem hlt)) rfl ?_
  repeat (refine Ao.nil ?_)
  refine V.ak rfl (fun h=>?_) (fun h=>?_)
  ·repeat (first | refine Ao.q tk rfl ?_ | refine Ao.nil ?_ | refine V.seq ?_ | refine V.ab ?_)
   refine V.cG tk rfl rfl (PLe.q ?_)
   rw [lU hlt hpre h]
  ·repeat (first | refine Ao.q tk rfl ?_ | refine Ao.nil ?_ | refine V.ab ?_ | refine V.al ?_ | refine V.blk ?_)
   refine V.iB (j + 1) (by omega) ⟨hlt,?_⟩ (Gh.le (SLe.aa (PLe.q ?_) (SLe.aa (PLe.q rfl) (SLe.aa (PLe.q rfl) (SLe.aa (PLe.q rfl) SLe.nil)))) BLe.nil OLe.nil)
   ·exact lA hlt hpre h
   ·exact az (by simp at hl; omega)
 ·have hge : j = xs.length := by have : ¬ j < xs.length := by simpa using h
                                 omega
  repeat (first | refine Ao.q tk rfl ?_ | refine Ao.nil ?_ | refine V.seq ?_ | refine V.ab ?_ | refine V.aB rfl ?_)
  refine V.cG tk rfl rfl (PLe.q ?_)
  rw [iq (by rw [hge] at hpre; simpa using hpre)]
theorem cl {g : FuncId} {caps : List PV} {p : LVal → Bool} (xs : List LVal) (hg : ∀ (vs : Array Value) (w : World),(callFunc g vs).run Tryz.prog w = .ok (.enter g vs) w) (hp : ∀ x ∈ xs,aG Tryz.prog g (.agg (ae x) :: caps) (au (p x))) :
  aG Tryz.prog 189 [.list 53 (xs.map ae),.fn g caps] (au (xs.any p)) := by
 refine PH.intro Tryz.func189 rfl Tryz.ntmps189 rfl ?_
 repeat (first | refine Ao.q tk rfl ?_ | refine Ao.nil ?_ | refine V.seq ?_ | refine V.ab ?_)
 refine Ao.ah rfl rfl rfl Tryz.call200 (il.r) (indexVal xs hg hp) rfl ?_
 repeat (first | refine Ao.q tk rfl ?_ | refine Ao.nil ?_)
 refine V.cG tk rfl rfl (PLe.q ?_)
 rw [fM]
theorem indexInt {g : FuncId} {caps : List PV} {p : Int → Bool} (xs : List Int) (hg : ∀ (vs : Array Value) (w : World),(callFunc g vs).run Tryz.prog w = .ok (.enter g vs) w) (hp : ∀ x ∈ xs,aG Tryz.prog g (ac x :: caps) (au (p x))) :
  aG Tryz.prog 212 [.list 3 (xs.map fun x=>[ac x]),.fn g caps] (ac (aK p xs)) := by
 refine PH.intro Tryz.func212 rfl Tryz.ntmps212 rfl ?_
 repeat (first | refine Ao.q tk rfl ?_ | refine Ao.nil ?_ | refine V.seq ?_ | refine V.ab ?_ | refine V.ap ?_)
 refine V.aZ tk 0 rfl rfl fun hl _=>?_
 refine V.ij (X := Nat) (fun j=>⟨19,upd (upd (upd (upd (fun _=>.any) 0 (.list 3 (xs.map fun x=>[ac x]))) 1 (.fn g caps)) 7 (ac (xs.map fun x=>[ac x]).length)) 8 (ac j),fun _=>none,fun _=>none⟩)
  (fun j=>j ≤ xs.length ∧ ∀ x ∈ xs.take j,p x = false) (fun j=>xs.length - j) 0 ⟨Nat.zero_le _,by simp⟩ (Gh.le (SLe.aa (PLe.q rfl) (SLe.aa (PLe.q rfl) (SLe.aa (PLe.q rfl) (SLe.aa (PLe.q rfl) SLe.nil)))) BLe.nil OLe.nil) ?_
 rintro j ⟨hj,hpre⟩
 repeat (first | refine Ao.q tk rfl ?_ | refine Ao.nil ?_ | refine V.seq ?_ | refine V.ab ?_)
 refine V.ak rfl (fun h=>?_) (fun h=>?_)
 ·have hlt : j < xs.length := by simpa using h
  have hget : xs[j]? = some xs[j] := List.getElem?_eq_getElem hlt
  repeat (first | refine Ao.q tk rfl ?_ | refine Ao.nil ?_ | refine V.seq ?_ | refine V.ab ?_ | refine V.al ?_ | refine V.ap ?_)
  refine Ao.idx tk rfl rfl rfl rfl rfl rfl (Int.natCast_nonneg j) (r := [ac xs[j]]) (by simp [hget]) rfl ?_
  repeat (refine Ao.q tk rfl ?_)
  refine Ao.ah rfl rfl rfl hg (il.r) (hp xs[j] (List.getElem_mem hlt)) rfl ?_
  repeat (refine Ao.nil ?_)
  refine V.ak rfl (fun h=>?_) (fun h=>?_)
  ·repeat (first | refine Ao.q tk rfl ?_ | refine Ao.nil ?_ | refine V.seq ?_ | refine V.ab ?_)
   refine V.cG tk rfl rfl (PLe.q ?_)
   rw [lU hlt hpre h]
  ·repeat (first | refine Ao.q tk rfl ?_ | refine Ao.nil ?_ | refine V.ab ?_ | refine V.al ?_ | refine V.blk ?_)
   refine V.iB (j + 1) (by omega) ⟨hlt,?_⟩ (Gh.le (SLe.aa (PLe.q ?_) (SLe.aa (PLe.q rfl) (SLe.aa (PLe.q rfl) (SLe.aa (PLe.q rfl) SLe.nil)))) BLe.nil OLe.nil)
   ·exact lA hlt hpre h
   ·exact az (by simp at hl; omega)
 ·have hge : j = xs.length := by have : ¬ j < xs.length := by simpa using h
                                 omega
  repeat (first | refine Ao.q tk rfl ?_ | refine Ao.nil ?_ | refine V.seq ?_ | refine V.ab ?_ | refine V.aB rfl ?_)
  refine V.cG tk rfl rfl (PLe.q ?_)
  rw [iq (by rw [hge] at hpre; simpa using hpre)]
theorem containsInt {g : FuncId} {caps : List PV} {p : Int → Bool} (xs : List Int) (hg : ∀ (vs : Array Value) (w : World),(callFunc g vs).run Tryz.prog w = .ok (.enter g vs) w) (hp : ∀ x ∈ xs,aG Tryz.prog g (ac x :: caps) (au (p x))) :
  aG Tryz.prog 207 [.list 3 (xs.map fun x=>[ac x]),.fn g caps] (au (xs.any p)) := by
 refine PH.intro Tryz.func207 rfl Tryz.ntmps207 rfl ?_
 repeat (first | refine Ao.q tk rfl ?_ | refine Ao.nil ?_ | refine V.seq ?_ | refine V.ab ?_)
 refine Ao.ah rfl rfl rfl Tryz.call212 (il.r) (indexInt xs hg hp) rfl ?_
 repeat (first | refine Ao.q tk rfl ?_ | refine Ao.nil ?_)
 refine V.cG tk rfl rfl (PLe.q ?_)
 rw [fM]
theorem bO (s : List UInt8) (xs : List (List UInt8)) :
  aG Tryz.prog 79 [pstrs xs,.str s] (ac (aK (fun x=>s == x) xs)) := by
 refine PH.intro Tryz.func79 rfl Tryz.ntmps79 rfl ?_
 repeat (first | refine Ao.q tk rfl ?_ | refine Ao.nil ?_ | refine V.seq ?_ | refine V.ab ?_ | refine V.ap ?_)
 refine V.aZ tk 0 rfl rfl fun hl _=>?_
 refine V.ij (X := Nat) (fun j=>⟨19,upd (upd (upd (upd (fun _=>.any) 0 (pstrs xs)) 1 (.str s)) 7 (ac (xs.map fun s=>[PV.str s]).length)) 8 (ac j),fun _=>none,fun _=>none⟩)
  (fun j=>j ≤ xs.length ∧ ∀ x ∈ xs.take j,(s == x) = false) (fun j=>xs.length - j) 0 ⟨Nat.zero_le _,by simp⟩ (Gh.le (SLe.aa (PLe.q rfl) (SLe.aa (PLe.q rfl) (SLe.aa (PLe.q rfl) (SLe.aa (PLe.q rfl) SLe.nil)))) BLe.nil OLe.nil) ?_
 rintro j ⟨hj,hpre⟩
 repeat (first | refine Ao.q tk rfl ?_ | refine Ao.nil ?_ | refine V.seq ?_ | refine V.ab ?_)
 refine V.ak rfl (fun h=>?_) (fun h=>?_)
 ·have hlt : j < xs.length := by simpa using h
  have hget : xs[j]? = some xs[j] := List.getElem?_eq_getElem hlt
  repeat (first | refine Ao.q tk rfl ?_ | refine Ao.nil ?_ | refine V.seq ?_ | refine V.ab ?_ | refine V.al ?_ | refine V.ap ?_)
  refine Ao.idx tk rfl rfl rfl rfl rfl rfl (Int.natCast_nonneg j) (r := [.str xs[j]]) (by simp [hget]) rfl ?_
  repeat (first | refine Ao.q tk rfl ?_ | refine Ao.nil ?_)
  refine V.ak rfl (fun h=>?_) (fun h=>?_)
  ·repeat (first | refine Ao.q tk rfl ?_ | refine Ao.nil ?_ | refine V.seq ?_ | refine V.ab ?_)
   refine V.cG tk rfl rfl (PLe.q ?_)
   rw [lU hlt hpre h]
  ·repeat (first | refine Ao.q tk rfl ?_ | refine Ao.nil ?_ | refine V.ab ?_ | refine V.al ?_ | refine V.blk ?_)
   refine V.iB (j + 1) (by omega) ⟨hlt,?_⟩ (Gh.le (SLe.aa (PLe.q ?_) (SLe.aa (PLe.q rfl) (SLe.aa (PLe.q rfl) (SLe.aa (PLe.q rfl) SLe.nil)))) BLe.nil OLe.nil)
   ·exact lA (p := fun x=>s == x) hlt hpre h
   ·exact az (by simp at hl; omega)
 ·have hge : j = xs.length := by have : ¬ j < xs.length := by simpa using h
                                 omega
  repeat (first | refine Ao.q tk rfl ?_ | refine Ao.nil ?_ | refine V.seq ?_ | refine V.ab ?_ | refine V.aB rfl ?_)
  refine V.cG tk rfl rfl (PLe.q ?_)
  rw [iq (by rw [hge] at hpre; simpa using hpre)]
end
end Go.Proofs.YtgaggbdcedpapaaGreat

namespace Go.Proofs.YtgaggbdcedpapaaGreat
noncomputable section
open Go Go.Ab
attribute [local irreducible] V Ao Gh Eff PH
set_option maxRecDepth 4000
def dA (v : LVal) : Bool :=
 if v.kind = 0 then decide (v = ⟨0,0,[]⟩) else if v.kind = 1 then v.text == [] && decide (v.int ≥ -1000000000000) && decide (v.int ≤ 1000000000000)
 else if v.kind = 2 then v.text == [] && (v.int == 0 || v.int == 1) else if v.kind = 3 then v.int == 0 && decide (v.text.length ≤ 24) else false
theorem oQ (v : LVal) : aG Tryz.prog 20 [ik v] (au (dA v)) := by
 refine PH.intro Tryz.func20 rfl Tryz.ntmps20 rfl ?_
 repeat' (first | refine Ao.q tk rfl ?_ | refine Ao.nil ?_ | refine V.seq ?_ | refine V.ab ?_ | refine V.al ?_ | refine V.ap ?_ | refine V.blk ?_ | refine Ao.aF rfl rfl rfl rfl rfl rfl ?_ | refine V.ak rfl (fun h=>?_) (fun h=>?_) | ((fail_if_success refine Ao.ew rfl ?_); refine Ao.aA rfl rfl rfl (fun h=>?_) (fun h=>?_)))
 all_goals refine V.cG tk rfl rfl (PLe.q ?_)
 all_goals cases v
 all_goals simp_all [dA]
 ·rename_i x _
  rw [Bool.eq_iff_iff]
  cases x <;> simp
 ·omega
 ·omega
def jq (a b : LVal) : Bool :=
 if a.kind ≠ b.kind then decide (a.kind < b.kind) else if a.int ≠ b.int then decide (a.int < b.int) else Op.bytesLess a.text b.text
theorem jP (a b : LVal) : aG Tryz.prog 45 [ik a,ik b] (au (jq a b)) := by
 refine PH.intro Tryz.func45 rfl Tryz.ntmps45 rfl ?_
 repeat' (first | refine Ao.q tk rfl ?_ | refine Ao.nil ?_ | refine V.seq ?_ | refine V.ab ?_ | refine V.al ?_ | refine V.ap ?_ | refine V.blk ?_ | refine Ao.aF rfl rfl rfl rfl rfl rfl ?_ | refine V.ak rfl (fun h=>?_) (fun h=>?_))
 all_goals refine V.cG tk rfl rfl (PLe.q ?_)
 all_goals simp_all [jq]
def jb (v : LVal) : Bool := v.kind == 2 && v.int == 1
theorem isTS (v : LVal) : aG Tryz.prog 137 [ik v] (au (jb v)) := by
 refine PH.intro Tryz.func137 rfl Tryz.ntmps137 rfl ?_
 repeat' (first | refine Ao.q tk rfl ?_ | refine Ao.nil ?_ | refine V.seq ?_ | refine V.ab ?_ | refine Ao.aF rfl rfl rfl rfl rfl rfl ?_ | ((fail_if_success refine Ao.ew rfl ?_); refine Ao.aA rfl rfl rfl (fun h=>?_) (fun h=>?_)))
 all_goals refine V.cG tk rfl rfl (PLe.q ?_)
 all_goals simp_all [jb]
def jX (b : Bool) : LVal := ⟨2,if b then 1 else 0,[]⟩
theorem jL (b : Bool) : aG Tryz.prog 58 [au b] (ik (jX b)) := by
 refine PH.intro Tryz.func58 rfl Tryz.ntmps58 rfl ?_
 repeat' (first | refine Ao.q tk rfl ?_ | refine Ao.nil ?_ | refine V.seq ?_ | refine V.ab ?_ | refine V.al ?_ | (refine Ao.aJ tk rfl rfl rfl rfl rfl rfl ?_; intro bk) | refine Ao.sB tk rfl rfl rfl rfl rfl rfl rfl rfl rfl rfl rfl ?_ | refine V.ak rfl (fun h=>?_) (fun h=>?_))
 all_goals refine V.bZ tk rfl rfl rfl rfl rfl (PLe.q ?_)
 all_goals simp_all [jX]
def intV (n : Int) : LVal := if n < -1000000000000 ∨ n > 1000000000000 then .nul else ⟨1,n,[]⟩
theorem nY (n : Int) : aG Tryz.prog 192 [ac n] (ik (intV n)) := by
 refine PH.intro Tryz.func192 rfl Tryz.ntmps192 rfl ?_
 repeat' (first | refine Ao.q tk rfl ?_ | refine Ao.nil ?_ | refine V.seq ?_ | refine V.ab ?_ | refine V.al ?_ | refine V.bu rfl ?_ | (refine Ao.aJ tk rfl rfl rfl rfl rfl rfl ?_; intro bk) | refine Ao.sB tk rfl rfl rfl rfl rfl rfl rfl rfl rfl rfl rfl ?_ | refine V.ak rfl (fun h=>?_) (fun h=>?_) | ((fail_if_success refine Ao.ew rfl ?_); refine Ao.aA rfl rfl rfl (fun h=>?_) (fun h=>?_)))
 all_goals refine V.bZ tk rfl rfl rfl rfl rfl (PLe.q ?_)
 all_goals simp_all [intV,LVal.nul]
 all_goals (rw [if_neg (by omega)]; try simp)
def wr (n : Int) : Int := IntKind.i64.wrap n
def lw (op : List UInt8) (a b : Int) : LVal :=
 if op = [43] then intV (wr (a + b)) else if op = [45] then intV (wr (a - b)) else if a = 0 ∨ b = 0 then intV 0
 else if wr ((wr (a * b)).tdiv b) = a then intV (wr (a * b)) else .nul
theorem numberV_spec (op : List UInt8) (a b : Int) : aG Tryz.prog 203 [.str op,ac a,ac b] (ik (lw op a b)) := by
 refine PH.intro Tryz.func203 rfl Tryz.ntmps203 rfl ?_
 repeat' (first | refine Ao.q tk rfl ?_ | refine Ao.nil ?_ | refine V.seq ?_ | refine V.ab ?_ | refine V.al ?_ | refine V.bu rfl ?_ | refine V.ap ?_ | refine V.blk ?_ | (refine Ao.aJ tk rfl rfl rfl rfl rfl rfl ?_; intro bk) | refine Ao.sB tk rfl rfl rfl rfl rfl rfl rfl rfl rfl rfl rfl ?_ | refine V.ak rfl (fun h=>?_) (fun h=>?_) | ((fail_if_success refine Ao.ew rfl ?_); refine Ao.aA rfl rfl rfl (fun h=>?_) (fun h=>?_)) | (show Ao _ _ _ _ _; first | refine Ao.ah (g := 192) rfl rfl rfl Tryz.call192 (il.r) (nY _) rfl ?_))
 case refine_2.refine_2.refine_2.refine_2 =>
  refine Ao.quo tk rfl rfl rfl rfl (by simpa using h) rfl ?_
  repeat' (first | refine Ao.q tk rfl ?_ | refine Ao.nil ?_ | refine V.seq ?_ | refine V.ab ?_ | refine V.al ?_ | refine Ao.sB tk rfl rfl rfl rfl rfl rfl rfl rfl rfl rfl rfl ?_ | refine V.ak rfl (fun h=>?_) (fun h=>?_) | (show Ao _ _ _ _ _; first | refine Ao.ah (g := 192) rfl rfl rfl Tryz.call192 (il.r) (nY _) rfl ?_))
  all_goals refine V.bZ tk rfl rfl rfl rfl rfl (PLe.q ?_)
  all_goals simp_all [lw,wr,LVal.nul]
 all_goals refine V.bZ tk rfl rfl rfl rfl rfl (PLe.q ?_)
 all_goals simp_all [lw,wr]
end
end Go.Proofs.YtgaggbdcedpapaaGreat

namespace Go.Proofs.YtgaggbdcedpapaaGreat
noncomputable section
open Go Go.Ab
attribute [local irreducible] V Ao Do Gh Eff PH IntKind.wrap
set_option maxRecDepth 4000
theorem cL (v : LVal) : aG Tryz.prog 190 [ik v] (au (v.kind == 0)) := by
 refine PH.intro Tryz.func190 rfl Tryz.ntmps190 rfl ?_
 repeat' (first | refine Ao.q tk rfl ?_ | refine Ao.nil ?_ | refine V.seq ?_ | refine V.ab ?_ | refine Ao.aF rfl rfl rfl rfl rfl rfl ?_)
 all_goals refine V.cG tk rfl rfl (PLe.q rfl)
theorem bothIs_spec (v : LVal) (n : Int) : aG Tryz.prog 199 [ik v,ac n] (au (v.kind == 2 && v.int == n)) := by
 refine PH.intro Tryz.func199 rfl Tryz.ntmps199 rfl ?_
 repeat' (first | refine Ao.q tk rfl ?_ | refine Ao.nil ?_ | refine V.seq ?_ | refine V.ab ?_ | refine Ao.aF rfl rfl rfl rfl rfl rfl ?_ | ((fail_if_success refine Ao.ew rfl ?_); refine Ao.aA rfl rfl rfl (fun h=>?_) (fun h=>?_)))
 all_goals refine V.cG tk rfl rfl (PLe.q ?_)
 all_goals simp_all
theorem oX (v : LVal) (n : Int) : aG Tryz.prog 202 [ik v,.ptr [ac n]] (au (v.kind != n)) := by
 refine PH.intro Tryz.func202 rfl Tryz.ntmps202 rfl ?_
 repeat' (first | refine Ao.q tk rfl ?_ | refine Ao.nil ?_ | refine V.seq ?_ | refine V.ab ?_ | refine Ao.aF rfl rfl rfl rfl rfl rfl ?_)
 all_goals refine V.cG tk rfl rfl (PLe.q rfl)
theorem iZ (n : Int) (l : List LVal) : aG Tryz.prog 201 [ac n,.ptr [pvals l]] (au (!(l.any fun v=>v.kind != n))) := by
 refine PH.intro Tryz.func201 rfl Tryz.ntmps201 rfl ?_
 repeat' (first | refine Ao.q tk rfl ?_ | refine Ao.nil ?_ | refine V.seq ?_ | refine V.ab ?_ | refine Ao.aF rfl rfl rfl rfl rfl rfl ?_ | (show Ao _ _ _ _ _; first | refine Ao.ah (g := 189) rfl rfl rfl Tryz.call189 (il.r) (cl (p := fun v=>v.kind != n) l Tryz.call202 fun v _=>oX v n) rfl ?_))
 all_goals refine V.cG tk rfl rfl (PLe.q rfl)
def cp : List (List UInt8) := [[43],[45],[42],[61],[60],[60,61],[97,110,100],[111,114],[110,111,116],[124,124],[105,115,32,110,117,108,108],[108,101,110,103,116,104],[105,102]]
def opArity : List Int := [2,2,2,2,2,2,2,2,1,2,1,1,3]
theorem fo : aG Tryz.prog 187 [] (.tup [pstrs cp,pints opArity]) := by
 refine PH.intro Tryz.func187 rfl Tryz.ntmps187 rfl ?_
 repeat (first | refine Ao.q tk rfl ?_ | refine Ao.nil ?_ | refine V.seq ?_ | refine V.ab ?_ | refine Ao.bsF tk rfl rfl rfl rfl rfl rfl ?_)
 refine V.ret2 tk rfl rfl rfl (PLe.q ?_)
 rfl
def bothV (a b : LVal) (d : Int) : LVal :=
 if (a.kind == 2 && a.int == d) || (b.kind == 2 && b.int == d) then jX (d == 1)
 else if (a.kind == 2 && a.int == wr (1 - d)) && (b.kind == 2 && b.int == wr (1 - d)) then jX (d == 0) else .nul
theorem bothV_spec (a b : LVal) (d : Int) : aG Tryz.prog 188 [ik a,ik b,ac d] (ik (bothV a b d)) := by
 refine PH.intro Tryz.func188 rfl Tryz.ntmps188 rfl ?_
 repeat' (first | refine Ao.q tk rfl ?_ | refine Ao.nil ?_ | refine V.seq ?_ | refine V.ab ?_ | refine V.al ?_ | refine V.bu rfl ?_ | refine V.be rfl ?_ | refine V.ap ?_ | refine V.blk ?_ | refine Ao.aF rfl rfl rfl rfl rfl rfl ?_ | (refine Ao.aJ tk rfl rfl rfl rfl rfl rfl ?_; intro bk) | refine Ao.sB tk rfl rfl rfl rfl rfl rfl rfl rfl rfl rfl rfl ?_ | refine V.ak rfl (fun h=>?_) (fun h=>?_) | ((fail_if_success refine Ao.ew rfl ?_); refine Ao.aA rfl rfl rfl (fun h=>?_) (fun h=>?_)) | (show Ao _ _ _ _ _; first | refine Ao.ah (g := 199) rfl rfl rfl Tryz.call199 (il.r) (bothIs_spec _ _) rfl ?_ | refine Ao.ah (g := 58) rfl rfl rfl Tryz.call58 (il.r) (jL _) rfl ?_))
 all_goals refine V.bZ tk rfl rfl rfl rfl rfl (PLe.q ?_)
 all_goals (simp only [bothV,wr, *,Bool.or_true,Bool.true_or,Bool.or_self,Bool.and_self,Bool.and_false,Bool.false_and,Bool.false_eq_true,if_true,if_false]; try rfl)
def gp (n : Int) (l : List LVal) : Bool := !(l.any fun v=>v.kind != n)
def gF (op : List UInt8) (l : List LVal) : LVal :=
 let a := l.getD 0 .nul
 let b := l.getD 1 .nul
 if op == [61] then jX (decide (a = b)) else if op == [60] then jX (jq a b) else if op == [60,61] then jX (!jq b a)
 else if op == [110,111,116] then (if gp 2 l then jX (a.int == 0) else .nul)
 else if op == [108,101,110,103,116,104] then (if gp 3 l then intV a.text.length else .nul)
 else if op == [124,124] then (if gp 3 l && decide (a.text.length + b.text.length ≤ 24) then ⟨3,0,a.text ++ b.text⟩ else .nul)
 else if gp 1 l then lw op a.int b.int else .nul
theorem valEq (a b : LVal) : (a.kind == b.kind && (a.int == b.int && (a.text == b.text && true))) = decide (a = b) := by
 cases a; cases b
 rw [Bool.eq_iff_iff]
 simp
theorem oJ (op : List UInt8) (a : LVal) (hop : op = [110,111,116] ∨ op = [108,101,110,103,116,104]) : aG Tryz.prog 191 [.str op,pvals [a]] (ik (gF op [a])) := by
 rcases hop with rfl | rfl
 ·refine PH.intro Tryz.func191 rfl Tryz.ntmps191 rfl ?_
  repeat' (first | refine Ao.q tk rfl ?_ | refine Ao.nil ?_ | refine V.seq ?_ | refine V.ab ?_ | refine V.al ?_ | refine V.bu rfl ?_ | refine V.be rfl ?_ | refine V.ap ?_ | refine V.blk ?_ | refine Ao.aF rfl rfl rfl rfl rfl rfl ?_ | (refine Ao.aJ tk rfl rfl rfl rfl rfl rfl ?_; intro bk) | refine Ao.sB tk rfl rfl rfl rfl rfl rfl rfl rfl rfl rfl rfl ?_ | refine V.ak rfl (fun h=>?_) (fun h=>?_) | (show Ao _ _ _ _ _; first | refine Ao.ah (g := 201) rfl rfl rfl Tryz.call201 (il.r) (iZ _ _) rfl ?_ | refine Ao.ah (g := 58) rfl rfl rfl Tryz.call58 (il.r) (jL _) rfl ?_))
  all_goals refine V.bZ tk rfl rfl rfl rfl rfl (PLe.q ?_)
  all_goals simp_all [gF,LVal.nul,gp]
 ·refine PH.intro Tryz.func191 rfl Tryz.ntmps191 rfl ?_
  repeat' (first | refine Ao.q tk rfl ?_ | refine Ao.nil ?_ | refine V.seq ?_ | refine V.ab ?_ | refine V.al ?_ | refine V.bu rfl ?_ | refine V.be rfl ?_ | refine V.ap ?_ | refine V.blk ?_ | refine Ao.aF rfl rfl rfl rfl rfl rfl ?_ | (refine Ao.aJ tk rfl rfl rfl rfl rfl rfl ?_; intro bk) | refine Ao.sB tk rfl rfl rfl rfl rfl rfl rfl rfl rfl rfl rfl ?_ | refine V.ak rfl (fun h=>?_) (fun h=>?_) | (show Ao _ _ _ _ _; first | refine Ao.ah (g := 201) rfl rfl rfl Tryz.call201 (il.r) (iZ _ _) rfl ?_ | refine Ao.ah (g := 192) rfl rfl rfl Tryz.call192 (il.r) (nY _) rfl ?_))
  all_goals refine V.bZ tk rfl rfl rfl rfl rfl (PLe.q ?_)
  all_goals simp_all [gF,LVal.nul,gp]
theorem hO (op : List UInt8) (a b : LVal) (h1 : (op == [110,111,116]) = false) (h2 : (op == [108,101,110,103,116,104]) = false) : aG Tryz.prog 191 [.str op,pvals [a,b]] (ik (gF op [a,b])) := by
 refine PH.intro Tryz.func191 rfl Tryz.ntmps191 rfl ?_
 refine V.textF 1 rfl fun hq=>?_
 have ha : a.text.length ≤ gd := hq (ae a) (by simp) _ (by simp)
 have hb : b.text.length ≤ gd := hq (ae b) (by simp) _ (by simp)
 clear hq
 repeat' (first | (show Ao _ _ _ _ _; first | refine Ao.q tk rfl ?_ | refine Ao.nil ?_ | refine Ao.aF rfl rfl rfl rfl rfl rfl ?_ | (refine Ao.aJ tk rfl rfl rfl rfl rfl rfl ?_; intro bk) | refine Ao.sB tk rfl rfl rfl rfl rfl rfl rfl rfl rfl rfl rfl ?_ | refine Ao.ah (g := 201) rfl rfl rfl Tryz.call201 (il.r) (iZ _ _) rfl ?_ | refine Ao.ah (g := 58) rfl rfl rfl Tryz.call58 (il.r) (jL _) rfl ?_) | (show V _ _ _ _ _; first | refine V.seq ?_ | refine V.ab ?_ | refine V.al ?_ | refine V.be rfl ?_ | refine V.ap ?_ | refine V.blk ?_ | (show V _ _ _ (.code (.region 6 _ true) :: _) _; refine V.bc tk mok ⟨false,false,[]⟩ [0,1,2,3,4,5,6,7,8] rfl (by decide +kernel) rfl ?_) | (show V _ _ _ (.code (.region 8 _ true) :: _) _; refine V.bc tk mok ⟨false,false,[]⟩ [0,1,2,3,4,5,6,7,8] rfl (by decide +kernel) rfl ?_) | (show V _ _ _ (.code (.region 10 _ true) :: _) _; refine V.bc tk mok ⟨false,false,[]⟩ [0,1,2,3,4,5,6,7,8,9] rfl (by decide +kernel) rfl ?_) | (show V _ _ _ (.code (.region 18 _ true) :: _) _; refine V.bc tk mok ⟨false,false,[]⟩ [0,1,2,3,4,5,6,7,8,9,10,11,12,13,14,15] rfl (by decide +kernel) rfl ?_) | (show V _ _ _ (.code (.region 19 _ true) :: _) _; refine V.bc tk mok ⟨false,false,[]⟩ [0,1,2,3,4,5,6,7,8,9,10] rfl (by decide +kernel) rfl ?_) | (show V _ _ _ (.code (.region 4 _ true) :: _) _; refine V.bc tk mok ⟨false,false,[]⟩ [0,1,2,3,4,5,6,7,8,9,10] rfl (by decide +kernel) rfl ?_) | refine V.ak rfl (fun h=>?_) (fun h=>?_)) | (show Do _ _ _ _ _ _ _; first | refine Do.q rfl ?_ | refine Do.nil ?_ | refine Do.sB rfl rfl rfl rfl rfl rfl rfl rfl rfl rfl rfl rfl ?_ | refine Do.aR (g := 201) rfl rfl rfl rfl Tryz.call201 (il.r) (iZ _ _) rfl ?_ | refine Do.aR (g := 58) rfl rfl rfl rfl Tryz.call58 (il.r) (jL _) rfl ?_ | refine Do.aR (g := 45) rfl rfl rfl rfl Tryz.call45 (il.r) (jP _ _) rfl ?_ | refine Do.aR (g := 203) rfl rfl rfl rfl Tryz.call203 (il.r) (numberV_spec _ _ _) rfl ?_ | ((fail_if_success refine Do.jY rfl rfl ?_); refine Do.fh rfl rfl rfl rfl (fun h=>?_) (fun h=>?_))))
 all_goals have hw : IntKind.i64.wrap ((a.text.length : Int) + (b.text.length : Int)) = (a.text.length : Int) + (b.text.length : Int) := aX (by omega) (by unfold gd at ha hb; omega)
 all_goals try (exfalso; simp_all; done)
 case refine_2.refine_2.refine_2.refine_2.refine_2.refine_1.refine_1.refine_1 =>
  have hc : a.text.length + b.text.length ≤ 24 := by
   simp only [decide_eq_true_eq] at h
   have : IntKind.i64.wrap ((a.text.length : Int) + (b.text.length : Int)) ≤ 24 := h
   omega
  refine Do.cat rfl rfl rfl rfl rfl (by unfold gd; omega) rfl ?_
  repeat (first | refine Do.q rfl ?_ | refine Do.nil ?_ | refine Do.sB rfl rfl rfl rfl rfl rfl rfl rfl rfl rfl rfl rfl ?_)
  refine V.bZ tk rfl rfl rfl rfl rfl (PLe.q ?_)
  simp_all [gF,gp]
 all_goals refine V.bZ tk rfl rfl rfl rfl rfl (PLe.q ?_)
 all_goals try simp only [valEq]
 case refine_2.refine_2.refine_2.refine_2.refine_2.refine_1.refine_1.refine_2 =>
  rw [hw] at h
  have hc : ¬ a.text.length + b.text.length ≤ 24 := by
   simp only [decide_eq_false_iff_not] at h
   omega
  simp_all [gF,gp,LVal.nul]
  rw [if_neg (by omega)]
  exact ⟨rfl,rfl,rfl⟩
 case refine_2.refine_2.refine_2.refine_2.refine_2.refine_1.refine_2 =>
  simp_all [gF,gp,LVal.nul]
  rw [if_neg (fun hh=>h hh.1.1 hh.1.2)]
  exact ⟨rfl,rfl,rfl⟩
 case refine_2.refine_2.refine_2.refine_2.refine_2.refine_2.refine_2 =>
  simp_all [gF,gp,LVal.nul]
  rw [if_neg (fun hh=>h hh.1 hh.2)]
  exact ⟨rfl,rfl,rfl⟩
 all_goals simp_all [gF,gp,LVal.nul]
end
end Go.Proofs.YtgaggbdcedpapaaGreat

namespace Go.Proofs.YtgaggbdcedpapaaGreat
noncomputable section
open Go Go.Ab
attribute [local irreducible] V Ao Do Gh Eff PH IntKind.wrap
set_option maxRecDepth 4000
def bs (name : List UInt8) : Option Nat :=
 if name == [43] || name == [45] || name == [42] || name == [61] || name == [60] || name == [60,61] || name == [97,110,100] || name == [111,114] || name == [124,124] then some 2
 else if name == [110,111,116] || name == [105,115,32,110,117,108,108] || name == [108,101,110,103,116,104] then some 1
 else if name == [105,102] then some 3 else none
def bh (name : List UInt8) (l : List LVal) : LVal :=
 let a := l.getD 0 .nul
 let b := l.getD 1 .nul
 let c := l.getD 2 .nul
 if bs name ≠ some l.length then .nul
 else if name == [105,115,32,110,117,108,108] then jX (a.kind == 0)
 else if name == [105,102] then (if jb a then b else c)
 else if name == [97,110,100] then bothV a b 0
 else if name == [111,114] then bothV a b 1
 else if l.any (fun v=>v.kind == 0) then .nul else gF name l
mutual
def bT (v : LEnv) : LExpr → LVal
 | .mk k n i x args =>
  if k == 1 then x
  else if k == 2 then (let j := aK (fun c : LCol=>c.name == n) v.cols
   if 0 ≤ j ∧ j < v.row.length then v.row.getD j.toNat .nul else .nul)
  else if k == 3 then (if 0 ≤ i ∧ i < v.params.length ∧ (v.params.getD i.toNat .nul).kind = x.kind then v.params.getD i.toNat .nul else .nul)
  else if k == 4 then (let j := aK (fun s : List UInt8=>n == s) v.vnames
   if 0 ≤ j ∧ j < v.vvals.length then v.vvals.getD j.toNat .nul else .nul)
  else if k == 5 then bh n (evalEs v args)
  else .nul
def evalEs (v : LEnv) : List LExpr → List LVal
 | []=>[]
 | e :: r=>bT v e :: evalEs v r
end
theorem evalEs_map (v : LEnv) : ∀ l,evalEs v l = l.map (bT v)
 | []=>rfl
 | e :: r=>by simp [evalEs,evalEs_map v r]
theorem fK {α : Type} : ∀ {l : List α},l.length = 2 → ∃ a b,l = [a,b]
 | [a,b],_=>⟨a,b,rfl⟩
theorem len3 {α : Type} : ∀ {l : List α},l.length = 3 → ∃ a b c,l = [a,b,c]
 | [a,b,c],_=>⟨a,b,c,rfl⟩
theorem evalRows {v : LEnv} {args : List LExpr} {j : Nat} (h : j < args.length) : ((args.take j).map (bT v)).map ae ++ [ae (bT v args[j])] = ((args.take (j + 1)).map (bT v)).map ae := by
 rw [List.take_add_one,List.getElem?_eq_getElem h]
 simp only [List.map_append,Option.toList,List.map_cons,List.map_nil]
set_option maxHeartbeats 4000000 in
theorem reckon_spec (v : LEnv) (e : LExpr)
  (ih : ∀ a ∈ e.args,aG Tryz.prog 138 [penv v,gY a] (ik (bT v a))) :
  aG Tryz.prog 171 [penv v,gY e] (ik (bh e.name (e.args.map (bT v)))) := by
 refine PH.intro Tryz.func171 rfl Tryz.ntmps171 rfl ?_
 repeat (first | refine Ao.q tk rfl ?_ | refine Ao.nil ?_ | refine V.seq ?_ | refine V.ab ?_ | refine V.ap ?_ | refine Ao.aF rfl rfl rfl rfl rfl rfl ?_ | (refine Ao.aJ tk rfl rfl rfl rfl rfl rfl ?_; intro bk))
 refine V.aZ tk 12 rfl rfl fun hl hby=>?_
 rw [List.length_map] at hl hby
 have hby' : e.args.length * 88 ≤ 2 ^ 47 := hby
 refine V.gr tk 5 5 (e := 53) rfl rfl ?_
 refine V.ij (X := Nat × OwnRef) (fun X=>⟨92,upd (upd (upd (upd (upd (upd (upd (fun _=>.any) 5 (.own 5 X.2 (((e.args.take X.1).map (bT v)).map ae).length)) 4 (.box 4 bk 0)) 3 (.ptr (kp e))) 2 (.ptr (encEnv v))) 12 (mE e.args)) 13 (ac (e.args.map aI).length)) 14 (ac X.1),upd (fun _=>none) 4 (some ⟨bk,ae .nul⟩),upd (fun _=>none) 5 (some ⟨X.2,53,((e.args.take X.1).map (bT v)).map ae,true⟩)⟩)
  (fun X=>X.1 ≤ e.args.length) (fun X=>e.args.length - X.1) (0,⟨none,0⟩) (Nat.zero_le _) (Gh.le (SLe.aa (PLe.q rfl) (SLe.aa (PLe.q rfl) (SLe.aa (PLe.q rfl) (SLe.aa (PLe.q rfl) (SLe.aa (PLe.q rfl) (SLe.aa (PLe.q rfl) (SLe.aa (PLe.q rfl) SLe.nil))))))) (BLe.ao rfl (il.r) BLe.nil) (OLe.am rfl OLe.nil)) ?_
 rintro ⟨j,g⟩ hj
 replace hj : j ≤ e.args.length := hj
 repeat (first | refine Ao.q tk rfl ?_ | refine Ao.nil ?_ | refine V.seq ?_ | refine V.ab ?_)
 refine V.ak rfl (fun h=>?_) (fun h=>?_)
 ·have hlt : j < e.args.length := by simpa using h
  repeat (first | refine V.seq ?_ | refine V.ab ?_ | refine V.al ?_ | refine V.ap ?_)
  refine Ao.idx tk rfl rfl rfl rfl rfl rfl (Int.natCast_nonneg j) (oe hlt) rfl ?_
  repeat (first | refine Ao.q tk rfl ?_ | refine Ao.nil ?_ | refine V.ab ?_ | refine Ao.lB tk rfl rfl rfl rfl rfl rfl rfl ?_ | (refine Ao.aJ tk rfl rfl rfl rfl rfl rfl ?_; intro bk) | refine Ao.sB tk rfl rfl rfl rfl rfl rfl rfl rfl rfl rfl rfl ?_)
  refine Ao.ah (g := 138) rfl rfl rfl Tryz.call138 (il.r) (ih _ (List.getElem_mem hlt)) rfl ?_
  repeat (refine Ao.bsF tk rfl rfl rfl rfl rfl rfl ?_)
  refine Ao.appendO (rows2 := [ae (bT v e.args[j])]) tk rfl rfl rfl rfl rfl rfl rfl rfl rfl rfl rfl rfl rfl ?_ ?_ fun g'=>?_
  ·simp only [List.length_map,List.length_take,List.length_cons,List.length_nil]
   rw [Nat.min_eq_left hj]
   show (j + 1) * 32 ≤ 2 ^ 47
   omega
  ·simp only [List.length_map,List.length_take,List.length_cons,List.length_nil]
   omega
  repeat (first | refine Ao.q tk rfl ?_ | refine Ao.nil ?_ | refine V.ab ?_ | refine V.blk ?_)
  rw [evalRows hlt]
  refine V.iB (j + 1,g') ?_ ?_ (Gh.le (SLe.aa (PLe.q (az (by omega))) (SLe.aa (PLe.q rfl) (SLe.aa (PLe.q rfl) (SLe.aa (PLe.q rfl) (SLe.aa (PLe.q rfl) (SLe.aa (PLe.q rfl) (SLe.aa (PLe.q rfl) SLe.nil))))))) (BLe.ao rfl (il.r) BLe.nil) (OLe.am rfl OLe.nil))
  ·show e.args.length - (j + 1) < e.args.length - j
   omega
  ·exact hlt
 have hge : j = e.args.length := by have : ¬ j < e.args.length := by simpa using h
                                    omega
 subst hge
 refine V.dm 5 rfl rfl rfl ?_
 simp only [List.take_length]
 generalize e.args.map (bT v) = L
 refine V.gh (st' := ⟨92,upd (upd (upd (fun _=>.any) 5 (pvals L)) 4 (.box 4 bk 0)) 3 (.ptr [ac e.kind,.str e.name,ac e.index,ac e.value.kind,ac e.value.int,.str e.value.text,mE e.args]),upd (fun _=>none) 4 (some ⟨bk,ae .nul⟩),fun _=>none⟩) (Gh.le (SLe.aa (PLe.q rfl) (SLe.aa (PLe.q rfl) (SLe.aa (PLe.q rfl) SLe.nil))) (BLe.ao rfl (il.r) BLe.nil) OLe.nil) ?_
 generalize e.name = name
 by_cases hn : name ∈ cp
 ·simp only [cp,List.mem_cons,List.mem_nil_iff,or_false] at hn
  rcases hn with rfl | rfl | rfl | rfl | rfl | rfl | rfl | rfl | rfl | rfl | rfl | rfl | rfl
  ·have hi : aK (fun x=>[43] == x) cp = 0 := by rfl
   by_cases hl : L.length = 2
   ·obtain ⟨a,b,rfl⟩ := fK hl
    repeat' (first | (show Ao _ _ _ _ _; first | refine Ao.q tk rfl ?_ | refine Ao.nil ?_ | refine Ao.sB tk rfl rfl rfl rfl rfl rfl rfl rfl rfl rfl rfl ?_ | refine Ao.ah (g := 187) rfl rfl rfl Tryz.call187 (il.r) (fo) rfl ?_ | refine Ao.ah (g := 79) rfl rfl rfl Tryz.call79 (il.r) (hi ▸ bO _ _) rfl ?_ | refine Ao.ah (g := 189) rfl rfl rfl Tryz.call189 (il.r) (cl (p := fun v=>v.kind == 0) _ Tryz.call190 fun v _=>cL v) rfl ?_ | refine Ao.ah (g := 191) rfl rfl rfl Tryz.call191 (il.r) (hO _ _ _ rfl rfl) rfl ?_) | (show V _ _ _ _ _; first | refine V.seq ?_ | refine V.ab ?_ | refine V.al ?_ | refine V.be rfl ?_ | refine V.ap ?_ | refine V.blk ?_ | refine V.aB rfl ?_ | refine V.ak rfl (fun h=>?_) (fun h=>?_)))
    all_goals refine V.bZ tk rfl rfl rfl rfl rfl (PLe.q ?_)
    all_goals simp_all [bh,bs,LVal.nul]
   ·repeat' (first | (show Ao _ _ _ _ _; first | refine Ao.q tk rfl ?_ | refine Ao.nil ?_ | refine Ao.sB tk rfl rfl rfl rfl rfl rfl rfl rfl rfl rfl rfl ?_ | refine Ao.ah (g := 187) rfl rfl rfl Tryz.call187 (il.r) (fo) rfl ?_ | refine Ao.ah (g := 79) rfl rfl rfl Tryz.call79 (il.r) (hi ▸ bO _ _) rfl ?_ | refine Ao.ah (g := 189) rfl rfl rfl Tryz.call189 (il.r) (cl (p := fun v=>v.kind == 0) _ Tryz.call190 fun v _=>cL v) rfl ?_) | (show V _ _ _ _ _; first | refine V.seq ?_ | refine V.ab ?_ | refine V.al ?_ | refine V.be rfl ?_ | refine V.ap ?_ | refine V.blk ?_ | refine V.aB rfl ?_ | refine V.ak rfl (fun h=>?_) (fun h=>?_)))
    all_goals try (exfalso; simp_all; omega)
    all_goals refine V.bZ tk rfl rfl rfl rfl rfl (PLe.q ?_)
    all_goals (have : bh [43] L = .nul := by simp [bh,bs]; omega)
    all_goals (rw [this]; rfl)
  ·have hi : aK (fun x=>[45] == x) cp = 1 := by rfl
   by_cases hl : L.length = 2
   ·obtain ⟨a,b,rfl⟩ := fK hl
    repeat' (first | (show Ao _ _ _ _ _; first | refine Ao.q tk rfl ?_ | refine Ao.nil ?_ | refine Ao.sB tk rfl rfl rfl rfl rfl rfl rfl rfl rfl rfl rfl ?_ | refine Ao.ah (g := 187) rfl rfl rfl Tryz.call187 (il.r) (fo) rfl ?_ | refine Ao.ah (g := 79) rfl rfl rfl Tryz.call79 (il.r) (hi ▸ bO _ _) rfl ?_ | refine Ao.ah (g := 189) rfl rfl rfl Tryz.call189 (il.r) (cl (p := fun v=>v.kind == 0) _ Tryz.call190 fun v _=>cL v) rfl ?_ | refine Ao.ah (g := 191) rfl rfl rfl Tryz.call191 (il.r) (hO _ _ _ rfl rfl) rfl ?_) | (show V _ _ _ _ _; first | refine V.seq ?_ | refine V.ab ?_ | refine V.al ?_ | refine V.be rfl ?_ | refine V.ap ?_ | refine V.blk ?_ | refine V.aB rfl ?_ | refine V.ak rfl (fun h=>?_) (fun h=>?_)))
    all_goals refine V.bZ tk rfl rfl rfl rfl rfl (PLe.q ?_)
    all_goals simp_all [bh,bs,LVal.nul]
   ·repeat' (first | (show Ao _ _ _ _ _; first | refine Ao.q tk rfl ?_ | refine Ao.nil ?_ | refine Ao.sB tk rfl rfl rfl rfl rfl rfl rfl rfl rfl rfl rfl ?_ | refine Ao.ah (g := 187) rfl rfl rfl Tryz.call187 (il.r) (fo) rfl ?_ | refine Ao.ah (g := 79) rfl rfl rfl Tryz.call79 (il.r) (hi ▸ bO _ _) rfl ?_ | refine Ao.ah (g := 189) rfl rfl rfl Tryz.call189 (il.r) (cl (p := fun v=>v.kind == 0) _ Tryz.call190 fun v _=>cL v) rfl ?_) | (show V _ _ _ _ _; first | refine V.seq ?_ | refine V.ab ?_ | refine V.al ?_ | refine V.be rfl ?_ | refine V.ap ?_ | refine V.blk ?_ | refine V.aB rfl ?_ | refine V.ak rfl (fun h=>?_) (fun h=>?_)))
    all_goals try (exfalso; simp_all; omega)
    all_goals refine V.bZ tk rfl rfl rfl rfl rfl (PLe.q ?_)
    all_goals (have : bh [45] L = .nul := by simp [bh,bs]; omega)
    all_goals (rw [this]; rfl)
  ·have hi : aK (fun x=>[42] == x) cp = 2 := by rfl
   by_cases hl : L.length = 2
   ·obtain ⟨a,b,rfl⟩ := fK hl
    repeat' (first | (show Ao _ _ _ _ _; first | refine Ao.q tk rfl ?_ | refine Ao.nil ?_ | refine Ao.sB tk rfl rfl rfl rfl rfl rfl rfl rfl rfl rfl rfl ?_ | refine Ao.ah (g := 187) rfl rfl rfl Tryz.call187 (il.r) (fo) rfl ?_ | refine Ao.ah (g := 79) rfl rfl rfl Tryz.call79 (il.r) (hi ▸ bO _ _) rfl ?_ | refine Ao.ah (g := 189) rfl rfl rfl Tryz.call189 (il.r) (cl (p := fun v=>v.kind == 0) _ Tryz.call190 fun v _=>cL v) rfl ?_ | refine Ao.ah (g := 191) rfl rfl rfl Tryz.call191 (il.r) (hO _ _ _ rfl rfl) rfl ?_) | (show V _ _ _ _ _; first | refine V.seq ?_ | refine V.ab ?_ | refine V.al ?_ | refine V.be rfl ?_ | refine V.ap ?_ | refine V.blk ?_ | refine V.aB rfl ?_ | refine V.ak rfl (fun h=>?_) (fun h=>?_)))
    all_goals refine V.bZ tk rfl rfl rfl rfl rfl (PLe.q ?_)
    all_goals simp_all [bh,bs,LVal.nul]
   ·repeat' (first | (show Ao _ _ _ _ _; first | refine Ao.q tk rfl ?_ | refine Ao.nil ?_ | refine Ao.sB tk rfl rfl rfl rfl rfl rfl rfl rfl rfl rfl rfl ?_ | refine Ao.ah (g := 187) rfl rfl rfl Tryz.call187 (il.r) (fo) rfl ?_ | refine Ao.ah (g := 79) rfl rfl rfl Tryz.call79 (il.r) (hi ▸ bO _ _) rfl ?_ | refine Ao.ah (g := 189) rfl rfl rfl Tryz.call189 (il.r) (cl (p := fun v=>v.kind == 0) _ Tryz.call190 fun v _=>cL v) rfl ?_) | (show V _ _ _ _ _; first | refine V.seq ?_ | refine V.ab ?_ | refine V.al ?_ | refine V.be rfl ?_ | refine V.ap ?_ | refine V.blk ?_ | refine V.aB rfl ?_ | refine V.ak rfl (fun h=>?_) (fun h=>?_)))
    all_goals try (exfalso; simp_all; omega)
    all_goals refine V.bZ tk rfl rfl rfl rfl rfl (PLe.q ?_)
    all_goals (have : bh [42] L = .nul := by simp [bh,bs]; omega)
    all_goals (rw [this]; rfl)
  ·have hi : aK (fun x=>[61] == x) cp = 3 := by rfl
   by_cases hl : L.length = 2
   ·obtain ⟨a,b,rfl⟩ := fK hl
    repeat' (first | (show Ao _ _ _ _ _; first | refine Ao.q tk rfl ?_ | refine Ao.nil ?_ | refine Ao.sB tk rfl rfl rfl rfl rfl rfl rfl rfl rfl rfl rfl ?_ | refine Ao.ah (g := 187) rfl rfl rfl Tryz.call187 (il.r) (fo) rfl ?_ | refine Ao.ah (g := 79) rfl rfl rfl Tryz.call79 (il.r) (hi ▸ bO _ _) rfl ?_ | refine Ao.ah (g := 189) rfl rfl rfl Tryz.call189 (il.r) (cl (p := fun v=>v.kind == 0) _ Tryz.call190 fun v _=>cL v) rfl ?_ | refine Ao.ah (g := 191) rfl rfl rfl Tryz.call191 (il.r) (hO _ _ _ rfl rfl) rfl ?_) | (show V _ _ _ _ _; first | refine V.seq ?_ | refine V.ab ?_ | refine V.al ?_ | refine V.be rfl ?_ | refine V.ap ?_ | refine V.blk ?_ | refine V.aB rfl ?_ | refine V.ak rfl (fun h=>?_) (fun h=>?_)))
    all_goals refine V.bZ tk rfl rfl rfl rfl rfl (PLe.q ?_)
    all_goals simp_all [bh,bs,LVal.nul]
   ·repeat' (first | (show Ao _ _ _ _ _; first | refine Ao.q tk rfl ?_ | refine Ao.nil ?_ | refine Ao.sB tk rfl rfl rfl rfl rfl rfl rfl rfl rfl rfl rfl ?_ | refine Ao.ah (g := 187) rfl rfl rfl Tryz.call187 (il.r) (fo) rfl ?_ | refine Ao.ah (g := 79) rfl rfl rfl Tryz.call79 (il.r) (hi ▸ bO _ _) rfl ?_ | refine Ao.ah (g := 189) rfl rfl rfl Tryz.call189 (il.r) (cl (p := fun v=>v.kind == 0) _ Tryz.call190 fun v _=>cL v) rfl ?_) | (show V _ _ _ _ _; first | refine V.seq ?_ | refine V.ab ?_ | refine V.al ?_ | refine V.be rfl ?_ | refine V.ap ?_ | refine V.blk ?_ | refine V.aB rfl ?_ | refine V.ak rfl (fun h=>?_) (fun h=>?_)))
    all_goals try (exfalso; simp_all; omega)
    all_goals refine V.bZ tk rfl rfl rfl rfl rfl (PLe.q ?_)
    all_goals (have : bh [61] L = .nul := by simp [bh,bs]; omega)
    all_goals (rw [this]; rfl)
  ·have hi : aK (fun x=>[60] == x) cp = 4 := by rfl
   by_cases hl : L.length = 2
   ·obtain ⟨a,b,rfl⟩ := fK hl
    repeat' (first | (show Ao _ _ _ _ _; first | refine Ao.q tk rfl ?_ | refine Ao.nil ?_ | refine Ao.sB tk rfl rfl rfl rfl rfl rfl rfl rfl rfl rfl rfl ?_ | refine Ao.ah (g := 187) rfl rfl rfl Tryz.call187 (il.r) (fo) rfl ?_ | refine Ao.ah (g := 79) rfl rfl rfl Tryz.call79 (il.r) (hi ▸ bO _ _) rfl ?_ | refine Ao.ah (g := 189) rfl rfl rfl Tryz.call189 (il.r) (cl (p := fun v=>v.kind == 0) _ Tryz.call190 fun v _=>cL v) rfl ?_ | refine Ao.ah (g := 191) rfl rfl rfl Tryz.call191 (il.r) (hO _ _ _ rfl rfl) rfl ?_) | (show V _ _ _ _ _; first | refine V.seq ?_ | refine V.ab ?_ | refine V.al ?_ | refine V.be rfl ?_ | refine V.ap ?_ | refine V.blk ?_ | refine V.aB rfl ?_ | refine V.ak rfl (fun h=>?_) (fun h=>?_)))
    all_goals refine V.bZ tk rfl rfl rfl rfl rfl (PLe.q ?_)
    all_goals simp_all [bh,bs,LVal.nul]
   ·repeat' (first | (show Ao _ _ _ _ _; first | refine Ao.q tk rfl ?_ | refine Ao.nil ?_ | refine Ao.sB tk rfl rfl rfl rfl rfl rfl rfl rfl rfl rfl rfl ?_ | refine Ao.ah (g := 187) rfl rfl rfl Tryz.call187 (il.r) (fo) rfl ?_ | refine Ao.ah (g := 79) rfl rfl rfl Tryz.call79 (il.r) (hi ▸ bO _ _) rfl ?_ | refine Ao.ah (g := 189) rfl rfl rfl Tryz.call189 (il.r) (cl (p := fun v=>v.kind == 0) _ Tryz.call190 fun v _=>cL v) rfl ?_) | (show V _ _ _ _ _; first | refine V.seq ?_ | refine V.ab ?_ | refine V.al ?_ | refine V.be rfl ?_ | refine V.ap ?_ | refine V.blk ?_ | refine V.aB rfl ?_ | refine V.ak rfl (fun h=>?_) (fun h=>?_)))
    all_goals try (exfalso; simp_all; omega)
    all_goals refine V.bZ tk rfl rfl rfl rfl rfl (PLe.q ?_)
    all_goals (have : bh [60] L = .nul := by simp [bh,bs]; omega)
    all_goals (rw [this]; rfl)
  ·have hi : aK (fun x=>[60,61] == x) cp = 5 := by rfl
   by_cases hl : L.length = 2
   ·obtain ⟨a,b,rfl⟩ := fK hl
    repeat' (first | (show Ao _ _ _ _ _; first | refine Ao.q tk rfl ?_ | refine Ao.nil ?_ | refine Ao.sB tk rfl rfl rfl rfl rfl rfl rfl rfl rfl rfl rfl ?_ | refine Ao.ah (g := 187) rfl rfl rfl Tryz.call187 (il.r) (fo) rfl ?_ | refine Ao.ah (g := 79) rfl rfl rfl Tryz.call79 (il.r) (hi ▸ bO _ _) rfl ?_ | refine Ao.ah (g := 189) rfl rfl rfl Tryz.call189 (il.r) (cl (p := fun v=>v.kind == 0) _ Tryz.call190 fun v _=>cL v) rfl ?_ | refine Ao.ah (g := 191) rfl rfl rfl Tryz.call191 (il.r) (hO _ _ _ rfl rfl) rfl ?_) | (show V _ _ _ _ _; first | refine V.seq ?_ | refine V.ab ?_ | refine V.al ?_ | refine V.be rfl ?_ | refine V.ap ?_ | refine V.blk ?_ | refine V.aB rfl ?_ | refine V.ak rfl (fun h=>?_) (fun h=>?_)))
    all_goals refine V.bZ tk rfl rfl rfl rfl rfl (PLe.q ?_)
    all_goals simp_all [bh,bs,LVal.nul]
   ·repeat' (first | (show Ao _ _ _ _ _; first | refine Ao.q tk rfl ?_ | refine Ao.nil ?_ | refine Ao.sB tk rfl rfl rfl rfl rfl rfl rfl rfl rfl rfl rfl ?_ | refine Ao.ah (g := 187) rfl rfl rfl Tryz.call187 (il.r) (fo) rfl ?_ | refine Ao.ah (g := 79) rfl rfl rfl Tryz.call79 (il.r) (hi ▸ bO _ _) rfl ?_ | refine Ao.ah (g := 189) rfl rfl rfl Tryz.call189 (il.r) (cl (p := fun v=>v.kind == 0) _ Tryz.call190 fun v _=>cL v) rfl ?_) | (show V _ _ _ _ _; first | refine V.seq ?_ | refine V.ab ?_ | refine V.al ?_ | refine V.be rfl ?_ | refine V.ap ?_ | refine V.blk ?_ | refine V.aB rfl ?_ | refine V.ak rfl (fun h=>?_) (fun h=>?_)))
    all_goals try (exfalso; simp_all; omega)
    all_goals refine V.bZ tk rfl rfl rfl rfl rfl (PLe.q ?_)
    all_goals (have : bh [60,61] L = .nul := by simp [bh,bs]; omega)
    all_goals (rw [this]; rfl)
  ·have hi : aK (fun x=>[97,110,100] == x) cp = 6 := by rfl
   by_cases hl : L.length = 2
   ·obtain ⟨a,b,rfl⟩ := fK hl
    repeat' (first | (show Ao _ _ _ _ _; first | refine Ao.q tk rfl ?_ | refine Ao.nil ?_ | refine Ao.ah (g := 187) rfl rfl rfl Tryz.call187 (il.r) (fo) rfl ?_ | refine Ao.ah (g := 79) rfl rfl rfl Tryz.call79 (il.r) (hi ▸ bO _ _) rfl ?_) | (show V _ _ _ _ _; first | refine V.seq ?_ | refine V.ab ?_ | refine V.al ?_ | refine V.bu rfl ?_ | refine V.be rfl ?_ | refine V.ap ?_ | refine V.aB rfl ?_ | (show V _ _ _ (.code (.region 19 _ true) :: _) _; refine V.bc tk mok ⟨false,false,[]⟩ [0,1,2,3,4,5,6,7] rfl (by decide +kernel) rfl ?_)) | (show Do _ _ _ _ _ _ _; first | refine Do.q rfl ?_ | refine Do.nil ?_ | refine Do.sB rfl rfl rfl rfl rfl rfl rfl rfl rfl rfl rfl rfl ?_ | refine Do.aR (g := 188) rfl rfl rfl rfl Tryz.call188 (il.r) (bothV_spec _ _ _) rfl ?_))
    all_goals refine V.bZ tk rfl rfl rfl rfl rfl (PLe.q ?_)
    all_goals simp_all [bh,bs,LVal.nul]
   ·repeat' (first | (show Ao _ _ _ _ _; first | refine Ao.q tk rfl ?_ | refine Ao.nil ?_ | refine Ao.sB tk rfl rfl rfl rfl rfl rfl rfl rfl rfl rfl rfl ?_ | refine Ao.ah (g := 187) rfl rfl rfl Tryz.call187 (il.r) (fo) rfl ?_ | refine Ao.ah (g := 79) rfl rfl rfl Tryz.call79 (il.r) (hi ▸ bO _ _) rfl ?_) | (show V _ _ _ _ _; first | refine V.seq ?_ | refine V.ab ?_ | refine V.al ?_ | refine V.bu rfl ?_ | refine V.be rfl ?_ | refine V.ap ?_ | refine V.aB rfl ?_ | (show V _ _ _ (.code (.region 19 _ true) :: _) _; refine V.bc tk mok ⟨false,false,[]⟩ [0,1,2,3,4,5,6,7] rfl (by decide +kernel) rfl ?_) | refine V.ak rfl (fun h=>?_) (fun h=>?_)) | (show Do _ _ _ _ _ _ _; first | refine Do.q rfl ?_))
    all_goals try (exfalso; simp_all; omega)
    all_goals refine V.bZ tk rfl rfl rfl rfl rfl (PLe.q ?_)
    all_goals (have : bh [97,110,100] L = .nul := by simp [bh,bs]; omega)
    all_goals (rw [this]; rfl)
  ·have hi : aK (fun x=>[111,114] == x) cp = 7 := by rfl
   by_cases hl : L.length = 2
   ·obtain ⟨a,b,rfl⟩ := fK hl
    repeat' (first | (show Ao _ _ _ _ _; first | refine Ao.q tk rfl ?_ | refine Ao.nil ?_ | refine Ao.ah (g := 187) rfl rfl rfl Tryz.call187 (il.r) (fo) rfl ?_ | refine Ao.ah (g := 79) rfl rfl rfl Tryz.call79 (il.r) (hi ▸ bO _ _) rfl ?_) | (show V _ _ _ _ _; first | refine V.seq ?_ | refine V.ab ?_ | refine V.al ?_ | refine V.bu rfl ?_ | refine V.be rfl ?_ | refine V.ap ?_ | refine V.aB rfl ?_ | (show V _ _ _ (.code (.region 21 _ true) :: _) _; refine V.bc tk mok ⟨false,false,[]⟩ [0,1,2,3,4,5,6,7] rfl (by decide +kernel) rfl ?_)) | (show Do _ _ _ _ _ _ _; first | refine Do.q rfl ?_ | refine Do.nil ?_ | refine Do.sB rfl rfl rfl rfl rfl rfl rfl rfl rfl rfl rfl rfl ?_ | refine Do.aR (g := 188) rfl rfl rfl rfl Tryz.call188 (il.r) (bothV_spec _ _ _) rfl ?_))
    all_goals refine V.bZ tk rfl rfl rfl rfl rfl (PLe.q ?_)
    all_goals simp_all [bh,bs,LVal.nul]
   ·repeat' (first | (show Ao _ _ _ _ _; first | refine Ao.q tk rfl ?_ | refine Ao.nil ?_ | refine Ao.sB tk rfl rfl rfl rfl rfl rfl rfl rfl rfl rfl rfl ?_ | refine Ao.ah (g := 187) rfl rfl rfl Tryz.call187 (il.r) (fo) rfl ?_ | refine Ao.ah (g := 79) rfl rfl rfl Tryz.call79 (il.r) (hi ▸ bO _ _) rfl ?_) | (show V _ _ _ _ _; first | refine V.seq ?_ | refine V.ab ?_ | refine V.al ?_ | refine V.bu rfl ?_ | refine V.be rfl ?_ | refine V.ap ?_ | refine V.aB rfl ?_ | (show V _ _ _ (.code (.region 21 _ true) :: _) _; refine V.bc tk mok ⟨false,false,[]⟩ [0,1,2,3,4,5,6,7] rfl (by decide +kernel) rfl ?_) | refine V.ak rfl (fun h=>?_) (fun h=>?_)) | (show Do _ _ _ _ _ _ _; first | refine Do.q rfl ?_))
    all_goals try (exfalso; simp_all; omega)
    all_goals refine V.bZ tk rfl rfl rfl rfl rfl (PLe.q ?_)
    all_goals (have : bh [111,114] L = .nul := by simp [bh,bs]; omega)
    all_goals (rw [this]; rfl)
  ·have hi : aK (fun x=>[110,111,116] == x) cp = 8 := by rfl
   by_cases hl : L.length = 1
   ·obtain ⟨a,rfl⟩ := List.length_eq_one_iff.1 hl
    repeat' (first | (show Ao _ _ _ _ _; first | refine Ao.q tk rfl ?_ | refine Ao.nil ?_ | refine Ao.sB tk rfl rfl rfl rfl rfl rfl rfl rfl rfl rfl rfl ?_ | refine Ao.ah (g := 187) rfl rfl rfl Tryz.call187 (il.r) (fo) rfl ?_ | refine Ao.ah (g := 79) rfl rfl rfl Tryz.call79 (il.r) (hi ▸ bO _ _) rfl ?_ | refine Ao.ah (g := 189) rfl rfl rfl Tryz.call189 (il.r) (cl (p := fun v=>v.kind == 0) _ Tryz.call190 fun v _=>cL v) rfl ?_ | refine Ao.ah (g := 191) rfl rfl rfl Tryz.call191 (il.r) (oJ _ _ (by simp)) rfl ?_) | (show V _ _ _ _ _; first | refine V.seq ?_ | refine V.ab ?_ | refine V.al ?_ | refine V.be rfl ?_ | refine V.ap ?_ | refine V.blk ?_ | refine V.aB rfl ?_ | refine V.ak rfl (fun h=>?_) (fun h=>?_)))
    all_goals refine V.bZ tk rfl rfl rfl rfl rfl (PLe.q ?_)
    all_goals simp_all [bh,bs,LVal.nul]
   ·repeat' (first | (show Ao _ _ _ _ _; first | refine Ao.q tk rfl ?_ | refine Ao.nil ?_ | refine Ao.sB tk rfl rfl rfl rfl rfl rfl rfl rfl rfl rfl rfl ?_ | refine Ao.ah (g := 187) rfl rfl rfl Tryz.call187 (il.r) (fo) rfl ?_ | refine Ao.ah (g := 79) rfl rfl rfl Tryz.call79 (il.r) (hi ▸ bO _ _) rfl ?_ | refine Ao.ah (g := 189) rfl rfl rfl Tryz.call189 (il.r) (cl (p := fun v=>v.kind == 0) _ Tryz.call190 fun v _=>cL v) rfl ?_) | (show V _ _ _ _ _; first | refine V.seq ?_ | refine V.ab ?_ | refine V.al ?_ | refine V.be rfl ?_ | refine V.ap ?_ | refine V.blk ?_ | refine V.aB rfl ?_ | refine V.ak rfl (fun h=>?_) (fun h=>?_)))
    all_goals try (exfalso; simp_all; omega)
    all_goals refine V.bZ tk rfl rfl rfl rfl rfl (PLe.q ?_)
    all_goals (have : bh [110,111,116] L = .nul := by simp [bh,bs]; omega)
    all_goals (rw [this]; rfl)
  ·have hi : aK (fun x=>[124,124] == x) cp = 9 := by rfl
   by_cases hl : L.length = 2
   ·obtain ⟨a,b,rfl⟩ := fK hl
    repeat' (first | (show Ao _ _ _ _ _; first | refine Ao.q tk rfl ?_ | refine Ao.nil ?_ | refine Ao.sB tk rfl rfl rfl rfl rfl rfl rfl rfl rfl rfl rfl ?_ | refine Ao.ah (g := 187) rfl rfl rfl Tryz.call187 (il.r) (fo) rfl ?_ | refine Ao.ah (g := 79) rfl rfl rfl Tryz.call79 (il.r) (hi ▸ bO _ _) rfl ?_ | refine Ao.ah (g := 189) rfl rfl rfl Tryz.call189 (il.r) (cl (p := fun v=>v.kind == 0) _ Tryz.call190 fun v _=>cL v) rfl ?_ | refine Ao.ah (g := 191) rfl rfl rfl Tryz.call191 (il.r) (hO _ _ _ rfl rfl) rfl ?_) | (show V _ _ _ _ _; first | refine V.seq ?_ | refine V.ab ?_ | refine V.al ?_ | refine V.be rfl ?_ | refine V.ap ?_ | refine V.blk ?_ | refine V.aB rfl ?_ | refine V.ak rfl (fun h=>?_) (fun h=>?_)))
    all_goals refine V.bZ tk rfl rfl rfl rfl rfl (PLe.q ?_)
    all_goals simp_all [bh,bs,LVal.nul]
   ·repeat' (first | (show Ao _ _ _ _ _; first | refine Ao.q tk rfl ?_ | refine Ao.nil ?_ | refine Ao.sB tk rfl rfl rfl rfl rfl rfl rfl rfl rfl rfl rfl ?_ | refine Ao.ah (g := 187) rfl rfl rfl Tryz.call187 (il.r) (fo) rfl ?_ | refine Ao.ah (g := 79) rfl rfl rfl Tryz.call79 (il.r) (hi ▸ bO _ _) rfl ?_ | refine Ao.ah (g := 189) rfl rfl rfl Tryz.call189 (il.r) (cl (p := fun v=>v.kind == 0) _ Tryz.call190 fun v _=>cL v) rfl ?_) | (show V _ _ _ _ _; first | refine V.seq ?_ | refine V.ab ?_ | refine V.al ?_ | refine V.be rfl ?_ | refine V.ap ?_ | refine V.blk ?_ | refine V.aB rfl ?_ | refine V.ak rfl (fun h=>?_) (fun h=>?_)))
    all_goals try (exfalso; simp_all; omega)
    all_goals refine V.bZ tk rfl rfl rfl rfl rfl (PLe.q ?_)
    all_goals (have : bh [124,124] L = .nul := by simp [bh,bs]; omega)
    all_goals (rw [this]; rfl)
  ·have hi : aK (fun x=>[105,115,32,110,117,108,108] == x) cp = 10 := by rfl
   by_cases hl : L.length = 1
   ·obtain ⟨a,rfl⟩ := List.length_eq_one_iff.1 hl
    repeat' (first | (show Ao _ _ _ _ _; first | refine Ao.q tk rfl ?_ | refine Ao.nil ?_ | refine Ao.sB tk rfl rfl rfl rfl rfl rfl rfl rfl rfl rfl rfl ?_ | refine Ao.ah (g := 187) rfl rfl rfl Tryz.call187 (il.r) (fo) rfl ?_ | refine Ao.ah (g := 79) rfl rfl rfl Tryz.call79 (il.r) (hi ▸ bO _ _) rfl ?_ | refine Ao.ah (g := 58) rfl rfl rfl Tryz.call58 (il.r) (jL _) rfl ?_) | (show V _ _ _ _ _; first | refine V.seq ?_ | refine V.ab ?_ | refine V.al ?_ | refine V.bu rfl ?_ | refine V.be rfl ?_ | refine V.ap ?_ | refine V.aB rfl ?_))
    all_goals refine V.bZ tk rfl rfl rfl rfl rfl (PLe.q ?_)
    all_goals simp_all [bh,bs,LVal.nul]
   ·repeat' (first | (show Ao _ _ _ _ _; first | refine Ao.q tk rfl ?_ | refine Ao.nil ?_ | refine Ao.sB tk rfl rfl rfl rfl rfl rfl rfl rfl rfl rfl rfl ?_ | refine Ao.ah (g := 187) rfl rfl rfl Tryz.call187 (il.r) (fo) rfl ?_ | refine Ao.ah (g := 79) rfl rfl rfl Tryz.call79 (il.r) (hi ▸ bO _ _) rfl ?_) | (show V _ _ _ _ _; first | refine V.seq ?_ | refine V.ab ?_ | refine V.al ?_ | refine V.bu rfl ?_ | refine V.ap ?_ | refine V.aB rfl ?_ | refine V.ak rfl (fun h=>?_) (fun h=>?_)))
    all_goals try (exfalso; simp_all; omega)
    all_goals refine V.bZ tk rfl rfl rfl rfl rfl (PLe.q ?_)
    all_goals (have : bh [105,115,32,110,117,108,108] L = .nul := by simp [bh,bs]; omega)
    all_goals (rw [this]; rfl)
  ·have hi : aK (fun x=>[108,101,110,103,116,104] == x) cp = 11 := by rfl
   by_cases hl : L.length = 1
   ·obtain ⟨a,rfl⟩ := List.length_eq_one_iff.1 hl
    repeat' (first | (show Ao _ _ _ _ _; first | refine Ao.q tk rfl ?_ | refine Ao.nil ?_ | refine Ao.sB tk rfl rfl rfl rfl rfl rfl rfl rfl rfl rfl rfl ?_ | refine Ao.ah (g := 187) rfl rfl rfl Tryz.call187 (il.r) (fo) rfl ?_ | refine Ao.ah (g := 79) rfl rfl rfl Tryz.call79 (il.r) (hi ▸ bO _ _) rfl ?_ | refine Ao.ah (g := 189) rfl rfl rfl Tryz.call189 (il.r) (cl (p := fun v=>v.kind == 0) _ Tryz.call190 fun v _=>cL v) rfl ?_ | refine Ao.ah (g := 191) rfl rfl rfl Tryz.call191 (il.r) (oJ _ _ (by simp)) rfl ?_) | (show V _ _ _ _ _; first | refine V.seq ?_ | refine V.ab ?_ | refine V.al ?_ | refine V.be rfl ?_ | refine V.ap ?_ | refine V.blk ?_ | refine V.aB rfl ?_ | refine V.ak rfl (fun h=>?_) (fun h=>?_)))
    all_goals refine V.bZ tk rfl rfl rfl rfl rfl (PLe.q ?_)
    all_goals simp_all [bh,bs,LVal.nul]
   ·repeat' (first | (show Ao _ _ _ _ _; first | refine Ao.q tk rfl ?_ | refine Ao.nil ?_ | refine Ao.sB tk rfl rfl rfl rfl rfl rfl rfl rfl rfl rfl rfl ?_ | refine Ao.ah (g := 187) rfl rfl rfl Tryz.call187 (il.r) (fo) rfl ?_ | refine Ao.ah (g := 79) rfl rfl rfl Tryz.call79 (il.r) (hi ▸ bO _ _) rfl ?_ | refine Ao.ah (g := 189) rfl rfl rfl Tryz.call189 (il.r) (cl (p := fun v=>v.kind == 0) _ Tryz.call190 fun v _=>cL v) rfl ?_) | (show V _ _ _ _ _; first | refine V.seq ?_ | refine V.ab ?_ | refine V.al ?_ | refine V.be rfl ?_ | refine V.ap ?_ | refine V.blk ?_ | refine V.aB rfl ?_ | refine V.ak rfl (fun h=>?_) (fun h=>?_)))
    all_goals try (exfalso; simp_all; omega)
    all_goals refine V.bZ tk rfl rfl rfl rfl rfl (PLe.q ?_)
    all_goals (have : bh [108,101,110,103,116,104] L = .nul := by simp [bh,bs]; omega)
    all_goals (rw [this]; rfl)
  ·have hi : aK (fun x=>[105,102] == x) cp = 12 := by rfl
   by_cases hl : L.length = 3
   ·obtain ⟨a,b,c,rfl⟩ := len3 hl
    repeat' (first | (show Ao _ _ _ _ _; first | refine Ao.q tk rfl ?_ | refine Ao.nil ?_ | refine Ao.sB tk rfl rfl rfl rfl rfl rfl rfl rfl rfl rfl rfl ?_ | refine Ao.ah (g := 187) rfl rfl rfl Tryz.call187 (il.r) (fo) rfl ?_ | refine Ao.ah (g := 79) rfl rfl rfl Tryz.call79 (il.r) (hi ▸ bO _ _) rfl ?_ | refine Ao.ah (g := 137) rfl rfl rfl Tryz.call137 (il.r) (isTS _) rfl ?_) | (show V _ _ _ _ _; first | refine V.seq ?_ | refine V.ab ?_ | refine V.al ?_ | refine V.bu rfl ?_ | refine V.be rfl ?_ | refine V.ap ?_ | refine V.aB rfl ?_ | refine V.ak rfl (fun h=>?_) (fun h=>?_)))
    all_goals refine V.bZ tk rfl rfl rfl rfl rfl (PLe.q ?_)
    all_goals simp_all [bh,bs,LVal.nul]
   ·repeat' (first | (show Ao _ _ _ _ _; first | refine Ao.q tk rfl ?_ | refine Ao.nil ?_ | refine Ao.sB tk rfl rfl rfl rfl rfl rfl rfl rfl rfl rfl rfl ?_ | refine Ao.ah (g := 187) rfl rfl rfl Tryz.call187 (il.r) (fo) rfl ?_ | refine Ao.ah (g := 79) rfl rfl rfl Tryz.call79 (il.r) (hi ▸ bO _ _) rfl ?_) | (show V _ _ _ _ _; first | refine V.seq ?_ | refine V.ab ?_ | refine V.al ?_ | refine V.bu rfl ?_ | refine V.be rfl ?_ | refine V.ap ?_ | refine V.aB rfl ?_ | refine V.ak rfl (fun h=>?_) (fun h=>?_)))
    all_goals try (exfalso; simp_all; omega)
    all_goals refine V.bZ tk rfl rfl rfl rfl rfl (PLe.q ?_)
    all_goals (have : bh [105,102] L = .nul := by simp [bh,bs]; omega)
    all_goals (rw [this]; rfl)
 have hi : aK (fun x=>name == x) cp = -1 := iq fun x hx=>by
  cases hb : name == x with
  | false=>rfl
  | true=>exact absurd (by rw [eq_of_beq hb]; exact hx) hn
 repeat' (first | (show Ao _ _ _ _ _; first | refine Ao.q tk rfl ?_ | refine Ao.nil ?_ | refine Ao.sB tk rfl rfl rfl rfl rfl rfl rfl rfl rfl rfl rfl ?_ | refine Ao.ah (g := 187) rfl rfl rfl Tryz.call187 (il.r) (fo) rfl ?_ | refine Ao.ah (g := 79) rfl rfl rfl Tryz.call79 (il.r) (hi ▸ bO _ _) rfl ?_) | (show V _ _ _ _ _; first | refine V.seq ?_ | refine V.ab ?_ | refine V.bu rfl ?_ | refine V.aB rfl ?_))
 all_goals refine V.bZ tk rfl rfl rfl rfl rfl (PLe.q ?_)
 have : bs name = none := by
  simp only [cp,List.mem_cons,List.mem_nil_iff,or_false,not_or] at hn
  simp [bs,hn]
 have : bh name L = .nul := by simp [bh,this]
 rw [this]
 rfl
end
end Go.Proofs.YtgaggbdcedpapaaGreat

namespace Go.Proofs.YtgaggbdcedpapaaGreat
noncomputable section
open Go Go.Ab
attribute [local irreducible] V Ao Do Gh Eff PH IntKind.wrap
set_option maxRecDepth 4000
theorem colName_spec (c : LCol) (e : LExpr) : aG Tryz.prog 170 [pcol c,.ptr (kp e)] (au (c.name == e.name)) := by
 refine PH.intro Tryz.func170 rfl Tryz.ntmps170 rfl ?_
 repeat' (first | (show Ao _ _ _ _ _; first | refine Ao.q tk rfl ?_ | refine Ao.nil ?_ | refine Ao.aF rfl rfl rfl rfl rfl rfl ?_) | (show V _ _ _ _ _; first | refine V.seq ?_ | refine V.ab ?_))
 all_goals refine V.cG tk rfl rfl (PLe.q rfl)
theorem getVal {l : List LVal} {j : Int} (h0 : 0 ≤ j) (h : j < ((l.map ae).length : Int)) : (l.map ae)[j.toNat]? = some (ae (l.getD j.toNat .nul)) := by
 simp at h
 have : j.toNat < l.length := by omega
 simp [this]
theorem mT (v : LEnv) (e : LExpr) : bT v e =
  if e.kind == 1 then e.value
  else if e.kind == 2 then (if 0 ≤ aK (fun c : LCol=>c.name == e.name) v.cols ∧ aK (fun c : LCol=>c.name == e.name) v.cols < v.row.length then v.row.getD (aK (fun c : LCol=>c.name == e.name) v.cols).toNat .nul else .nul)
  else if e.kind == 3 then (if 0 ≤ e.index ∧ e.index < v.params.length ∧ (v.params.getD e.index.toNat .nul).kind = e.value.kind then v.params.getD e.index.toNat .nul else .nul)
  else if e.kind == 4 then (if 0 ≤ aK (fun s : List UInt8=>e.name == s) v.vnames ∧ aK (fun s : List UInt8=>e.name == s) v.vnames < v.vvals.length then v.vvals.getD (aK (fun s : List UInt8=>e.name == s) v.vnames).toNat .nul else .nul)
  else if e.kind == 5 then bh e.name (e.args.map (bT v))
  else .nul := by
 cases e
 rw [bT,evalEs_map]
 rfl
set_option maxHeartbeats 4000000 in
theorem evalStep (v : LEnv) (e : LExpr) (ih : ∀ a ∈ e.args,aG Tryz.prog 138 [penv v,gY a] (ik (bT v a))) :
  aG Tryz.prog 138 [penv v,gY e] (ik (bT v e)) := by
 refine PH.intro Tryz.func138 rfl Tryz.ntmps138 rfl ?_
 repeat' (first | (show Ao _ _ _ _ _; first | refine Ao.q tk rfl ?_ | refine Ao.nil ?_ | refine Ao.aF rfl rfl rfl rfl rfl rfl ?_ | (refine Ao.aJ tk rfl rfl rfl rfl rfl rfl ?_; intro bk) | refine Ao.sB tk rfl rfl rfl rfl rfl rfl rfl rfl rfl rfl rfl ?_ | refine Ao.ah (g := 43) rfl rfl rfl Tryz.call43 (il.r) (indexCol (p := fun c=>c.name == e.name) _ Tryz.call170 fun c _=>colName_spec c e) rfl ?_ | refine Ao.ah (g := 79) rfl rfl rfl Tryz.call79 (il.r) (bO _ _) rfl ?_ | refine Ao.ah (g := 171) rfl rfl rfl Tryz.call171 (il.r) (reckon_spec v e ih) rfl ?_ | refine Ao.idx tk rfl rfl rfl rfl rfl rfl (of_decide_eq_true (by assumption)) (getVal (of_decide_eq_true (by assumption)) (of_decide_eq_true (by assumption))) rfl ?_ | ((fail_if_success refine Ao.ew rfl ?_); refine Ao.aA rfl rfl rfl (fun h=>?_) (fun h=>?_))) | (show V _ _ _ _ _; first | refine V.seq ?_ | refine V.ab ?_ | refine V.al ?_ | refine V.be rfl ?_ | refine V.ap ?_ | refine V.blk ?_ | (show V _ _ _ (.code (.region 9 _ true) :: _) _; refine V.bc tk mok ⟨false,false,[]⟩ [0,1,2,3,4,5,6,7,8,9,10,11,12,13,14,15,16,17,18,19,20,21,22,23] rfl (by decide +kernel) rfl ?_) | refine V.ak rfl (fun h=>?_) (fun h=>?_)) | (show Do _ _ _ _ _ _ _; first | refine Do.q rfl ?_ | refine Do.nil ?_ | refine Do.idx rfl rfl rfl rfl rfl rfl rfl (of_decide_eq_true (by assumption)) (getVal (of_decide_eq_true (by assumption)) (of_decide_eq_true (by assumption))) rfl ?_ | ((fail_if_success refine Do.jY rfl rfl ?_); refine Do.fh rfl rfl rfl rfl (fun h=>?_) (fun h=>?_))))
 all_goals refine V.bZ tk rfl rfl rfl rfl rfl (PLe.q ?_)
 all_goals rw [mT]
 all_goals simp_all [LVal.nul]
 all_goals rw [if_neg (by omega)]
 all_goals exact ⟨rfl,rfl,rfl⟩
theorem kN (v : LEnv) : ∀ e : LExpr,aG Tryz.prog 138 [penv v,gY e] (ik (bT v e))
 | .mk k n i x args=>evalStep v (.mk k n i x args) fun a ha=>by
  have ha' : a ∈ args := ha
  exact kN v a
def lit (v : LVal) : LExpr := .mk 1 [] 0 v []
end
end Go.Proofs.YtgaggbdcedpapaaGreat

namespace Go.Proofs.YtgaggbdcedpapaaGreat
noncomputable section
open Go Go.Ab
attribute [local irreducible] V Ao Do Gh Eff PH IntKind.wrap
set_option maxRecDepth 4000
def kh (acc r : Int × Int) : Int × Int := (wr (acc.1 + r.1),if r.2 > acc.2 then r.2 else acc.2)
mutual
def gi : LExpr → Int × Int
 | .mk _ _ _ _ args=>let r := (sizesE args).foldl kh (1,0); (r.1,wr (r.2 + 1))
def sizesE : List LExpr → List (Int × Int)
 | []=>[]
 | e :: r=>gi e :: sizesE r
end
theorem sizesE_map : ∀ l,sizesE l = l.map gi
 | []=>rfl
 | e :: r=>by simp [sizesE,sizesE_map r]
theorem sizeE_eq (e : LExpr) : gi e = (((e.args.map gi).foldl kh (1,0)).1,wr (((e.args.map gi).foldl kh (1,0)).2 + 1)) := by
 cases e
 rw [gi,sizesE_map]
 rfl
theorem foldl_take {α β : Type} (g : β → α → β) (z : β) {l : List α} {j : Nat} (h : j < l.length) : (l.take (j + 1)).foldl g z = g ((l.take j).foldl g z) l[j] := by
 rw [List.take_add_one,List.getElem?_eq_getElem h,List.foldl_append]
 rfl
theorem sizeStep_spec (e : LExpr) (ih : ∀ a ∈ e.args,aG Tryz.prog 182 [gY a] (.tup [ac (gi a).1,ac (gi a).2])) :
  aG Tryz.prog 182 [gY e] (.tup [ac (gi e).1,ac (gi e).2]) := by
 refine PH.intro Tryz.func182 rfl Tryz.ntmps182 rfl ?_
 repeat (first | refine Ao.q tk rfl ?_ | refine Ao.nil ?_ | refine V.seq ?_ | refine V.ab ?_ | refine V.ap ?_ | refine Ao.aF rfl rfl rfl rfl rfl rfl ?_)
 refine V.aZ tk 11 rfl rfl fun hl _=>?_
 rw [List.length_map] at hl
 refine V.ij (X := Nat) (fun j=>⟨32,upd (upd (upd (upd (upd (fun _=>.any) 5 (ac (((e.args.map gi).take j).foldl kh (1,0)).2)) 4 (ac (((e.args.map gi).take j).foldl kh (1,0)).1)) 11 (mE e.args)) 12 (ac (e.args.map aI).length)) 13 (ac j),fun _=>none,fun _=>none⟩)
  (fun j=>j ≤ e.args.length) (fun j=>e.args.length - j) 0 (Nat.zero_le _) (Gh.le (SLe.aa (PLe.q rfl) (SLe.aa (PLe.q rfl) (SLe.aa (PLe.q rfl) (SLe.aa (PLe.q rfl) (SLe.aa (PLe.q rfl) SLe.nil))))) BLe.nil OLe.nil) ?_
 intro j hj
 repeat (first | refine Ao.q tk rfl ?_ | refine Ao.nil ?_ | refine V.seq ?_ | refine V.ab ?_)
 refine V.ak rfl (fun h=>?_) (fun h=>?_)
 ·have hlt : j < e.args.length := by simpa using h
  repeat (first | refine V.seq ?_ | refine V.ab ?_ | refine V.al ?_ | refine V.ap ?_)
  refine Ao.idx tk rfl rfl rfl rfl rfl rfl (Int.natCast_nonneg j) (oe hlt) rfl ?_
  repeat (first | refine Ao.q tk rfl ?_ | refine Ao.nil ?_ | refine V.seq ?_ | refine V.ab ?_ | refine Ao.lB tk rfl rfl rfl rfl rfl rfl rfl ?_ | (refine Ao.aJ tk rfl rfl rfl rfl rfl rfl ?_; intro bk) | refine Ao.sB tk rfl rfl rfl rfl rfl rfl rfl rfl rfl rfl rfl ?_)
  refine Ao.ah (g := 182) rfl rfl rfl Tryz.call182 (il.r) (ih _ (List.getElem_mem hlt)) rfl ?_
  repeat (first | refine Ao.q tk rfl ?_ | refine Ao.nil ?_ | refine V.ab ?_ | refine V.blk ?_)
  have e1 := foldl_take kh (1,0) (l := e.args.map gi) (j := j) (by simpa using hlt)
  rw [List.getElem_map] at e1
  refine V.iB (j + 1) (by omega) hlt (Gh.le (SLe.aa (PLe.q (az (by omega))) (SLe.aa (PLe.q rfl) (SLe.aa (PLe.q rfl) (SLe.aa (PLe.q (by rw [e1]; rfl)) (SLe.aa (PLe.q (by rw [e1]; rfl)) SLe.nil))))) BLe.nil OLe.nil)
 have hge : j = e.args.length := by have : ¬ j < e.args.length := by simpa using h
                                    omega
 subst hge
 rw [show (e.args.map gi).take e.args.length = e.args.map gi from by rw [List.take_of_length_le]; simp]
 repeat (first | refine Ao.q tk rfl ?_ | refine Ao.nil ?_ | refine V.seq ?_ | refine V.ab ?_ | refine V.aB rfl ?_)
 refine V.ret2 tk rfl rfl rfl (PLe.q ?_)
 rw [sizeE_eq]
 rfl
theorem size_spec : ∀ e : LExpr,aG Tryz.prog 182 [gY e] (.tup [ac (gi e).1,ac (gi e).2])
 | .mk k n i x args=>sizeStep_spec (.mk k n i x args) fun a ha=>by
  have ha' : a ∈ args := ha
  exact size_spec a
def lX (c : UInt8) : Bool := (decide ((c.toNat : Int) ≥ 97) && decide ((c.toNat : Int) ≤ 122)) || (decide ((c.toNat : Int) ≥ 48) && decide ((c.toNat : Int) ≤ 57))
theorem inner_spec (c : UInt8) : aG Tryz.prog 196 [.val (.int .u8 c.toNat)] (au (lX c)) := by
 refine PH.intro Tryz.func196 rfl Tryz.ntmps196 rfl ?_
 repeat' (first | (show Ao _ _ _ _ _; first | refine Ao.q tk rfl ?_ | refine Ao.nil ?_ | ((fail_if_success refine Ao.ew rfl ?_); refine Ao.aA rfl rfl rfl (fun h=>?_) (fun h=>?_))) | (show V _ _ _ _ _; first | refine V.seq ?_ | refine V.ab ?_))
 all_goals refine V.cG tk rfl rfl (PLe.q ?_)
 all_goals simp_all [lX]
 all_goals omega
theorem colIs_spec (c : LCol) (name : List UInt8) : aG Tryz.prog 205 [pcol c,.ptr [.str name]] (au (c.name == name)) := by
 refine PH.intro Tryz.func205 rfl Tryz.ntmps205 rfl ?_
 repeat' (first | (show Ao _ _ _ _ _; first | refine Ao.q tk rfl ?_ | refine Ao.nil ?_ | refine Ao.aF rfl rfl rfl rfl rfl rfl ?_) | (show V _ _ _ _ _; first | refine V.seq ?_ | refine V.ab ?_))
 all_goals refine V.cG tk rfl rfl (PLe.q rfl)
def iG (l : List LCol) (name : List UInt8) : LCol × Bool :=
 let i := aK (fun c : LCol=>c.name == name) l
 if i < 0 then (⟨[],0,false⟩,false) else (l.getD i.toNat ⟨[],0,false⟩,true)
theorem getCol {l : List LCol} {j : Int} (h0 : 0 ≤ j) (h : j < l.length) : (l.map av)[j.toNat]? = some (av (l.getD j.toNat ⟨[],0,false⟩)) := by
 have : j.toNat < l.length := by omega
 simp [this]
theorem idxOf_lt {α : Type} {p : α → Bool} {l : List α} : aK p l < l.length := by
 simp only [aK]
 split
 ·rename_i i h
  have := (List.findIdx?_eq_some_iff_getElem.1 h).1
  omega
 ·omega
theorem find_spec (l : List LCol) (name : List UInt8) : aG Tryz.prog 197 [hX l,.str name] (.tup [pcol (iG l name).1,au (iG l name).2]) := by
 refine PH.intro Tryz.func197 rfl Tryz.ntmps197 rfl ?_
 repeat' (first | (show Ao _ _ _ _ _; first | refine Ao.q tk rfl ?_ | refine Ao.nil ?_ | refine Ao.aF rfl rfl rfl rfl rfl rfl ?_ | (refine Ao.aJ tk rfl rfl rfl rfl rfl rfl ?_; intro bk) | refine Ao.sB tk rfl rfl rfl rfl rfl rfl rfl rfl rfl rfl rfl ?_ | refine Ao.ah (g := 43) rfl rfl rfl Tryz.call43 (il.r) (indexCol (p := fun c=>c.name == name) _ Tryz.call205 fun c _=>colIs_spec c name) rfl ?_ | refine Ao.idx tk rfl rfl rfl rfl rfl rfl (Int.not_lt.1 (of_decide_eq_false (by assumption))) (getCol (Int.not_lt.1 (of_decide_eq_false (by assumption))) idxOf_lt) rfl ?_) | (show V _ _ _ _ _; first | refine V.seq ?_ | refine V.ab ?_ | refine V.al ?_ | refine V.ak rfl (fun h=>?_) (fun h=>?_)))
 all_goals refine V.retCT tk rfl rfl rfl rfl rfl rfl (PLe.q ?_)
 all_goals simp_all [iG]
 all_goals rw [if_neg (by omega)]
 all_goals exact ⟨⟨rfl,rfl,rfl⟩,rfl⟩
def cy (s : List UInt8) : Bool := decide (1 ≤ s.length) && decide (s.length ≤ 12) && (match s with | []=>false | c :: _=>decide (c.toNat ≥ 97) && decide (c.toNat ≤ 122)) && s.all lX
theorem idxStrAt {l : List UInt8} {j : Nat} (h : j < l.length) : l[((j : Nat) : Int).toNat]? = some l[j] := by simp [h]
theorem jK (s : List UInt8) : aG Tryz.prog 180 [.str s] (au (cy s)) := by
 cases s with
 | nil =>
  refine PH.intro Tryz.func180 rfl Tryz.ntmps180 rfl ?_
  repeat' (first | (show Ao _ _ _ _ _; first | refine Ao.q tk rfl ?_ | refine Ao.nil ?_) | (show V _ _ _ _ _; first | refine V.seq ?_ | refine V.ab ?_ | refine V.bu rfl ?_))
  all_goals refine V.cG tk rfl rfl (PLe.q rfl)
 | cons c s =>
  refine PH.intro Tryz.func180 rfl Tryz.ntmps180 rfl ?_
  refine V.strF 0 rfl fun hl=>?_
  repeat' (first | (show Ao _ _ _ _ _; first | refine Ao.q tk rfl ?_ | refine Ao.nil ?_ | ((fail_if_success refine Ao.ew rfl ?_); refine Ao.aA rfl rfl rfl (fun h=>?_) (fun h=>?_))) | (show V _ _ _ _ _; first | refine V.seq ?_ | refine V.ab ?_ | refine V.al ?_ | refine V.bu rfl ?_ | refine V.ap ?_ | refine V.ak rfl (fun h=>?_) (fun h=>?_)))
  case cons.refine_1 =>
   refine V.cG tk rfl rfl (PLe.q ?_)
   have : ¬ (c :: s).length ≤ 12 := by simp only [decide_eq_true_eq] at h; omega
   have : cy (c :: s) = false := by simp only [cy,this]; simp
   rw [this]
  case cons.refine_2.refine_1 =>
   refine V.cG tk rfl rfl (PLe.q ?_)
   have : ¬ c.toNat ≥ 97 := by simp only [decide_eq_true_eq] at h; omega
   simp [cy,this]
  case cons.refine_2.refine_2.refine_1 =>
   refine V.cG tk rfl rfl (PLe.q ?_)
   have : ¬ c.toNat ≤ 122 := by simp only [decide_eq_true_eq] at h; omega
   simp [cy,this]
  rename_i h1 h2
  have hs : cy (c :: s) = (c :: s).all lX := by
   simp only [decide_eq_false_iff_not] at h1 h2 h
   have e1 : (c :: s).length ≤ 12 := by omega
   have e2 : c.toNat ≥ 97 := by omega
   have e3 : c.toNat ≤ 122 := by omega
   simp only [cy,e1,e2,e3]
   simp
  rw [hs]
  clear hs h h1 h2
  generalize hL : c :: s = L at *
  refine V.ij (X := Nat) (fun j=>⟨33,upd (upd (upd (fun _=>.any) 0 (.str L)) 23 (ac L.length)) 24 (ac j),fun _=>none,fun _=>none⟩)
   (fun j=>j ≤ L.length ∧ ∀ x ∈ L.take j,lX x = true) (fun j=>L.length - j) 0 ⟨Nat.zero_le _,by simp⟩ (Gh.le (SLe.aa (PLe.q rfl) (SLe.aa (PLe.q rfl) (SLe.aa (PLe.q rfl) SLe.nil))) BLe.nil OLe.nil) ?_
  rintro j ⟨hj,hpre⟩
  repeat (first | refine Ao.q tk rfl ?_ | refine Ao.nil ?_ | refine V.seq ?_ | refine V.ab ?_)
  refine V.ak rfl (fun h=>?_) (fun h=>?_)
  ·have hlt : j < L.length := by simpa using h
   repeat (first | refine Ao.q tk rfl ?_ | refine Ao.nil ?_ | refine V.seq ?_ | refine V.ab ?_ | refine V.al ?_ | refine V.ap ?_)
   refine Ao.idxS tk rfl rfl rfl rfl rfl rfl (Int.natCast_nonneg j) (idxStrAt hlt) rfl ?_
   skip
   refine Ao.ah (g := 196) rfl rfl rfl Tryz.call196 (il.r) (inner_spec _) rfl ?_
   repeat (first | refine Ao.q tk rfl ?_ | refine Ao.nil ?_)
   refine V.ak rfl (fun h=>?_) (fun h=>?_)
   ·repeat (first | refine Ao.q tk rfl ?_ | refine Ao.nil ?_ | refine V.seq ?_ | refine V.ab ?_)
    refine V.cG tk rfl rfl (PLe.q ?_)
    have : L.all lX = false := by
     rw [List.all_eq_false]
     exact ⟨L[j],List.getElem_mem hlt,by simpa using h⟩
    rw [this]
   ·repeat (first | refine Ao.q tk rfl ?_ | refine Ao.nil ?_ | refine V.ab ?_ | refine V.al ?_ | refine V.blk ?_)
    refine V.iB (j + 1) (by omega) ⟨hlt,?_⟩ (Gh.le (SLe.aa (PLe.q (az (by unfold maxLen; unfold gd at hl; omega))) (SLe.aa (PLe.q rfl) (SLe.aa (PLe.q rfl) SLe.nil))) BLe.nil OLe.nil)
    intro x hx
    rw [List.take_add_one,List.getElem?_eq_getElem hlt] at hx
    simp only [Option.toList,List.mem_append,List.mem_singleton] at hx
    rcases hx with hx | rfl
    ·exact hpre x hx
    ·simpa using h
  have hge : j = L.length := by have : ¬ j < L.length := by simpa using h
                                omega
  repeat (first | refine Ao.q tk rfl ?_ | refine Ao.nil ?_ | refine V.seq ?_ | refine V.ab ?_ | refine V.aB rfl ?_)
  refine V.cG tk rfl rfl (PLe.q ?_)
  have : L.all lX = true := by
   rw [List.all_eq_true]
   rw [hge] at hpre
   simpa using hpre
  rw [this]
end
end Go.Proofs.YtgaggbdcedpapaaGreat

namespace Go.Proofs.YtgaggbdcedpapaaGreat
noncomputable section
open Go Go.Ab
attribute [local irreducible] V Ao Do Gh Eff PH IntKind.wrap
set_option maxRecDepth 4000
abbrev KR := Int × Bool × Int
abbrev pkr (r : KR) : PV := .tup [ac r.1,au r.2.1,ac r.2.2]
def iN (kind : Int) (nullable ok : Bool) : KR := if ok then (kind,nullable,0) else (0,false,7)
theorem et (kind : Int) (nullable ok : Bool) : aG Tryz.prog 210 [ac kind,au nullable,au ok] (pkr (iN kind nullable ok)) := by
 refine PH.intro Tryz.func210 rfl Tryz.ntmps210 rfl ?_
 repeat' (first | (show Ao _ _ _ _ _; first | refine Ao.q tk rfl ?_ | refine Ao.nil ?_) | (show V _ _ _ _ _; first | refine V.seq ?_ | refine V.ab ?_ | refine V.al ?_ | refine V.ak rfl (fun h=>?_) (fun h=>?_)))
 all_goals refine V.eN tk rfl rfl rfl rfl (PLe.q ?_)
 all_goals simp_all [iN]
def mN (a b : Int) : Bool := a == b || a == 0 || b == 0
theorem lk (a b : Int) : aG Tryz.prog 209 [ac a,ac b] (au (mN a b)) := by
 refine PH.intro Tryz.func209 rfl Tryz.ntmps209 rfl ?_
 repeat' (first | (show Ao _ _ _ _ _; first | refine Ao.q tk rfl ?_ | refine Ao.nil ?_ | ((fail_if_success refine Ao.ew rfl ?_); refine Ao.aA rfl rfl rfl (fun h=>?_) (fun h=>?_))) | (show V _ _ _ _ _; first | refine V.seq ?_ | refine V.ab ?_))
 all_goals refine V.cG tk rfl rfl (PLe.q ?_)
 all_goals simp_all [mN]
theorem allOf1_spec (n want : Int) : aG Tryz.prog 208 [ac n,.ptr [ac want]] (au (n != want && n != 0)) := by
 refine PH.intro Tryz.func208 rfl Tryz.ntmps208 rfl ?_
 repeat' (first | (show Ao _ _ _ _ _; first | refine Ao.q tk rfl ?_ | refine Ao.nil ?_ | ((fail_if_success refine Ao.ew rfl ?_); refine Ao.aA rfl rfl rfl (fun h=>?_) (fun h=>?_))) | (show V _ _ _ _ _; first | refine V.seq ?_ | refine V.ab ?_))
 all_goals refine V.cG tk rfl rfl (PLe.q ?_)
 all_goals simp_all
def lb (want : Int) (l : List Int) : Bool := !(l.any fun n=>n != want && n != 0)
theorem gU (want : Int) (l : List Int) : aG Tryz.prog 206 [ac want,.ptr [pints l]] (au (lb want l)) := by
 refine PH.intro Tryz.func206 rfl Tryz.ntmps206 rfl ?_
 repeat' (first | (show Ao _ _ _ _ _; first | refine Ao.q tk rfl ?_ | refine Ao.nil ?_ | refine Ao.aF rfl rfl rfl rfl rfl rfl ?_ | refine Ao.ah (g := 207) rfl rfl rfl Tryz.call207 (il.r) (containsInt (p := fun n=>n != want && n != 0) l Tryz.call208 fun n _=>allOf1_spec n want) rfl ?_) | (show V _ _ _ _ _; first | refine V.seq ?_ | refine V.ab ?_))
 all_goals refine V.cG tk rfl rfl (PLe.q rfl)
def eM (x : Int) : KR := (0,false,x)
def cV (name : List UInt8) (kinds : List Int) (nullable : Bool) : KR :=
 if name == [43] || name == [45] || name == [42] then iN 1 true (lb 1 kinds)
 else if name == [124,124] then iN 3 true (lb 3 kinds)
 else if name == [108,101,110,103,116,104] then iN 1 nullable (lb 3 kinds)
 else if name == [97,110,100] || name == [111,114] || name == [110,111,116] then iN 2 nullable (lb 2 kinds)
 else if name == [105,115,32,110,117,108,108] then (2,false,0)
 else if name == [105,102] then iN (if kinds.getD 2 0 > kinds.getD 1 0 then kinds.getD 2 0 else kinds.getD 1 0) nullable (mN (kinds.getD 0 0) 2 && mN (kinds.getD 1 0) (kinds.getD 2 0))
 else iN 2 nullable (mN (kinds.getD 0 0) (kinds.getD 1 0))
def gL (name : List UInt8) (i : Int) (x : LVal) (ks : List KR) : KR :=
 if bs name ≠ some ks.length ∨ i ≠ 0 ∨ x ≠ .nul then eM 3
 else match ks.find? fun r=>r.2.2 != 0 with
  | some r=>eM r.2.2
  | none=>cV name (ks.map (·.1)) (ks.any (·.2.1))
mutual
def cw (cols vars : List LCol) : LExpr → KR
 | .mk k n i x args =>
  if k ≠ 5 ∧ 0 < args.length then eM 3
  else if k == 1 then (if dA x && n == [] && i == 0 then (x.kind,x.kind == 0,0) else eM 3)
  else if k == 3 then (if i < 0 ∨ i ≥ 8 ∨ n ≠ [] ∨ x.kind < 1 ∨ x.kind > 3 ∨ x ≠ ⟨x.kind,0,[]⟩ then eM 3 else (x.kind,true,0))
  else if k == 2 || k == 4 then
   (if cy n && i == 0 && decide (x = .nul) then
    (let r := iG (if k == 4 then vars else cols) n
     if r.2 then (r.1.kind,r.1.nullable,0) else eM 23)
    else eM 3)
  else if k == 5 then gL n i x (kindsE cols vars args)
  else eM 3
def kindsE (cols vars : List LCol) : List LExpr → List KR
 | []=>[]
 | e :: r=>cw cols vars e :: kindsE cols vars r
end
theorem kindsE_map (cols vars : List LCol) : ∀ l,kindsE cols vars l = l.map (cw cols vars)
 | []=>rfl
 | e :: r=>by simp [kindsE,kindsE_map cols vars r]
theorem arity_of_idx (name : List UInt8) : (aK (fun x=>name == x) cp < 0 ∧ bs name = none) ∨
  ∃ a : Nat,0 ≤ aK (fun x=>name == x) cp ∧ (opArity.map fun n=>[ac n])[(aK (fun x=>name == x) cp).toNat]? = some [ac a] ∧ bs name = some a := by
 by_cases hn : name ∈ cp
 ·refine .inr ?_
  simp only [cp,List.mem_cons,List.mem_nil_iff,or_false] at hn
  rcases hn with rfl | rfl | rfl | rfl | rfl | rfl | rfl | rfl | rfl | rfl | rfl | rfl | rfl <;> exact ⟨_,by decide,rfl,rfl⟩
 ·refine .inl ⟨?_,?_⟩
  ·rw [iq fun x hx=>by
    cases hb : name == x with
    | false=>rfl
    | true=>exact absurd (by rw [eq_of_beq hb]; exact hx) hn]
   decide
  ·simp only [cp,List.mem_cons,List.mem_nil_iff,or_false,not_or] at hn
   simp [bs,hn]
theorem find_at {α : Type} {p : α → Bool} {l : List α} {j : Nat} (hlt : j < l.length) (hpre : ∀ x ∈ l.take j,p x = false) (h : p l[j] = true) : l.find? p = some l[j] := by
 rw [List.find?_eq_some_iff_getElem]
 refine ⟨h,j,hlt,rfl,fun i hi=>?_⟩
 have := hpre l[i] (List.mem_take_iff_getElem.2 ⟨i,by omega,rfl⟩)
 simp [this]
theorem kindRows {cols vars : List LCol} {args : List LExpr} {j : Nat} (h : j < args.length) : ((args.take j).map (cw cols vars)).map (fun r=>[ac r.1]) ++ [[ac (cw cols vars args[j]).1]] = ((args.take (j + 1)).map (cw cols vars)).map fun r=>[ac r.1] := by
 rw [List.take_add_one,List.getElem?_eq_getElem h]
 simp only [List.map_append,Option.toList,List.map_cons,List.map_nil]
theorem kindAny {cols vars : List LCol} {args : List LExpr} {j : Nat} (h : j < args.length) : ((args.take (j + 1)).map (cw cols vars)).any (·.2.1) = (((args.take j).map (cw cols vars)).any (·.2.1) || (cw cols vars args[j]).2.1) := by
 rw [List.take_add_one,List.getElem?_eq_getElem h]
 simp only [List.map_append,List.any_append,Option.toList,List.map_cons,List.map_nil,List.any_cons,List.any_nil,Bool.or_false]
set_option maxHeartbeats 4000000 in
theorem opKind_spec (cols vars : List LCol) (e : LExpr) (ih : ∀ a ∈ e.args,aG Tryz.prog 183 [hX cols,hX vars,gY a] (pkr (cw cols vars a))) :
  aG Tryz.prog 198 [hX cols,hX vars,gY e] (pkr (gL e.name e.index e.value (e.args.map (cw cols vars)))) := by
 rcases arity_of_idx e.name with ⟨hK,ha⟩ | ⟨ar,hK,hr,ha⟩
 ·refine PH.intro Tryz.func198 rfl Tryz.ntmps198 rfl ?_
  repeat' (first | (show Ao _ _ _ _ _; first | refine Ao.q tk rfl ?_ | refine Ao.nil ?_ | refine Ao.aF rfl rfl rfl rfl rfl rfl ?_ | refine Ao.ah (g := 187) rfl rfl rfl Tryz.call187 (il.r) (fo) rfl ?_ | refine Ao.ah (g := 79) rfl rfl rfl Tryz.call79 (il.r) (bO _ _) rfl ?_) | (show V _ _ _ _ _; first | refine V.seq ?_ | refine V.ab ?_ | refine V.bu rfl ?_ | (show V _ _ _ (.code (.region 3 _ true) :: _) _; refine V.bc tk mok ⟨false,false,[]⟩ [0,1,2,3,4,5,6,7,8,9,10,11,12,13,14,15,16,17,18,19,20,21,22] rfl (by decide +kernel) rfl ?_)) | (show Do _ _ _ _ _ _ _; first | refine Do.q rfl ?_ | refine Do.nil ?_ | ((fail_if_success refine Do.jY rfl rfl ?_); refine Do.fh rfl rfl rfl rfl (fun h=>?_) (fun h=>?_))))
  all_goals try (exfalso; simp_all <;> omega; done)
  all_goals refine V.eN tk rfl rfl rfl rfl (PLe.q ?_)
  all_goals (have : gL e.name e.index e.value (e.args.map (cw cols vars)) = eM 3 := by simp [gL,ha])
  all_goals (rw [this]; rfl)
 ·refine PH.intro Tryz.func198 rfl Tryz.ntmps198 rfl ?_
  repeat' (first | (show Ao _ _ _ _ _; first | refine Ao.q tk rfl ?_ | refine Ao.nil ?_ | refine Ao.aF rfl rfl rfl rfl rfl rfl ?_ | (refine Ao.aJ tk rfl rfl rfl rfl rfl rfl ?_; intro bk) | refine Ao.ah (g := 187) rfl rfl rfl Tryz.call187 (il.r) (fo) rfl ?_ | refine Ao.ah (g := 79) rfl rfl rfl Tryz.call79 (il.r) (bO _ _) rfl ?_) | (show V _ _ _ _ _; first | refine V.seq ?_ | refine V.ab ?_ | refine V.al ?_ | refine V.bu rfl ?_ | refine V.ap ?_ | (show V _ _ _ (.code (.region 3 _ true) :: _) _; refine V.bc tk mok ⟨false,false,[]⟩ [0,1,2,3,4,5,6,7,8,9,10,11,12,13,14,15,16,17,18,19,20,21,22] rfl (by decide +kernel) rfl ?_) | refine V.ak rfl (fun h=>?_) (fun h=>?_)) | (show Do _ _ _ _ _ _ _; first | refine Do.q rfl ?_ | refine Do.nil ?_ | refine Do.idx rfl rfl rfl rfl rfl rfl rfl hK hr rfl ?_ | ((fail_if_success refine Do.jY rfl rfl ?_); refine Do.fh rfl rfl rfl rfl (fun h=>?_) (fun h=>?_))))
  all_goals try (exfalso; simp_all <;> omega; done)
  case inr.refine_2.refine_1 =>
   refine V.eN tk rfl rfl rfl rfl (PLe.q ?_)
   rw [gL,if_pos (.inl (by rw [ha]; simp at h ⊢; omega))]
   rfl
  case inr.refine_2.refine_2.refine_1 =>
   refine V.eN tk rfl rfl rfl rfl (PLe.q ?_)
   rw [gL,if_pos (.inr (.inl (by simpa using h)))]
   rfl
  case inr.refine_2.refine_2.refine_2.refine_1 =>
   refine V.eN tk rfl rfl rfl rfl (PLe.q ?_)
   rw [gL,if_pos (.inr (.inr (by intro hh; rw [hh] at h; simp [LVal.nul] at h)))]
   rfl
  rename_i h0 h1 h2
  have hlen : e.args.length = ar := by
   simp at h1
   omega
  have hgood : ¬ (bs e.name ≠ some (e.args.map (cw cols vars)).length ∨ e.index ≠ 0 ∨ e.value ≠ .nul) := by
   rw [ha]
   rintro (h3 | h3 | h3)
   ·simp [hlen] at h3
   ·exact h3 (by simpa using h2)
   ·apply h3
    cases hv : e.value
    rw [hv] at h
    simp at h
    simp [LVal.nul,h]
  rw [gL,if_neg hgood]
  refine V.aZ tk 53 rfl rfl fun hl hby=>?_
  rw [List.length_map] at hl hby
  have hby' : e.args.length * 88 ≤ 2 ^ 47 := hby
  refine V.nilOB tk 12 0 12 (e := 3) rfl rfl rfl rfl ?_
  refine V.ij (X := Nat × OwnRef) (fun X=>⟨164,upd (upd (upd (upd (upd (upd (upd (upd (fun _=>.any) 13 (au (((e.args.take X.1).map (cw cols vars)).any (·.2.1)))) 12 (.box 12 bk 0)) 5 (.ptr (kp e))) 1 (hX vars)) 0 (hX cols)) 53 (mE e.args)) 54 (ac (e.args.map aI).length)) 55 (ac X.1),upd (fun _=>none) 12 (some ⟨bk,[.own 12 X.2 (((e.args.take X.1).map (cw cols vars)).map fun r=>[ac r.1]).length]⟩),upd (fun _=>none) 12 (some ⟨X.2,3,((e.args.take X.1).map (cw cols vars)).map fun r=>[ac r.1],true⟩)⟩)
   (fun X=>X.1 ≤ e.args.length ∧ ∀ x ∈ (e.args.map (cw cols vars)).take X.1,(x.2.2 != 0) = false) (fun X=>e.args.length - X.1) (0,⟨none,0⟩) ⟨Nat.zero_le _,by simp⟩ (Gh.le (SLe.aa (PLe.q rfl) (SLe.aa (PLe.q rfl) (SLe.aa (PLe.q rfl) (SLe.aa (PLe.q rfl) (SLe.aa (PLe.q rfl) (SLe.aa (PLe.q rfl) (SLe.aa (PLe.q rfl) (SLe.aa (PLe.q rfl) SLe.nil)))))))) (BLe.ao rfl (il.r) BLe.nil) (OLe.am rfl OLe.nil)) ?_
  rintro ⟨j,g⟩ ⟨hj,hpre⟩
  replace hj : j ≤ e.args.length := hj
  replace hpre : ∀ x ∈ (e.args.map (cw cols vars)).take j,(x.2.2 != 0) = false := hpre
  repeat (first | refine Ao.q tk rfl ?_ | refine Ao.nil ?_ | refine V.seq ?_ | refine V.ab ?_)
  refine V.ak rfl (fun h=>?_) (fun h=>?_)
  ·have hlt : j < e.args.length := by simpa using h
   have hlt' : j < (e.args.map (cw cols vars)).length := by simpa using hlt
   repeat (first | refine V.seq ?_ | refine V.ab ?_ | refine V.al ?_ | refine V.ap ?_)
   refine Ao.idx tk rfl rfl rfl rfl rfl rfl (Int.natCast_nonneg j) (oe hlt) rfl ?_
   repeat (first | refine Ao.q tk rfl ?_ | refine Ao.nil ?_ | refine V.seq ?_ | refine V.ab ?_ | refine Ao.lB tk rfl rfl rfl rfl rfl rfl rfl ?_ | (refine Ao.aJ tk rfl rfl rfl rfl rfl rfl ?_; intro bk) | refine Ao.sB tk rfl rfl rfl rfl rfl rfl rfl rfl rfl rfl rfl ?_)
   refine Ao.ah (g := 183) rfl rfl rfl Tryz.call183 (il.r) (ih _ (List.getElem_mem hlt)) rfl ?_
   repeat (first | refine Ao.q tk rfl ?_ | refine Ao.nil ?_ | refine V.seq ?_ | refine V.ab ?_)
   refine V.ak rfl (fun h=>?_) (fun h=>?_)
   ·repeat (first | refine Ao.q tk rfl ?_ | refine Ao.nil ?_ | refine V.seq ?_ | refine V.ab ?_)
    refine V.eN tk rfl rfl rfl rfl (PLe.q ?_)
    rw [find_at hlt' hpre (by simpa using h),List.getElem_map]
    rfl
   ·repeat (first | refine Ao.q tk rfl ?_ | refine V.ab ?_ | refine V.al ?_ | refine Ao.lB tk rfl rfl rfl rfl rfl rfl rfl ?_ | refine Ao.bsF tk rfl rfl rfl rfl rfl rfl ?_)
    refine Ao.appendO (rows2 := [[ac (cw cols vars e.args[j]).1]]) tk rfl rfl rfl rfl rfl rfl rfl rfl rfl rfl rfl rfl rfl ?_ ?_ fun g'=>?_
    ·simp only [List.length_map,List.length_take,List.length_cons,List.length_nil]
     rw [Nat.min_eq_left hj]
     show (j + 1) * 8 ≤ 2 ^ 47
     omega
    ·simp only [List.length_map,List.length_take,List.length_cons,List.length_nil]
     omega
    repeat (refine Ao.q tk rfl ?_)
    have hpre' : ∀ x ∈ (e.args.map (cw cols vars)).take (j + 1),(x.2.2 != 0) = false := lA (p := fun x : KR=>x.2.2 != 0) hlt' hpre (by rw [List.getElem_map]; exact h)
    have hany := kindAny (cols := cols) (vars := vars) hlt
    refine Ao.aA rfl rfl rfl (fun hn=>?_) (fun hn=>?_)
    ·repeat (first | refine Ao.q tk rfl ?_ | refine Ao.nil ?_ | refine V.ab ?_ | refine V.blk ?_ | refine Ao.sB tk rfl rfl rfl rfl rfl rfl rfl rfl rfl rfl rfl ?_)
     rw [kindRows hlt]
     refine V.iB (j + 1,g') ?_ ⟨hlt,hpre'⟩ (Gh.le (SLe.aa (PLe.q (az (by omega))) (SLe.aa (PLe.q rfl) (SLe.aa (PLe.q rfl) (SLe.aa (PLe.q rfl) (SLe.aa (PLe.q rfl) (SLe.aa (PLe.q rfl) (SLe.aa (PLe.q rfl) (SLe.aa (PLe.q (by rw [hany,hn]; rfl)) SLe.nil)))))))) (BLe.ao rfl (il.r) BLe.nil) (OLe.am rfl OLe.nil))
     show e.args.length - (j + 1) < e.args.length - j
     omega
    ·repeat (first | refine Ao.q tk rfl ?_ | refine Ao.nil ?_ | refine V.ab ?_ | refine V.blk ?_ | refine Ao.sB tk rfl rfl rfl rfl rfl rfl rfl rfl rfl rfl rfl ?_)
     rw [kindRows hlt]
     refine V.iB (j + 1,g') ?_ ⟨hlt,hpre'⟩ (Gh.le (SLe.aa (PLe.q (az (by omega))) (SLe.aa (PLe.q rfl) (SLe.aa (PLe.q rfl) (SLe.aa (PLe.q rfl) (SLe.aa (PLe.q rfl) (SLe.aa (PLe.q rfl) (SLe.aa (PLe.q rfl) (SLe.aa (PLe.q (by rw [hany,hn]; rfl)) SLe.nil)))))))) (BLe.ao rfl (il.r) BLe.nil) (OLe.am rfl OLe.nil))
     show e.args.length - (j + 1) < e.args.length - j
     omega
  have hge : j = e.args.length := by have : ¬ j < e.args.length := by simpa using h
                                     omega
  subst hge
  refine V.freezeOB 12 0 rfl rfl rfl rfl rfl (V.freezeB 12 rfl rfl rfl rfl ?_)
  have hks : (e.args.map (cw cols vars)).find? (fun r=>r.2.2 != 0) = none := by
   rw [List.find?_eq_none]
   intro x hx
   have := hpre x (by rw [List.take_of_length_le (by simp)]; exact hx)
   simp [this]
  rw [hks]
  simp only [List.take_length]
  have hlk : (e.args.map (cw cols vars)).length = ar := by simp [hlen]
  generalize e.args.map (cw cols vars) = KS at hlk
  refine V.gh (st' := ⟨164,upd (upd (upd (fun _=>.any) 13 (au (KS.any (·.2.1)))) 12 (.ptr [pints (KS.map (·.1))])) 5 (.ptr [ac e.kind,.str e.name,ac e.index,ac e.value.kind,ac e.value.int,.str e.value.text,mE e.args]),fun _=>none,fun _=>none⟩) (Gh.le (SLe.aa (PLe.q rfl) (SLe.aa (PLe.q (show PV.ptr [.list 3 (KS.map fun r=>[ac r.1])] = _ from by simp)) (SLe.aa (PLe.q rfl) SLe.nil))) BLe.nil OLe.nil) ?_
  replace hlk : (KS.map (·.1)).length = ar := by simpa using hlk
  generalize KS.map (·.1) = kinds at hlk
  generalize KS.any (·.2.1) = nl
  generalize e.name = name at ha
  clear hpre hks hgood h0 h1 h2 h hr hK ih hlen
  by_cases hn : name ∈ cp
  ·simp only [cp,List.mem_cons,List.mem_nil_iff,or_false] at hn
   rcases hn with rfl | rfl | rfl | rfl | rfl | rfl | rfl | rfl | rfl | rfl | rfl | rfl | rfl
   ·have har : ar = 2 := by have : some 2 = some ar := ha; exact (Option.some.inj this).symm
    subst har
    obtain ⟨a,b,rfl⟩ := fK hlk
    repeat' (first | (show Ao _ _ _ _ _; first | refine Ao.q tk rfl ?_ | refine Ao.nil ?_ | refine Ao.ah (g := 206) rfl rfl rfl Tryz.call206 (il.r) (gU _ _) rfl ?_ | refine Ao.ah (g := 210) rfl rfl rfl Tryz.call210 (il.r) (et _ _ _) rfl ?_) | (show V _ _ _ _ _; first | refine V.seq ?_ | refine V.ab ?_ | refine V.al ?_ | refine V.bu rfl ?_ | refine V.ap ?_ | refine V.aB rfl ?_))
    all_goals refine V.eN tk rfl rfl rfl rfl (PLe.q ?_)
    all_goals simp_all [cV]
   ·have har : ar = 2 := by have : some 2 = some ar := ha; exact (Option.some.inj this).symm
    subst har
    obtain ⟨a,b,rfl⟩ := fK hlk
    repeat' (first | (show Ao _ _ _ _ _; first | refine Ao.q tk rfl ?_ | refine Ao.nil ?_ | refine Ao.ah (g := 206) rfl rfl rfl Tryz.call206 (il.r) (gU _ _) rfl ?_ | refine Ao.ah (g := 210) rfl rfl rfl Tryz.call210 (il.r) (et _ _ _) rfl ?_) | (show V _ _ _ _ _; first | refine V.seq ?_ | refine V.ab ?_ | refine V.al ?_ | refine V.bu rfl ?_ | refine V.be rfl ?_ | refine V.ap ?_ | refine V.aB rfl ?_))
    all_goals refine V.eN tk rfl rfl rfl rfl (PLe.q ?_)
    all_goals simp_all [cV]
   ·have har : ar = 2 := by have : some 2 = some ar := ha; exact (Option.some.inj this).symm
    subst har
    obtain ⟨a,b,rfl⟩ := fK hlk
    repeat' (first | (show Ao _ _ _ _ _; first | refine Ao.q tk rfl ?_ | refine Ao.nil ?_ | refine Ao.ah (g := 206) rfl rfl rfl Tryz.call206 (il.r) (gU _ _) rfl ?_ | refine Ao.ah (g := 210) rfl rfl rfl Tryz.call210 (il.r) (et _ _ _) rfl ?_) | (show V _ _ _ _ _; first | refine V.seq ?_ | refine V.ab ?_ | refine V.bu rfl ?_ | refine V.be rfl ?_ | refine V.ap ?_ | refine V.aB rfl ?_))
    all_goals refine V.eN tk rfl rfl rfl rfl (PLe.q ?_)
    all_goals simp_all [cV]
   ·have har : ar = 2 := by have : some 2 = some ar := ha; exact (Option.some.inj this).symm
    subst har
    obtain ⟨a,b,rfl⟩ := fK hlk
    repeat' (first | (show Ao _ _ _ _ _; first | refine Ao.q tk rfl ?_ | refine Ao.nil ?_) | (show V _ _ _ _ _; first | refine V.seq ?_ | refine V.ab ?_ | refine V.al ?_ | refine V.be rfl ?_ | refine V.ap ?_ | refine V.blk ?_ | refine V.aB rfl ?_ | (show V _ _ _ (.code (.region 34 _ true) :: _) _; refine V.bc tk mok ⟨false,false,[]⟩ [0,1,2,3,4,5,6,7,8,9,10,11,12,13,14,15] rfl (by decide +kernel) rfl ?_)) | (show Do _ _ _ _ _ _ _; first | refine Do.q rfl ?_ | refine Do.nil ?_ | refine Do.aR (g := 209) rfl rfl rfl rfl Tryz.call209 (il.r) (lk _ _) rfl ?_ | refine Do.aR (g := 210) rfl rfl rfl rfl Tryz.call210 (il.r) (et _ _ _) rfl ?_))
    all_goals refine V.eN tk rfl rfl rfl rfl (PLe.q ?_)
    all_goals simp_all [cV]
   ·have har : ar = 2 := by have : some 2 = some ar := ha; exact (Option.some.inj this).symm
    subst har
    obtain ⟨a,b,rfl⟩ := fK hlk
    repeat' (first | (show Ao _ _ _ _ _; first | refine Ao.q tk rfl ?_ | refine Ao.nil ?_) | (show V _ _ _ _ _; first | refine V.seq ?_ | refine V.ab ?_ | refine V.al ?_ | refine V.be rfl ?_ | refine V.ap ?_ | refine V.blk ?_ | refine V.aB rfl ?_ | (show V _ _ _ (.code (.region 34 _ true) :: _) _; refine V.bc tk mok ⟨false,false,[]⟩ [0,1,2,3,4,5,6,7,8,9,10,11,12,13,14,15] rfl (by decide +kernel) rfl ?_)) | (show Do _ _ _ _ _ _ _; first | refine Do.q rfl ?_ | refine Do.nil ?_ | refine Do.aR (g := 209) rfl rfl rfl rfl Tryz.call209 (il.r) (lk _ _) rfl ?_ | refine Do.aR (g := 210) rfl rfl rfl rfl Tryz.call210 (il.r) (et _ _ _) rfl ?_))
    all_goals refine V.eN tk rfl rfl rfl rfl (PLe.q ?_)
    all_goals simp_all [cV]
   ·have har : ar = 2 := by have : some 2 = some ar := ha; exact (Option.some.inj this).symm
    subst har
    obtain ⟨a,b,rfl⟩ := fK hlk
    repeat' (first | (show Ao _ _ _ _ _; first | refine Ao.q tk rfl ?_ | refine Ao.nil ?_) | (show V _ _ _ _ _; first | refine V.seq ?_ | refine V.ab ?_ | refine V.al ?_ | refine V.be rfl ?_ | refine V.ap ?_ | refine V.blk ?_ | refine V.aB rfl ?_ | (show V _ _ _ (.code (.region 34 _ true) :: _) _; refine V.bc tk mok ⟨false,false,[]⟩ [0,1,2,3,4,5,6,7,8,9,10,11,12,13,14,15] rfl (by decide +kernel) rfl ?_)) | (show Do _ _ _ _ _ _ _; first | refine Do.q rfl ?_ | refine Do.nil ?_ | refine Do.aR (g := 209) rfl rfl rfl rfl Tryz.call209 (il.r) (lk _ _) rfl ?_ | refine Do.aR (g := 210) rfl rfl rfl rfl Tryz.call210 (il.r) (et _ _ _) rfl ?_))
    all_goals refine V.eN tk rfl rfl rfl rfl (PLe.q ?_)
    all_goals simp_all [cV]
   ·have har : ar = 2 := by have : some 2 = some ar := ha; exact (Option.some.inj this).symm
    subst har
    obtain ⟨a,b,rfl⟩ := fK hlk
    repeat' (first | (show Ao _ _ _ _ _; first | refine Ao.q tk rfl ?_ | refine Ao.nil ?_ | refine Ao.ah (g := 206) rfl rfl rfl Tryz.call206 (il.r) (gU _ _) rfl ?_ | refine Ao.ah (g := 210) rfl rfl rfl Tryz.call210 (il.r) (et _ _ _) rfl ?_) | (show V _ _ _ _ _; first | refine V.seq ?_ | refine V.ab ?_ | refine V.al ?_ | refine V.bu rfl ?_ | refine V.be rfl ?_ | refine V.ap ?_ | refine V.aB rfl ?_))
    all_goals refine V.eN tk rfl rfl rfl rfl (PLe.q ?_)
    all_goals simp_all [cV]
   ·have har : ar = 2 := by have : some 2 = some ar := ha; exact (Option.some.inj this).symm
    subst har
    obtain ⟨a,b,rfl⟩ := fK hlk
    repeat' (first | (show Ao _ _ _ _ _; first | refine Ao.q tk rfl ?_ | refine Ao.nil ?_ | refine Ao.ah (g := 206) rfl rfl rfl Tryz.call206 (il.r) (gU _ _) rfl ?_ | refine Ao.ah (g := 210) rfl rfl rfl Tryz.call210 (il.r) (et _ _ _) rfl ?_) | (show V _ _ _ _ _; first | refine V.seq ?_ | refine V.ab ?_ | refine V.al ?_ | refine V.bu rfl ?_ | refine V.be rfl ?_ | refine V.ap ?_ | refine V.aB rfl ?_))
    all_goals refine V.eN tk rfl rfl rfl rfl (PLe.q ?_)
    all_goals simp_all [cV]
   ·have har : ar = 1 := by have : some 1 = some ar := ha; exact (Option.some.inj this).symm
    subst har
    obtain ⟨a,rfl⟩ := List.length_eq_one_iff.1 hlk
    repeat' (first | (show Ao _ _ _ _ _; first | refine Ao.q tk rfl ?_ | refine Ao.nil ?_ | refine Ao.ah (g := 206) rfl rfl rfl Tryz.call206 (il.r) (gU _ _) rfl ?_ | refine Ao.ah (g := 210) rfl rfl rfl Tryz.call210 (il.r) (et _ _ _) rfl ?_) | (show V _ _ _ _ _; first | refine V.seq ?_ | refine V.ab ?_ | refine V.bu rfl ?_ | refine V.be rfl ?_ | refine V.ap ?_ | refine V.aB rfl ?_))
    all_goals refine V.eN tk rfl rfl rfl rfl (PLe.q ?_)
    all_goals simp_all [cV]
   ·have har : ar = 2 := by have : some 2 = some ar := ha; exact (Option.some.inj this).symm
    subst har
    obtain ⟨a,b,rfl⟩ := fK hlk
    repeat' (first | (show Ao _ _ _ _ _; first | refine Ao.q tk rfl ?_ | refine Ao.nil ?_ | refine Ao.ah (g := 206) rfl rfl rfl Tryz.call206 (il.r) (gU _ _) rfl ?_ | refine Ao.ah (g := 210) rfl rfl rfl Tryz.call210 (il.r) (et _ _ _) rfl ?_) | (show V _ _ _ _ _; first | refine V.seq ?_ | refine V.ab ?_ | refine V.bu rfl ?_ | refine V.be rfl ?_ | refine V.ap ?_ | refine V.aB rfl ?_))
    all_goals refine V.eN tk rfl rfl rfl rfl (PLe.q ?_)
    all_goals simp_all [cV]
   ·have har : ar = 1 := by have : some 1 = some ar := ha; exact (Option.some.inj this).symm
    subst har
    obtain ⟨a,rfl⟩ := List.length_eq_one_iff.1 hlk
    repeat' (first | (show Ao _ _ _ _ _; first | refine Ao.q tk rfl ?_ | refine Ao.nil ?_) | (show V _ _ _ _ _; first | refine V.seq ?_ | refine V.ab ?_ | refine V.bu rfl ?_ | refine V.be rfl ?_ | refine V.ap ?_ | refine V.aB rfl ?_))
    all_goals refine V.eN tk rfl rfl rfl rfl (PLe.q ?_)
    all_goals simp_all [cV]
   ·have har : ar = 1 := by have : some 1 = some ar := ha; exact (Option.some.inj this).symm
    subst har
    obtain ⟨a,rfl⟩ := List.length_eq_one_iff.1 hlk
    repeat' (first | (show Ao _ _ _ _ _; first | refine Ao.q tk rfl ?_ | refine Ao.nil ?_ | refine Ao.ah (g := 206) rfl rfl rfl Tryz.call206 (il.r) (gU _ _) rfl ?_ | refine Ao.ah (g := 210) rfl rfl rfl Tryz.call210 (il.r) (et _ _ _) rfl ?_) | (show V _ _ _ _ _; first | refine V.seq ?_ | refine V.ab ?_ | refine V.bu rfl ?_ | refine V.be rfl ?_ | refine V.ap ?_ | refine V.aB rfl ?_))
    all_goals refine V.eN tk rfl rfl rfl rfl (PLe.q ?_)
    all_goals simp_all [cV]
   ·have har : ar = 3 := by have : some 3 = some ar := ha; exact (Option.some.inj this).symm
    subst har
    obtain ⟨a,b,c,rfl⟩ := len3 hlk
    repeat' (first | (show Ao _ _ _ _ _; first | refine Ao.q tk rfl ?_ | refine Ao.nil ?_) | (show V _ _ _ _ _; first | refine V.seq ?_ | refine V.ab ?_ | refine V.bu rfl ?_ | refine V.be rfl ?_ | refine V.ap ?_ | refine V.aB rfl ?_ | (show V _ _ _ (.code (.region 33 _ true) :: _) _; refine V.bc tk mok ⟨false,false,[]⟩ [0,1,2,3,4,5,6,7,8,9,10,11,12,13,14,15,16,17,18,19,20,21,22,23,24,25,26,27,28,29] rfl (by decide +kernel) rfl ?_)) | (show Do _ _ _ _ _ _ _; first | refine Do.q rfl ?_ | refine Do.nil ?_ | refine Do.aR (g := 209) rfl rfl rfl rfl Tryz.call209 (il.r) (lk _ _) rfl ?_ | refine Do.aR (g := 210) rfl rfl rfl rfl Tryz.call210 (il.r) (et _ _ _) rfl ?_ | ((fail_if_success refine Do.jY rfl rfl ?_); refine Do.fh rfl rfl rfl rfl (fun h=>?_) (fun h=>?_))))
    all_goals refine V.eN tk rfl rfl rfl rfl (PLe.q ?_)
    all_goals simp_all [cV]
  ·simp only [cp,List.mem_cons,List.mem_nil_iff,or_false,not_or] at hn
   simp [bs,hn] at ha
end
end Go.Proofs.YtgaggbdcedpapaaGreat

namespace Go.Proofs.YtgaggbdcedpapaaGreat
noncomputable section
open Go Go.Ab
attribute [local irreducible] V Ao Do Gh Eff PH IntKind.wrap
set_option maxRecDepth 4000
theorem mY (cols vars : List LCol) (e : LExpr) : cw cols vars e =
  if e.kind ≠ 5 ∧ 0 < e.args.length then eM 3
  else if e.kind == 1 then (if dA e.value && e.name == [] && e.index == 0 then (e.value.kind,e.value.kind == 0,0) else eM 3)
  else if e.kind == 3 then (if e.index < 0 ∨ e.index ≥ 8 ∨ e.name ≠ [] ∨ e.value.kind < 1 ∨ e.value.kind > 3 ∨ e.value ≠ ⟨e.value.kind,0,[]⟩ then eM 3 else (e.value.kind,true,0))
  else if e.kind == 2 || e.kind == 4 then
   (if cy e.name && e.index == 0 && decide (e.value = .nul) then
    (if (iG (if e.kind == 4 then vars else cols) e.name).2 then ((iG (if e.kind == 4 then vars else cols) e.name).1.kind,(iG (if e.kind == 4 then vars else cols) e.name).1.nullable,0) else eM 23)
    else eM 3)
  else if e.kind == 5 then gL e.name e.index e.value (e.args.map (cw cols vars))
  else eM 3 := by
 cases e
 rw [cw,kindsE_map]
 rfl
theorem valNul_iff (x : LVal) : x = .nul ↔ x.kind = 0 ∧ x.int = 0 ∧ x.text = [] := by
 cases x
 simp [LVal.nul]
theorem valK_iff (x : LVal) : x = ⟨x.kind,0,[]⟩ ↔ x.int = 0 ∧ x.text = [] := by
 cases x
 simp
set_option maxHeartbeats 4000000 in
theorem kindStep (cols vars : List LCol) (e : LExpr) (ih : ∀ a ∈ e.args,aG Tryz.prog 183 [hX cols,hX vars,gY a] (pkr (cw cols vars a))) :
  aG Tryz.prog 183 [hX cols,hX vars,gY e] (pkr (cw cols vars e)) := by
 refine PH.intro Tryz.func183 rfl Tryz.ntmps183 rfl ?_
 repeat' (first | (show Ao _ _ _ _ _; first | refine Ao.q tk rfl ?_ | refine Ao.nil ?_ | refine Ao.aF rfl rfl rfl rfl rfl rfl ?_ | (refine Ao.aJ tk rfl rfl rfl rfl rfl rfl ?_; intro bk) | refine Ao.sB tk rfl rfl rfl rfl rfl rfl rfl rfl rfl rfl rfl ?_ | refine Ao.ah (g := 20) rfl rfl rfl Tryz.call20 (il.r) (oQ _) rfl ?_ | refine Ao.ah (g := 180) rfl rfl rfl Tryz.call180 (il.r) (jK _) rfl ?_ | refine Ao.ah (g := 197) rfl rfl rfl Tryz.call197 (il.r) (find_spec _ _) rfl ?_ | refine Ao.ah (g := 198) rfl rfl rfl Tryz.call198 (il.r) (opKind_spec cols vars e ih) rfl ?_ | ((fail_if_success refine Ao.ew rfl ?_); refine Ao.aA rfl rfl rfl (fun h=>?_) (fun h=>?_))) | (show V _ _ _ _ _; first | refine V.seq ?_ | refine V.ab ?_ | refine V.al ?_ | refine V.bu rfl ?_ | refine V.be rfl ?_ | refine V.ap ?_ | refine V.blk ?_ | (show V _ _ _ (.code (.region 7 _ true) :: _) _; refine V.bc tk mok ⟨true,false,[]⟩ [0,1,2,3,4,5,6,7,8,9] rfl (by decide +kernel) rfl ?_) | (show V _ _ _ (.code (.region 22 _ true) :: _) _; refine V.bc tk mok ⟨true,false,[]⟩ [0,1,2,3,4,5,6] rfl (by decide +kernel) rfl ?_) | refine V.ak rfl (fun h=>?_) (fun h=>?_)) | (show Do _ _ _ _ _ _ _; first | refine Do.q rfl ?_ | refine Do.nil ?_ | refine Do.lB rfl rfl rfl rfl rfl rfl rfl rfl rfl ?_))
 all_goals refine V.eN tk rfl rfl rfl rfl (PLe.q ?_)
 all_goals rw [mY]
 all_goals (simp only [List.length_map,Bool.not_eq_true',decide_eq_true_eq,decide_eq_false_iff_not,bne_iff_ne,beq_iff_eq,ne_eq,beq_eq_false_iff_ne,bne_eq_false_iff_eq] at *)
 all_goals try simp_all [eM,valNul_iff,valK_iff]
 all_goals (rw [if_neg (by first | omega | (rintro ⟨q1,q2,q3⟩; exact h q1 q2 q3))]; exact ⟨rfl,rfl,rfl⟩)
theorem kind_spec (cols vars : List LCol) : ∀ e : LExpr,aG Tryz.prog 183 [hX cols,hX vars,gY e] (pkr (cw cols vars e))
 | .mk k n i x args=>kindStep cols vars (.mk k n i x args) fun a ha=>by
  have ha' : a ∈ args := ha
  exact kind_spec cols vars a
def ci (cols vars : List LCol) (e : LExpr) : KR := if (gi e).1 > 60 ∨ (gi e).2 > 12 then eM 2 else cw cols vars e
theorem ky (cols vars : List LCol) (e : LExpr) : aG Tryz.prog 159 [hX cols,hX vars,gY e] (pkr (ci cols vars e)) := by
 refine PH.intro Tryz.func159 rfl Tryz.ntmps159 rfl ?_
 repeat' (first | (show Ao _ _ _ _ _; first | refine Ao.q tk rfl ?_ | refine Ao.nil ?_ | refine Ao.aF rfl rfl rfl rfl rfl rfl ?_ | refine Ao.ah (g := 182) rfl rfl rfl Tryz.call182 (il.r) (size_spec _) rfl ?_ | refine Ao.ah (g := 183) rfl rfl rfl Tryz.call183 (il.r) (kind_spec _ _ _) rfl ?_ | ((fail_if_success refine Ao.ew rfl ?_); refine Ao.aA rfl rfl rfl (fun h=>?_) (fun h=>?_))) | (show V _ _ _ _ _; first | refine V.seq ?_ | refine V.ab ?_ | refine V.al ?_ | refine V.bu rfl ?_ | refine V.ak rfl (fun h=>?_) (fun h=>?_)))
 all_goals refine V.eN tk rfl rfl rfl rfl (PLe.q ?_)
 all_goals simp_all [ci,eM]
 rw [if_neg (by omega)]
 exact ⟨rfl,rfl,rfl⟩
end
end Go.Proofs.YtgaggbdcedpapaaGreat

namespace Go.Proofs.YtgaggbdcedpapaaGreat
noncomputable section
open Go Go.Ab
attribute [local irreducible] V Ao Do Gh Eff PH IntKind.wrap
set_option maxRecDepth 4000
mutual
def gE : LExpr → Int → Int
 | .mk _ _ _ _ args,m=>jI args m
def jI : List LExpr → Int → Int
 | [],m=>m
 | a :: r,m=>if wr (m - 1) < 0 then -1 else if gE a (wr (m - 1)) < 0 then -1 else jI r (gE a (wr (m - 1)))
end
theorem nodesE_eq (e : LExpr) (m : Int) : gE e m = jI e.args m := by
 cases e
 rw [gE]
 rfl
theorem nodesStep (e : LExpr) (most : Int) (ih : ∀ a ∈ e.args,∀ m,aG Tryz.prog 38 [gY a,ac m] (ac (gE a m))) :
  aG Tryz.prog 38 [gY e,ac most] (ac (gE e most)) := by
 rw [nodesE_eq]
 refine PH.intro Tryz.func38 rfl Tryz.ntmps38 rfl ?_
 repeat (first | refine Ao.q tk rfl ?_ | refine Ao.nil ?_ | refine V.seq ?_ | refine V.ab ?_ | refine V.ap ?_ | refine Ao.aF rfl rfl rfl rfl rfl rfl ?_)
 refine V.aZ tk 8 rfl rfl fun hl _=>?_
 rw [List.length_map] at hl
 refine V.ij (X := Nat × Int) (fun X=>⟨25,upd (upd (upd (upd (fun _=>.any) 1 (ac X.2)) 8 (mE e.args)) 9 (ac (e.args.map aI).length)) 10 (ac X.1),fun _=>none,fun _=>none⟩)
  (fun X=>X.1 ≤ e.args.length ∧ jI (e.args.drop X.1) X.2 = jI e.args most) (fun X=>e.args.length - X.1) (0,most) ⟨Nat.zero_le _,rfl⟩ (Gh.le (SLe.aa (PLe.q rfl) (SLe.aa (PLe.q rfl) (SLe.aa (PLe.q rfl) (SLe.aa (PLe.q rfl) SLe.nil)))) BLe.nil OLe.nil) ?_
 rintro ⟨j,m⟩ ⟨hj,hm⟩
 replace hj : j ≤ e.args.length := hj
 replace hm : jI (e.args.drop j) m = jI e.args most := hm
 rw [← hm]
 repeat (first | refine Ao.q tk rfl ?_ | refine Ao.nil ?_ | refine V.seq ?_ | refine V.ab ?_)
 refine V.ak rfl (fun h=>?_) (fun h=>?_)
 ·have hlt : j < e.args.length := by simpa using h
  have hd : e.args.drop j = e.args[j] :: e.args.drop (j + 1) := List.drop_eq_getElem_cons hlt
  rw [hd,jI]
  repeat (first | refine V.seq ?_ | refine V.ab ?_ | refine V.al ?_ | refine V.ap ?_)
  refine Ao.idx tk rfl rfl rfl rfl rfl rfl (Int.natCast_nonneg j) (oe hlt) rfl ?_
  repeat (first | refine Ao.q tk rfl ?_ | refine Ao.nil ?_ | refine V.seq ?_ | refine V.ab ?_ | (refine Ao.aJ tk rfl rfl rfl rfl rfl rfl ?_; intro bk) | refine Ao.sB tk rfl rfl rfl rfl rfl rfl rfl rfl rfl rfl rfl ?_)
  refine V.ak rfl (fun h1=>?_) (fun h1=>?_)
  ·repeat (first | refine Ao.q tk rfl ?_ | refine Ao.nil ?_ | refine V.seq ?_ | refine V.ab ?_)
   refine V.cG tk rfl rfl (PLe.q ?_)
   rw [if_pos (by simpa [wr] using h1)]
  ·rw [if_neg (by simpa [wr] using h1)]
   repeat (first | refine Ao.q tk rfl ?_ | refine V.seq ?_ | refine V.ab ?_ | refine V.al ?_ | refine Ao.lB tk rfl rfl rfl rfl rfl rfl rfl ?_)
   refine Ao.ah (g := 38) rfl rfl rfl Tryz.call38 (il.r) (ih _ (List.getElem_mem hlt) _) rfl ?_
   repeat (first | refine Ao.q tk rfl ?_ | refine Ao.nil ?_ | refine V.seq ?_ | refine V.ab ?_)
   refine V.ak rfl (fun h2=>?_) (fun h2=>?_)
   ·repeat (first | refine Ao.q tk rfl ?_ | refine Ao.nil ?_ | refine V.seq ?_ | refine V.ab ?_)
    refine V.cG tk rfl rfl (PLe.q ?_)
    rw [if_pos (by simpa [wr] using h2)]
   ·repeat (first | refine Ao.q tk rfl ?_ | refine Ao.nil ?_ | refine V.ab ?_ | refine V.al ?_ | refine V.blk ?_)
    refine V.iB (j + 1,gE e.args[j] (wr (m - 1))) ?_ ⟨hlt,?_⟩ (Gh.le (SLe.aa (PLe.q (az (by omega))) (SLe.aa (PLe.q rfl) (SLe.aa (PLe.q rfl) (SLe.aa (PLe.q rfl) SLe.nil)))) BLe.nil OLe.nil)
    ·show e.args.length - (j + 1) < e.args.length - j
     omega
    ·rw [if_neg (by simpa [wr] using h2)]
 have hge : j = e.args.length := by have : ¬ j < e.args.length := by simpa using h
                                    omega
 repeat (first | refine Ao.q tk rfl ?_ | refine Ao.nil ?_ | refine V.seq ?_ | refine V.ab ?_ | refine V.aB rfl ?_)
 refine V.cG tk rfl rfl (PLe.q ?_)
 rw [hge,List.drop_length,jI]
theorem nh : ∀ (e : LExpr) (m : Int),aG Tryz.prog 38 [gY e,ac m] (ac (gE e m))
 | .mk k n i x args,m=>nodesStep (.mk k n i x args) m fun a ha m=>by
  have ha' : a ∈ args := ha
  exact nh a m
end
end Go.Proofs.YtgaggbdcedpapaaGreat
