/- cardinalityBoundsHoldUpto_holds, part 2: the layer, the plain functions and what they compute; conditions as in the statement. -/
import Derived.Test.YteceobbkljmbmaaGreatDoorCaa
set_option maxHeartbeats 4000000
namespace Go.Ab
noncomputable section
open Go.ChangeShapes
mutual
def PV.bulk : PV → Nat
 | .str l=>l.length + 1
 | .list _ rows=>fS rows + 1
 | .agg cs=>bi cs
 | .any=>1
 | .val _=>1
 | .tup _=>1
 | .ptr _=>1
 | .fn _ _=>1
 | .box _ _ _=>1
 | .own _ _ _=>1
 | .optr _ _ _ _ _=>1
 | .err _=>1
def bi : List PV → Nat
 | []=>0
 | p :: ps=>p.bulk + bi ps
def fS : List (List PV) → Nat
 | []=>0
 | r :: rs=>bi r + fS rs
end
theorem qW : ∀ a b : List PV,bi (a ++ b) = bi a + bi b
 | [],b=>by simp [bi]
 | p :: a,b=>by simp only [List.cons_append,bi,qW a b]; omega
structure IsBulk (B : (H : Type) → DataW H → Nat) : Prop where
 one : ∀ H d,1 ≤ B H d
 str : ∀ H l,l.length + 1 ≤ B H (.lit (.string l))
 slice : ∀ H (a b : List (DataW H)),(a.map (B H)).sum + 1 ≤ B H (.slice a b)
 agg : ∀ H (a : List (DataW H)),(a.map (B H)).sum ≤ B H (.agg a)
theorem Sh.up {P : Program} : ∀ {n : Nat} {t : TypeId} {pvs : List PV},Sh P n t pvs → Sh P (n + 1) t pvs := by
 intro n
 induction n with
 | zero=>intro t pvs h; simp [Sh] at h
 | succ n ih =>
  intro t pvs h
  rw [Sh] at h ⊢
  split at h
  ·exact h
  ·exact h
  ·exact h
  ·obtain ⟨rows,rfl,hr⟩ := h
   exact ⟨rows,rfl,fun r hq=>ih (hr r hq)⟩
  ·rename_i fs hu
   have key : ∀ (ts : List TypeId) (l : List PV),fN (Sh P n) ts l → fN (Sh P (n + 1)) ts l := by
    intro ts
    induction ts with
    | nil=>intro l h; simp only [fN] at h ⊢; exact h
    | cons t ts iht =>
     intro l h
     simp only [fN] at h ⊢
     obtain ⟨a,b,h1,h2,h3⟩ := h
     exact ⟨a,b,h1,ih h2,iht b h3⟩
   exact key _ _ h
  ·cases h
theorem Sh.cast {P : Program} {n : Nat} {t t' : TypeId} {pvs : List PV} (h : P.underlying t = P.underlying t') (hs : Sh P n t pvs) : Sh P n t' pvs := by
 cases n with
 | zero=>simp [Sh] at hs
 | succ n=>rw [Sh] at hs ⊢; rwa [h] at hs
theorem jt {α : Type} {f : α → List PV} : ∀ {rows : List (List PV)},(∀ r ∈ rows,∃ x,r = f x) → ∃ xs : List α,rows = xs.map f
 | [],_=>⟨[],rfl⟩
 | r :: rs,h=>by
  obtain ⟨x,rfl⟩ := h r (by simp)
  obtain ⟨xs,rfl⟩ := jt (rows := rs) fun q hq=>h q (by simp [hq])
  exact ⟨x :: xs,rfl⟩
theorem rowsUp {α : Type} {f : α → List PV} {P : Program} {n : Nat} {e t : TypeId} (he : P.underlying e = P.underlying t) (ih : ∀ {pvs},Sh P (n + 1) t pvs → ∃ v,pvs = f v) {rows : List (List PV)} (hr : ∀ r ∈ rows,Sh P n e r) : ∃ xs : List α,rows = xs.map f :=
 jt fun r hq=>ih (Sh.up (Sh.cast he (hr r hq)))
def infosB (P : Program) (S : List TypeId) : Bool := S.all fun t=>match P.info? t with
 | some i=>Nat.beq i.bytes (P.bytesOf t) && Nat.beq i.size (P.cellsOf t)
 | none=>false
theorem infos_of {P : Program} {S : List TypeId} (h : infosB P S = true) : ∀ t ∈ S,∃ i,P.info? t = some i ∧ i.bytes = P.bytesOf t ∧ i.size = P.cellsOf t := by
 intro t ht
 have := List.all_eq_true.1 h t ht
 cases hi : P.info? t with
 | none=>rw [hi] at this; cases this
 | some i =>
  rw [hi] at this
  simp only [Bool.and_eq_true] at this
  exact ⟨i,rfl,Nat.eq_of_beq_eq_true this.1,Nat.eq_of_beq_eq_true this.2⟩
section
variable {B : (H : Type) → DataW H → Nat} {H : Type} {enc : TypeId × Value → H} {P : Program} {W : World} {S : List TypeId}
theorem tU {n : Nat} (ih : ∀ t ∈ S,∀ (cs : List Value) x,DataW.trod enc P W 0 (fun _=>true) true n t cs = some x → (x.1.weights P t).all (· ≤ reachBytes) = true → ∃ pvs,Sh P n t pvs ∧ aD P (kD W) false pvs cs ∧ bi pvs ≤ B H x.1) :
  ∀ (fs : List Field) (o : Nat) (cs : List Value) (xs : List (DataW H × List MemPlace)),laidFs P o fs = true → fs.all (fun f=>S.contains f.type) = true → o + (fs.map fun f=>P.cellsOf f.type).sum = cs.length →
   (fs.mapM fun f=>DataW.trod enc P W 0 (fun _=>true) true n f.type ((cs.drop f.offset).take (P.cellsOf f.type))) = some xs →
   (DataW.weightsEach P (fs.map (·.type)) (xs.map (·.1))).all (· ≤ reachBytes) = true → ∃ pvs,fN (Sh P n) (fs.map (·.type)) pvs ∧ aD P (kD W) false pvs (cs.drop o) ∧ bi pvs ≤ ((xs.map (·.1)).map (B H)).sum
 | [],o,cs,xs,_,_,hlen,_,_=>by
  refine ⟨[],by simp [fN],?_,by simp [bi]⟩
  simp only [aD]
  exact List.drop_eq_nil_of_le (by simp at hlen; omega)
 | f :: fs,o,cs,xs,hl,hS,hlen,hm,hw=>by
  simp only [laidFs,Bool.and_eq_true] at hl
  simp only [List.all_cons,Bool.and_eq_true] at hS
  simp only [List.map_cons,List.sum_cons] at hlen
  have hoff : f.offset = o := Nat.eq_of_beq_eq_true hl.1
  rw [List.mapM_cons] at hm
  cases hx : DataW.trod enc P W 0 (fun _=>true) true n f.type ((cs.drop f.offset).take (P.cellsOf f.type)) with
  | none=>rw [hx] at hm; cases hm
  | some x =>
   rw [hx] at hm
   cases hr : (fs.mapM fun f=>DataW.trod enc P W 0 (fun _=>true) true n f.type ((cs.drop f.offset).take (P.cellsOf f.type))) with
   | none=>rw [hr] at hm; cases hm
   | some r =>
    rw [hr] at hm
    have hm' : x :: r = xs := Option.some.inj hm
    subst hm'
    simp only [List.map_cons,DataW.weightsEach,List.all_append,Bool.and_eq_true] at hw
    obtain ⟨pa,ha1,ha2,ha3⟩ := ih f.type (by simpa using hS.1) _ x hx hw.1
    obtain ⟨pb,hb1,hb2,hb3⟩ := tU ih fs (o + P.cellsOf f.type) cs r hl.2 hS.2 (by omega) hr hw.2
    refine ⟨pa ++ pb,⟨pa,pb,rfl,ha1,hb1⟩,?_,by rw [qW]; simp only [List.map_cons,List.sum_cons]; omega⟩
    have := ha2.append hb2
    rw [hoff] at this
    have e : (cs.drop o).take (P.cellsOf f.type) ++ cs.drop (o + P.cellsOf f.type) = cs.drop o := by
     rw [← List.drop_drop]; exact List.take_append_drop _ _
    rwa [e] at this
theorem absB_rows {n : Nat} {e : TypeId} (ih : ∀ (cs : List Value) x,DataW.trod enc P W 0 (fun _=>true) true n e cs = some x → (x.1.weights P e).all (· ≤ reachBytes) = true → ∃ pvs,Sh P n e pvs ∧ aD P (kD W) false pvs cs ∧ bi pvs ≤ B H x.1)
  {b o c : Nat} : ∀ (elems : List (DataW H × List MemPlace)) (k : Nat),(∀ j,j < elems.length → ((W.cells? 0 ((⟨b,o,none⟩ : Addr).add ((k + j) * c)) c).bind (DataW.trod enc P W 0 (fun _=>true) true n e)) = elems[j]?) →
   (DataW.weightsAll P e (elems.map (·.1))).all (· ≤ reachBytes) = true → ∃ rows : List (List PV),rows.length = elems.length ∧ (∀ r ∈ rows,Sh P n e r) ∧ dc P (kD W) c b (o + k * c) rows ∧ fS rows ≤ ((elems.map (·.1)).map (B H)).sum
 | [],k,_,_=>⟨[],rfl,by simp,by simp [dc],by simp [fS]⟩
 | x :: r,k,hj,hw=>by
  simp only [List.map_cons,DataW.weightsAll,List.all_append,Bool.and_eq_true] at hw
  have h0 := hj 0 (by simp)
  simp only [Nat.add_zero,List.getElem?_cons_zero] at h0
  cases hcs : W.cells? 0 ((⟨b,o,none⟩ : Addr).add (k * c)) c with
  | none=>rw [hcs] at h0; cases h0
  | some cs =>
   rw [hcs] at h0
   simp only [Option.bind_some] at h0
   obtain ⟨pv,hp1,hp2,hp3⟩ := ih cs x h0 hw.1
   obtain ⟨_,hlen,hcell⟩ := World.cells?_some hcs
   obtain ⟨rows,hr1,hr2,hr3,hr4⟩ := absB_rows ih r (k + 1) (fun j hj'=>by
    have := hj (j + 1) (by simpa using hj')
    rw [show k + (j + 1) = k + 1 + j from by omega] at this
    simpa using this) hw.2
   refine ⟨pv :: rows,by simp [hr1],?_,?_,by simp only [fS,List.map_cons,List.sum_cons]; omega⟩
   ·intro q hq
    rcases List.mem_cons.1 hq with rfl | hq
    ·exact hp1
    ·exact hr2 q hq
   ·simp only [dc]
    have hpl : pv.length = c := by rw [← hlen]; exact (hp2.length).symm
    have hone : ∀ y ∈ cs,y.oneCell' = true := aD.oneCell hp1.one hp2
    refine ⟨hpl,dr.of_cells hp2 hone fun j hj'=>?_,?_⟩
    ·have := hcell j (by omega)
     rw [← this,eB,eB]
    ·rw [show o + (k + 1) * c = o + k * c + c from by rw [Nat.add_mul]; omega] at hr3
     exact hr3
theorem absB (hB : IsBulk B) (hS : S.all (okT P S) = true) (hinf : ∀ t ∈ S,∃ i,P.info? t = some i ∧ i.bytes = P.bytesOf t ∧ i.size = P.cellsOf t) : ∀ (n : Nat) (t : TypeId),t ∈ S → ∀ (cs : List Value) x,DataW.trod enc P W 0 (fun _=>true) true n t cs = some x →
  (x.1.weights P t).all (· ≤ reachBytes) = true → ∃ pvs,Sh P n t pvs ∧ aD P (kD W) false pvs cs ∧ bi pvs ≤ B H x.1 := by
 intro n
 induction n with
 | zero=>intro t _ cs x h; simp [DataW.trod] at h
 | succ n ih =>
  intro t ht cs x h hw
  have hok := List.all_eq_true.1 hS t ht
  unfold okT at hok
  simp only [Sh]
  split at hok
  ·rename_i hu
   obtain ⟨b,rfl⟩ := trod_bool_some hu h
   exact ⟨_,⟨b,rfl⟩,by simp [aD,Rep],by simp only [bi,PV.bulk]; exact hB.one _ _⟩
  ·rename_i k hu
   obtain ⟨m,rfl,hm⟩ := trod_int_some hu h
   exact ⟨_,⟨m,rfl,hm⟩,by simp [aD,Rep],by simp only [bi,PV.bulk]; exact hB.one _ _⟩
  ·rename_i hu
   obtain ⟨s,rfl,hx⟩ := trod_str_some hu h
   rw [hx] at hw
   simp only [DataW.weights,List.all_cons,List.all_nil,Bool.and_true,decide_eq_true_eq] at hw
   have hle : s.data.toList.length ≤ 2 ^ 47 := Nat.le_trans hw (by unfold reachBytes; omega)
   refine ⟨_,⟨s.data.toList,rfl,hle⟩,?_,by simp only [bi,PV.bulk]; rw [hx]; exact hB.str _ _⟩
   simp only [aD,Rep]
   exact ⟨_,[],rfl,⟨by simp,Nat.le_trans hle (by unfold im; omega)⟩,rfl⟩
  ·rename_i e hu
   simp only [Bool.and_eq_true] at hok
   have he : e ∈ S := by simpa using hok.1
   obtain ⟨i,hi1,hi2,hi3⟩ := hinf e he
   rcases uy hu h with ⟨rfl,rfl⟩ | ⟨a,len,cap,elems,rest,rfl,hlc,hcm,hel,hre,hx⟩
   ·refine ⟨_,⟨[],rfl,by simp⟩,?_,by simp only [bi,PV.bulk,fS]; exact hB.one _ _⟩
    simp only [aD,Rep]
    exact ⟨_,[],rfl,⟨none,0,i,rfl,by simp,by simp,hi1,by simp,by simp⟩,rfl⟩
   ·have hlen : elems.length = len := by simpa using mapM_some_length hel
    have hrlen : rest.length = cap - len := by simpa using mapM_some_length hre
    rw [hx] at hw
    simp only [DataW.weights,hu,List.all_cons,List.all_append,zl,Bool.and_eq_true,decide_eq_true_eq] at hw
    have hpos : 0 < P.cellsOf e := by simpa [Nat.blt_eq] using hok.2
    have hget : ∀ j,j < elems.length → (W.cells? 0 (a.add (j * P.cellsOf e)) (P.cellsOf e)).bind (DataW.trod enc P W 0 (fun _=>true) true n e) = elems[j]? := fun j hj=>mapM_some_get hel j j (List.getElem?_range (by omega))
    have hsp : elems ≠ [] → a.spot = none := fun hne=>by
     have h0 := hget 0 (List.length_pos_iff.2 hne)
     rw [Nat.zero_mul] at h0
     cases hcs : W.cells? 0 (a.add 0) (P.cellsOf e) with
     | none=>rw [hcs] at h0; cases elems with
      | nil=>exact absurd rfl hne
      | cons _ _=>cases h0
     | some cs =>
      obtain ⟨_,hl,hc⟩ := World.cells?_some hcs
      have := hc 0 hpos
      cases hs : a.spot with
      | none=>rfl
      | some q =>
       have h1 : W.cell? ((a.add 0).add 0) = none := by
        simp only [World.cell?,Addr.add,hs,if_true]
        split <;> simp
       rw [h1] at this
       have := List.getElem?_eq_none_iff.1 this.symm
       omega
    have hby : len * i.bytes ≤ 2 ^ 47 := by
     have h1 := hw.1
     rw [hi2]
     have : len * P.bytesOf e ≤ (elems.length + rest.length) * P.bytesOf e := Nat.mul_le_mul_right _ (by omega)
     unfold reachBytes at h1
     omega
    by_cases hne : elems = []
    ·subst hne
     refine ⟨_,⟨[],rfl,by simp⟩,?_,by simp only [bi,PV.bulk,fS]; exact hB.one _ _⟩
     simp only [List.length_nil] at hlen
     subst hlen
     simp only [aD,Rep]
     exact ⟨_,[],rfl,⟨some a,cap,i,rfl,by simp,hcm,hi1,by simp,by simp⟩,rfl⟩
    ·obtain ⟨b,o,sp⟩ := a
     have := hsp hne
     simp only at this
     subst this
     obtain ⟨rows,hr1,hr2,hr3,hr4⟩ := absB_rows (B := B) (fun cs x hx hw=>ih e he cs x hx hw) elems 0 (fun j hj=>by rw [Nat.zero_add]; exact hget j hj) hw.2.1
     refine ⟨_,⟨rows,rfl,hr2⟩,?_,by simp only [bi,PV.bulk]; rw [hx]; exact Nat.le_trans (by omega) (hB.slice _ _ _)⟩
     simp only [aD,Rep]
     have hrl : rows.length = len := by omega
     rw [hrl]
     refine ⟨_,[],rfl,⟨some ⟨b,o,none⟩,cap,i,rfl,hlc,hcm,hi1,hby,fun _=>⟨b,o,rfl,?_⟩⟩,rfl⟩
     rw [hi3]
     simpa using hr3
  ·rename_i fs hu
   simp only [Bool.and_eq_true] at hok
   obtain ⟨hl,xs,hm,hx⟩ := uv hu h
   rw [hx] at hw
   simp only [DataW.weights,hu] at hw
   have hsum := Nat.eq_of_beq_eq_true hok.2
   obtain ⟨pvs,h1,h2,h3⟩ := tU (B := B) ih fs.toList 0 cs xs hok.1.1 hok.1.2 (by rw [hsum,hl]; omega) hm hw
   exact ⟨pvs,h1,by simpa using h2,by rw [hx]; exact Nat.le_trans h3 (hB.agg _ _)⟩
  ·cases hok
omit enc W S in
theorem argPV_bulk (hB : IsBulk B) (t : TypeId) (pvs : List PV) : (kB P t pvs).bulk ≤ max (bi pvs) 1 := by
 have _ := hB
 unfold kB
 split
 ·simp only [PV.bulk]; omega
 ·cases pvs with
  | nil=>simp [PV.bulk,bi]
  | cons p ps=>simp only [List.headD_cons,bi]; omega
theorem absB_val (hB : IsBulk B) (hS : S.all (okT P S) = true) (hinf : ∀ t ∈ S,∃ i,P.info? t = some i ∧ i.bytes = P.bytesOf t ∧ i.size = P.cellsOf t) {base : Nat} {t : TypeId} (ht : t ∈ S) {v : Value} {d : DataW H} {ps : List MemPlace}
  (hv : Value.okWide P W .any base t v) (h : DataW.Trod enc P W 0 (fun _=>true) true t v d ps) (hw : (d.weights P t).all (· ≤ reachBytes) = true) : ∃ n pvs,Sh P n t pvs ∧ Rep P (kD W) true (kB P t pvs) v ∧ (kB P t pvs).bulk ≤ B H d := by
 obtain ⟨n,hn⟩ := h
 obtain ⟨pvs,h1,h2,hb⟩ := absB hB hS hinf n t ht _ (d,ps) hn hw
 refine ⟨n,pvs,h1,?_,Nat.le_trans (argPV_bulk hB t pvs) (Nat.max_le.2 ⟨hb,hB.one _ _⟩)⟩
 have h2' := aD.slot h2
 have hok := List.all_eq_true.1 hS t ht
 unfold okT at hok
 unfold kB
 have one : v.cells = #[v] → Rep P (kD W) true (pvs.headD .any) v := by
  intro e
  rw [e] at h2'
  cases pvs with
  | nil=>simp [aD] at h2'
  | cons p ps =>
   simp only [aD] at h2'
   obtain ⟨x,xs,hx,hp,_⟩ := h2'
   simp only [List.cons.injEq] at hx
   rw [hx.1]
   exact hp
 cases hu : P.underlying t with
 | none=>rw [hu] at hok; cases hok
 | some td =>
  rw [hu] at hok
  cases td <;> first | (simp only [Bool.false_eq_true] at hok; done) | skip
  case bool=>obtain ⟨b,rfl⟩ := WideShapes.okWide_bool hu hv; exact one rfl
  case int k=>obtain ⟨m,rfl⟩ := WideShapes.okWide_int hu hv; exact one rfl
  case string=>obtain ⟨s,rfl⟩ := WideShapes.okWide_string hu hv; exact one rfl
  case slice e=>obtain ⟨a,len,cap,rfl⟩ := WideShapes.okWide_slice hu hv; exact one rfl
  case struct fs =>
   obtain ⟨cs,rfl,_⟩ := WideShapes.okWide_struct hu hv
   simp only [Rep]
   exact ⟨cs,rfl,h2'⟩
theorem absB_args (hB : IsBulk B) (hS : S.all (okT P S) = true) (hinf : ∀ t ∈ S,∃ i,P.info? t = some i ∧ i.bytes = P.bytesOf t ∧ i.size = P.cellsOf t) {base : Nat} : ∀ {ts : List TypeId} {vs : List Value} {ds : List (DataW H)} {ps : List MemPlace},(∀ t ∈ ts,t ∈ S) →
  (∀ (j : Nat) t v,ts[j]? = some t → vs[j]? = some v → Value.okWide P W .any base t v) → DataW.TrodAll enc P W 0 (fun _=>true) true ts vs ds ps → (DataW.weightsEach P ts ds).all (· ≤ reachBytes) = true →
  ∃ av0,ArgsSh P ts av0 ∧ aD P (kD W) true av0 vs ∧ bi av0 ≤ (ds.map (B H)).sum
 | [],_,_,_,_,_,h,_=>by
  obtain ⟨rfl,rfl,rfl⟩ := trodAll_nil h
  exact ⟨[],rfl,by simp [aD],by simp [bi]⟩
 | t :: ts,_,_,_,hm,hv,h,hw=>by
  obtain ⟨v,vs,d,ds,p,q,rfl,rfl,rfl,h1,h2⟩ := trodAll_cons h
  simp only [DataW.weightsEach,List.all_append,Bool.and_eq_true] at hw
  obtain ⟨n,pvs,a1,a2,a3⟩ := absB_val hB hS hinf (hm t (by simp)) (hv 0 t v rfl rfl) h1 hw.1
  obtain ⟨av0,b1,b2,b3⟩ := absB_args hB hS hinf (fun t ht=>hm t (by simp [ht])) (fun j t v ht hv'=>hv (j + 1) t v (by simpa using ht) (by simpa using hv')) h2 hw.2
  refine ⟨kB P t pvs :: av0,⟨n,pvs,av0,rfl,a1,b1⟩,?_,by simp only [bi,List.map_cons,List.sum_cons]; omega⟩
  simp only [aD]
  exact ⟨v,vs,rfl,a2,b2⟩
theorem law_callsB {N : Nat} (hB : IsBulk B) (hl : laidOutB P = true) {f : FuncId} {fn : Func} {s : ChangeSpec} {fresh handsOn again : Bool} {tb : TypeId} (hvars : s.vars = []) (hr : ∀ t ∈ fn.params.toList,P.readableRec t = true ∧ t < P.types.size) (hres : fn.resultTypes = #[tb]) (htb : P.underlying tb = some .bool)
  (hfn : ∀ ds : List (DataW H),ds.length = fn.params.toList.length → s.fn H ds = { results := [.lit (.bool true)],args := ds })
  (hS : S.all (okT P S) = true) (hinf : ∀ t ∈ S,∃ i,P.info? t = some i ∧ i.bytes = P.bytesOf t ∧ i.size = P.cellsOf t) (hm : ∀ t ∈ fn.params.toList,t ∈ S)
  (hspec : ∀ av0,ArgsSh P fn.params.toList av0 → bi av0 ≤ N → aP P f av0 (.val (.bool true)))
  {base : Nat} {args : Array Value} {ds gs : List (DataW H)} {before : List MemPlace} (hval : ∀ (j : Nat) t v,fn.params[j]? = some t → args[j]? = some v → Value.okWide P W .any base t v)
  (hW : DataW.Whole enc P fn.params.toList s.vars false W args.toList ds gs before) (hg : Gl W []) (hsz : (DataW.weightsEach P (fn.params.toList ++ s.plain.varTypes P) (ds ++ gs)).all (· ≤ reachBytes) = true) (hN : ((ds ++ gs).map (B H)).sum ≤ N) :
  Calls P f args W fun e W'=>∃ v,e = .returned v ∧ s.post enc P fn false fresh handsOn again W args v W' := by
 have hlt := hW.lt
 have hW' := hW
 obtain ⟨p,q,hA,hV,rfl,hz,hn⟩ := hW
 have hV' := hV
 rw [hvars] at hV
 obtain ⟨rfl,rfl⟩ := trodVars_none hV
 have hvt : s.plain.varTypes P = [] := by simp [DataSpec.varTypes,ChangeSpec.plain,hvars]
 rw [hvt,List.append_nil,List.append_nil] at hsz
 rw [List.append_nil] at hN
 have hlen : ds.length = fn.params.toList.length := tZ hA
 obtain ⟨av0,h1,h2,h3⟩ := absB_args hB hS hinf hm (fun j t v ht hv=>hval j t v (by simpa using ht) (by simpa using hv)) hA hsz
 refine (hspec av0 h1 (Nat.le_trans h3 hN) W (kD W) [] hg args (InvH.start W hg) h2).mono ?_
 rintro e W' ⟨v,u,H',M',rfl,⟨rfl,rfl⟩,hi,hrep⟩
 simp only [Rep] at hrep
 subst hrep
 have hb := hi.below
 refine ⟨_,rfl,?_⟩
 have hfn' : s.fn H (ds ++ []) = { results := [.lit (.bool true)],args := ds } := by rw [List.append_nil]; exact hfn ds hlen
 have hargs : ∀ sp : Nat → Bool,(∀ x ∈ p ++ [],sp x.block = true) → DataW.TrodAll enc P W' 0 sp true fn.params.toList args.toList ds p := fun sp hsp =>
  rT hl hb hr hA (fun x hx=>hlt x (by simp [hx])) (fun x hx=>hsp x (by simp [hx]))
 have hres' : ∀ (b : Nat) (sp : Nat → Bool) (hd : Bool),DataW.TrodAll enc P W' b sp hd fn.resultTypes.toList ((Value.bool true).resultList fn.resultTypes.size) [.lit (.bool true)] [] := by
  intro b sp hd
  rw [hres]
  refine trodAll_mk1 ⟨1,?_⟩
  show DataW.trod enc P W' b sp hd 1 tb [.bool true] = _
  unfold DataW.trod
  rw [htb]
 have hvs : ∀ sp : Nat → Bool,DataW.TrodVars enc P W' sp s.vars ([] : List (DataW H)) [] := fun sp=>by rw [hvars]; simp [DataW.TrodVars]
 have hold : ∀ x ∈ p ++ [],(fun b=>decide (b < W.heap.size)) x.block = true := fun x hx=>by simpa using hlt x hx
 refine ⟨ds,[],p ++ [],[],p,[],hW',?_,?_,?_,hb.frame _,fun _=>⟨RowKit.ok_one hres rfl (RowKit.okWide_bool_mk htb true),[.lit (.bool true)] ++ ds,[],([] ++ p) ++ [],⟨[] ++ p,[],?_,hvs _,rfl,?_,fun h=>by cases h⟩,?_⟩⟩
 ·rw [hfn']; exact hres' _ _ _
 ·rw [hfn']; exact hargs _ hold
 ·rw [hfn']; exact hvs _
 ·exact trodAll_append (hargs _ fun _ _=>rfl) (hres' _ _ _)
 ·intro b off hx
  have hx' : MemPlace.cell b off ∈ p ++ [] := by simpa using hx
  rw [hb.frozen (hlt _ hx')]
  exact hz b off hx'
 ·intro x hx _
  simpa using hx
end
end
end Go.Ab

namespace Go.Ab
noncomputable section
open Go
theorem joined_of {P : Program} {f : FuncId} {fn : Func} {s : ChangeSpec} {c : OpenClaim}
  (h_wf : (c.wf (OpenSpec.ofChange s)) = true)
  (h_laid : (laidOutB P) = true)
  (h_mapsRowed : (mapsRowed P) = true)
  (h_rr : (fn.params.all (P.readableRec ·)) = true)
  (h_nt : (namedTie P c.named s.vars) = true)
  (h_st : ((c.stops == []) && (P.stops == []) && (c.knobs == []) && (P.stopKnobs == [])) = true)
  (h_inPlace : (c.inPlace == P.inPlace f) = true)
  (h_unf : (c.unfollowed == P.unfollowed f) = true)
  (h_rec : (c.recurses == P.recurses f) = true)
  (h_named : (c.named == P.varsNamed f) = true)
  (h_maps : ((c.maps == (fn.params.toList ++ s.plain.varTypes P).any (P.mapsRec ·)) && (c.ifaces == (fn.params.toList ++ s.plain.varTypes P).any (P.ifacesRec ·)) && (c.mapsOut == P.mapsAmong fn.resultTypes.toList)) = true)
  (h_loops : ((c.loops == (fn.params.toList ++ s.plain.varTypes P).any (P.loopsFrom ·))) = true)
  (h_wide : ((c.wideKeys == (fn.params.toList ++ s.plain.varTypes P ++ fn.resultTypes.toList).any (P.wideKeysFrom ·))) = true)
  (h_rest1 : (s.vars.all (P.varReadable ·) && fn.resultTypes.all (fun t=>P.readableRec t && decide (t < P.types.size)) && (c.ifacesOut == fn.resultTypes.toList.any (P.ifacesRec ·)) && (c.loopsOut == fn.resultTypes.toList.any (P.loopsFrom ·))) = true)
  (h_plainKeys : (c.plainKeys == P.plainKeys) = true)
  (h_rest2 : (c.shortTexts.isNone && P.stopsHeard && P.mayEnter && (c.lifted == P.liftsFinal) && (P.make == some c.make)) = true)
  (h_kinds : ((c.kinds == (if c.domain.isEmpty then [] else fn.params.toList.map fun t=>match P.underlying t with | some (.int k)=>some k | _=>none)) && (c.pinned == c.pinnedBy)) = true)
  (h_veil : ((c.veiled == (fn.params.toList ++ s.plain.varTypes P ++ fn.resultTypes.toList).any (P.veiledRec ·)) && c.veiledFits P fn.params.toList (fn.params.toList ++ s.plain.varTypes P ++ fn.resultTypes.toList)) = true)
  : joinedFacts P f fn s c = true := by
 simp only [Bool.and_eq_true] at h_st h_maps h_rest1 h_rest2 h_kinds h_veil
 simp only [joinedFacts,Bool.and_eq_true]
 exact ⟨⟨⟨⟨⟨⟨⟨⟨⟨⟨⟨⟨⟨⟨⟨⟨⟨⟨⟨⟨⟨⟨⟨⟨⟨⟨⟨⟨⟨⟨⟨h_wf,h_laid⟩,h_mapsRowed⟩,h_rr⟩,h_nt⟩,h_st.1.1.1⟩,h_st.1.1.2⟩,h_st.1.2⟩,h_st.2⟩,h_inPlace⟩,h_unf⟩,h_rec⟩,h_named⟩,h_maps.1.1⟩,h_maps.1.2⟩,h_maps.2⟩,h_loops⟩,h_wide⟩,h_rest1.1.1.1⟩,h_rest1.1.1.2⟩,h_rest1.1.2⟩,h_rest1.2⟩,h_plainKeys⟩,h_rest2.1.1.1.1⟩,h_rest2.1.1.1.2⟩,h_rest2.1.1.2⟩,h_rest2.1.2⟩,h_rest2.2⟩,h_kinds.1⟩,h_kinds.2⟩,h_veil.1⟩,h_veil.2⟩
end
end Go.Ab

namespace Go.Ab
noncomputable section
section
variable {P : Program} {ops : Array Oper} {rest : List Oper} {o : Oper} {n : Nat} {s s' : Nat → PV} {bx : Nat → Option Box} {ob : Nat → Option Obj} {K : PState → Prop} {T : TT}
abbrev lr (xs : List UInt8) : List (List PV) := xs.map fun c=>[.val (.int .u8 c.toNat)]
end
def af {α β : Type} (o : Option α) (k : α → Option β) : Option β := match o with
 | some a=>k a
 | none=>none
def bC {α β : Type} (a : α) (k : α → β) : β := k a
inductive Flow (σ ρ : Type) where
 | next (s : σ)
 | brk (s : σ)
 | ret (r : ρ)
def Flow.thenR {σ ρ : Type} (fl : Flow σ ρ) (k : σ → Option ρ) : Option ρ := match fl with
 | .next s=>k s
 | .brk s=>k s
 | .ret r=>some r
def Flow.thenF {σ τ ρ : Type} (fl : Flow σ ρ) (k : σ → Option (Flow τ ρ)) : Option (Flow τ ρ) := match fl with
 | .next s=>k s
 | .brk s=>k s
 | .ret r=>some (.ret r)
def aK {α σ ρ : Type} (step : Nat → α → σ → Option (Flow σ ρ)) : Nat → List α → σ → Option (Flow σ ρ)
 | _,[],s=>some (.next s)
 | j,x :: xs,s=>match step j x s with
  | none=>none
  | some (.next s')=>aK step (j + 1) xs s'
  | some (.brk s')=>some (.next s')
  | some (.ret r)=>some (.ret r)
def jz {σ ρ : Type} (step : σ → Option (Flow σ ρ)) : Nat → σ → Option (Flow σ ρ)
 | 0,_=>none
 | n + 1,s=>match step s with
  | none=>none
  | some (.next s')=>jz step n s'
  | some (.brk s')=>some (.next s')
  | some (.ret r)=>some (.ret r)
open Classical in
def fh {σ ρ : Type} (step : σ → Option (Flow σ ρ)) (s : σ) : Option (Flow σ ρ) :=
 if h : ∃ r,∃ n,jz step n s = some r then some h.choose else none
theorem iterM_le {σ ρ : Type} {step : σ → Option (Flow σ ρ)} : ∀ {n m : Nat} {s : σ} {r : Flow σ ρ},jz step n s = some r → n ≤ m → jz step m s = some r
 | 0,_,_,_,h,_=>by simp [jz] at h
 | n + 1,0,_,_,_,hm=>by omega
 | n + 1,m + 1,s,r,h,hm=>by
  simp only [jz] at h ⊢
  split at h
  ·cases h
  ·exact iterM_le h (by omega)
  ·exact h
  ·exact h
theorem whileM_iff {σ ρ : Type} {step : σ → Option (Flow σ ρ)} {s : σ} {r : Flow σ ρ} : fh step s = some r ↔ ∃ n,jz step n s = some r := by
 unfold fh
 constructor
 ·intro h
  split at h
  ·rename_i hx
   obtain ⟨n,hn⟩ := hx.choose_spec
   exact ⟨n,by rw [hn]; exact h⟩
  ·cases h
 ·rintro ⟨n,hn⟩
  have hx : ∃ r,∃ n,jz step n s = some r := ⟨r,n,hn⟩
  rw [dif_pos hx]
  obtain ⟨m,hm⟩ := hx.choose_spec
  have h1 := iterM_le hn (Nat.le_max_left n m)
  have h2 := iterM_le hm (Nat.le_max_right n m)
  rw [h1] at h2
  exact h2.symm
theorem jd {σ ρ : Type} {step : σ → Option (Flow σ ρ)} {s : σ} {fl r : Flow σ ρ} (h : step s = some fl) (hr : match fl with | .next s'=>fh step s' = some r | .brk s'=>r = .next s' | .ret x=>r = .ret x) : fh step s = some r := by
 rw [whileM_iff]
 cases fl with
 | next s' =>
  obtain ⟨n,hn⟩ := whileM_iff.1 hr
  exact ⟨n + 1,by simp only [jz,h,hn]⟩
 | brk s'=>exact ⟨1,by simp only [jz,h,hr]⟩
 | ret x=>exact ⟨1,by simp only [jz,h,hr]⟩
theorem az {α β : Type} {o : Option α} {k : α → Option β} {r : β} (h : af o k = some r) : ∃ a,o = some a ∧ k a = some r := by
 cases o with
 | none=>cases h
 | some a=>exact ⟨a,rfl,h⟩
theorem cO {α β : Type} {a : α} {k : α → β} {r : β} (h : bC a k = r) : ∃ x,a = x ∧ k x = r := ⟨a,rfl,h⟩
theorem condT {α : Type} {c : Bool} {A B r : α} (h : c = true) (H : cond c A B = r) : A = r := by subst h; exact H
theorem condF {α : Type} {c : Bool} {A B r : α} (h : c = false) (H : cond c A B = r) : B = r := by subst h; exact H
theorem aM {P : Program} {fn : Func} {R : PV → Heap → Prop} {k : List KI} {st : PState} {c : Operand} {x y : Code} {b : Bool} (hc : evS st.s c = .val (.bool b)) {α : Type} {A B r : α} (H : (bif b then A else B) = r) (ht : A = r → V P fn R (.code x :: k) st) (hf : B = r → V P fn R (.code y :: k) st) : V P fn R (.code (.cond c x y) :: k) st := bA hc (fun h=>ht (Go.Ab.condT h H)) (fun h=>hf (Go.Ab.condF h H))
theorem bq {P : Program} {ops : Array Oper} {o : Oper} {rest : List Oper} {n : Nat} {s : Nat → PV} {bx : Nat → Option Box} {ob : Nat → Option Obj} {K : PState → Prop} {j : Nat} {want b : Bool} {d : Nat} (hg : o.guard = some (j,want)) (hd : (ops[j]?).bind (·.dst) = some d) (hs : s d = .val (.bool b)) {α : Type} {A B r : α} (H : cond b A B = r)
  (ht : A = r → Ao P ops (o :: rest) ⟨n,upd s d (.val (.bool true)),bx,ob⟩ K) (hf : B = r → Ao P ops (o :: rest) ⟨n,upd s d (.val (.bool false)),bx,ob⟩ K) : Ao P ops (o :: rest) ⟨n,s,bx,ob⟩ K := gE hg hd hs (fun h=>ht (condT h H)) (fun h=>hf (condF h H))
theorem Do.sH {P : Program} {T : TT} {rb : RB} {ops : Array Oper} {o : Oper} {k : Nat} {L : List Nat} {n : Nat} {s : Nat → PV} {bx : Nat → Option Box} {ob : Nat → Option Obj} {K : PState → Prop} {j : Nat} {want b : Bool} {d : Nat} (ho : ops[k]? = some o) (hg : o.guard = some (j,want)) (hd : (ops[j]?).bind (·.dst) = some d) (hs : s d = .val (.bool b)) {α : Type} {A B r : α} (H : cond b A B = r)
  (ht : A = r → Do P T rb ops (k :: L) ⟨n,upd s d (.val (.bool true)),bx,ob⟩ K) (hf : B = r → Do P T rb ops (k :: L) ⟨n,upd s d (.val (.bool false)),bx,ob⟩ K) : Do P T rb ops (k :: L) ⟨n,s,bx,ob⟩ K := nC ho hg hd hs (fun h=>ht (condT h H)) (fun h=>hf (condF h H))
theorem lM {P : Program} {T : TT} {rb : RB} {ops : Array Oper} {o : Oper} {k : Nat} {L : List Nat} {n : Nat} {s : Nat → PV} {bx : Nat → Option Box} {ob : Nat → Option Obj} {K : PState → Prop} {j : Nat} {want b : Bool} {d : Nat} {α : Type} {A B r : α} (H : cond b A B = r) (ht : A = r → Do P T rb ops (k :: L) ⟨n,upd s d (.val (.bool true)),bx,ob⟩ K) (hf : B = r → Do P T rb ops (k :: L) ⟨n,upd s d (.val (.bool false)),bx,ob⟩ K) (ho : ops[k]? = some o := by exact rfl) (hg : o.guard = some (j,want) := by exact rfl) (hd : (ops[j]?).bind (·.dst) = some d := by exact rfl) (hs : s d = .val (.bool b) := by exact rfl) : Do P T rb ops (k :: L) ⟨n,s,bx,ob⟩ K := Do.sH ho hg hd hs H ht hf
theorem lk {σ τ ρ : Type} {r : ρ} {k : σ → Option (Flow τ ρ)} {x : Flow τ ρ} (h : Flow.thenF (.ret r) k = some x) : x = .ret r := (Option.some.inj h).symm
theorem aZ {σ ρ : Type} {r x : ρ} {k : σ → Option ρ} (h : Flow.thenR (.ret r) k = some x) : r = x := Option.some.inj h
theorem aE {α : Type} {a b : α} (h : some a = some b) : a = b := Option.some.inj h
def ny {α σ ρ : Type} (step : Nat → α → σ → Option (Flow σ ρ)) (xs : List α) (j : Nat) (res : Flow σ ρ) : Flow σ ρ → Prop
 | .next s'=>aK step (j + 1) (xs.drop (j + 1)) s' = some res
 | .brk s'=>res = .next s'
 | .ret r=>res = .ret r
theorem rMc {α σ ρ : Type} {step : Nat → α → σ → Option (Flow σ ρ)} {xs : List α} {j : Nat} {s : σ} {res : Flow σ ρ} (hj : j < xs.length) (h : aK step j (xs.drop j) s = some res) :
  ∃ x fl,xs[j]? = some x ∧ step j x s = some fl ∧ ny step xs j res fl := by
 rw [List.drop_eq_getElem_cons hj,aK] at h
 refine ⟨xs[j],?_⟩
 split at h
 ·cases h
 ·rename_i s' hs; exact ⟨_,ze hj,hs,h⟩
 ·rename_i s' hs; exact ⟨_,ze hj,hs,(Option.some.inj h).symm⟩
 ·rename_i s' hs; exact ⟨_,ze hj,hs,(Option.some.inj h).symm⟩
theorem rMd {α σ ρ : Type} {step : Nat → α → σ → Option (Flow σ ρ)} {xs : List α} {j : Nat} {s : σ} {res : Flow σ ρ} (hj : xs.length ≤ j) (h : aK step j (xs.drop j) s = some res) : res = .next s := by
 rw [List.drop_eq_nil_of_le hj,aK] at h
 exact (Option.some.inj h).symm
def iterGo {σ ρ : Type} (step : σ → Option (Flow σ ρ)) (n : Nat) (res : Flow σ ρ) : Flow σ ρ → Prop
 | .next s'=>jz step n s' = some res
 | .brk s'=>res = .next s'
 | .ret r=>res = .ret r
theorem ff {σ ρ : Type} {step : σ → Option (Flow σ ρ)} {n : Nat} {s : σ} {res : Flow σ ρ} (h : jz step (n + 1) s = some res) : ∃ fl,step s = some fl ∧ iterGo step n res fl := by
 rw [jz] at h
 split at h
 ·cases h
 ·rename_i s' hs; exact ⟨_,hs,h⟩
 ·rename_i s' hs; exact ⟨_,hs,(Option.some.inj h).symm⟩
 ·rename_i s' hs; exact ⟨_,hs,(Option.some.inj h).symm⟩
section
variable {P : Program} {fn : Func} {R : PV → Heap → Prop} {k : List KI} {n : Nat} {s : Nat → PV} {bx : Nat → Option Box} {ob : Nat → Option Obj} {T : TT} {st : PState}
theorem eZ {τ γ : Type} (J : τ → γ → PState) (Gd : τ → Prop) {c : Code} (h : V P fn R (.code c :: .stop (fun st'=>∃ t g,Gd t ∧ st' = J t g) :: k) st) (hk : ∀ t g,Gd t → V P fn R k (J t g)) :
  V P fn R (.code c :: k) st := by
 intro C M a w hi
 have := h C M a w hi
 simp only [after] at this ⊢
 refine wp_mono this ?_
 intro e a w he
 cases e with
 | normal =>
  obtain ⟨st',M',⟨t,g,hG,rfl⟩,hi'⟩ := he
  exact hk t g hG C M' a w hi'
 | _=>exact he
theorem bd {τ γ : Type} {J : τ → γ → PState} {Gd : τ → Prop} (t : τ) (g : γ) (hG : Gd t) (h : Gh P st (J t g)) : V P fn R (.stop (fun st'=>∃ t g,Gd t ∧ st' = J t g) :: k) st :=
 iy h (uN ⟨t,g,hG,rfl⟩)
theorem gM {τ γ β : Type} {x : Option τ} {f : τ → Option β} {r : β} (J : τ → γ → PState) {c : Code} (H : af x f = some r) (h : ∀ u,x = some u → V P fn R (.code c :: .stop (fun st'=>∃ t g,t = u ∧ st' = J t g) :: k) st)
  (hk : ∀ t g,f t = some r → V P fn R k (J t g)) : V P fn R (.code c :: k) st := by
 obtain ⟨u,h1,h2⟩ := az H
 exact eZ J (fun t=>t = u) (h u h1) (fun t g e=>hk t g (e ▸ h2))
theorem gg {τ γ β : Type} {x : τ} {f : τ → β} {r : β} (J : τ → γ → PState) {c : Code} (H : bC x f = r) (h : ∀ u,x = u → V P fn R (.code c :: .stop (fun st'=>∃ t g,t = u ∧ st' = J t g) :: k) st)
  (hk : ∀ t g,f t = r → V P fn R k (J t g)) : V P fn R (.code c :: k) st := by
 obtain ⟨u,h1,h2⟩ := cO H
 exact eZ J (fun t=>t = u) (h u h1) (fun t g e=>hk t g (e ▸ h2))
theorem V.cutR {σ γ β : Type} {x : Option (Flow σ β)} {f : σ → Option β} {r : β} (J : σ → γ → PState) {c : Code} (H : af x (fun fl=>fl.thenR f) = some r) (h : ∀ u,x = some u → u.thenR f = some r → V P fn R (.code c :: .stop (fun st'=>∃ t g,u = .next t ∧ st' = J t g) :: k) st)
  (hk : ∀ t g,f t = some r → V P fn R k (J t g)) : V P fn R (.code c :: k) st := by
 obtain ⟨u,h1,h2⟩ := az H
 exact eZ J (fun t=>u = .next t) (h u h1 h2) (fun t g e=>hk t g (by subst e; exact h2))
theorem ix {α σ ρ γ : Type} {step : Nat → α → σ → Option (Flow σ ρ)} {xs : List α} {res : Flow σ ρ} (F : Nat → σ → γ → PState) {s₀ : σ} (g₀ : γ) {c : Code}
  (hres : aK step 0 xs s₀ = some res) (h₀ : Gh P st (F 0 s₀ g₀))
  (round : ∀ j s g,j ≤ xs.length → aK step j (xs.drop j) s = some res →
   V P fn R (.code c :: .stop (fun st'=>∃ s' g',(j + 1 ≤ xs.length ∧ aK step (j + 1) (xs.drop (j + 1)) s' = some res) ∧ st' = F (j + 1) s' g') :: k) (F j s g)) :
  V P fn R (.code (.loop c) :: k) st := by
 refine kf (X := Nat × σ × γ) (fun X=>F X.1 X.2.1 X.2.2) (fun X=>X.1 ≤ xs.length ∧ aK step X.1 (xs.drop X.1) X.2.1 = some res) (fun X=>xs.length - X.1) (0,s₀,g₀) ⟨Nat.zero_le _,by simpa using hres⟩ h₀ ?_
 rintro ⟨j,s,g⟩ ⟨h1,h2⟩
 have := round j s g h1 h2
 intro C M a w hi
 have h3 := this C M a w hi
 simp only [after] at h3 ⊢
 refine wp_mono h3 ?_
 intro e a w he
 cases e with
 | normal =>
  obtain ⟨st',M',⟨s',g',⟨h4,h5⟩,rfl⟩,hi'⟩ := he
  exact ⟨_,M',⟨(j + 1,s',g'),by show xs.length - (j + 1) < xs.length - j; omega,⟨h4,h5⟩,rfl⟩,hi'⟩
 | _=>exact he
theorem eg {σ γ : Type} {Q : σ → Prop} {F : σ → γ → PState} (s' : σ) (g' : γ) (hQ : Q s') (h : Gh P st (F s' g')) : V P fn R (.stop (fun st'=>∃ s' g',Q s' ∧ st' = F s' g') :: k) st :=
 iy h (uN ⟨s',g',hQ,rfl⟩)
theorem gC {σ ρ γ : Type} {step : σ → Option (Flow σ ρ)} {res : Flow σ ρ} (F : σ → γ → PState) {s₀ : σ} (g₀ : γ) {c : Code}
  (hres : fh step s₀ = some res) (h₀ : Gh P st (F s₀ g₀))
  (round : ∀ m s g,jz step (m + 1) s = some res → V P fn R (.code c :: .stop (fun st'=>∃ s' g',jz step m s' = some res ∧ st' = F s' g') :: k) (F s g)) :
  V P fn R (.code (.loop c) :: k) st := by
 obtain ⟨m,hm⟩ := whileM_iff.1 hres
 refine kf (X := Nat × σ × γ) (fun X=>F X.2.1 X.2.2) (fun X=>jz step X.1 X.2.1 = some res) (fun X=>X.1) (m,s₀,g₀) hm h₀ ?_
 rintro ⟨j,s,g⟩ h2
 cases j with
 | zero=>simp [jz] at h2
 | succ j =>
 have := round j s g h2
 intro C M a w hi
 have h3 := this C M a w hi
 simp only [after] at h3 ⊢
 refine wp_mono h3 ?_
 intro e a w he
 cases e with
 | normal =>
  obtain ⟨st',M',⟨s',g',h5,rfl⟩,hi'⟩ := he
  exact ⟨_,M',⟨(j,s',g'),Nat.lt_succ_self j,h5,rfl⟩,hi'⟩
 | _=>exact he
theorem Gh.cast (d : Nat) {p q : PV} (hs : s d = p) (h : PLe P p q) : Gh P ⟨n,s,bx,ob⟩ ⟨n,upd s d q,bx,ob⟩ := fun _ M _ _ hi =>
 ⟨M,⟨hi.1.1,hi.1.2.1,fun t=>by
  show Rep P M true (upd s d q t) _
  rw [eF]
  split
  ·rename_i e; subst e; have := hi.1.2.2 t; exact h M _ (hs ▸ this)
  ·exact hi.1.2.2 t⟩,hi.2⟩
end
section
variable {α : Type} {f f' : α → List PV}
theorem bw (hE : ∀ x,f' x = f x) {xs : List α} {j : Nat} {x : α} (h : xs[j]? = some x) : (xs.map f')[((j : Nat) : Int).toNat]? = some (f x) := by
 simp [h,hE]
theorem aG (hE : ∀ x,f' x = f x) {xs : List α} {i : Int} {x : α} (h : xs[i.toNat]? = some x) : (xs.map f')[i.toNat]? = some (f x) := by
 simp [h,hE]
theorem qN (hE : ∀ x,f' x = f x) (xs : List α) : xs.map f = xs.map f' := by
 apply List.map_congr_left
 intro x _
 exact (hE x).symm
theorem rI {xs ys : List α} {a b : Nat} (h : ys = (xs.take b).drop a) : ((xs.map f).take b).drop a = ys.map f := by rw [h]; simp
theorem mG {xs : List α} {j : Nat} (h : decide ((j : Int) < ((xs.length : Nat) : Int)) = true) : j < xs.length := by simpa using h
theorem nf {xs : List α} {j : Nat} (h : decide ((j : Int) < ((xs.length : Nat) : Int)) = false) : xs.length ≤ j := by simpa using h
end
theorem it.of_eq {P : Program} {a b : List (List PV)} (h : a = b) : it P a b := h ▸ it.refl a
theorem it.trans {P : Program} {a b c : List (List PV)} (h : it P a b) (h' : it P b c) : it P a c := ⟨h.1.trans h'.1,fun M k x o hx=>h'.2 M k x o (h.2 M k x o hx)⟩
def aF {α : Type} (xs : List α) (i : Int) : Option α := if 0 ≤ i then xs[i.toNat]? else none
theorem gIs {α : Type} {xs : List α} {i : Int} {x : α} (h : aF xs i = some x) : 0 ≤ i ∧ xs[i.toNat]? = some x := by
 unfold aF at h
 split at h
 ·rename_i h0; exact ⟨h0,h⟩
 ·cases h
theorem be {α β : Type} {xs : List α} {i : Int} {k : α → Option β} {r : β} (h : af (aF xs i) k = some r) : ∃ a,(0 ≤ i ∧ xs[i.toNat]? = some a) ∧ k a = some r := by
 obtain ⟨a,h1,h2⟩ := az h
 exact ⟨a,gIs h1,h2⟩
def oF {α : Type} (xs : List α) (a b : Int) : Option (List α) := if 0 ≤ a ∧ a ≤ b ∧ b ≤ xs.length then some ((xs.take b.toNat).drop a.toNat) else none
theorem qr {α : Type} {xs ys : List α} {a b : Int} (h : oF xs a b = some ys) : (0 ≤ a ∧ a ≤ b ∧ b ≤ xs.length) ∧ ys = (xs.take b.toNat).drop a.toNat := by
 unfold oF at h
 split at h
 ·rename_i h0; exact ⟨h0,(Option.some.inj h).symm⟩
 ·cases h
def dg {α : Type} (bytes : Nat) (xs ys : List α) : Option (List α) := if (xs.length + ys.length) * bytes ≤ 2 ^ 47 ∧ xs.length + ys.length ≤ maxLen then some (xs ++ ys) else none
theorem cx {α : Type} {bytes : Nat} {xs ys zs : List α} (h : dg bytes xs ys = some zs) : (xs.length + ys.length) * bytes ≤ 2 ^ 47 ∧ xs.length + ys.length ≤ maxLen ∧ zs = xs ++ ys := by
 unfold dg at h
 split at h
 ·rename_i h0; exact ⟨h0.1,h0.2,(Option.some.inj h).symm⟩
 ·cases h
theorem dK {α β : Type} {f : α → β} {bytes : Nat} {xs ys : List α} (h : (xs.length + ys.length) * bytes ≤ 2 ^ 47) : ((xs.map f).length + (ys.map f).length) * bytes ≤ 2 ^ 47 := by simpa using h
theorem dJ {α β : Type} {f : α → β} {xs ys : List α} (h : xs.length + ys.length ≤ maxLen) : (xs.map f).length + (ys.map f).length ≤ maxLen := by simpa using h
theorem dM {α β : Type} {f : α → β} {xs ys zs : List α} (h : zs = xs ++ ys) : xs.map f ++ ys.map f = zs.map f := by rw [h,List.map_append]
def Flow.thenP {σ β : Type} (fl : Flow σ Empty) (k : σ → Option β) : Option β := match fl with
 | .next s=>k s
 | .brk s=>k s
 | .ret r=>r.elim
theorem dw {σ β : Type} {fl : Flow σ Empty} {t : σ} {k : σ → Option β} {r : β} (h : fl = .next t) (H : fl.thenP k = some r) : k t = some r := by subst h; exact H
theorem oQ {σ ρ : Type} {fl : Flow σ ρ} {t : σ} {k : σ → Option ρ} {r : ρ} (h : fl = .next t) (H : fl.thenR k = some r) : k t = some r := by subst h; exact H
theorem rn {σ τ ρ : Type} {fl : Flow σ ρ} {t : σ} {k : σ → Option (Flow τ ρ)} {r : Flow τ ρ} (h : fl = .next t) (H : fl.thenF k = some r) : k t = some r := by subst h; exact H
section
variable {P : Program} {fn : Func} {R : PV → Heap → Prop} {k : List KI} {n : Nat} {s : Nat → PV} {bx : Nat → Option Box} {ob : Nat → Option Obj} {T : TT}
def nB {σ γ : Type} : σ → γ → Nat → Option Box := fun _ _ _=>none
def nO {σ γ : Type} : σ → γ → Nat → Option Obj := fun _ _ _=>none
theorem uM {α σ ρ γ β : Type} {step : Nat → α → σ → Option (Flow σ ρ)} {xs : List α} {s₀ : σ} {th : Flow σ ρ → Option β} {r : β} {rw : α → List PV}
  (hT : T.Ok P) (d : Nat) {e : TypeId} {ei : TInfo} (hei : T.get e = some ei) (hs : s d = .list e (xs.map rw))
  (S : σ → γ → Nat → PV) (B : σ → γ → Nat → Option Box) (O : σ → γ → Nat → Option Obj) (E : (Nat → PV) → Nat → σ → γ → Nat → PV) (g₀ : γ)
  {id rid : Nat} {ops : Array Oper} {o : Oper} {tst : Operand} {rest : Code} {S' : Nat → σ → γ → Nat → PV}
  (H : af (aK step 0 xs s₀) th = some r)
  (h₀ : Gh P ⟨n,s,bx,ob⟩ ⟨n,E (S s₀ g₀) 0 s₀ g₀,B s₀ g₀,O s₀ g₀⟩)
  (ho : ops.toList = [o])
  (hq : ∀ j s g,pm T ops n (E (S s g) j s g) (B s g) o = some (S' j s g))
  (ht : ∀ j s g,evS (S' j s g) tst = .val (.bool (decide ((j : Int) < ((xs.length : Nat) : Int)))))
  (hx : ∀ j s g,Gh P ⟨n,S' j s g,B s g,O s g⟩ ⟨n,S s g,B s g,O s g⟩)
  (round : ∀ fl,th fl = some r → ∀ j s g,xs.length ≤ maxLen → j < xs.length → ∀ x fb,xs[j]? = some x → step j x s = some fb → ny step xs j fl fb →
   V P fn R (.code rest :: .stop (fun st'=>∃ s' g',(j + 1 ≤ xs.length ∧ aK step (j + 1) (xs.drop (j + 1)) s' = some fl) ∧ st' = ⟨n,E (S s' g') (j + 1) s' g',B s' g',O s' g'⟩) :: .blk id :: .stop (fun st'=>∃ t g,fl = .next t ∧ st' = ⟨n,S t g,B t g,O t g⟩) :: k) ⟨n,S' j s g,B s g,O s g⟩)
  (hk : ∀ t g,th (.next t) = some r → V P fn R k ⟨n,S t g,B t g,O t g⟩) :
  V P fn R (.code (.block id (.loop (.seq (.region rid ops false) (.seq (.cond tst .skip (.exit id)) rest)))) :: k) ⟨n,s,bx,ob⟩ := by
 refine gz hT d hei hs (fun hz _=>?_)
 rw [zl] at hz
 obtain ⟨fl,h1,h2⟩ := az H
 refine eZ (fun t g=>⟨n,S t g,B t g,O t g⟩) (fun t=>fl = .next t) ?_ (fun t g e=>hk t g (by subst e; exact h2))
 refine ax (ix (fun j s g=>⟨n,E (S s g) j s g,B s g,O s g⟩) g₀ h1 h₀ (fun j s g hj hr=>?_))
 refine ab (aa ?_)
 rw [ho]
 refine ak hT (hq j s g) (ac ?_)
 refine ab (bA (ht j s g) (fun h=>?_) (fun h=>?_))
 ·have hl : j < xs.length := by simpa using h
  obtain ⟨x,fb,hx1,H,hg⟩ := rMc hl hr
  exact av (round fl h2 j s g hz hl x fb hx1 H hg)
 ·have hn := rMd (by simpa using h) hr
  refine br (k' := .stop (fun st'=>∃ t g,fl = .next t ∧ st' = ⟨n,S t g,B t g,O t g⟩) :: k) ?_ (bd s g hn (hx j s g))
  simp [nN,Nat.beq_refl]
theorem uO {α σ γ β : Type} {step : Nat → α → σ → Option (Flow σ Empty)} {xs : List α} {s₀ : σ} {kk : σ → Option (β)} {r : β} {rw : α → List PV}
  (hT : T.Ok P) (d : Nat) {e : TypeId} {ei : TInfo} (hei : T.get e = some ei) (hs : s d = .list e (xs.map rw))
  (S : σ → γ → Nat → PV) (B : σ → γ → Nat → Option Box) (O : σ → γ → Nat → Option Obj) (E : (Nat → PV) → Nat → σ → γ → Nat → PV) (g₀ : γ)
  {id rid : Nat} {ops : Array Oper} {o : Oper} {tst : Operand} {rest : Code} {S' : Nat → σ → γ → Nat → PV}
  (H : af (aK step 0 xs s₀) (fun fl=>fl.thenP kk) = some r)
  (ho : ops.toList = [o])
  (h₀ : Gh P ⟨n,s,bx,ob⟩ ⟨n,E (S s₀ g₀) 0 s₀ g₀,B s₀ g₀,O s₀ g₀⟩)
  (hq : ∀ j s g,pm T ops n (E (S s g) j s g) (B s g) o = some (S' j s g))
  (ht : ∀ j s g,evS (S' j s g) tst = .val (.bool (decide ((j : Int) < ((xs.length : Nat) : Int)))))
  (hx : ∀ j s g,Gh P ⟨n,S' j s g,B s g,O s g⟩ ⟨n,S s g,B s g,O s g⟩)
  (round : ∀ fl,fl.thenP kk = some r → ∀ j s g,xs.length ≤ maxLen → j < xs.length → ∀ x fb,xs[j]? = some x → step j x s = some fb → ny step xs j fl fb →
   V P fn R (.code rest :: .stop (fun st'=>∃ s' g',(j + 1 ≤ xs.length ∧ aK step (j + 1) (xs.drop (j + 1)) s' = some fl) ∧ st' = ⟨n,E (S s' g') (j + 1) s' g',B s' g',O s' g'⟩) :: .blk id :: .stop (fun st'=>∃ t g,fl = .next t ∧ st' = ⟨n,S t g,B t g,O t g⟩) :: k) ⟨n,S' j s g,B s g,O s g⟩)
  (hk : ∀ t g,kk t = some r → V P fn R k ⟨n,S t g,B t g,O t g⟩) :
  V P fn R (.code (.block id (.loop (.seq (.region rid ops false) (.seq (.cond tst .skip (.exit id)) rest)))) :: k) ⟨n,s,bx,ob⟩ :=
 uM hT d hei hs S B O E g₀ H h₀ ho hq ht hx round (fun t g e=>hk t g e)
theorem vn {α σ γ β : Type} {step : Nat → α → σ → Option (Flow σ β)} {xs : List α} {s₀ : σ} {kk : σ → Option (β)} {r : β} {rw : α → List PV}
  (hT : T.Ok P) (d : Nat) {e : TypeId} {ei : TInfo} (hei : T.get e = some ei) (hs : s d = .list e (xs.map rw))
  (S : σ → γ → Nat → PV) (B : σ → γ → Nat → Option Box) (O : σ → γ → Nat → Option Obj) (E : (Nat → PV) → Nat → σ → γ → Nat → PV) (g₀ : γ)
  {id rid : Nat} {ops : Array Oper} {o : Oper} {tst : Operand} {rest : Code} {S' : Nat → σ → γ → Nat → PV}
  (H : af (aK step 0 xs s₀) (fun fl=>fl.thenR kk) = some r)
  (ho : ops.toList = [o])
  (h₀ : Gh P ⟨n,s,bx,ob⟩ ⟨n,E (S s₀ g₀) 0 s₀ g₀,B s₀ g₀,O s₀ g₀⟩)
  (hq : ∀ j s g,pm T ops n (E (S s g) j s g) (B s g) o = some (S' j s g))
  (ht : ∀ j s g,evS (S' j s g) tst = .val (.bool (decide ((j : Int) < ((xs.length : Nat) : Int)))))
  (hx : ∀ j s g,Gh P ⟨n,S' j s g,B s g,O s g⟩ ⟨n,S s g,B s g,O s g⟩)
  (round : ∀ fl,fl.thenR kk = some r → ∀ j s g,xs.length ≤ maxLen → j < xs.length → ∀ x fb,xs[j]? = some x → step j x s = some fb → ny step xs j fl fb →
   V P fn R (.code rest :: .stop (fun st'=>∃ s' g',(j + 1 ≤ xs.length ∧ aK step (j + 1) (xs.drop (j + 1)) s' = some fl) ∧ st' = ⟨n,E (S s' g') (j + 1) s' g',B s' g',O s' g'⟩) :: .blk id :: .stop (fun st'=>∃ t g,fl = .next t ∧ st' = ⟨n,S t g,B t g,O t g⟩) :: k) ⟨n,S' j s g,B s g,O s g⟩)
  (hk : ∀ t g,kk t = some r → V P fn R k ⟨n,S t g,B t g,O t g⟩) :
  V P fn R (.code (.block id (.loop (.seq (.region rid ops false) (.seq (.cond tst .skip (.exit id)) rest)))) :: k) ⟨n,s,bx,ob⟩ :=
 uM hT d hei hs S B O E g₀ H h₀ ho hq ht hx round (fun t g e=>hk t g e)
def eL {α : Type} (i m d : Nat) (ety : TypeId) (xs : List α) (rw : α → List PV) (e : Nat → PV) (j : Nat) : Nat → PV := upd (upd (upd e i (.val (.int .i64 (j : Int)))) m (.val (.int .i64 (xs.length : Int)))) d (.list ety (xs.map rw))
theorem gP {α σ γ β : Type} {step : Nat → α → σ → Option (Flow σ Empty)} {xs : List α} {s₀ : σ} {kk : σ → Option (β)} {r : β} {rw : α → List PV}
  (hT : T.Ok P) (i m d : Nat) {e : TypeId} {ei : TInfo}
  (S : σ → γ → Nat → PV) (B : σ → γ → Nat → Option Box) (O : σ → γ → Nat → Option Obj) (g₀ : γ)
  {id rid : Nat} {ops : Array Oper} {o : Oper} {tst : Operand} {rest : Code} {S' : Nat → σ → γ → Nat → PV}
  (H : af (aK step 0 xs s₀) (fun fl=>fl.thenP kk) = some r)
  (round : ∀ fl,fl.thenP kk = some r → ∀ j s g,xs.length ≤ maxLen → j < xs.length → ∀ x fb,xs[j]? = some x → step j x s = some fb → ny step xs j fl fb →
   V P fn R (.code rest :: .stop (fun st'=>∃ s' g',(j + 1 ≤ xs.length ∧ aK step (j + 1) (xs.drop (j + 1)) s' = some fl) ∧ st' = ⟨n,eL i m d e xs rw (S s' g') (j + 1),B s' g',O s' g'⟩) :: .blk id :: .stop (fun st'=>∃ t g,fl = .next t ∧ st' = ⟨n,S t g,B t g,O t g⟩) :: k) ⟨n,S' j s g,B s g,O s g⟩)
  (hk : ∀ t g,kk t = some r → V P fn R k ⟨n,S t g,B t g,O t g⟩)
  (hs : s d = .list e (xs.map rw) := by exact rfl) (hei : T.get e = some ei := by exact rfl) (ho : ops.toList = [o] := by exact rfl)
  (h₀ : Gh P ⟨n,s,bx,ob⟩ ⟨n,eL i m d e xs rw (S s₀ g₀) 0,B s₀ g₀,O s₀ g₀⟩ := by exact Gh.d)
  (hq : ∀ j s g,pm T ops n (eL i m d e xs rw (S s g) j) (B s g) o = some (S' j s g) := by exact fun _ _ _=>rfl)
  (ht : ∀ j s g,evS (S' j s g) tst = .val (.bool (decide ((j : Int) < ((xs.length : Nat) : Int)))) := by exact fun _ _ _=>rfl)
  (hx : ∀ j s g,Gh P ⟨n,S' j s g,B s g,O s g⟩ ⟨n,S s g,B s g,O s g⟩ := by exact fun _ _ _=>Gh.d) :
  V P fn R (.code (.block id (.loop (.seq (.region rid ops false) (.seq (.cond tst .skip (.exit id)) rest)))) :: k) ⟨n,s,bx,ob⟩ :=
 uO hT d hei hs S B O (fun e j _ _=>eL i m d _ xs rw e j) g₀ H ho h₀ hq ht hx round hk
theorem ft {α σ γ β : Type} {step : Nat → α → σ → Option (Flow σ β)} {xs : List α} {s₀ : σ} {kk : σ → Option (β)} {r : β} {rw : α → List PV}
  (hT : T.Ok P) (i m d : Nat) {e : TypeId} {ei : TInfo}
  (S : σ → γ → Nat → PV) (B : σ → γ → Nat → Option Box) (O : σ → γ → Nat → Option Obj) (g₀ : γ)
  {id rid : Nat} {ops : Array Oper} {o : Oper} {tst : Operand} {rest : Code} {S' : Nat → σ → γ → Nat → PV}
  (H : af (aK step 0 xs s₀) (fun fl=>fl.thenR kk) = some r)
  (round : ∀ fl,fl.thenR kk = some r → ∀ j s g,xs.length ≤ maxLen → j < xs.length → ∀ x fb,xs[j]? = some x → step j x s = some fb → ny step xs j fl fb →
   V P fn R (.code rest :: .stop (fun st'=>∃ s' g',(j + 1 ≤ xs.length ∧ aK step (j + 1) (xs.drop (j + 1)) s' = some fl) ∧ st' = ⟨n,eL i m d e xs rw (S s' g') (j + 1),B s' g',O s' g'⟩) :: .blk id :: .stop (fun st'=>∃ t g,fl = .next t ∧ st' = ⟨n,S t g,B t g,O t g⟩) :: k) ⟨n,S' j s g,B s g,O s g⟩)
  (hk : ∀ t g,kk t = some r → V P fn R k ⟨n,S t g,B t g,O t g⟩)
  (hs : s d = .list e (xs.map rw) := by exact rfl) (hei : T.get e = some ei := by exact rfl) (ho : ops.toList = [o] := by exact rfl)
  (h₀ : Gh P ⟨n,s,bx,ob⟩ ⟨n,eL i m d e xs rw (S s₀ g₀) 0,B s₀ g₀,O s₀ g₀⟩ := by exact Gh.d)
  (hq : ∀ j s g,pm T ops n (eL i m d e xs rw (S s g) j) (B s g) o = some (S' j s g) := by exact fun _ _ _=>rfl)
  (ht : ∀ j s g,evS (S' j s g) tst = .val (.bool (decide ((j : Int) < ((xs.length : Nat) : Int)))) := by exact fun _ _ _=>rfl)
  (hx : ∀ j s g,Gh P ⟨n,S' j s g,B s g,O s g⟩ ⟨n,S s g,B s g,O s g⟩ := by exact fun _ _ _=>Gh.d) :
  V P fn R (.code (.block id (.loop (.seq (.region rid ops false) (.seq (.cond tst .skip (.exit id)) rest)))) :: k) ⟨n,s,bx,ob⟩ :=
 vn hT d hei hs S B O (fun e j _ _=>eL i m d _ xs rw e j) g₀ H ho h₀ hq ht hx round hk
end
def resT (s : Nat → PV) : List ResultVar → Option (List PV)
 | []=>some []
 | .tmp t :: l=>match resT s l with | some ps=>some (s t :: ps) | none=>none
 | .cell _ _ :: _=>none
section
variable {P : Program} {fn : Func} {R : PV → Heap → Prop} {k : List KI} {n : Nat} {s : Nat → PV} {bx : Nat → Option Box} {ob : Nat → Option Obj} {T : TT} {st : PState}
theorem resT_all : ∀ {l : List ResultVar} {ps : List PV},resT s l = some ps → mR T ⟨n,s,bx,ob⟩ l ps
 | [],ps,h=>by simp only [resT,zo] at h; exact h.symm
 | .tmp t :: l,ps,h=>by
  simp only [resT] at h
  split at h
  ·rename_i qs hq; cases h; exact ⟨_,_,rfl,rfl,resT_all hq⟩
  ·cases h
 | .cell _ _ :: _,ps,h=>by simp [resT] at h
theorem eC {α : Type} {x y : α} {ps : List PV} {r : PV} (hT : T.Ok P) (H : x = y) (h : resT s fn.results.toList = some ps) (he : x = y → nP ps = r := by intro e; subst e; rfl) :
  V P fn (fun u H=>u = r ∧ H = Heap.empty) (.code .ret :: k) ⟨n,s,bx,ob⟩ := bj hT rfl (resT_all h) (PLe.q (he H))
theorem bn {α : Type} {x y : α} {ps : List PV} {r : PV} (hT : T.Ok P) (H : some x = some y) (h : resT s fn.results.toList = some ps) (he : x = y → nP ps = r := by intro e; subst e; rfl) :
  V P fn (fun u H=>u = r ∧ H = Heap.empty) (.code .ret :: k) ⟨n,s,bx,ob⟩ := eC hT (aE H) h he
theorem qv {α : Type} {x y : α} {r p : PV} {a t tag b off : Nat} {ti : TInfo} {cells : List PV} (hT : T.Ok P) (H : x = y) (hr : fn.results = #[.cell a t]) (hti : T.get t = some ti) (hs : s a = .box tag b off) (hb : bx tag = some ⟨b,cells⟩) (hc : cf ti off cells = some p) (he : x = y → p = r := by intro e; subst e; rfl) :
  V P fn (fun u H=>u = r ∧ H = Heap.empty) (.code .ret :: k) ⟨n,s,bx,ob⟩ := bj hT hr (ps := [p]) ⟨_,_,rfl,⟨_,_,_,_,_,hti,hs,hb,hc⟩,rfl⟩ (PLe.q (he H))
theorem iM {α : Type} {x y : α} {r p : PV} {a t tag b off : Nat} {ti : TInfo} {cells : List PV} (hT : T.Ok P) (H : some x = some y) (hr : fn.results = #[.cell a t]) (hti : T.get t = some ti) (hs : s a = .box tag b off) (hb : bx tag = some ⟨b,cells⟩) (hc : cf ti off cells = some p) (he : x = y → p = r := by intro e; subst e; rfl) :
  V P fn (fun u H=>u = r ∧ H = Heap.empty) (.code .ret :: k) ⟨n,s,bx,ob⟩ := qv hT (aE H) hr hti hs hb hc he
theorem bu {α σ ρ γ : Type} {step : Nat → α → σ → Option (Flow σ ρ)} {xs : List α} {j : Nat} {res fb : Flow σ ρ} {v : σ} {F : σ → γ → PState} (g' : γ) (H : some (Flow.next v) = some fb) (hl : j < xs.length) (hg : ny step xs j res fb) (h : Gh P st (F v g') := by exact Gh.d) :
  V P fn R (.stop (fun st'=>∃ s' g',(j + 1 ≤ xs.length ∧ aK step (j + 1) (xs.drop (j + 1)) s' = some res) ∧ st' = F s' g') :: k) st := by
 cases H
 exact eg v g' ⟨hl,hg⟩ h
end
def pD (n : Int) : Option Nat := if n ≤ 2 ^ 62 then some n.toNat else none
theorem qC {n : Int} {m : Nat} (h : pD n = some m) : n ≤ 2 ^ 62 ∧ m = n.toNat := by
 unfold pD at h
 split at h
 ·rename_i h0; exact ⟨h0,(Option.some.inj h).symm⟩
 ·cases h
section
variable {P : Program} {ops : Array Oper} {rest : List Oper} {o : Oper} {n : Nat} {s s' : Nat → PV} {bx : Nat → Option Box} {ob : Nat → Option Obj} {K : PState → Prop} {T : TT} {rb : RB} {k : Nat} {L : List Nat}
theorem mu (d : Nat) {p q : PV} (hs : s d = p) (h : PLe P p q) (hV : Ao P ops rest ⟨n,upd s d q,bx,ob⟩ K) : Ao P ops rest ⟨n,s,bx,ob⟩ K := ef (Gh.cast d hs h) hV
theorem Ao.lenL (hT : T.Ok P) (hg : aU ops s o = some true) {x : Operand} {t : TypeId} {ts : List TypeId} (ho : o.op = .call { callee := .builtin .len,args := #[x],argTypes := (t :: ts).toArray }) {ti : TInfo} {e' : TypeId} (hti : T.get t = some ti) (hd : ti.desc = .slice e')
  {e : TypeId} {rows : List (List PV)} (hx : evS s x = .list e rows) {m : Nat} (hm : rows.length = m) (hp : putD n s o.dst (.val (.int .i64 m)) = some s') (h : Ao P ops rest ⟨n,s',bx,ob⟩ K) : Ao P ops (o :: rest) ⟨n,s,bx,ob⟩ K := by
 refine ol hT hg (r := .val (.int .i64 m)) ?_ hp h
 rw [ho]
 simp [iN,pU,hti,hd,hx,lenPV,hm]
theorem aC {x : Operand} {t : TypeId} {ts : List TypeId} {ti : TInfo} {e' : TypeId} {e : TypeId} {rows : List (List PV)} {m : Nat} (hT : T.Ok P) (hm : rows.length = m) (h : Ao P ops rest ⟨n,s',bx,ob⟩ K) (hg : aU ops s o = some true := by exact rfl) (ho : o.op = .call { callee := .builtin .len,args := #[x],argTypes := (t :: ts).toArray } := by exact rfl) (hti : T.get t = some ti := by exact rfl) (hd : ti.desc = .slice e' := by exact rfl) (hx : evS s x = .list e rows := by exact rfl) (hp : putD n s o.dst (.val (.int .i64 m)) = some s' := by exact rfl) : Ao P ops (o :: rest) ⟨n,s,bx,ob⟩ K := Ao.lenL hT hg ho hti hd hx hm hp h
theorem Ao.lenO (hT : T.Ok P) (hg : aU ops s o = some true) {x : Operand} {t : TypeId} {ts : List TypeId} (ho : o.op = .call { callee := .builtin .len,args := #[x],argTypes := (t :: ts).toArray }) {ti : TInfo} {e' : TypeId} (hti : T.get t = some ti) (hd : ti.desc = .slice e')
  {tg l : Nat} {g : OwnRef} (hx : evS s x = .own tg g l) {m : Nat} (hm : l = m) (hp : putD n s o.dst (.val (.int .i64 m)) = some s') (h : Ao P ops rest ⟨n,s',bx,ob⟩ K) : Ao P ops (o :: rest) ⟨n,s,bx,ob⟩ K := by
 refine ol hT hg (r := .val (.int .i64 m)) ?_ hp h
 rw [ho]
 simp [iN,pU,hti,hd,hx,lenPV,hm]
theorem kH {x : Operand} {t : TypeId} {ts : List TypeId} {ti : TInfo} {e' : TypeId} {tg l : Nat} {g : OwnRef} {m : Nat} (hT : T.Ok P) (hm : l = m) (h : Ao P ops rest ⟨n,s',bx,ob⟩ K) (hg : aU ops s o = some true := by exact rfl) (ho : o.op = .call { callee := .builtin .len,args := #[x],argTypes := (t :: ts).toArray } := by exact rfl) (hti : T.get t = some ti := by exact rfl) (hd : ti.desc = .slice e' := by exact rfl) (hx : evS s x = .own tg g l := by exact rfl) (hp : putD n s o.dst (.val (.int .i64 m)) = some s' := by exact rfl) : Ao P ops (o :: rest) ⟨n,s,bx,ob⟩ K := Ao.lenO hT hg ho hti hd hx hm hp h
theorem uF (ho : ops[k]? = some o) (hg : aU ops s o = some true) {x : Operand} {t : TypeId} {ts : List TypeId} (hop : o.op = .call { callee := .builtin .len,args := #[x],argTypes := (t :: ts).toArray }) {ti : TInfo} {e' : TypeId} (hti : T.get t = some ti) (hd : ti.desc = .slice e')
  {e : TypeId} {rows : List (List PV)} (hx : evS s x = .list e rows) {m : Nat} (hm : rows.length = m) (hp : putD n s o.dst (.val (.int .i64 m)) = some s') (h : Do P T rb ops L ⟨n,s',bx,ob⟩ K) : Do P T rb ops (k :: L) ⟨n,s,bx,ob⟩ K := by
 refine uD ho hg (by rw [hop]; rfl) (r := .val (.int .i64 m)) ?_ hp h
 rw [hop]
 simp [iu,iN,pU,hti,hd,hx,lenPV,hm]
theorem uH (hT : T.Ok P) (hg : aU ops s o = some true) {t : TypeId} {x : Operand} {lo hi : Option Operand} (ho : o.op = .slice t x lo hi none) {ti : TInfo} {e : TypeId} (hti : T.get t = some ti) (hd : ti.desc = .slice e)
  {rows : List (List PV)} (hx : evS s x = .list e rows) {m : Nat} (hm : rows.length = m) {a b : Int} (ha : li (lo.map (evS s)) 0 = some a) (hb : li (hi.map (evS s)) m = some b) (hab : 0 ≤ a ∧ a ≤ b ∧ b ≤ m)
  {rows' : List (List PV)} (hr : (rows.take b.toNat).drop a.toNat = rows') (hp : putD n s o.dst (.list e rows') = some s') (h : Ao P ops rest ⟨n,s',bx,ob⟩ K) : Ao P ops (o :: rest) ⟨n,s,bx,ob⟩ K := by
 subst hm
 refine ol hT hg (r := .list e rows') ?_ hp h
 rw [ho]
 simp only [iN,hti,hd,hx,qX,Nat.beq_refl,zc,ha,hb]
 rw [zp hab,hr]
theorem Do.subL (ho : ops[k]? = some o) (hg : aU ops s o = some true) {t : TypeId} {x : Operand} {lo hi : Option Operand} (hop : o.op = .slice t x lo hi none) {ti : TInfo} {e : TypeId} (hti : T.get t = some ti) (hd : ti.desc = .slice e)
  {rows : List (List PV)} (hx : evS s x = .list e rows) {m : Nat} (hm : rows.length = m) {a b : Int} (ha : li (lo.map (evS s)) 0 = some a) (hb : li (hi.map (evS s)) m = some b) (hab : 0 ≤ a ∧ a ≤ b ∧ b ≤ m)
  {rows' : List (List PV)} (hr : (rows.take b.toNat).drop a.toNat = rows') (hp : putD n s o.dst (.list e rows') = some s') (h : Do P T rb ops L ⟨n,s',bx,ob⟩ K) : Do P T rb ops (k :: L) ⟨n,s,bx,ob⟩ K := by
 subst hm
 refine uD ho hg (by rw [hop]; rfl) (r := .list e rows') ?_ hp h
 rw [hop]
 simp only [iu,iN,hti,hd,hx,qX,Nat.beq_refl,zc,ha,hb]
 rw [zp hab,hr]
theorem Rep.rowsLe {M : Mem} {b : Bool} {e : TypeId} {rows rows' : List (List PV)} (h : it P rows rows') {x : Value} (hx : Rep P M b (.list e rows) x) : Rep P M b (.list e rows') x := PLe2.list h M b x hx
theorem tQ (hT : T.Ok P) {o : Oper} {ev : Operand → PV} {H : Heap} {x y : Operand} {t : TypeId} (ho : o.op = .call { callee := .builtin .append,args := #[x,y],argTypes := #[t,t] }) {ti ei : TInfo} {e : TypeId} (hti : T.get t = some ti) (hd : ti.desc = .slice e) (hei : T.get e = some ei)
  (hz : Nat.beq ei.zero.cells.size ei.size = true) (hsz : Nat.blt 0 ei.size = true) {tag : Nat} {g : OwnRef} {len : Nat} {rows rows2 rows2' rows' : List (List PV)} {wr : Bool} (hx : ev x = .own tag g len) (hob : H.ob tag = some ⟨g,e,rows,wr⟩) (hlen : len = rows.length) (hy : ev y = .list e rows2)
  (hle : it P rows2 rows2') (hby : (rows.length + rows2'.length) * ei.bytes ≤ 2 ^ 47) (hmx : rows.length + rows2'.length ≤ maxLen) (heq : rows ++ rows2' = rows') {K : PV → Heap → Prop} (hk : ∀ g',K (.own tag g' rows'.length) ⟨H.bx,upd H.ob tag (some ⟨g',e,rows',wr⟩)⟩) : Eff P o ev H K := by
 subst heq
 classical
 have hxy : x ≠ y := fun e=>by subst e; rw [hx] at hy; cases hy
 intro C M a w next Q hi he hn
 have key := tX (P := P) (o := o) (ev := fun z=>if z = y then PV.list e rows2' else ev z) (H := H) hT ho hti hd hei hz hsz (rows2 := rows2') (by simp [hxy,hx]) hob hlen (by simp) hby hmx (K := K) hk
 refine key C M a w next Q hi (fun z hz=>?_) hn
 by_cases hzy : z = y
 ·subst hzy
  simp only [if_true]
  have := he z hz
  rw [hy] at this
  exact Rep.rowsLe hle this
 ·simp only [hzy,if_false]
  exact he z hz
theorem cF (hT : T.Ok P) (hg : aU ops s o = some true) {x y : Operand} {t : TypeId} (ho : o.op = .call { callee := .builtin .append,args := #[x,y],argTypes := #[t,t] }) {d : Nat} (hdst : o.dst = some d) (hlt : Nat.blt d n = true) {ti ei : TInfo} {e : TypeId} (hti : T.get t = some ti) (hd : ti.desc = .slice e) (hei : T.get e = some ei)
  (hz : Nat.beq ei.zero.cells.size ei.size = true) (hsz : Nat.blt 0 ei.size = true) {tag : Nat} {g : OwnRef} {len : Nat} {rows rows2 rows2' rows' : List (List PV)} {wr : Bool} (hx : evS s x = .own tag g len) (hob : ob tag = some ⟨g,e,rows,wr⟩) (hlen : len = rows.length) (hy : evS s y = .list e rows2)
  (hle : it P rows2 rows2') (hby : (rows.length + rows2'.length) * ei.bytes ≤ 2 ^ 47) (hmx : rows.length + rows2'.length ≤ maxLen) (heq : rows ++ rows2' = rows') (h : ∀ g',Ao P ops rest ⟨n,upd s d (.own tag g' rows'.length),bx,upd ob tag (some ⟨g',e,rows',wr⟩)⟩ K) : Ao P ops (o :: rest) ⟨n,s,bx,ob⟩ K :=
 eG hg (tQ hT ho hti hd hei hz hsz hx hob hlen hy hle hby hmx heq fun g'=>⟨_,by simp [hdst,putD,hlt],h g'⟩)
theorem Ao.appendCQ {x y : Operand} {t : TypeId} {d : Nat} {ti ei : TInfo} {e : TypeId} {tag : Nat} {g : OwnRef} {len : Nat} {rows rows2 rows2' rows' : List (List PV)} {wr : Bool} (hT : T.Ok P) (hle : it P rows2 rows2') (hby : (rows.length + rows2'.length) * ei.bytes ≤ 2 ^ 47) (hmx : rows.length + rows2'.length ≤ maxLen) (heq : rows ++ rows2' = rows') (h : ∀ g',Ao P ops rest ⟨n,upd s d (.own tag g' rows'.length),bx,upd ob tag (some ⟨g',e,rows',wr⟩)⟩ K) (hg : aU ops s o = some true := by exact rfl) (ho : o.op = .call { callee := .builtin .append,args := #[x,y],argTypes := #[t,t] } := by exact rfl) (hdst : o.dst = some d := by exact rfl) (hlt : Nat.blt d n = true := by exact rfl) (hti : T.get t = some ti := by exact rfl) (hd : ti.desc = .slice e := by exact rfl) (hei : T.get e = some ei := by exact rfl) (hz : Nat.beq ei.zero.cells.size ei.size = true := by exact rfl) (hsz : Nat.blt 0 ei.size = true := by exact rfl) (hx : evS s x = .own tag g len := by exact rfl) (hob : ob tag = some ⟨g,e,rows,wr⟩ := by exact rfl) (hlen : len = rows.length := by exact rfl) (hy : evS s y = .list e rows2 := by exact rfl) : Ao P ops (o :: rest) ⟨n,s,bx,ob⟩ K := cF hT hg ho hdst hlt hti hd hei hz hsz hx hob hlen hy hle hby hmx heq h
theorem kA (hT : T.Ok P) (ho : ops[k]? = some o) (hg : aU ops s o = some true) {x y : Operand} {t : TypeId} (hop : o.op = .call { callee := .builtin .append,args := #[x,y],argTypes := #[t,t] }) {d : Nat} (hdst : o.dst = some d) (hlt : Nat.blt d n = true) {ti ei : TInfo} {e : TypeId} (hti : T.get t = some ti) (hd : ti.desc = .slice e) (hei : T.get e = some ei)
  (hz : Nat.beq ei.zero.cells.size ei.size = true) (hsz : Nat.blt 0 ei.size = true) {tag : Nat} {g : OwnRef} {len : Nat} {rows rows2 rows2' rows' : List (List PV)} {wr : Bool} (hx : evS s x = .own tag g len) (hob : ob tag = some ⟨g,e,rows,wr⟩) (hlen : len = rows.length) (hy : evS s y = .list e rows2)
  (hle : it P rows2 rows2') (hby : (rows.length + rows2'.length) * ei.bytes ≤ 2 ^ 47) (hmx : rows.length + rows2'.length ≤ maxLen) (heq : rows ++ rows2' = rows') (h : ∀ g',Do P T rb ops L ⟨n,upd s d (.own tag g' rows'.length),bx,upd ob tag (some ⟨g',e,rows',wr⟩)⟩ K) : Do P T rb ops (k :: L) ⟨n,s,bx,ob⟩ K := by
 refine ⟨o,ho,true,hg,?_⟩
 simp only [if_true,hop,et]
 exact fun bx'=>tQ hT hop hti hd hei hz hsz hx hob hlen hy hle hby hmx heq fun g'=>⟨rfl,_,by simp [hdst,putD,hlt],h g'⟩
theorem uY (hT : T.Ok P) (hg : aU ops s o = some true) {t e : TypeId} {m : Nat} {ps : Array (Nat × Operand)} (ho : o.op = .buildSlice t m ps) {ti : TInfo} (hti : T.get t = some ti) (hd : ti.desc = .slice e) {rows rows' : List (List PV)}
  (hr : kN T e m (gL (evS s) ps) = some rows) (hle : it P rows rows') {d : Nat} (hdst : o.dst = some d) (hlt : Nat.blt d n = true) (h : Ao P ops rest ⟨n,upd s d (.list e rows'),bx,ob⟩ K) : Ao P ops (o :: rest) ⟨n,s,bx,ob⟩ K := by
 refine sv hT hg ho hti hd hr (s' := upd s d (.list e rows)) (by simp [hdst,putD,hlt]) (mu d (fW _ _ _) (PLe.of2 (PLe2.list hle)) ?_)
 have : upd (upd s d (PV.list e rows)) d (.list e rows') = upd s d (.list e rows') := by
  funext t
  simp only [eF]
  split <;> rfl
 rw [this]
 exact h
theorem db {t e : TypeId} {m : Nat} {ps : Array (Nat × Operand)} {ti : TInfo} {rows rows' : List (List PV)} {d : Nat} (hT : T.Ok P) (hle : it P rows rows') (h : Ao P ops rest ⟨n,upd s d (.list e rows'),bx,ob⟩ K) (hg : aU ops s o = some true := by exact rfl) (ho : o.op = .buildSlice t m ps := by exact rfl) (hti : T.get t = some ti := by exact rfl) (hd : ti.desc = .slice e := by exact rfl) (hr : kN T e m (gL (evS s) ps) = some rows := by exact rfl) (hdst : o.dst = some d := by exact rfl) (hlt : Nat.blt d n = true := by exact rfl) : Ao P ops (o :: rest) ⟨n,s,bx,ob⟩ K := uY hT hg ho hti hd hr hle hdst hlt h
end
section
variable {P : Program} {fn : Func} {R : PV → Heap → Prop} {ks : List KI} {n : Nat} {s : Nat → PV} {bx : Nat → Option Box} {ob : Nat → Option Obj} {T : TT}
end
section
variable {P : Program} {C : Ctx} {M : Mem} {H : Heap} {w : World}
theorem InvH.reobj (h : InvH P C M H w) {tag : Nat} {g : OwnRef} {e : TypeId} {rows rows' : List (List PV)} {wr : Bool} (hx : H.ob tag = some ⟨g,e,rows,wr⟩) (hl : rows'.map List.length = rows.map List.length) (hle : iJ P rows.flatten rows'.flatten) :
  InvH P C M ⟨H.bx,upd H.ob tag (some ⟨g,e,rows',wr⟩)⟩ w := by
 have hlen : rows'.length = rows.length := by simpa using congrArg List.length hl
 have key : ∀ t y,upd H.ob tag (some ⟨g,e,rows',wr⟩) t = some y → (t = tag ∧ y = ⟨g,e,rows',wr⟩) ∨ H.ob t = some y := by
  intro t y hy
  rw [eF] at hy
  split at hy
  ·rename_i e; exact .inl ⟨e,(Option.some.inj hy).symm⟩
  ·exact .inr hy
 have same : ∀ t y,upd H.ob tag (some ⟨g,e,rows',wr⟩) t = some y → ∃ z,H.ob t = some z ∧ z.g = y.g := by
  intro t y hy
  rcases key t y hy with ⟨rfl,rfl⟩ | hy
  ·exact ⟨_,hx,rfl⟩
  ·exact ⟨y,hy,rfl⟩
 refine ⟨h.mem,h.ext,h.new,h.os,h.tape,h.output,h.size,h.frame,h.boxes,?_,h.dbox,?_,?_⟩
 ·intro t y hy
  rcases key t y hy with ⟨rfl,rfl⟩ | hy
  ·obtain ⟨i,h1,h2,h3,h4⟩ := h.objs _ _ hx
   simp only at h1 h2 h3 h4
   refine ⟨i,h1,?_,?_,?_⟩
   ·simpa only [hlen] using h2
   ·intro r hr
    have : r.length ∈ rows'.map List.length := List.mem_map.2 ⟨r,hr,rfl⟩
    rw [hl] at this
    obtain ⟨q,hq,e1⟩ := List.mem_map.1 this
    rw [← e1]
    exact h3 q hq
   ·rcases h4 with ⟨a,b,c⟩ | ⟨b,cur,h5,h6,h7,h8,h9,h10,h11,h12,h13,h14⟩
    ·refine .inl ⟨a,?_,c⟩
     rw [b] at hlen
     exact List.length_eq_zero_iff.1 hlen
    ·refine .inr ⟨b,cur,h5,h6,h7,h8,?_,h10,?_,?_,h13,?_⟩
     ·simpa only [hlen] using h9
     ·simp only [hlen]; exact hle M false _ h11
     ·simpa only [hlen] using h12
     ·simpa only [hlen] using h14
  ·exact h.objs t y hy
 ·intro t t' y y' b hy hy' hb hb'
  obtain ⟨z,hz,e1⟩ := same t y hy
  obtain ⟨z',hz',e1'⟩ := same t' y' hy'
  exact h.dobj t t' z z' b hz hz' (e1 ▸ hb) (e1' ▸ hb')
 ·intro t t' y y' hy hy' hb
  obtain ⟨z',hz',e1'⟩ := same t' y' hy'
  exact h.dmix t t' y z' hy hz' (e1' ▸ hb)
theorem InvH.cutO (h : InvH P C M H w) {tag : Nat} {g : OwnRef} {e : TypeId} {rows : List (List PV)} (hx : H.ob tag = some ⟨g,e,rows,true⟩) (k : Nat) :
  InvH P C M ⟨H.bx,upd H.ob tag (some ⟨g,e,rows.take k,true⟩)⟩ w := by
 have key : ∀ t y,upd H.ob tag (some ⟨g,e,rows.take k,true⟩) t = some y → (t = tag ∧ y = ⟨g,e,rows.take k,true⟩) ∨ H.ob t = some y := by
  intro t y hy
  rw [eF] at hy
  split at hy
  ·rename_i e; exact .inl ⟨e,(Option.some.inj hy).symm⟩
  ·exact .inr hy
 have same : ∀ t y,upd H.ob tag (some ⟨g,e,rows.take k,true⟩) t = some y → ∃ z,H.ob t = some z ∧ z.g = y.g := by
  intro t y hy
  rcases key t y hy with ⟨rfl,rfl⟩ | hy
  ·exact ⟨_,hx,rfl⟩
  ·exact ⟨y,hy,rfl⟩
 refine ⟨h.mem,h.ext,h.new,h.os,h.tape,h.output,h.size,h.frame,h.boxes,?_,h.dbox,?_,?_⟩
 ·intro t y hy
  rcases key t y hy with ⟨rfl,rfl⟩ | hy
  ·obtain ⟨i,h1,h2,h3,h4⟩ := h.objs _ _ hx
   simp only at h1 h2 h3 h4
   have hle : (rows.take k).length ≤ rows.length := by simp; omega
   refine ⟨i,h1,Nat.le_trans (Nat.mul_le_mul_right _ hle) h2,fun r hr=>h3 r (List.mem_of_mem_take hr),?_⟩
   rcases h4 with ⟨a,b,c⟩ | ⟨b,cur,h5,h6,h7,h8,h9,h10,h11,h12,h13,h14⟩
   ·exact .inl ⟨a,by simp [b],c⟩
   ·refine .inr ⟨b,cur,h5,h6,h7,h8,Nat.le_trans hle h9,h10,?_,?_,fun _=>h13 trivial,?_⟩
    ·have hflat : (rows.take k).flatten = rows.flatten.take ((rows.take k).length * i.size) := by
      have aux : ∀ (l : List (List PV)) (m : Nat),(∀ r ∈ l,r.length = i.size) → (l.take m).flatten = l.flatten.take ((l.take m).length * i.size) := by
       intro l
       induction l with
       | nil=>intro m _; simp
       | cons r l ih =>
        intro m hr
        cases m with
        | zero=>simp
        | succ m =>
         have h1 := hr r (by simp)
         have := ih m fun r hr'=>hr r (by simp [hr'])
         simp only [List.take_succ_cons,List.flatten_cons,List.length_cons]
         have e1 : ((l.take m).length + 1) * i.size = r.length + (l.take m).length * i.size := by rw [Nat.add_mul,h1]; omega
         rw [e1,List.take_length_add_append,this]
      exact aux rows k h3
     rw [hflat]
     have := h11.take ((rows.take k).length * i.size)
     rw [List.take_take,Nat.min_eq_left (Nat.mul_le_mul_right _ hle)] at this
     exact this
    ·intro v hv
     refine h12 v ?_
     have e1 : cur.toList.take ((rows.take k).length * i.size) = (cur.toList.take (rows.length * i.size)).take ((rows.take k).length * i.size) := by
      rw [List.take_take,Nat.min_eq_left (Nat.mul_le_mul_right _ hle)]
     rw [e1] at hv
     exact List.mem_of_mem_take hv
    ·intro o _
     exact h13 trivial o
  ·exact h.objs t y hy
 ·intro t t' y y' b hy hy' hb hb'
  obtain ⟨z,hz,e1⟩ := same t y hy
  obtain ⟨z',hz',e1'⟩ := same t' y' hy'
  exact h.dobj t t' z z' b hz hz' (e1 ▸ hb) (e1' ▸ hb')
 ·intro t t' y y' hy hy' hb
  obtain ⟨z',hz',e1'⟩ := same t' y' hy'
  exact h.dmix t t' y z' hy hz' (e1' ▸ hb)
end
theorem iJ.of_eq {P : Program} {a b : List PV} (h : a = b) : iJ P a b := h ▸ iJ.refl a
theorem iJ.trans {P : Program} {a b c : List PV} (h : iJ P a b) (h' : iJ P b c) : iJ P a c := fun M s xs hx=>h' M s xs (h M s xs hx)
def qc (bytes : Nat) (n : Int) : Option Unit := if 0 ≤ n ∧ n.toNat * bytes ≤ 2 ^ 47 ∧ n.toNat ≤ maxLen then some () else none
theorem growI_some {bytes : Nat} {n : Int} {u : Unit} (h : qc bytes n = some u) : 0 ≤ n ∧ n.toNat * bytes ≤ 2 ^ 47 ∧ n.toNat ≤ maxLen := by
 unfold qc at h
 split at h
 ·assumption
 ·cases h
section
variable {P : Program} {ops : Array Oper} {rest : List Oper} {o : Oper} {n : Nat} {s s' : Nat → PV} {bx : Nat → Option Box} {ob : Nat → Option Obj} {K : PState → Prop} {T : TT} {rb : RB} {k : Nat} {L : List Nat}
theorem ut (hT : T.Ok P) (hg : aU ops s o = some true) {t t' : TypeId} {x : Operand} (ho : o.op = .binOp .eql t x (.const (.slice none 0 0)) t') {ti : TInfo} {e : TypeId} (hti : T.get t = some ti) (hd : ti.desc = .slice e) {e' : TypeId} {rows : List (List PV)} (hx : evS s x = .list e' rows) {d : Nat} (hdst : o.dst = some d) (hlt : Nat.blt d n = true)
  (h : ∀ b : Bool,(b = true → rows = []) → Ao P ops rest ⟨n,upd s d (.val (.bool b)),bx,ob⟩ K) : Ao P ops (o :: rest) ⟨n,s,bx,ob⟩ K := by
 refine eG hg (fun C M a w next Q hi he hn=>?_)
 have hxr := he x (by rw [ho]; simp [Op.operands])
 rw [show (⟨n,s,bx,ob⟩ : PState).s = s from rfl,hx] at hxr
 simp only [Rep] at hxr
 obtain ⟨ad,c,i,hv,_,_,_,_,hr⟩ := hxr
 have hu := (hT.get hti).und
 rw [hd] at hu
 have hrun : (execOp a.eval o).run P w = .ok (.value (.bool ad.isNone)) w := by
  have h1 := run_equal_slice_nil (P := P) w t e ad rows.length c hu
  have h2 : (eqGuard .eql t x (.const (.slice none 0 0)) (.slice ad rows.length c) (.slice none 0 0)).run P w = .ok () w := by unfold eqGuard; split <;> simp
  simp only [execOp,ho,hv,show a.eval (.const (.slice none 0 0)) = .slice none 0 0 from rfl,Sem.run_bind,h2,Result.andThen_ok,binOp,h1]
  rfl
 unfold Oper.wp
 rw [hrun]
 refine hn _ (.val (.bool ad.isNone)) ⟨bx,ob⟩ M w ⟨_,by simp [hdst,putD,hlt],h ad.isNone fun hb=>?_⟩ (Mem.le_refl M) hi (by simp only [Rep])
 cases rows with
 | nil=>rfl
 | cons r rows =>
  obtain ⟨b,o,e1,_⟩ := hr (by simp)
  rw [e1] at hb
  cases hb
theorem pn (hT : T.Ok P) (hg : aU ops s o = some true) {t e : TypeId} {m : Nat} {ps : Array (Nat × Operand)} (ho : o.op = .buildSlice t m ps) {d : Nat} (hdst : o.dst = some d) (hlt : Nat.blt d n = true) {ti : TInfo} (hti : T.get t = some ti) (hd : ti.desc = .slice e) {rows rows' : List (List PV)}
  (hr : kN T e m (gL (evS s) ps) = some rows) (hl : rows'.map List.length = rows.map List.length) (hm : rows.length = m) (hle : iJ P rows.flatten rows'.flatten) (h : ∀ g,Ao P ops rest ⟨n,upd s d (.own d g rows'.length),bx,upd ob d (some ⟨g,e,rows',true⟩)⟩ K) : Ao P ops (o :: rest) ⟨n,s,bx,ob⟩ K := by
 refine Ao.bsO hT hg ho hdst hlt hti hd hr fun g=>?_
 have hlen : rows'.length = m := by rw [← hm]; simpa using congrArg List.length hl
 have h' := h g
 rw [hlen] at h'
 refine ef (st' := ⟨n,upd s d (.own d g m),bx,upd ob d (some ⟨g,e,rows',true⟩)⟩) ?_ h'
 intro C M a w hi
 refine ⟨M,hi.1,?_⟩
 have := hi.2.reobj (tag := d) (rows' := rows') (fW _ _ _) hl hle
 simp only [PState.heap] at this ⊢
 have e2 : upd (upd ob d (some ⟨g,e,rows,true⟩)) d (some ⟨g,e,rows',true⟩) = upd ob d (some ⟨g,e,rows',true⟩) := by
  funext t
  simp only [eF]
  split <;> rfl
 rwa [e2] at this
theorem uU (hT : T.Ok P) (hg : aU ops s o = some true) {x : Operand} {t : TypeId} {ts : List TypeId} (ho : o.op = .call { callee := .builtin .cap,args := #[x],argTypes := (t :: ts).toArray }) {ti : TInfo} {e : TypeId} (hti : T.get t = some ti) (hd : ti.desc = .slice e)
  (hx : evS s x = .val (.slice none 0 0)) (hp : putD n s o.dst (.val (.int .i64 0)) = some s') (h : Ao P ops rest ⟨n,s',bx,ob⟩ K) : Ao P ops (o :: rest) ⟨n,s,bx,ob⟩ K := by
 refine eG hg (fun C M a w next Q hi he hn=>?_)
 have hxr := he x (by rw [ho]; simp [Op.operands,Call.operands])
 rw [show (⟨n,s,bx,ob⟩ : PState).s = s from rfl,hx] at hxr
 simp only [Rep] at hxr
 have hu := (hT.get hti).und
 rw [hd] at hu
 have hrun : (execOp a.eval o).run P w = .ok (.value (.int .i64 0)) w := by
  simp only [execOp,ho,resolve,Sem.run_bind,Sem.run_pure,Result.andThen_ok,invoke,builtin,List.map_toArray,List.map_cons,List.map_nil,hxr]
  simp [Builtin.cap_,run_underlying hu,goInt]
 unfold Oper.wp
 rw [hrun]
 exact hn _ _ ⟨bx,ob⟩ M w ⟨s',hp,h⟩ (Mem.le_refl M) hi (by simp only [Rep])
theorem Ao.subN (hT : T.Ok P) (hg : aU ops s o = some true) {t : TypeId} {x y : Operand} (ho : o.op = .slice t x none (some y) none) {ti : TInfo} {e : TypeId} (hti : T.get t = some ti) (hd : ti.desc = .slice e) {ei : TInfo} (hei : T.get e = some ei)
  (hx : evS s x = .val (.slice none 0 0)) {kk : IntKind} (hy : evS s y = .val (.int kk 0)) (hp : putD n s o.dst (.val (.slice none 0 0)) = some s') (h : Ao P ops rest ⟨n,s',bx,ob⟩ K) : Ao P ops (o :: rest) ⟨n,s,bx,ob⟩ K := by
 refine eG hg (fun C M a w next Q hi he hn=>?_)
 have hxr := he x (by rw [ho]; simp [Op.operands])
 have hyr := he y (by rw [ho]; simp [Op.operands])
 rw [show (⟨n,s,bx,ob⟩ : PState).s = s from rfl,hx] at hxr
 rw [show (⟨n,s,bx,ob⟩ : PState).s = s from rfl,hy] at hyr
 simp only [Rep] at hxr hyr
 have hu := (hT.get hti).und
 rw [hd] at hu
 have hrun : (execOp a.eval o).run P w = .ok (.value (.slice none 0 0)) w := by
  simp only [execOp,ho,Sem.run_bind,Sem.run_pure,Option.map_some,Option.map_none,hxr,hyr]
  simp [Instr.sliceAt,Instr.slice,run_underlying hu,Instr.sliceBounds,Instr.sliceBound,asIntOf,(hT.get hei).rsize w]
 unfold Oper.wp
 rw [hrun]
 exact hn _ _ ⟨bx,ob⟩ M w ⟨s',hp,h⟩ (Mem.le_refl M) hi (by simp only [Rep])
theorem Ao.cutO (hT : T.Ok P) (hg : aU ops s o = some true) {t : TypeId} {x y : Operand} (ho : o.op = .slice t x none (some y) none) {ti : TInfo} {e : TypeId} (hti : T.get t = some ti) (hd : ti.desc = .slice e) {ei : TInfo} (hei : T.get e = some ei)
  {tag : Nat} {g : OwnRef} {len : Nat} {rows rows' : List (List PV)} (hx : evS s x = .own tag g len) (hob : ob tag = some ⟨g,e,rows,true⟩) (hlen : len = rows.length) {kk : IntKind} {m : Int} (hy : evS s y = .val (.int kk m)) (hm : 0 ≤ m ∧ m.toNat ≤ rows.length) (hr : rows.take m.toNat = rows') {d : Nat} (hdst : o.dst = some d) (hlt : Nat.blt d n = true)
  (h : Ao P ops rest ⟨n,upd s d (.own tag g rows'.length),bx,upd ob tag (some ⟨g,e,rows',true⟩)⟩ K) : Ao P ops (o :: rest) ⟨n,s,bx,ob⟩ K := by
 subst hlen
 subst hr
 refine eG hg (fun C M a w next Q hi he hn=>?_)
 have hxr := he x (by rw [ho]; simp [Op.operands])
 have hyr := he y (by rw [ho]; simp [Op.operands])
 rw [show (⟨n,s,bx,ob⟩ : PState).s = s from rfl,hx] at hxr
 rw [show (⟨n,s,bx,ob⟩ : PState).s = s from rfl,hy] at hyr
 simp only [Rep] at hxr hyr
 have hu := (hT.get hti).und
 rw [hd] at hu
 have hcap : rows.length ≤ g.cap := by
  obtain ⟨i,_,_,_,h4⟩ := hi.objs tag _ hob
  rcases h4 with ⟨_,b,_⟩ | ⟨_,_,_,_,_,_,h9,_⟩
  ·simp only at b; rw [b]; simp
  ·exact h9
 have hmc : m ≤ (g.cap : Int) := by omega
 have hl2 : (rows.take m.toNat).length = m.toNat := by simp; omega
 have hrun : (execOp a.eval o).run P w = .ok (.value (g.val (rows.take m.toNat).length)) w := by
  rw [hl2]
  simp only [execOp,ho,Sem.run_bind,Sem.run_pure,Option.map_some,Option.map_none,hxr.2,hyr,OwnRef.val]
  cases hb : g.blk with
  | none=>simp [Instr.sliceAt,Instr.slice,run_underlying hu,Instr.sliceBounds,Instr.sliceBound,asIntOf,(hT.get hei).rsize w,hm.1,hmc]
  | some b =>
   have e0 : (⟨b,0,none⟩ : Addr).add 0 = ⟨b,0,none⟩ := by rw [eB]
   simp [Instr.sliceAt,Instr.slice,run_underlying hu,Instr.sliceBounds,Instr.sliceBound,asIntOf,(hT.get hei).rsize w,hm.1,hmc,e0]
 unfold Oper.wp
 rw [hrun]
 exact hn _ (.own tag g (rows.take m.toNat).length) ⟨bx,upd ob tag (some ⟨g,e,rows.take m.toNat,true⟩)⟩ M w ⟨_,by simp [hdst,putD,hlt],h⟩ (Mem.le_refl M) (hi.cutO hob m.toNat) (by simp [Rep])
theorem uJ (hT : T.Ok P) (hg : aU ops s o = some true) {x y : Operand} {t u : TypeId} (ho : o.op = .call { callee := .builtin .append,args := #[x,y],argTypes := #[t,u] }) {d : Nat} (hdst : o.dst = some d) (hlt : Nat.blt d n = true) {ti ui ei : TInfo} {e : TypeId} (hti : T.get t = some ti) (hd : ti.desc = .slice e) (hui : T.get u = some ui) (hud : ui.desc = .int .i64) (hei : T.get e = some ei)
  (hz : Nat.beq ei.zero.cells.size ei.size = true) (hsz : Nat.blt 0 ei.size = true) (_hf : PV.frozL (cX ei) = true) (h1 : (cX ei).all PV.one = true) (hx : evS s x = .val (.slice none 0 0)) {m : Int} (hy : evS s y = .val (.int .i64 m)) (hm : 0 < m) (hby : m.toNat * ei.bytes ≤ 2 ^ 47) (hmx : m.toNat ≤ maxLen)
  (h : ∀ g,Ao P ops rest ⟨n,upd s d (.own d g (List.replicate m.toNat (cX ei)).length),bx,upd ob d (some ⟨g,e,List.replicate m.toNat (cX ei),true⟩)⟩ K) : Ao P ops (o :: rest) ⟨n,s,bx,ob⟩ K := by
 refine eG hg (fun C M a w next Q hi he hn=>?_)
 have hxr := he x (by rw [ho]; simp [Op.operands,Call.operands])
 have hyr := he y (by rw [ho]; simp [Op.operands,Call.operands])
 rw [show (⟨n,s,bx,ob⟩ : PState).s = s from rfl,hx] at hxr
 rw [show (⟨n,s,bx,ob⟩ : PState).s = s from rfl,hy] at hyr
 simp only [Rep] at hxr hyr
 have hu := (hT.get hti).und
 rw [hd] at hu
 have hu2 := (hT.get hui).und
 rw [hud] at hu2
 have hu3 := (hT.get hei).und
 obtain ⟨i,hinf,hs,hbs,hzero⟩ := (hT.get hei).info
 have hz1 := Nat.eq_of_beq_eq_true hz
 have hsz' : 0 < i.size := by have : 0 < ei.size := by simpa [Nat.blt_eq] using hsz
                              omega
 obtain ⟨k,hk⟩ : ∃ k : Nat,k = m.toNat := ⟨_,rfl⟩
 rw [← hk] at hby hmx h
 have hkm : m = (k : Int) := by omega
 subst hkm
 have hk0 : 0 < k := by omega
 have hwrap : IntKind.i64.wrap (k : Int) = k := by
  simp only [IntKind.wrap,IntKind.bits,IntKind.signed]
  simp
  unfold maxLen at hmx
  omega
 have h63 : ¬ (9223372036854775807 < (k : Int)) := by unfold maxLen at hmx; omega
 have hby2 : k * i.bytes ≤ 140737488355328 := by rw [hbs]; exact hby
 have h48 : ¬ (281474976710656 < Builtin.nextslicecap k 0 * i.bytes) := by rw [nextslicecap_zero hk0]; omega
 have h48' : ¬ (281474976710656 < (k : Int) * (i.bytes : Int)) := by
  have : ((k * i.bytes : Nat) : Int) ≤ 140737488355328 := Int.ofNat_le.2 hby2
  rw [Int.natCast_mul] at this
  omega
 have hne : ¬ (k * i.size = 0) := by
  have := Nat.mul_pos hk0 hsz'
  omega
 have hrun : (Builtin.append_ #[t,u] o.type #[.slice none 0 0,.int .i64 k]).run P w = .ok (.slice (some ⟨w.heap.size,0,none⟩) k (grownCap w k 0 e)) (w.drew.alloc (.cells (Builtin.zeroCells ei.zero.cells k ++ Builtin.zeroCells ei.zero.cells (grownCap w k 0 e - k)) e)) := by
  have hk1 : k ≠ 0 := by omega
  have hk3 : ¬ ((k : Int) < 0) := by omega
  simp [Builtin.append_,run_underlying hu,run_underlying hu2,sizeOf,typeInfo,zeroValue,hinf,hzero,asInt,asIntOf,hwrap,hk1,hk3,h63,h48,h48',Question.forced,run_firstCells_none,newRow,grownCap]
  exact fun h0=>absurd h0 hne
 have hrun' : (execOp a.eval o).run P w = .ok (.value (.slice (some ⟨w.heap.size,0,none⟩) k (grownCap w k 0 e))) (w.drew.alloc (.cells (Builtin.zeroCells ei.zero.cells k ++ Builtin.zeroCells ei.zero.cells (grownCap w k 0 e - k)) e)) := by
  simp only [execOp,ho,resolve,Sem.run_bind,Sem.run_pure,Result.andThen_ok,invoke,builtin,List.map_toArray,List.map_cons,List.map_nil,hxr,hyr]
  rw [hrun]
  rfl
 unfold Oper.wp
 rw [hrun']
 have hge := grownCap_ge w k 0 e
 have hgm : grownCap w k 0 e ≤ maxLen := grownCap_le_maxLen w k 0 e hmx
 have hzl : (cX ei).length = i.size := by simp [cX,hz1,hs]
 have hzc : (Builtin.zeroCells ei.zero.cells k).toList = (List.replicate k ei.zero.cells.toList).flatten := by
  unfold Builtin.zeroCells
  exact ma ei.zero.cells k
 have hzs : (Builtin.zeroCells ei.zero.cells k).toList.length = k * i.size := by
  rw [hzc]; simp [hz1,hs]
 have hrep : aD P M false (List.replicate k (cX ei)).flatten (List.replicate k ei.zero.cells.toList).flatten := lP (lF _) k
 have htake : ((Builtin.zeroCells ei.zero.cells k ++ Builtin.zeroCells ei.zero.cells (grownCap w k 0 e - k)).toList.take ((List.replicate k (cX ei)).length * i.size)) = (List.replicate k ei.zero.cells.toList).flatten := by
  rw [List.length_replicate,Array.toList_append,← hzc]
  rw [← hzs]
  exact List.take_left
 refine hn _ (.own d ⟨some w.heap.size,grownCap w k 0 e⟩ (List.replicate k (cX ei)).length) _ M _ ⟨_,by simp [hdst,putD,hlt],h ⟨some w.heap.size,grownCap w k 0 e⟩⟩ (Mem.le_refl M)
  ((show InvH P C M ⟨bx,ob⟩ w.drew from hi.drew).alloc_obj d e (List.replicate k (cX ei)) true _ _ i hinf ?_ ?_ ?_ ?_ hgm ?_ ?_) ?_
 ·rw [List.length_replicate]; exact hby2
 ·intro r hr
  rw [List.eq_of_mem_replicate hr]
  exact hzl
 ·simp only [Array.size_append,size_zeroCells,hz1,← hs,← Nat.add_mul]
  congr 1
  omega
 ·rw [List.length_replicate]; exact hge
 ·rw [htake]; exact hrep
 ·rw [htake]
  refine aD.oneCell ?_ hrep
  rw [List.all_flatten]
  rw [List.all_eq_true]
  intro r hr
  rw [List.eq_of_mem_replicate hr]
  exact h1
 ·simp [Rep,OwnRef.val]
end
@[simp] theorem bPs {α β : Type} (a : α) (k : α → Option β) : af (some a) k = k a := rfl
@[simp] theorem bindP_none {α β : Type} (k : α → Option β) : af none k = none := rfl
@[simp] theorem bF {α β : Type} (a : α) (k : α → β) : bC a k = k a := rfl
@[simp] theorem bX {σ β : Type} (s : σ) (k : σ → Option β) : Flow.thenP (.next s) k = k s := rfl
@[simp] theorem jV {σ ρ : Type} (s : σ) (k : σ → Option ρ) : Flow.thenR (.next s) k = k s := rfl
@[simp] theorem rr {σ ρ : Type} (r : ρ) (k : σ → Option ρ) : Flow.thenR (.ret r) k = some r := rfl
@[simp] theorem thenF_nextS {σ τ ρ : Type} (s : σ) (k : σ → Option (Flow τ ρ)) : Flow.thenF (.next s) k = k s := rfl
@[simp] theorem thenF_retS {σ τ ρ : Type} (r : ρ) (k : σ → Option (Flow τ ρ)) : Flow.thenF (.ret r) k = some (.ret r) := rfl
theorem appI_ok {α : Type} {bytes : Nat} {xs ys : List α} (h1 : (xs.length + ys.length) * bytes ≤ 2 ^ 47) (h2 : xs.length + ys.length ≤ maxLen) : dg bytes xs ys = some (xs ++ ys) := by
 unfold dg; rw [zp ⟨h1,h2⟩]
theorem kQ {α : Type} {xs : List α} {i : Int} {x : α} (h0 : 0 ≤ i) (h : xs[i.toNat]? = some x) : aF xs i = some x := by unfold aF; rw [zp h0,h]
theorem mj {α : Type} {xs : List α} {j : Nat} {x : α} (h : xs[j]? = some x) : aF xs (j : Int) = some x := kQ (by omega) (by simpa using h)
theorem getI_lt {α : Type} [Inhabited α] {xs : List α} {i : Int} (h0 : 0 ≤ i) (h : i < xs.length) : ∃ x,aF xs i = some x ∧ xs[i.toNat]? = some x := by
 have : i.toNat < xs.length := by omega
 exact ⟨xs[i.toNat],kQ h0 (ze this),ze this⟩
theorem qK {α : Type} {xs : List α} {a b : Int} (h : 0 ≤ a ∧ a ≤ b ∧ b ≤ xs.length) : oF xs a b = some ((xs.take b.toNat).drop a.toNat) := by unfold oF; rw [zp h]
theorem growI_ok {bytes : Nat} {n : Int} (h : 0 ≤ n ∧ n.toNat * bytes ≤ 2 ^ 47 ∧ n.toNat ≤ maxLen) : qc bytes n = some () := by unfold qc; rw [zp h]
theorem qd {n : Int} (h : n ≤ 2 ^ 62) : pD n = some n.toNat := by unfold pD; rw [zp h]
theorem eD {α σ ρ : Type} {step : Nat → α → σ → Option (Flow σ ρ)} (I : Nat → σ → Prop) (Q : ρ → Prop) :
  ∀ (xs : List α) (j : Nat) (s : σ),I j s → (∀ k x s,xs[k]? = some x → I (j + k) s → ∃ fl,step (j + k) x s = some fl ∧ (match fl with | .next s'=>I (j + k + 1) s' | .brk _=>False | .ret r=>Q r)) →
   ∃ fl,aK step j xs s = some fl ∧ (match fl with | .next s'=>I (j + xs.length) s' | .brk _=>False | .ret r=>Q r)
 | [],j,s,h,_=>⟨.next s,rfl,by simpa using h⟩
 | x :: xs,j,s,h,hs=>by
  obtain ⟨fl,h1,h2⟩ := hs 0 x s rfl (by simpa using h)
  rw [Nat.add_zero] at h1
  cases fl with
  | next s' =>
   obtain ⟨fl,h3,h4⟩ := eD I Q xs (j + 1) s' (by simpa using h2) (fun k y t hk hI=>by
    obtain ⟨fl,h5,h6⟩ := hs (k + 1) y t (by simpa using hk) (by rw [show j + (k + 1) = j + 1 + k from by omega]; exact hI)
    rw [show j + (k + 1) = j + 1 + k from by omega] at h5 h6
    exact ⟨fl,h5,h6⟩)
   refine ⟨fl,by rw [aK,h1]; exact h3,?_⟩
   rw [show j + (x :: xs).length = j + 1 + xs.length from by simp; omega]
   exact h4
  | brk s'=>exact absurd h2 (by simp)
  | ret r=>exact ⟨.ret r,by rw [aK,h1],h2⟩
theorem rMa {α σ ρ : Type} {step : Nat → α → σ → Option (Flow σ ρ)} {xs : List α} {s : σ} (S : Nat → σ) (h0 : S 0 = s) (hs : ∀ k x,xs[k]? = some x → step k x (S k) = some (.next (S (k + 1)))) : aK step 0 xs s = some (.next (S xs.length)) := by
 subst h0
 obtain ⟨fl,h1,h2⟩ := eD (step := step) (fun j s=>s = S j) (fun _=>False) xs 0 (S 0) rfl (fun k x s hk hI=>by
  simp only [Nat.zero_add] at hI
  subst hI
  exact ⟨_,by rw [Nat.zero_add]; exact hs k x hk,by simp⟩)
 cases fl with
 | next s'=>simp only [Nat.zero_add] at h2; rw [h1,h2]
 | brk s'=>exact absurd h2 (by simp)
 | ret r=>exact absurd h2 (by simp)
theorem lD {α β ρ : Type} {step : Nat → α → List β → Option (Flow (List β) ρ)} {xs : List α} (f : α → β) (hs : ∀ k x,xs[k]? = some x → step k x ((xs.take k).map f) = some (.next ((xs.take k).map f ++ [f x]))) :
  aK step 0 xs [] = some (.next (xs.map f)) := by
 have := rMa (step := step) (xs := xs) (fun k=>(xs.take k).map f) rfl (fun k x hk=>by
  rw [hs k x hk,List.take_add_one,hk]
  simp)
 simpa using this
theorem nQ {α σ ρ : Type} {step : Nat → α → σ → Option (Flow σ ρ)} {xs : List α} {s : σ} (g : σ → α → σ) (hs : ∀ k x,xs[k]? = some x → step k x ((xs.take k).foldl g s) = some (.next (g ((xs.take k).foldl g s) x))) :
  aK step 0 xs s = some (.next (xs.foldl g s)) := by
 have := rMa (step := step) (xs := xs) (fun k=>(xs.take k).foldl g s) rfl (fun k x hk=>by
  rw [hs k x hk,List.take_add_one,hk,List.foldl_append]
  rfl)
 simpa using this
theorem lH {α ρ : Type} {step : Nat → α → Unit → Option (Flow Unit ρ)} (p : α → Bool) (out : Nat → α → ρ) : ∀ (xs : List α) (j : Nat),(∀ k x,xs[k]? = some x → step (j + k) x () = some (if p x then .ret (out (j + k) x) else .next ())) →
  aK step j xs () = some (match xs.findIdx? p with | some i=>(match xs[i]? with | some x=>.ret (out (j + i) x) | none=>.next ()) | none=>.next ())
 | [],j,_=>rfl
 | x :: xs,j,hs=>by
  have h0 := hs 0 x rfl
  rw [Nat.add_zero] at h0
  rw [aK,h0,List.findIdx?_cons]
  cases hp : p x with
  | true=>simp
  | false =>
   simp only [Bool.false_eq_true,if_false]
   rw [lH p out xs (j + 1) (fun k y hk=>by
    have := hs (k + 1) y (by simpa using hk)
    rw [show j + (k + 1) = j + 1 + k from by omega] at this
    exact this)]
   cases xs.findIdx? p with
   | none=>simp
   | some i =>
    simp only [Option.map_some,List.getElem?_cons_succ]
    rw [show j + 1 + i = j + (i + 1) from by omega]
section
variable {P : Program} {T : TT} {M : Mem}
end
def fm {α : Type} (p : Prop) [Decidable p] (a : α) : Option α := if p then some a else none
theorem dH {α : Type} {p : Prop} [Decidable p] {a b : α} (h : fm p a = some b) : p ∧ a = b := by
 unfold fm at h
 split at h
 ·rename_i hp; exact ⟨hp,Option.some.inj h⟩
 ·cases h
@[simp] theorem er {α : Type} {p : Prop} [Decidable p] {a : α} (h : p) : fm p a = some a := by unfold fm; rw [zp h]
end
end Go.Ab

namespace Go.Ab
noncomputable section
open Go.Proofs
def tS (d : TypeDesc) : TInfo := ⟨d,1,24,.slice none 0 0,[]⟩
def tP (d : TypeDesc) : TInfo := ⟨d,1,8,.pointer none,[]⟩
def tF (d : TypeDesc) : TInfo := ⟨d,1,8,.nilFunc,[]⟩
theorem tO {P : Program} {k : Nat} {v : TInfo} (i : TypeInfo) (h : P.info? k = some i) (e : (i.size,i.bytes,i.zero,v.eqf) = (v.size,v.bytes,some v.zero,[])) (u : P.underlying k = some v.desc) : v.Ok P k := by
 simp only [Prod.mk.injEq] at e
 exact ⟨⟨i,h,e.1,e.2.1,e.2.2.1⟩,u,fun hn=>absurd e.2.2.2 hn⟩
def ti46 : TInfo := ⟨Tryz.t45.desc,2,16,.agg #[.int .i64 0,.int .i64 0],[(3,0),(3,1)]⟩
def ti70 : TInfo := ⟨Tryz.t69.desc,3,32,.agg #[.string ⟨#[]⟩,.int .i64 0,.bool false],[(9,0),(3,1),(4,2)]⟩
def ti75 : TInfo := ⟨Tryz.t74.desc,3,32,.agg #[.int .i64 0,.int .i64 0,.string ⟨#[]⟩],[(3,0),(3,1),(9,2)]⟩
def ti89 : TInfo := ⟨Tryz.t88.desc,2,24,.agg #[.string ⟨#[]⟩,.int .i64 0],[(9,0),(3,1)]⟩
def ti149 : TInfo := ⟨Tryz.t148.desc,1,8,.agg #[.int .i64 0],[(3,0)]⟩
def ti186 : TInfo := ⟨Tryz.t185.desc,4,40,.agg #[.int .i64 0,.string ⟨#[]⟩,.int .i64 0,.int .i64 0],[(3,0),(9,1),(3,2),(3,3)]⟩
def ti319 : TInfo := ⟨Tryz.t318.desc,1,16,.agg #[.string ⟨#[]⟩],[(9,0)]⟩
theorem ti46_ok : ti46.Ok Tryz.prog 46 := ⟨⟨Tryz.t46,by kernel_rfl,rfl,rfl,rfl⟩,Tryz.underlying46,fun _=>⟨Tryz.stoodInHeld46,Tryz.eqGuardType46,by simp [cE,Program.fieldsOf,Tryz.underlying46,ti46],by kernel_rfl⟩⟩
theorem ti70_ok : ti70.Ok Tryz.prog 70 := ⟨⟨Tryz.t70,by kernel_rfl,rfl,rfl,rfl⟩,Tryz.underlying70,fun _=>⟨Tryz.stoodInHeld70,Tryz.eqGuardType70,by simp [cE,Program.fieldsOf,Tryz.underlying70,ti70],by kernel_rfl⟩⟩
theorem ti75_ok : ti75.Ok Tryz.prog 75 := ⟨⟨Tryz.t75,by kernel_rfl,rfl,rfl,rfl⟩,Tryz.underlying75,fun _=>⟨Tryz.stoodInHeld75,Tryz.eqGuardType75,by simp [cE,Program.fieldsOf,Tryz.underlying75,ti75],by kernel_rfl⟩⟩
theorem ti89_ok : ti89.Ok Tryz.prog 89 := ⟨⟨Tryz.t89,by kernel_rfl,rfl,rfl,rfl⟩,Tryz.underlying89,fun _=>⟨Tryz.stoodInHeld89,Tryz.eqGuardType89,by simp [cE,Program.fieldsOf,Tryz.underlying89,ti89],by kernel_rfl⟩⟩
theorem ti149_ok : ti149.Ok Tryz.prog 149 := ⟨⟨Tryz.t149,by kernel_rfl,rfl,rfl,rfl⟩,Tryz.underlying149,fun _=>⟨Tryz.stoodInHeld149,Tryz.eqGuardType149,by simp [cE,Program.fieldsOf,Tryz.underlying149,ti149],by kernel_rfl⟩⟩
theorem ti186_ok : ti186.Ok Tryz.prog 186 := ⟨⟨Tryz.t186,by kernel_rfl,rfl,rfl,rfl⟩,Tryz.underlying186,fun _=>⟨Tryz.stoodInHeld186,Tryz.eqGuardType186,by simp [cE,Program.fieldsOf,Tryz.underlying186,ti186],by kernel_rfl⟩⟩
theorem ti319_ok : ti319.Ok Tryz.prog 319 := ⟨⟨Tryz.t319,by kernel_rfl,rfl,rfl,rfl⟩,Tryz.underlying319,fun _=>⟨Tryz.stoodInHeld319,Tryz.eqGuardType319,by simp [cE,Program.fieldsOf,Tryz.underlying319,ti319],by kernel_rfl⟩⟩
def tt : TT := (.node 132 (tF Tryz.t132.desc) (.node 46 ti46 (.node 26 ⟨Tryz.t25.desc,3,72,.agg #[.slice none 0 0,.slice none 0 0,.slice none 0 0],[]⟩ (.node 20 ⟨Tryz.t20.desc,1,16,.nilIface,[]⟩ (.node 4 ⟨Tryz.t4.desc,1,1,.bool false,[]⟩ (.node 2 ⟨Tryz.t2.desc,1,8,.int .i64 0,[]⟩ (.node 1 (tF Tryz.t1.desc) .leaf .leaf) (.node 3 ⟨Tryz.t3.desc,1,8,.int .i64 0,[]⟩ .leaf .leaf)) (.node 9 ⟨Tryz.t9.desc,1,16,.string ⟨#[]⟩,[]⟩ (.node 5 ⟨Tryz.t5.desc,1,1,.int .u8 0,[]⟩ .leaf .leaf) .leaf)) (.node 23 (tS Tryz.t23.desc) (.node 22 (tS Tryz.t22.desc) (.node 21 ⟨Tryz.t21.desc,1,4,.int .i32 0,[]⟩ .leaf .leaf) .leaf) (.node 25 ⟨Tryz.t25.desc,3,72,.agg #[.slice none 0 0,.slice none 0 0,.slice none 0 0],[]⟩ (.node 24 (tS Tryz.t24.desc) .leaf .leaf) .leaf))) (.node 33 (tS Tryz.t33.desc) (.node 30 (tS Tryz.t30.desc) (.node 28 (tS Tryz.t27.desc) (.node 27 (tS Tryz.t27.desc) .leaf .leaf) (.node 29 (tS Tryz.t29.desc) .leaf .leaf)) (.node 32 (tS Tryz.t32.desc) (.node 31 (tS Tryz.t31.desc) .leaf .leaf) .leaf)) (.node 39 (tS Tryz.t39.desc) (.node 36 (tS Tryz.t36.desc) (.node 35 ⟨Tryz.t34.desc,9,160,.agg #[.int .i64 0,.string ⟨#[]⟩,.slice none 0 0,.slice none 0 0,.slice none 0 0,.slice none 0 0,.int .i64 0,.int .i64 0,.slice none 0 0],[]⟩ .leaf .leaf) .leaf) (.node 42 ⟨Tryz.t41.desc,2,48,.agg #[.slice none 0 0,.slice none 0 0],[]⟩ (.node 40 (tS Tryz.t40.desc) .leaf .leaf) .leaf)))) (.node 89 ti89 (.node 73 ⟨Tryz.t72.desc,3,64,.agg #[.string ⟨#[]⟩,.slice none 0 0,.slice none 0 0],[]⟩ (.node 59 ⟨Tryz.t3.desc,1,8,.int .i64 0,[]⟩ (.node 50 (tS Tryz.t50.desc) (.node 48 (tS Tryz.t48.desc) .leaf .leaf) (.node 57 (tS Tryz.t57.desc) .leaf .leaf)) (.node 70 ti70 (.node 65 (tF Tryz.t65.desc) .leaf .leaf) .leaf)) (.node 77 (tS Tryz.t36.desc) (.node 76 (tF Tryz.t76.desc) (.node 75 ti75 .leaf .leaf) .leaf) (.node 87 (tS Tryz.t87.desc) (.node 79 ⟨Tryz.t78.desc,2,40,.agg #[.string ⟨#[]⟩,.slice none 0 0],[]⟩ .leaf .leaf) .leaf))) (.node 115 (tF Tryz.t115.desc) (.node 104 (tF Tryz.t104.desc) (.node 97 (tF Tryz.t97.desc) (.node 92 ⟨Tryz.t91.desc,7,88,.agg #[.int .i64 0,.string ⟨#[]⟩,.int .i64 0,.int .i64 0,.int .i64 0,.string ⟨#[]⟩,.slice none 0 0],[]⟩ .leaf .leaf) (.node 103 ⟨Tryz.t103.desc,8,8,.agg #[.bool false,.bool false,.bool false,.bool false,.bool false,.bool false,.bool false,.bool false],[]⟩ .leaf .leaf)) (.node 109 (tF Tryz.t109.desc) (.node 107 ⟨Tryz.t106.desc,3,56,.agg #[.string ⟨#[]⟩,.string ⟨#[]⟩,.slice none 0 0],[]⟩ .leaf .leaf) .leaf)) (.node 127 (tF Tryz.t127.desc) (.node 126 (tF Tryz.t126.desc) (.node 116 (tP Tryz.t116.desc) .leaf .leaf) .leaf) (.node 131 ⟨Tryz.t130.desc,3,56,.agg #[.string ⟨#[]⟩,.slice none 0 0,.string ⟨#[]⟩],[]⟩ (.node 130 ⟨Tryz.t130.desc,3,56,.agg #[.string ⟨#[]⟩,.slice none 0 0,.string ⟨#[]⟩],[]⟩ .leaf .leaf) .leaf))))) (.node 213 (tS Tryz.t213.desc) (.node 174 (tF Tryz.t174.desc) (.node 157 ⟨Tryz.t156.desc,8,192,.agg #[.slice none 0 0,.slice none 0 0,.slice none 0 0,.slice none 0 0,.slice none 0 0,.slice none 0 0,.slice none 0 0,.slice none 0 0],[]⟩ (.node 147 ⟨Tryz.t146.desc,3,40,.agg #[.slice none 0 0,.int .i64 0,.int .i64 0],[]⟩ (.node 137 ⟨Tryz.t136.desc,7,80,.agg #[.string ⟨#[]⟩,.int .i64 0,.string ⟨#[]⟩,.int .i64 0,.int .i64 0,.int .i64 0,.string ⟨#[]⟩],[]⟩ (.node 135 (tF Tryz.t135.desc) .leaf .leaf) (.node 143 (tS Tryz.t143.desc) .leaf .leaf)) (.node 151 (tF Tryz.t151.desc) (.node 149 ti149 .leaf .leaf) .leaf)) (.node 166 (tF Tryz.t166.desc) (.node 163 (tF Tryz.t163.desc) (.node 158 (tF Tryz.t158.desc) .leaf .leaf) .leaf) (.node 171 (tF Tryz.t171.desc) (.node 168 (tF Tryz.t168.desc) .leaf .leaf) .leaf))) (.node 205 ⟨Tryz.t204.desc,5,120,.agg #[.slice none 0 0,.slice none 0 0,.slice none 0 0,.slice none 0 0,.slice none 0 0],[]⟩ (.node 193 (tP Tryz.t193.desc) (.node 180 (tF Tryz.t180.desc) (.node 179 ⟨Tryz.t178.desc,4,72,.agg #[.int .i64 0,.string ⟨#[]⟩,.slice none 0 0,.slice none 0 0],[]⟩ .leaf .leaf) (.node 186 ti186 .leaf .leaf)) (.node 197 ⟨Tryz.t196.desc,4,96,.agg #[.slice none 0 0,.slice none 0 0,.slice none 0 0,.slice none 0 0],[]⟩ (.node 194 (tF Tryz.t194.desc) .leaf .leaf) .leaf)) (.node 210 (tF Tryz.t210.desc) (.node 209 (tF Tryz.t209.desc) (.node 207 (tF Tryz.t207.desc) .leaf .leaf) .leaf) (.node 212 (tF Tryz.t212.desc) (.node 211 (tF Tryz.t211.desc) .leaf .leaf) .leaf)))) (.node 292 ⟨Tryz.t3.desc,1,8,.int .i64 0,[]⟩ (.node 256 ⟨Tryz.t255.desc,1,16,.nilIface,[]⟩ (.node 230 (tF Tryz.t230.desc) (.node 217 (tF Tryz.t217.desc) (.node 215 (tF Tryz.t215.desc) .leaf .leaf) (.node 229 (tF Tryz.t229.desc) .leaf .leaf)) (.node 243 (tS Tryz.t243.desc) (.node 236 (tS Tryz.t236.desc) .leaf .leaf) .leaf)) (.node 277 (tF Tryz.t277.desc) (.node 276 (tF Tryz.t276.desc) (.node 261 (tF Tryz.t261.desc) .leaf .leaf) .leaf) (.node 285 (tF Tryz.t285.desc) (.node 283 ⟨Tryz.t283.desc,1,8,.int .u64 0,[]⟩ .leaf .leaf) .leaf))) (.node 316 (tP Tryz.t316.desc) (.node 302 ⟨Tryz.t302.desc,1,8,.int .u64 0,[]⟩ (.node 299 ⟨Tryz.t299.desc,1,4,.int .u32 0,[]⟩ (.node 295 (tP Tryz.t295.desc) .leaf .leaf) .leaf) (.node 309 ⟨Tryz.t309.desc,24,24,.agg #[.int .u8 0,.int .u8 0,.int .u8 0,.int .u8 0,.int .u8 0,.int .u8 0,.int .u8 0,.int .u8 0,.int .u8 0,.int .u8 0,.int .u8 0,.int .u8 0,.int .u8 0,.int .u8 0,.int .u8 0,.int .u8 0,.int .u8 0,.int .u8 0,.int .u8 0,.int .u8 0,.int .u8 0,.int .u8 0,.int .u8 0,.int .u8 0],[]⟩ (.node 307 ⟨Tryz.t306.desc,3,48,.agg #[.string ⟨#[]⟩,.string ⟨#[]⟩,.nilIface],[]⟩ .leaf .leaf) .leaf)) (.node 321 ⟨Tryz.t321.desc,20,160,.agg #[.int .u64 0,.int .u64 0,.int .u64 0,.int .u64 0,.int .u64 0,.int .u64 0,.int .u64 0,.int .u64 0,.int .u64 0,.int .u64 0,.int .u64 0,.int .u64 0,.int .u64 0,.int .u64 0,.int .u64 0,.int .u64 0,.int .u64 0,.int .u64 0,.int .u64 0,.int .u64 0],[]⟩ (.node 319 ti319 (.node 317 (tP Tryz.t317.desc) .leaf .leaf) .leaf) (.node 326 ⟨Tryz.t326.desc,64,64,.agg #[.int .u8 0,.int .u8 0,.int .u8 0,.int .u8 0,.int .u8 0,.int .u8 0,.int .u8 0,.int .u8 0,.int .u8 0,.int .u8 0,.int .u8 0,.int .u8 0,.int .u8 0,.int .u8 0,.int .u8 0,.int .u8 0,.int .u8 0,.int .u8 0,.int .u8 0,.int .u8 0,.int .u8 0,.int .u8 0,.int .u8 0,.int .u8 0,.int .u8 0,.int .u8 0,.int .u8 0,.int .u8 0,.int .u8 0,.int .u8 0,.int .u8 0,.int .u8 0,.int .u8 0,.int .u8 0,.int .u8 0,.int .u8 0,.int .u8 0,.int .u8 0,.int .u8 0,.int .u8 0,.int .u8 0,.int .u8 0,.int .u8 0,.int .u8 0,.int .u8 0,.int .u8 0,.int .u8 0,.int .u8 0,.int .u8 0,.int .u8 0,.int .u8 0,.int .u8 0,.int .u8 0,.int .u8 0,.int .u8 0,.int .u8 0,.int .u8 0,.int .u8 0,.int .u8 0,.int .u8 0,.int .u8 0,.int .u8 0,.int .u8 0,.int .u8 0],[]⟩ (.node 325 ⟨Tryz.t325.desc,32,32,.agg #[.int .u8 0,.int .u8 0,.int .u8 0,.int .u8 0,.int .u8 0,.int .u8 0,.int .u8 0,.int .u8 0,.int .u8 0,.int .u8 0,.int .u8 0,.int .u8 0,.int .u8 0,.int .u8 0,.int .u8 0,.int .u8 0,.int .u8 0,.int .u8 0,.int .u8 0,.int .u8 0,.int .u8 0,.int .u8 0,.int .u8 0,.int .u8 0,.int .u8 0,.int .u8 0,.int .u8 0,.int .u8 0,.int .u8 0,.int .u8 0,.int .u8 0,.int .u8 0],[]⟩ .leaf .leaf) .leaf))))))
theorem tk : tt.Ok Tryz.prog := ⟨tO Tryz.t132 (by kernel_rfl) rfl Tryz.underlying132,⟨ti46_ok,⟨tO Tryz.t26 (by kernel_rfl) rfl Tryz.underlying26,⟨tO Tryz.t20 (by kernel_rfl) rfl Tryz.underlying20,⟨tO Tryz.t4 (by kernel_rfl) rfl Tryz.underlying4,⟨tO Tryz.t2 (by kernel_rfl) rfl Tryz.underlying2,⟨tO Tryz.t1 (by kernel_rfl) rfl Tryz.underlying1,trivial,trivial⟩,⟨tO Tryz.t3 (by kernel_rfl) rfl Tryz.underlying3,trivial,trivial⟩⟩,⟨tO Tryz.t9 (by kernel_rfl) rfl Tryz.underlying9,⟨tO Tryz.t5 (by kernel_rfl) rfl Tryz.underlying5,trivial,trivial⟩,trivial⟩⟩,⟨tO Tryz.t23 (by kernel_rfl) rfl Tryz.underlying23,⟨tO Tryz.t22 (by kernel_rfl) rfl Tryz.underlying22,⟨tO Tryz.t21 (by kernel_rfl) rfl Tryz.underlying21,trivial,trivial⟩,trivial⟩,⟨tO Tryz.t25 (by kernel_rfl) rfl Tryz.underlying25,⟨tO Tryz.t24 (by kernel_rfl) rfl Tryz.underlying24,trivial,trivial⟩,trivial⟩⟩⟩,⟨tO Tryz.t33 (by kernel_rfl) rfl Tryz.underlying33,⟨tO Tryz.t30 (by kernel_rfl) rfl Tryz.underlying30,⟨tO Tryz.t28 (by kernel_rfl) rfl Tryz.underlying28,⟨tO Tryz.t27 (by kernel_rfl) rfl Tryz.underlying27,trivial,trivial⟩,⟨tO Tryz.t29 (by kernel_rfl) rfl Tryz.underlying29,trivial,trivial⟩⟩,⟨tO Tryz.t32 (by kernel_rfl) rfl Tryz.underlying32,⟨tO Tryz.t31 (by kernel_rfl) rfl Tryz.underlying31,trivial,trivial⟩,trivial⟩⟩,⟨tO Tryz.t39 (by kernel_rfl) rfl Tryz.underlying39,⟨tO Tryz.t36 (by kernel_rfl) rfl Tryz.underlying36,⟨tO Tryz.t35 (by kernel_rfl) rfl Tryz.underlying35,trivial,trivial⟩,trivial⟩,⟨tO Tryz.t42 (by kernel_rfl) rfl Tryz.underlying42,⟨tO Tryz.t40 (by kernel_rfl) rfl Tryz.underlying40,trivial,trivial⟩,trivial⟩⟩⟩⟩,⟨ti89_ok,⟨tO Tryz.t73 (by kernel_rfl) rfl Tryz.underlying73,⟨tO Tryz.t59 (by kernel_rfl) rfl Tryz.underlying59,⟨tO Tryz.t50 (by kernel_rfl) rfl Tryz.underlying50,⟨tO Tryz.t48 (by kernel_rfl) rfl Tryz.underlying48,trivial,trivial⟩,⟨tO Tryz.t57 (by kernel_rfl) rfl Tryz.underlying57,trivial,trivial⟩⟩,⟨ti70_ok,⟨tO Tryz.t65 (by kernel_rfl) rfl Tryz.underlying65,trivial,trivial⟩,trivial⟩⟩,⟨tO Tryz.t77 (by kernel_rfl) rfl Tryz.underlying77,⟨tO Tryz.t76 (by kernel_rfl) rfl Tryz.underlying76,⟨ti75_ok,trivial,trivial⟩,trivial⟩,⟨tO Tryz.t87 (by kernel_rfl) rfl Tryz.underlying87,⟨tO Tryz.t79 (by kernel_rfl) rfl Tryz.underlying79,trivial,trivial⟩,trivial⟩⟩⟩,⟨tO Tryz.t115 (by kernel_rfl) rfl Tryz.underlying115,⟨tO Tryz.t104 (by kernel_rfl) rfl Tryz.underlying104,⟨tO Tryz.t97 (by kernel_rfl) rfl Tryz.underlying97,⟨tO Tryz.t92 (by kernel_rfl) rfl Tryz.underlying92,trivial,trivial⟩,⟨tO Tryz.t103 (by kernel_rfl) rfl Tryz.underlying103,trivial,trivial⟩⟩,⟨tO Tryz.t109 (by kernel_rfl) rfl Tryz.underlying109,⟨tO Tryz.t107 (by kernel_rfl) rfl Tryz.underlying107,trivial,trivial⟩,trivial⟩⟩,⟨tO Tryz.t127 (by kernel_rfl) rfl Tryz.underlying127,⟨tO Tryz.t126 (by kernel_rfl) rfl Tryz.underlying126,⟨tO Tryz.t116 (by kernel_rfl) rfl Tryz.underlying116,trivial,trivial⟩,trivial⟩,⟨tO Tryz.t131 (by kernel_rfl) rfl Tryz.underlying131,⟨tO Tryz.t130 (by kernel_rfl) rfl Tryz.underlying130,trivial,trivial⟩,trivial⟩⟩⟩⟩⟩,⟨tO Tryz.t213 (by kernel_rfl) rfl Tryz.underlying213,⟨tO Tryz.t174 (by kernel_rfl) rfl Tryz.underlying174,⟨tO Tryz.t157 (by kernel_rfl) rfl Tryz.underlying157,⟨tO Tryz.t147 (by kernel_rfl) rfl Tryz.underlying147,⟨tO Tryz.t137 (by kernel_rfl) rfl Tryz.underlying137,⟨tO Tryz.t135 (by kernel_rfl) rfl Tryz.underlying135,trivial,trivial⟩,⟨tO Tryz.t143 (by kernel_rfl) rfl Tryz.underlying143,trivial,trivial⟩⟩,⟨tO Tryz.t151 (by kernel_rfl) rfl Tryz.underlying151,⟨ti149_ok,trivial,trivial⟩,trivial⟩⟩,⟨tO Tryz.t166 (by kernel_rfl) rfl Tryz.underlying166,⟨tO Tryz.t163 (by kernel_rfl) rfl Tryz.underlying163,⟨tO Tryz.t158 (by kernel_rfl) rfl Tryz.underlying158,trivial,trivial⟩,trivial⟩,⟨tO Tryz.t171 (by kernel_rfl) rfl Tryz.underlying171,⟨tO Tryz.t168 (by kernel_rfl) rfl Tryz.underlying168,trivial,trivial⟩,trivial⟩⟩⟩,⟨tO Tryz.t205 (by kernel_rfl) rfl Tryz.underlying205,⟨tO Tryz.t193 (by kernel_rfl) rfl Tryz.underlying193,⟨tO Tryz.t180 (by kernel_rfl) rfl Tryz.underlying180,⟨tO Tryz.t179 (by kernel_rfl) rfl Tryz.underlying179,trivial,trivial⟩,⟨ti186_ok,trivial,trivial⟩⟩,⟨tO Tryz.t197 (by kernel_rfl) rfl Tryz.underlying197,⟨tO Tryz.t194 (by kernel_rfl) rfl Tryz.underlying194,trivial,trivial⟩,trivial⟩⟩,⟨tO Tryz.t210 (by kernel_rfl) rfl Tryz.underlying210,⟨tO Tryz.t209 (by kernel_rfl) rfl Tryz.underlying209,⟨tO Tryz.t207 (by kernel_rfl) rfl Tryz.underlying207,trivial,trivial⟩,trivial⟩,⟨tO Tryz.t212 (by kernel_rfl) rfl Tryz.underlying212,⟨tO Tryz.t211 (by kernel_rfl) rfl Tryz.underlying211,trivial,trivial⟩,trivial⟩⟩⟩⟩,⟨tO Tryz.t292 (by kernel_rfl) rfl Tryz.underlying292,⟨tO Tryz.t256 (by kernel_rfl) rfl Tryz.underlying256,⟨tO Tryz.t230 (by kernel_rfl) rfl Tryz.underlying230,⟨tO Tryz.t217 (by kernel_rfl) rfl Tryz.underlying217,⟨tO Tryz.t215 (by kernel_rfl) rfl Tryz.underlying215,trivial,trivial⟩,⟨tO Tryz.t229 (by kernel_rfl) rfl Tryz.underlying229,trivial,trivial⟩⟩,⟨tO Tryz.t243 (by kernel_rfl) rfl Tryz.underlying243,⟨tO Tryz.t236 (by kernel_rfl) rfl Tryz.underlying236,trivial,trivial⟩,trivial⟩⟩,⟨tO Tryz.t277 (by kernel_rfl) rfl Tryz.underlying277,⟨tO Tryz.t276 (by kernel_rfl) rfl Tryz.underlying276,⟨tO Tryz.t261 (by kernel_rfl) rfl Tryz.underlying261,trivial,trivial⟩,trivial⟩,⟨tO Tryz.t285 (by kernel_rfl) rfl Tryz.underlying285,⟨tO Tryz.t283 (by kernel_rfl) rfl Tryz.underlying283,trivial,trivial⟩,trivial⟩⟩⟩,⟨tO Tryz.t316 (by kernel_rfl) rfl Tryz.underlying316,⟨tO Tryz.t302 (by kernel_rfl) rfl Tryz.underlying302,⟨tO Tryz.t299 (by kernel_rfl) rfl Tryz.underlying299,⟨tO Tryz.t295 (by kernel_rfl) rfl Tryz.underlying295,trivial,trivial⟩,trivial⟩,⟨tO Tryz.t309 (by kernel_rfl) rfl Tryz.underlying309,⟨tO Tryz.t307 (by kernel_rfl) rfl Tryz.underlying307,trivial,trivial⟩,trivial⟩⟩,⟨tO Tryz.t321 (by kernel_rfl) rfl Tryz.underlying321,⟨ti319_ok,⟨tO Tryz.t317 (by kernel_rfl) rfl Tryz.underlying317,trivial,trivial⟩,trivial⟩,⟨tO Tryz.t326 (by kernel_rfl) rfl Tryz.underlying326,⟨tO Tryz.t325 (by kernel_rfl) rfl Tryz.underlying325,trivial,trivial⟩,trivial⟩⟩⟩⟩⟩⟩
end
end Go.Ab


namespace Go.Proofs.YteceobbkljmbmaaGreatDoor
noncomputable section
open Go Go.Ab
theorem mok : Tryz.prog.follows .mixedOrders = true := by kernel_rfl
abbrev ap (n : Int) : PV := .val (.int .i64 n)
abbrev aN (b : Bool) : PV := .val (.bool b)
structure LVal where
 kind : Int
 int : Int
 text : List UInt8
 deriving DecidableEq
structure LCol where
 name : List UInt8
 kind : Int
 nullable : Bool
 deriving DecidableEq
inductive LExpr where
 | mk (kind : Int) (name : List UInt8) (index : Int) (value : LVal) (args : List LExpr)
def LExpr.kind : LExpr → Int | .mk k _ _ _ _=>k
def LExpr.name : LExpr → List UInt8 | .mk _ n _ _ _=>n
def LExpr.index : LExpr → Int | .mk _ _ i _ _=>i
def LExpr.value : LExpr → LVal | .mk _ _ _ v _=>v
def LExpr.args : LExpr → List LExpr | .mk _ _ _ _ a=>a
structure LEnv where
 cols : List LCol
 row : List LVal
 params : List LVal
 vnames : List (List UInt8)
 vvals : List LVal
def LVal.nul : LVal := ⟨0,0,[]⟩
@[simp] def ae (v : LVal) : List PV := [ap v.kind,ap v.int,.str v.text]
@[simp] def aR (c : LCol) : List PV := [.str c.name,ap c.kind,aN c.nullable]
mutual
def bE : LExpr → List PV
 | .mk k n i v a=>[ap k,.str n,ap i,ap v.kind,ap v.int,.str v.text,.list 92 (qZ a)]
def qZ : List LExpr → List (List PV)
 | []=>[]
 | e :: r=>bE e :: qZ r
end
theorem sm : ∀ l,qZ l = l.map bE
 | []=>rfl
 | e :: r=>by simp [qZ,sm r]
def cu (e : LExpr) : List PV := [ap e.kind,.str e.name,ap e.index,ap e.value.kind,ap e.value.int,.str e.value.text,.list 92 (e.args.map bE)]
theorem bR (e : LExpr) : bE e = cu e := by
 cases e
 simp [bE,cu,sm,LExpr.kind,LExpr.name,LExpr.index,LExpr.value,LExpr.args]
abbrev kp (v : LVal) : PV := .agg (ae v)
abbrev pcol (c : LCol) : PV := .agg (aR c)
abbrev jR (e : LExpr) : PV := .agg (cu e)
abbrev pvals (l : List LVal) : PV := .list 75 (l.map ae)
abbrev jY (l : List LCol) : PV := .list 70 (l.map aR)
abbrev qG (l : List LExpr) : PV := .list 92 (l.map bE)
abbrev pstrs (l : List (List UInt8)) : PV := .list 9 (l.map fun s=>[.str s])
abbrev pints (l : List Int) : PV := .list 3 (l.map fun n=>[ap n])
@[simp] def encEnv (v : LEnv) : List PV := [jY v.cols,pvals v.row,pvals v.params,pstrs v.vnames,pvals v.vvals]
abbrev penv (v : LEnv) : PV := .agg (encEnv v)
theorem tc {l : List LExpr} {j : Nat} (h : j < l.length) : (l.map bE)[((j : Nat) : Int).toNat]? = some (cu l[j]) := by
 simp [h,bR]
def ba {α : Type} (p : α → Bool) (l : List α) : Int := match l.findIdx? p with
 | some i=>i
 | none=>-1
theorem pw {α : Type} {p : α → Bool} {l : List α} {j : Nat} (hlt : j < l.length) (hpre : ∀ x ∈ l.take j,p x = false) (h : p l[j] = true) : ba p l = (j : Int) := by
 have : l.findIdx? p = some j := by
  rw [List.findIdx?_eq_some_iff_getElem]
  refine ⟨hlt,h,fun i hi=>?_⟩
  have := hpre l[i] (List.mem_take_iff_getElem.2 ⟨i,by omega,rfl⟩)
  simp [this]
 simp [ba,this]
theorem kJ {α : Type} {p : α → Bool} {l : List α} (hpre : ∀ x ∈ l,p x = false) : ba p l = -1 := by
 have : l.findIdx? p = none := by
  rw [List.findIdx?_eq_none_iff]
  exact hpre
 simp [ba,this]
theorem pI {α : Type} {p : α → Bool} {l : List α} {j : Nat} (hlt : j < l.length) (hpre : ∀ x ∈ l.take j,p x = false) (h : p l[j] = false) : ∀ x ∈ l.take (j + 1),p x = false := by
 intro x hx
 rw [List.take_add_one,ze hlt] at hx
 simp only [Option.toList,List.mem_append,List.mem_singleton] at hx
 rcases hx with hx | rfl
 ·exact hpre x hx
 ·exact h
theorem bs {n : Int} (h1 : -9223372036854775808 ≤ n) (h2 : n ≤ 9223372036854775807) : IntKind.i64.wrap n = n := by
 simp only [IntKind.wrap,IntKind.bits,IntKind.signed]
 simp
 omega
theorem fD {j : Nat} (h : j < maxLen) : ap (IntKind.i64.wrap ((j : Int) + 1)) = ap ((j + 1 : Nat) : Int) := by
 rw [bs (by omega) (by simp [maxLen] at h; omega)]
 simp
theorem jb {α : Type} {p : α → Bool} {l : List α} : (decide (ba p l ≥ 0)) = l.any p := by
 rw [Bool.eq_iff_iff]
 simp only [decide_eq_true_eq,List.any_eq_true]
 cases h : l.findIdx? p with
 | none =>
  have e : ba p l = -1 := by simp [ba,h]
  rw [List.findIdx?_eq_none_iff] at h
  rw [e]
  constructor
  ·intro h'; omega
  ·rintro ⟨x,hx,hp⟩; rw [h x hx] at hp; cases hp
 | some i =>
  have e : ba p l = (i : Int) := by simp [ba,h]
  rw [List.findIdx?_eq_some_iff_getElem] at h
  rw [e]
  exact ⟨fun _=>⟨_,List.getElem_mem h.1,h.2.1⟩,fun _=>by omega⟩
abbrev Rq := List LVal
abbrev Rz := List (List LVal)
abbrev bT : Int → List PV := fun n=>[ap n]
abbrev rBool : Bool → List PV := fun b=>[aN b]
abbrev kC : List UInt8 → List PV := fun s=>[.str s]
abbrev aq {α : Type} (e : TypeId) (f : α → List PV) : List α → List PV := fun l=>[.list e (l.map f)]
theorem natLt {n : Int} {m j : Nat} (hm : n ≤ 2 ^ 62 ∧ m = n.toNat) (h : decide ((j : Int) < n) = true) : j < (List.range m).length := by
 have := of_decide_eq_true h
 simp
 omega
theorem natGe {n : Int} {m j : Nat} (hm : n ≤ 2 ^ 62 ∧ m = n.toNat) (h : decide ((j : Int) < n) = false) : (List.range m).length ≤ j := by
 have := of_decide_eq_false h
 simp
 omega
theorem natX {m j x : Nat} (h : (List.range m)[j]? = some x) : j = x := by
 have := zg.1 h
 obtain ⟨h1,h2⟩ := this
 simpa using h2
theorem rf {n : Int} {m j : Nat} (hm : n ≤ 2 ^ 62 ∧ m = n.toNat) (h : j < (List.range m).length) : ap (IntKind.i64.wrap ((j : Int) + 1)) = ap ((j + 1 : Nat) : Int) := by
 rw [bs (by omega) (by simp at h; omega)]
 simp
end
end Go.Proofs.YteceobbkljmbmaaGreatDoor

namespace Go.Proofs.YteceobbkljmbmaaGreatDoor
noncomputable section
open Go Go.Ab
attribute [local irreducible] V Ao Gh Eff PH
set_option maxRecDepth 4000
theorem indexCol {g : FuncId} {caps : List PV} {p : LCol → Bool} (xs : List LCol) (hg : ∀ (vs : Array Value) (w : World),(callFunc g vs).run Tryz.prog w = .ok (.enter g vs) w) (hp : ∀ x ∈ xs,aP Tryz.prog g (.agg (aR x) :: caps) (aN (p x))) :
  aP Tryz.prog 129 [.list 70 (xs.map aR),.fn g caps] (ap (ba p xs)) := by
 refine PH.ay Tryz.func129 Tryz.ntmps129 ?_
 repeat (first | refine ak tk rfl ?_ | refine ac ?_ | refine ab ?_ | refine aa ?_ | refine ax ?_)
 refine gz tk 0 rfl rfl fun hl _=>?_
 refine kf (X := Nat) (fun j=>⟨19,upd (upd (upd (upd (fun _=>.any) 0 (.list 70 (xs.map aR))) 1 (.fn g caps)) 7 (ap (xs.map aR).length)) 8 (ap j),fun _=>none,fun _=>none⟩)
  (fun j=>j ≤ xs.length ∧ ∀ x ∈ xs.take j,p x = false) (fun j=>xs.length - j) 0 ⟨Nat.zero_le _,by simp⟩ (Gh.le (aB (aB (aB (aB bt)))) aT aS) ?_
 rintro j ⟨hj,hpre⟩
 repeat (first | refine ak tk rfl ?_ | refine ac ?_ | refine ab ?_ | refine aa ?_)
 refine bA rfl (fun h=>?_) (fun h=>?_)
 ·have hlt : j < xs.length := by simpa using h
  have hget : xs[j]? = some xs[j] := ze hlt
  repeat (first | refine ak tk rfl ?_ | refine ac ?_ | refine ab ?_ | refine aa ?_ | refine av ?_ | refine ax ?_)
  refine pM tk rfl rfl rfl rfl rfl rfl (zn j) (r := aR xs[j]) (by simp [hget]) rfl ?_
  repeat (refine ak tk rfl ?_)
  refine ao hg (jp.r) (hp xs[j] (List.getElem_mem hlt)) ?_
  repeat (refine ac ?_)
  refine bA rfl (fun h=>?_) (fun h=>?_)
  ·repeat (first | refine ak tk rfl ?_ | refine ac ?_ | refine ab ?_ | refine aa ?_)
   refine cR tk (PLe.q ?_)
   rw [pw hlt hpre h]
  ·repeat (first | refine ak tk rfl ?_ | refine ac ?_ | refine aa ?_ | refine av ?_ | refine aL ?_)
   refine kR (j + 1) (by omega) ⟨hlt,?_⟩ (Gh.le (bO (PLe.q ?_) (aB (aB (aB bt)))) aT aS)
   ·exact pI hlt hpre h
   ·exact fD (by simp at hl; omega)
 ·have hge : j = xs.length := by have : ¬ j < xs.length := by simpa using h
                                 omega
  repeat (first | refine ak tk rfl ?_ | refine ac ?_ | refine ab ?_ | refine aa ?_ | refine br rfl ?_)
  refine cR tk (PLe.q ?_)
  rw [kJ (by rw [hge] at hpre; simpa using hpre)]
theorem indexVal {g : FuncId} {caps : List PV} {p : LVal → Bool} (xs : Rq) (hg : ∀ (vs : Array Value) (w : World),(callFunc g vs).run Tryz.prog w = .ok (.enter g vs) w) (hp : ∀ x ∈ xs,aP Tryz.prog g (.agg (ae x) :: caps) (aN (p x))) :
  aP Tryz.prog 228 [.list 75 (xs.map ae),.fn g caps] (ap (ba p xs)) := by
 refine PH.ay Tryz.func228 Tryz.ntmps228 ?_
 repeat (first | refine ak tk rfl ?_ | refine ac ?_ | refine ab ?_ | refine aa ?_ | refine ax ?_)
 refine gz tk 0 rfl rfl fun hl _=>?_
 refine kf (X := Nat) (fun j=>⟨19,upd (upd (upd (upd (fun _=>.any) 0 (.list 75 (xs.map ae))) 1 (.fn g caps)) 7 (ap (xs.map ae).length)) 8 (ap j),fun _=>none,fun _=>none⟩)
  (fun j=>j ≤ xs.length ∧ ∀ x ∈ xs.take j,p x = false) (fun j=>xs.length - j) 0 ⟨Nat.zero_le _,by simp⟩ (Gh.le (aB (aB (aB (aB bt)))) aT aS) ?_
 rintro j ⟨hj,hpre⟩
 repeat (first | refine ak tk rfl ?_ | refine ac ?_ | refine ab ?_ | refine aa ?_)
 refine bA rfl (fun h=>?_) (fun h=>?_)
 ·have hlt : j < xs.length := by simpa using h
  have hget : xs[j]? = some xs[j] := ze hlt
  repeat (first | refine ak tk rfl ?_ | refine ac ?_ | refine ab ?_ | refine aa ?_ | refine av ?_ | refine ax ?_)
  refine pM tk rfl rfl rfl rfl rfl rfl (zn j) (r := ae xs[j]) (by simp [hget]) rfl ?_
  repeat (refine ak tk rfl ?_)
  refine ao hg (jp.r) (hp xs[j] (List.getElem_mem hlt)) ?_
  repeat (refine ac ?_)
  refine bA rfl (fun h=>?_) (fun h=>?_)
  ·repeat (first | refine ak tk rfl ?_ | refine ac ?_ | refine ab ?_ | refine aa ?_)
   refine cR tk (PLe.q ?_)
   rw [pw hlt hpre h]
  ·repeat (first | refine ak tk rfl ?_ | refine ac ?_ | refine aa ?_ | refine av ?_ | refine aL ?_)
   refine kR (j + 1) (by omega) ⟨hlt,?_⟩ (Gh.le (bO (PLe.q ?_) (aB (aB (aB bt)))) aT aS)
   ·exact pI hlt hpre h
   ·exact fD (by simp at hl; omega)
 ·have hge : j = xs.length := by have : ¬ j < xs.length := by simpa using h
                                 omega
  repeat (first | refine ak tk rfl ?_ | refine ac ?_ | refine ab ?_ | refine aa ?_ | refine br rfl ?_)
  refine cR tk (PLe.q ?_)
  rw [kJ (by rw [hge] at hpre; simpa using hpre)]
theorem da {g : FuncId} {caps : List PV} {p : LVal → Bool} (xs : Rq) (hg : ∀ (vs : Array Value) (w : World),(callFunc g vs).run Tryz.prog w = .ok (.enter g vs) w) (hp : ∀ x ∈ xs,aP Tryz.prog g (.agg (ae x) :: caps) (aN (p x))) :
  aP Tryz.prog 201 [.list 75 (xs.map ae),.fn g caps] (aN (xs.any p)) := by
 refine PH.ay Tryz.func201 Tryz.ntmps201 ?_
 repeat (first | refine ak tk rfl ?_ | refine ac ?_ | refine ab ?_ | refine aa ?_)
 refine ao Tryz.call228 (jp.r) (indexVal xs hg hp) ?_
 repeat (first | refine ak tk rfl ?_ | refine ac ?_)
 refine cR tk (PLe.q ?_)
 rw [jb]
theorem indexInt {g : FuncId} {caps : List PV} {p : Int → Bool} (xs : List Int) (hg : ∀ (vs : Array Value) (w : World),(callFunc g vs).run Tryz.prog w = .ok (.enter g vs) w) (hp : ∀ x ∈ xs,aP Tryz.prog g (ap x :: caps) (aN (p x))) :
  aP Tryz.prog 234 [.list 3 (xs.map fun x=>[ap x]),.fn g caps] (ap (ba p xs)) := by
 refine PH.ay Tryz.func234 Tryz.ntmps234 ?_
 repeat (first | refine ak tk rfl ?_ | refine ac ?_ | refine ab ?_ | refine aa ?_ | refine ax ?_)
 refine gz tk 0 rfl rfl fun hl _=>?_
 refine kf (X := Nat) (fun j=>⟨19,upd (upd (upd (upd (fun _=>.any) 0 (.list 3 (xs.map fun x=>[ap x]))) 1 (.fn g caps)) 7 (ap (xs.map fun x=>[ap x]).length)) 8 (ap j),fun _=>none,fun _=>none⟩)
  (fun j=>j ≤ xs.length ∧ ∀ x ∈ xs.take j,p x = false) (fun j=>xs.length - j) 0 ⟨Nat.zero_le _,by simp⟩ (Gh.le (aB (aB (aB (aB bt)))) aT aS) ?_
 rintro j ⟨hj,hpre⟩
 repeat (first | refine ak tk rfl ?_ | refine ac ?_ | refine ab ?_ | refine aa ?_)
 refine bA rfl (fun h=>?_) (fun h=>?_)
 ·have hlt : j < xs.length := by simpa using h
  have hget : xs[j]? = some xs[j] := ze hlt
  repeat (first | refine ak tk rfl ?_ | refine ac ?_ | refine ab ?_ | refine aa ?_ | refine av ?_ | refine ax ?_)
  refine pM tk rfl rfl rfl rfl rfl rfl (zn j) (r := [ap xs[j]]) (by simp [hget]) rfl ?_
  repeat (refine ak tk rfl ?_)
  refine ao hg (jp.r) (hp xs[j] (List.getElem_mem hlt)) ?_
  repeat (refine ac ?_)
  refine bA rfl (fun h=>?_) (fun h=>?_)
  ·repeat (first | refine ak tk rfl ?_ | refine ac ?_ | refine ab ?_ | refine aa ?_)
   refine cR tk (PLe.q ?_)
   rw [pw hlt hpre h]
  ·repeat (first | refine ak tk rfl ?_ | refine ac ?_ | refine aa ?_ | refine av ?_ | refine aL ?_)
   refine kR (j + 1) (by omega) ⟨hlt,?_⟩ (Gh.le (bO (PLe.q ?_) (aB (aB (aB bt)))) aT aS)
   ·exact pI hlt hpre h
   ·exact fD (by simp at hl; omega)
 ·have hge : j = xs.length := by have : ¬ j < xs.length := by simpa using h
                                 omega
  repeat (first | refine ak tk rfl ?_ | refine ac ?_ | refine ab ?_ | refine aa ?_ | refine br rfl ?_)
  refine cR tk (PLe.q ?_)
  rw [kJ (by rw [hge] at hpre; simpa using hpre)]
theorem containsInt {g : FuncId} {caps : List PV} {p : Int → Bool} (xs : List Int) (hg : ∀ (vs : Array Value) (w : World),(callFunc g vs).run Tryz.prog w = .ok (.enter g vs) w) (hp : ∀ x ∈ xs,aP Tryz.prog g (ap x :: caps) (aN (p x))) :
  aP Tryz.prog 211 [.list 3 (xs.map fun x=>[ap x]),.fn g caps] (aN (xs.any p)) := by
 refine PH.ay Tryz.func211 Tryz.ntmps211 ?_
 repeat (first | refine ak tk rfl ?_ | refine ac ?_ | refine ab ?_ | refine aa ?_)
 refine ao Tryz.call234 (jp.r) (indexInt xs hg hp) ?_
 repeat (first | refine ak tk rfl ?_ | refine ac ?_)
 refine cR tk (PLe.q ?_)
 rw [jb]
theorem cG (s : List UInt8) (xs : List (List UInt8)) :
  aP Tryz.prog 169 [pstrs xs,.str s] (ap (ba (fun x=>s == x) xs)) := by
 refine PH.ay Tryz.func169 Tryz.ntmps169 ?_
 repeat (first | refine ak tk rfl ?_ | refine ac ?_ | refine ab ?_ | refine aa ?_ | refine ax ?_)
 refine gz tk 0 rfl rfl fun hl _=>?_
 refine kf (X := Nat) (fun j=>⟨19,upd (upd (upd (upd (fun _=>.any) 0 (pstrs xs)) 1 (.str s)) 7 (ap (xs.map fun s=>[PV.str s]).length)) 8 (ap j),fun _=>none,fun _=>none⟩)
  (fun j=>j ≤ xs.length ∧ ∀ x ∈ xs.take j,(s == x) = false) (fun j=>xs.length - j) 0 ⟨Nat.zero_le _,by simp⟩ (Gh.le (aB (aB (aB (aB bt)))) aT aS) ?_
 rintro j ⟨hj,hpre⟩
 repeat (first | refine ak tk rfl ?_ | refine ac ?_ | refine ab ?_ | refine aa ?_)
 refine bA rfl (fun h=>?_) (fun h=>?_)
 ·have hlt : j < xs.length := by simpa using h
  have hget : xs[j]? = some xs[j] := ze hlt
  repeat (first | refine ak tk rfl ?_ | refine ac ?_ | refine ab ?_ | refine aa ?_ | refine av ?_ | refine ax ?_)
  refine pM tk rfl rfl rfl rfl rfl rfl (zn j) (r := [.str xs[j]]) (by simp [hget]) rfl ?_
  repeat (first | refine ak tk rfl ?_ | refine ac ?_)
  refine bA rfl (fun h=>?_) (fun h=>?_)
  ·repeat (first | refine ak tk rfl ?_ | refine ac ?_ | refine ab ?_ | refine aa ?_)
   refine cR tk (PLe.q ?_)
   rw [pw hlt hpre h]
  ·repeat (first | refine ak tk rfl ?_ | refine ac ?_ | refine aa ?_ | refine av ?_ | refine aL ?_)
   refine kR (j + 1) (by omega) ⟨hlt,?_⟩ (Gh.le (bO (PLe.q ?_) (aB (aB (aB bt)))) aT aS)
   ·exact pI (p := fun x=>s == x) hlt hpre h
   ·exact fD (by simp at hl; omega)
 ·have hge : j = xs.length := by have : ¬ j < xs.length := by simpa using h
                                 omega
  repeat (first | refine ak tk rfl ?_ | refine ac ?_ | refine ab ?_ | refine aa ?_ | refine br rfl ?_)
  refine cR tk (PLe.q ?_)
  rw [kJ (by rw [hge] at hpre; simpa using hpre)]
def eR (v : LVal) : Bool :=
 if v.kind = 0 then decide (v = ⟨0,0,[]⟩) else if v.kind = 1 then v.text == [] && decide (v.int ≥ -1000000000000) && decide (v.int ≤ 1000000000000)
 else if v.kind = 2 then v.text == [] && (v.int == 0 || v.int == 1) else if v.kind = 3 then v.int == 0 && decide (v.text.length ≤ 24) else false
theorem uh (v : LVal) : aP Tryz.prog 30 [kp v] (aN (eR v)) := by
 refine PH.ay Tryz.func30 Tryz.ntmps30 ?_
 repeat' (first | refine ak tk rfl ?_ | refine ac ?_ | refine ab ?_ | refine aa ?_ | refine av ?_ | refine ax ?_ | refine aL ?_ | refine aI ?_ | refine bA rfl (fun h=>?_) (fun h=>?_) | ((fail_if_success refine gc rfl ?_); refine gE rfl rfl rfl (fun h=>?_) (fun h=>?_)))
 all_goals refine cR tk (PLe.q ?_)
 all_goals cases v
 all_goals simp_all [eR]
 ·rename_i x _
  rw [Bool.eq_iff_iff]
  cases x <;> simp
 ·omega
 ·omega
def lX (a b : LVal) : Bool :=
 if a.kind ≠ b.kind then decide (a.kind < b.kind) else if a.int ≠ b.int then decide (a.int < b.int) else Op.bytesLess a.text b.text
theorem mE (a b : LVal) : aP Tryz.prog 206 [kp a,kp b] (aN (lX a b)) := by
 refine PH.ay Tryz.func206 Tryz.ntmps206 ?_
 repeat' (first | refine ak tk rfl ?_ | refine ac ?_ | refine ab ?_ | refine aa ?_ | refine av ?_ | refine ax ?_ | refine aL ?_ | refine aI ?_ | refine bA rfl (fun h=>?_) (fun h=>?_))
 all_goals refine cR tk (PLe.q ?_)
 all_goals simp_all [lX]
def dD (v : LVal) : Bool := v.kind == 2 && v.int == 1
theorem isTS (v : LVal) : aP Tryz.prog 52 [kp v] (aN (dD v)) := by
 refine PH.ay Tryz.func52 Tryz.ntmps52 ?_
 repeat' (first | refine ak tk rfl ?_ | refine ac ?_ | refine ab ?_ | refine aa ?_ | refine aI ?_ | ((fail_if_success refine gc rfl ?_); refine gE rfl rfl rfl (fun h=>?_) (fun h=>?_)))
 all_goals refine cR tk (PLe.q ?_)
 all_goals simp_all [dD]
def lU (b : Bool) : LVal := ⟨2,if b then 1 else 0,[]⟩
theorem mO (b : Bool) : aP Tryz.prog 191 [aN b] (kp (lU b)) := by
 refine PH.ay Tryz.func191 Tryz.ntmps191 ?_
 repeat' (first | refine ak tk rfl ?_ | refine ac ?_ | refine ab ?_ | refine aa ?_ | refine av ?_ | (refine fT tk rfl rfl rfl rfl rfl rfl ?_; intro bk) | refine au tk ?_ | refine bA rfl (fun h=>?_) (fun h=>?_))
 all_goals refine ct tk (PLe.q ?_)
 all_goals simp_all [lU]
def intV (n : Int) : LVal := if n < -1000000000000 ∨ n > 1000000000000 then .nul else ⟨1,n,[]⟩
theorem ss (n : Int) : aP Tryz.prog 192 [ap n] (kp (intV n)) := by
 refine PH.ay Tryz.func192 Tryz.ntmps192 ?_
 repeat' (first | refine ak tk rfl ?_ | refine ac ?_ | refine ab ?_ | refine aa ?_ | refine av ?_ | refine bW rfl ?_ | (refine fT tk rfl rfl rfl rfl rfl rfl ?_; intro bk) | refine au tk ?_ | refine bA rfl (fun h=>?_) (fun h=>?_) | ((fail_if_success refine gc rfl ?_); refine gE rfl rfl rfl (fun h=>?_) (fun h=>?_)))
 all_goals refine ct tk (PLe.q ?_)
 all_goals simp_all [intV,LVal.nul]
 all_goals (rw [zy (by omega)]; try simp)
def wr (n : Int) : Int := IntKind.i64.wrap n
def po (op : List UInt8) (a b : Int) : LVal :=
 if op = [43] then intV (wr (a + b)) else if op = [45] then intV (wr (a - b)) else if a = 0 ∨ b = 0 then intV 0
 else if wr ((wr (a * b)).tdiv b) = a then intV (wr (a * b)) else .nul
theorem numberV_spec (op : List UInt8) (a b : Int) : aP Tryz.prog 231 [.str op,ap a,ap b] (kp (po op a b)) := by
 refine PH.ay Tryz.func231 Tryz.ntmps231 ?_
 repeat' (first | refine ak tk rfl ?_ | refine ac ?_ | refine ab ?_ | refine aa ?_ | refine av ?_ | refine bW rfl ?_ | refine ax ?_ | refine aL ?_ | (refine fT tk rfl rfl rfl rfl rfl rfl ?_; intro bk) | refine au tk ?_ | refine bA rfl (fun h=>?_) (fun h=>?_) | ((fail_if_success refine gc rfl ?_); refine gE rfl rfl rfl (fun h=>?_) (fun h=>?_)) | (show Ao _ _ _ _ _; first | refine ao Tryz.call192 (jp.r) (ss _) ?_))
 case refine_2.refine_2.refine_2.refine_2 =>
  refine Ao.quo tk rfl rfl rfl rfl (by simpa using h) rfl ?_
  repeat' (first | refine ak tk rfl ?_ | refine ac ?_ | refine ab ?_ | refine aa ?_ | refine av ?_ | refine au tk ?_ | refine bA rfl (fun h=>?_) (fun h=>?_) | (show Ao _ _ _ _ _; first | refine ao Tryz.call192 (jp.r) (ss _) ?_))
  all_goals refine ct tk (PLe.q ?_)
  all_goals simp_all [po,wr,LVal.nul]
 all_goals refine ct tk (PLe.q ?_)
 all_goals simp_all [po,wr]
end
end Go.Proofs.YteceobbkljmbmaaGreatDoor

namespace Go.Proofs.YteceobbkljmbmaaGreatDoor
noncomputable section
open Go Go.Ab
attribute [local irreducible] V Ao Do Gh Eff PH IntKind.wrap
set_option maxRecDepth 4000
theorem dT (v : LVal) : aP Tryz.prog 202 [kp v] (aN (v.kind == 0)) := by
 refine PH.ay Tryz.func202 Tryz.ntmps202 ?_
 repeat' (first | refine ak tk rfl ?_ | refine ac ?_ | refine ab ?_ | refine aa ?_ | refine aI ?_)
 all_goals refine cR tk (PLe.q rfl)
theorem bothIs_spec (v : LVal) (n : Int) : aP Tryz.prog 227 [kp v,ap n] (aN (v.kind == 2 && v.int == n)) := by
 refine PH.ay Tryz.func227 Tryz.ntmps227 ?_
 repeat' (first | refine ak tk rfl ?_ | refine ac ?_ | refine ab ?_ | refine aa ?_ | refine aI ?_ | ((fail_if_success refine gc rfl ?_); refine gE rfl rfl rfl (fun h=>?_) (fun h=>?_)))
 all_goals refine cR tk (PLe.q ?_)
 all_goals simp_all
theorem uB (v : LVal) (n : Int) : aP Tryz.prog 230 [kp v,.ptr [ap n]] (aN (v.kind != n)) := by
 refine PH.ay Tryz.func230 Tryz.ntmps230 ?_
 repeat' (first | refine ak tk rfl ?_ | refine ac ?_ | refine ab ?_ | refine aa ?_ | refine aI ?_)
 all_goals refine cR tk (PLe.q rfl)
theorem ly (n : Int) (l : Rq) : aP Tryz.prog 229 [ap n,.ptr [pvals l]] (aN (!(l.any fun v=>v.kind != n))) := by
 refine PH.ay Tryz.func229 Tryz.ntmps229 ?_
 repeat' (first | refine ak tk rfl ?_ | refine ac ?_ | refine ab ?_ | refine aa ?_ | refine aI ?_ | (show Ao _ _ _ _ _; first | refine ao Tryz.call201 (jp.r) (da (p := fun v=>v.kind != n) l Tryz.call230 fun v _=>uB v n) ?_))
 all_goals refine cR tk (PLe.q rfl)
def de : List (List UInt8) := [[43],[45],[42],[61],[60],[60,61],[97,110,100],[111,114],[110,111,116],[124,124],[105,115,32,110,117,108,108],[108,101,110,103,116,104],[105,102]]
def opArity : List Int := [2,2,2,2,2,2,2,2,1,2,1,1,3]
theorem gU : aP Tryz.prog 199 [] (.tup [pstrs de,pints opArity]) := by
 refine PH.ay Tryz.func199 Tryz.ntmps199 ?_
 repeat (first | refine ak tk rfl ?_ | refine ac ?_ | refine ab ?_ | refine aa ?_ | refine sv tk rfl rfl rfl rfl rfl rfl ?_)
 refine vf tk rfl rfl rfl (PLe.q ?_)
 rfl
def qe (a b : LVal) (d : Int) : LVal :=
 if (a.kind == 2 && a.int == d) || (b.kind == 2 && b.int == d) then lU (d == 1)
 else if (a.kind == 2 && a.int == wr (1 - d)) && (b.kind == 2 && b.int == wr (1 - d)) then lU (d == 0) else .nul
theorem bothV_spec (a b : LVal) (d : Int) : aP Tryz.prog 200 [kp a,kp b,ap d] (kp (qe a b d)) := by
 refine PH.ay Tryz.func200 Tryz.ntmps200 ?_
 repeat' (first | refine ak tk rfl ?_ | refine ac ?_ | refine ab ?_ | refine aa ?_ | refine av ?_ | refine bW rfl ?_ | refine bD rfl ?_ | refine ax ?_ | refine aL ?_ | refine aI ?_ | (refine fT tk rfl rfl rfl rfl rfl rfl ?_; intro bk) | refine au tk ?_ | refine bA rfl (fun h=>?_) (fun h=>?_) | ((fail_if_success refine gc rfl ?_); refine gE rfl rfl rfl (fun h=>?_) (fun h=>?_)) | (show Ao _ _ _ _ _; first | refine ao Tryz.call227 (jp.r) (bothIs_spec _ _) ?_ | refine ao Tryz.call191 (jp.r) (mO _) ?_))
 all_goals refine ct tk (PLe.q ?_)
 all_goals (simp only [qe,wr, *,Bool.or_true,Bool.true_or,Bool.or_self,Bool.and_self,Bool.and_false,Bool.false_and,Bool.false_eq_true,if_true,if_false]; try rfl)
def jj (n : Int) (l : Rq) : Bool := !(l.any fun v=>v.kind != n)
def iW (op : List UInt8) (l : Rq) : LVal :=
 let a := l.getD 0 .nul
 let b := l.getD 1 .nul
 if op == [61] then lU (decide (a = b)) else if op == [60] then lU (lX a b) else if op == [60,61] then lU (!lX b a)
 else if op == [110,111,116] then (if jj 2 l then lU (a.int == 0) else .nul)
 else if op == [108,101,110,103,116,104] then (if jj 3 l then intV a.text.length else .nul)
 else if op == [124,124] then (if jj 3 l && decide (a.text.length + b.text.length ≤ 24) then ⟨3,0,a.text ++ b.text⟩ else .nul)
 else if jj 1 l then po op a.int b.int else .nul
theorem valEq (a b : LVal) : (a.kind == b.kind && (a.int == b.int && (a.text == b.text && true))) = decide (a = b) := by
 cases a; cases b
 rw [Bool.eq_iff_iff]
 simp
theorem tV (op : List UInt8) (a : LVal) (hop : op = [110,111,116] ∨ op = [108,101,110,103,116,104]) : aP Tryz.prog 203 [.str op,pvals [a]] (kp (iW op [a])) := by
 rcases hop with rfl | rfl
 ·refine PH.ay Tryz.func203 Tryz.ntmps203 ?_
  repeat' (first | refine ak tk rfl ?_ | refine ac ?_ | refine ab ?_ | refine aa ?_ | refine av ?_ | refine bW rfl ?_ | refine bD rfl ?_ | refine ax ?_ | refine aL ?_ | refine aI ?_ | (refine fT tk rfl rfl rfl rfl rfl rfl ?_; intro bk) | refine au tk ?_ | refine bA rfl (fun h=>?_) (fun h=>?_) | (show Ao _ _ _ _ _; first | refine ao Tryz.call229 (jp.r) (ly _ _) ?_ | refine ao Tryz.call191 (jp.r) (mO _) ?_))
  all_goals refine ct tk (PLe.q ?_)
  all_goals simp_all [iW,LVal.nul,jj]
 ·refine PH.ay Tryz.func203 Tryz.ntmps203 ?_
  repeat' (first | refine ak tk rfl ?_ | refine ac ?_ | refine ab ?_ | refine aa ?_ | refine av ?_ | refine bW rfl ?_ | refine bD rfl ?_ | refine ax ?_ | refine aL ?_ | refine aI ?_ | (refine fT tk rfl rfl rfl rfl rfl rfl ?_; intro bk) | refine au tk ?_ | refine bA rfl (fun h=>?_) (fun h=>?_) | (show Ao _ _ _ _ _; first | refine ao Tryz.call229 (jp.r) (ly _ _) ?_ | refine ao Tryz.call192 (jp.r) (ss _) ?_))
  all_goals refine ct tk (PLe.q ?_)
  all_goals simp_all [iW,LVal.nul,jj]
theorem jU (op : List UInt8) (a b : LVal) (h1 : (op == [110,111,116]) = false) (h2 : (op == [108,101,110,103,116,104]) = false) : aP Tryz.prog 203 [.str op,pvals [a,b]] (kp (iW op [a,b])) := by
 refine PH.ay Tryz.func203 Tryz.ntmps203 ?_
 refine V.textF 1 rfl fun hq=>?_
 have ha : a.text.length ≤ im := hq (ae a) (by simp) _ (by simp)
 have hb : b.text.length ≤ im := hq (ae b) (by simp) _ (by simp)
 clear hq
 repeat' (first | (show Ao _ _ _ _ _; first | refine ak tk rfl ?_ | refine ac ?_ | refine aI ?_ | (refine fT tk rfl rfl rfl rfl rfl rfl ?_; intro bk) | refine au tk ?_ | refine ao Tryz.call229 (jp.r) (ly _ _) ?_ | refine ao Tryz.call191 (jp.r) (mO _) ?_) | (show V _ _ _ _ _; first | refine ab ?_ | refine aa ?_ | refine av ?_ | refine bD rfl ?_ | refine ax ?_ | refine aL ?_ | (show V _ _ _ (.code (.region 6 _ true) :: _) _; refine bp tk mok ⟨false,false,[]⟩ [0,1,2,3,4,5,6,7,8] rfl (by decide +kernel) rfl ?_) | (show V _ _ _ (.code (.region 8 _ true) :: _) _; refine bp tk mok ⟨false,false,[]⟩ [0,1,2,3,4,5,6,7,8] rfl (by decide +kernel) rfl ?_) | (show V _ _ _ (.code (.region 10 _ true) :: _) _; refine bp tk mok ⟨false,false,[]⟩ [0,1,2,3,4,5,6,7,8,9] rfl (by decide +kernel) rfl ?_) | (show V _ _ _ (.code (.region 18 _ true) :: _) _; refine bp tk mok ⟨false,false,[]⟩ [0,1,2,3,4,5,6,7,8,9,10,11,12,13,14,15] rfl (by decide +kernel) rfl ?_) | (show V _ _ _ (.code (.region 19 _ true) :: _) _; refine bp tk mok ⟨false,false,[]⟩ [0,1,2,3,4,5,6,7,8,9,10] rfl (by decide +kernel) rfl ?_) | (show V _ _ _ (.code (.region 4 _ true) :: _) _; refine bp tk mok ⟨false,false,[]⟩ [0,1,2,3,4,5,6,7,8,9,10] rfl (by decide +kernel) rfl ?_) | refine bA rfl (fun h=>?_) (fun h=>?_)) | (show Do _ _ _ _ _ _ _; first | refine bK rfl ?_ | refine bg ?_ | refine ce ?_ | refine aY Tryz.call229 (jp.r) (ly _ _) ?_ | refine aY Tryz.call191 (jp.r) (mO _) ?_ | refine aY Tryz.call206 (jp.r) (mE _ _) ?_ | refine aY Tryz.call231 (jp.r) (numberV_spec _ _ _) ?_ | ((fail_if_success refine mT rfl rfl ?_); refine nC rfl rfl rfl rfl (fun h=>?_) (fun h=>?_))))
 all_goals have hw : IntKind.i64.wrap ((a.text.length : Int) + (b.text.length : Int)) = (a.text.length : Int) + (b.text.length : Int) := bs (by omega) (by unfold im at ha hb; omega)
 all_goals try (exfalso; simp_all; done)
 case refine_2.refine_2.refine_2.refine_2.refine_2.refine_1.refine_1.refine_1 =>
  have hc : a.text.length + b.text.length ≤ 24 := by
   simp only [decide_eq_true_eq] at h
   have : IntKind.i64.wrap ((a.text.length : Int) + (b.text.length : Int)) ≤ 24 := h
   omega
  refine Do.cat rfl rfl rfl rfl rfl (by unfold im; omega) rfl ?_
  repeat (first | refine bK rfl ?_ | refine bg ?_ | refine ce ?_)
  refine ct tk (PLe.q ?_)
  simp_all [iW,jj]
 all_goals refine ct tk (PLe.q ?_)
 all_goals try simp only [valEq]
 case refine_2.refine_2.refine_2.refine_2.refine_2.refine_1.refine_1.refine_2 =>
  rw [hw] at h
  have hc : ¬ a.text.length + b.text.length ≤ 24 := by
   simp only [decide_eq_false_iff_not] at h
   omega
  simp_all [iW,jj,LVal.nul]
  rw [zy (by omega)]
  exact ⟨rfl,rfl,rfl⟩
 case refine_2.refine_2.refine_2.refine_2.refine_2.refine_1.refine_2 =>
  simp_all [iW,jj,LVal.nul]
  rw [zy (fun hh=>h hh.1.1 hh.1.2)]
  exact ⟨rfl,rfl,rfl⟩
 case refine_2.refine_2.refine_2.refine_2.refine_2.refine_2.refine_2 =>
  simp_all [iW,jj,LVal.nul]
  rw [zy (fun hh=>h hh.1 hh.2)]
  exact ⟨rfl,rfl,rfl⟩
 all_goals simp_all [iW,jj,LVal.nul]
def bQ (name : List UInt8) : Option Nat :=
 if name == [43] || name == [45] || name == [42] || name == [61] || name == [60] || name == [60,61] || name == [97,110,100] || name == [111,114] || name == [124,124] then some 2
 else if name == [110,111,116] || name == [105,115,32,110,117,108,108] || name == [108,101,110,103,116,104] then some 1
 else if name == [105,102] then some 3 else none
def bG (name : List UInt8) (l : Rq) : LVal :=
 let a := l.getD 0 .nul
 let b := l.getD 1 .nul
 let c := l.getD 2 .nul
 if bQ name ≠ some l.length then .nul
 else if name == [105,115,32,110,117,108,108] then lU (a.kind == 0)
 else if name == [105,102] then (if dD a then b else c)
 else if name == [97,110,100] then qe a b 0
 else if name == [111,114] then qe a b 1
 else if l.any (fun v=>v.kind == 0) then .nul else iW name l
mutual
def bP (v : LEnv) : LExpr → LVal
 | .mk k n i x args =>
  if k == 1 then x
  else if k == 2 then (let j := ba (fun c : LCol=>c.name == n) v.cols
   if 0 ≤ j ∧ j < v.row.length then v.row.getD j.toNat .nul else .nul)
  else if k == 3 then (if 0 ≤ i ∧ i < v.params.length ∧ (v.params.getD i.toNat .nul).kind = x.kind then v.params.getD i.toNat .nul else .nul)
  else if k == 4 then (let j := ba (fun s : List UInt8=>n == s) v.vnames
   if 0 ≤ j ∧ j < v.vvals.length then v.vvals.getD j.toNat .nul else .nul)
  else if k == 5 then bG n (evalEs v args)
  else .nul
def evalEs (v : LEnv) : List LExpr → Rq
 | []=>[]
 | e :: r=>bP v e :: evalEs v r
end
theorem evalEs_map (v : LEnv) : ∀ l,evalEs v l = l.map (bP v)
 | []=>rfl
 | e :: r=>by simp [evalEs,evalEs_map v r]
theorem ic {α : Type} : ∀ {l : List α},l.length = 2 → ∃ a b,l = [a,b]
 | [a,b],_=>⟨a,b,rfl⟩
theorem len3 {α : Type} : ∀ {l : List α},l.length = 3 → ∃ a b c,l = [a,b,c]
 | [a,b,c],_=>⟨a,b,c,rfl⟩
theorem evalRows {v : LEnv} {args : List LExpr} {j : Nat} (h : j < args.length) : ((args.take j).map (bP v)).map ae ++ [ae (bP v args[j])] = ((args.take (j + 1)).map (bP v)).map ae := by
 rw [List.take_add_one,ze h]
 simp only [List.map_append,Option.toList,List.map_cons,List.map_nil]
theorem reckon_spec (v : LEnv) (e : LExpr)
  (ih : ∀ a ∈ e.args,aP Tryz.prog 120 [penv v,jR a] (kp (bP v a))) :
  aP Tryz.prog 170 [penv v,jR e] (kp (bG e.name (e.args.map (bP v)))) := by
 refine PH.ay Tryz.func170 Tryz.ntmps170 ?_
 repeat (first | refine ak tk rfl ?_ | refine ac ?_ | refine ab ?_ | refine aa ?_ | refine ax ?_ | refine aI ?_ | (refine fT tk rfl rfl rfl rfl rfl rfl ?_; intro bk))
 refine gz tk 12 rfl rfl fun hl hby=>?_
 rw [zl] at hl hby
 have hby' : e.args.length * 88 ≤ 2 ^ 47 := hby
 refine iI tk 5 5 (e := 75) rfl rfl ?_
 refine kf (X := Nat × OwnRef) (fun X=>⟨92,upd (upd (upd (upd (upd (upd (upd (fun _=>.any) 5 (.own 5 X.2 (((e.args.take X.1).map (bP v)).map ae).length)) 4 (.box 4 bk 0)) 3 (.ptr (cu e))) 2 (.ptr (encEnv v))) 12 (qG e.args)) 13 (ap (e.args.map bE).length)) 14 (ap X.1),upd (fun _=>none) 4 (some ⟨bk,ae .nul⟩),upd (fun _=>none) 5 (some ⟨X.2,75,((e.args.take X.1).map (bP v)).map ae,true⟩)⟩)
  (fun X=>X.1 ≤ e.args.length) (fun X=>e.args.length - X.1) (0,⟨none,0⟩) (Nat.zero_le _) (Gh.le (aB (aB (aB (aB (aB (aB (aB bt))))))) (bJ rfl (jp.r) aT) (bI aS)) ?_
 rintro ⟨j,g⟩ hj
 replace hj : j ≤ e.args.length := hj
 repeat (first | refine ak tk rfl ?_ | refine ac ?_ | refine ab ?_ | refine aa ?_)
 refine bA rfl (fun h=>?_) (fun h=>?_)
 ·have hlt : j < e.args.length := by simpa using h
  repeat (first | refine ab ?_ | refine aa ?_ | refine av ?_ | refine ax ?_)
  refine aV tk (zn j) (tc hlt) ?_
  repeat (first | refine ak tk rfl ?_ | refine ac ?_ | refine aa ?_ | refine aA tk ?_ | (refine fT tk rfl rfl rfl rfl rfl rfl ?_; intro bk) | refine au tk ?_)
  refine ao Tryz.call120 (jp.r) (ih _ (List.getElem_mem hlt)) ?_
  repeat (refine sv tk rfl rfl rfl rfl rfl rfl ?_)
  refine ux (rows2 := [ae (bP v e.args[j])]) tk rfl rfl rfl rfl rfl rfl rfl rfl rfl rfl rfl rfl rfl ?_ ?_ fun g'=>?_
  ·simp only [zl,List.length_take,List.length_cons,List.length_nil]
   rw [Nat.min_eq_left hj]
   show (j + 1) * 32 ≤ 2 ^ 47
   omega
  ·simp only [zl,List.length_take,List.length_cons,List.length_nil]
   omega
  repeat (first | refine ak tk rfl ?_ | refine ac ?_ | refine aa ?_ | refine aL ?_)
  rw [evalRows hlt]
  refine kR (j + 1,g') ?_ ?_ (Gh.le (bO (PLe.q (fD (by omega))) (aB (aB (aB (aB (aB (aB bt))))))) (bJ rfl (jp.r) aT) (bI aS))
  ·show e.args.length - (j + 1) < e.args.length - j
   omega
  ·exact hlt
 have hge : j = e.args.length := by have : ¬ j < e.args.length := by simpa using h
                                    omega
 subst hge
 refine cw 5 rfl rfl rfl ?_
 simp only [List.take_length]
 generalize e.args.map (bP v) = L
 refine iy (st' := ⟨92,upd (upd (upd (fun _=>.any) 5 (pvals L)) 4 (.box 4 bk 0)) 3 (.ptr [ap e.kind,.str e.name,ap e.index,ap e.value.kind,ap e.value.int,.str e.value.text,qG e.args]),upd (fun _=>none) 4 (some ⟨bk,ae .nul⟩),fun _=>none⟩) (Gh.le (aB (aB (aB bt))) (bJ rfl (jp.r) aT) aS) ?_
 generalize e.name = name
 by_cases hn : name ∈ de
 ·simp only [de,List.mem_cons,List.mem_nil_iff,or_false] at hn
  rcases hn with rfl | rfl | rfl | rfl | rfl | rfl | rfl | rfl | rfl | rfl | rfl | rfl | rfl
  ·have hi : ba (fun x=>[43] == x) de = 0 := by rfl
   by_cases hl : L.length = 2
   ·obtain ⟨a,b,rfl⟩ := ic hl
    repeat' (first | (show Ao _ _ _ _ _; first | refine ak tk rfl ?_ | refine ac ?_ | refine au tk ?_ | refine ao Tryz.call199 (jp.r) (gU) ?_ | refine ao Tryz.call169 (jp.r) (hi ▸ cG _ _) ?_ | refine ao Tryz.call201 (jp.r) (da (p := fun v=>v.kind == 0) _ Tryz.call202 fun v _=>dT v) ?_ | refine ao Tryz.call203 (jp.r) (jU _ _ _ rfl rfl) ?_) | (show V _ _ _ _ _; first | refine ab ?_ | refine aa ?_ | refine av ?_ | refine bD rfl ?_ | refine ax ?_ | refine aL ?_ | refine br rfl ?_ | refine bA rfl (fun h=>?_) (fun h=>?_)))
    all_goals refine ct tk (PLe.q ?_)
    all_goals simp_all [bG,bQ,LVal.nul]
   ·repeat' (first | (show Ao _ _ _ _ _; first | refine ak tk rfl ?_ | refine ac ?_ | refine au tk ?_ | refine ao Tryz.call199 (jp.r) (gU) ?_ | refine ao Tryz.call169 (jp.r) (hi ▸ cG _ _) ?_ | refine ao Tryz.call201 (jp.r) (da (p := fun v=>v.kind == 0) _ Tryz.call202 fun v _=>dT v) ?_) | (show V _ _ _ _ _; first | refine ab ?_ | refine aa ?_ | refine av ?_ | refine bD rfl ?_ | refine ax ?_ | refine aL ?_ | refine br rfl ?_ | refine bA rfl (fun h=>?_) (fun h=>?_)))
    all_goals try (exfalso; simp_all; omega)
    all_goals refine ct tk (PLe.q ?_)
    all_goals (have : bG [43] L = .nul := by simp [bG,bQ]; omega)
    all_goals (rw [this]; rfl)
  ·have hi : ba (fun x=>[45] == x) de = 1 := by rfl
   by_cases hl : L.length = 2
   ·obtain ⟨a,b,rfl⟩ := ic hl
    repeat' (first | (show Ao _ _ _ _ _; first | refine ak tk rfl ?_ | refine ac ?_ | refine au tk ?_ | refine ao Tryz.call199 (jp.r) (gU) ?_ | refine ao Tryz.call169 (jp.r) (hi ▸ cG _ _) ?_ | refine ao Tryz.call201 (jp.r) (da (p := fun v=>v.kind == 0) _ Tryz.call202 fun v _=>dT v) ?_ | refine ao Tryz.call203 (jp.r) (jU _ _ _ rfl rfl) ?_) | (show V _ _ _ _ _; first | refine ab ?_ | refine aa ?_ | refine av ?_ | refine bD rfl ?_ | refine ax ?_ | refine aL ?_ | refine br rfl ?_ | refine bA rfl (fun h=>?_) (fun h=>?_)))
    all_goals refine ct tk (PLe.q ?_)
    all_goals simp_all [bG,bQ,LVal.nul]
   ·repeat' (first | (show Ao _ _ _ _ _; first | refine ak tk rfl ?_ | refine ac ?_ | refine au tk ?_ | refine ao Tryz.call199 (jp.r) (gU) ?_ | refine ao Tryz.call169 (jp.r) (hi ▸ cG _ _) ?_ | refine ao Tryz.call201 (jp.r) (da (p := fun v=>v.kind == 0) _ Tryz.call202 fun v _=>dT v) ?_) | (show V _ _ _ _ _; first | refine ab ?_ | refine aa ?_ | refine av ?_ | refine bD rfl ?_ | refine ax ?_ | refine aL ?_ | refine br rfl ?_ | refine bA rfl (fun h=>?_) (fun h=>?_)))
    all_goals try (exfalso; simp_all; omega)
    all_goals refine ct tk (PLe.q ?_)
    all_goals (have : bG [45] L = .nul := by simp [bG,bQ]; omega)
    all_goals (rw [this]; rfl)
  ·have hi : ba (fun x=>[42] == x) de = 2 := by rfl
   by_cases hl : L.length = 2
   ·obtain ⟨a,b,rfl⟩ := ic hl
    repeat' (first | (show Ao _ _ _ _ _; first | refine ak tk rfl ?_ | refine ac ?_ | refine au tk ?_ | refine ao Tryz.call199 (jp.r) (gU) ?_ | refine ao Tryz.call169 (jp.r) (hi ▸ cG _ _) ?_ | refine ao Tryz.call201 (jp.r) (da (p := fun v=>v.kind == 0) _ Tryz.call202 fun v _=>dT v) ?_ | refine ao Tryz.call203 (jp.r) (jU _ _ _ rfl rfl) ?_) | (show V _ _ _ _ _; first | refine ab ?_ | refine aa ?_ | refine av ?_ | refine bD rfl ?_ | refine ax ?_ | refine aL ?_ | refine br rfl ?_ | refine bA rfl (fun h=>?_) (fun h=>?_)))
    all_goals refine ct tk (PLe.q ?_)
    all_goals simp_all [bG,bQ,LVal.nul]
   ·repeat' (first | (show Ao _ _ _ _ _; first | refine ak tk rfl ?_ | refine ac ?_ | refine au tk ?_ | refine ao Tryz.call199 (jp.r) (gU) ?_ | refine ao Tryz.call169 (jp.r) (hi ▸ cG _ _) ?_ | refine ao Tryz.call201 (jp.r) (da (p := fun v=>v.kind == 0) _ Tryz.call202 fun v _=>dT v) ?_) | (show V _ _ _ _ _; first | refine ab ?_ | refine aa ?_ | refine av ?_ | refine bD rfl ?_ | refine ax ?_ | refine aL ?_ | refine br rfl ?_ | refine bA rfl (fun h=>?_) (fun h=>?_)))
    all_goals try (exfalso; simp_all; omega)
    all_goals refine ct tk (PLe.q ?_)
    all_goals (have : bG [42] L = .nul := by simp [bG,bQ]; omega)
    all_goals (rw [this]; rfl)
  ·have hi : ba (fun x=>[61] == x) de = 3 := by rfl
   by_cases hl : L.length = 2
   ·obtain ⟨a,b,rfl⟩ := ic hl
    repeat' (first | (show Ao _ _ _ _ _; first | refine ak tk rfl ?_ | refine ac ?_ | refine au tk ?_ | refine ao Tryz.call199 (jp.r) (gU) ?_ | refine ao Tryz.call169 (jp.r) (hi ▸ cG _ _) ?_ | refine ao Tryz.call201 (jp.r) (da (p := fun v=>v.kind == 0) _ Tryz.call202 fun v _=>dT v) ?_ | refine ao Tryz.call203 (jp.r) (jU _ _ _ rfl rfl) ?_) | (show V _ _ _ _ _; first | refine ab ?_ | refine aa ?_ | refine av ?_ | refine bD rfl ?_ | refine ax ?_ | refine aL ?_ | refine br rfl ?_ | refine bA rfl (fun h=>?_) (fun h=>?_)))
    all_goals refine ct tk (PLe.q ?_)
    all_goals simp_all [bG,bQ,LVal.nul]
   ·repeat' (first | (show Ao _ _ _ _ _; first | refine ak tk rfl ?_ | refine ac ?_ | refine au tk ?_ | refine ao Tryz.call199 (jp.r) (gU) ?_ | refine ao Tryz.call169 (jp.r) (hi ▸ cG _ _) ?_ | refine ao Tryz.call201 (jp.r) (da (p := fun v=>v.kind == 0) _ Tryz.call202 fun v _=>dT v) ?_) | (show V _ _ _ _ _; first | refine ab ?_ | refine aa ?_ | refine av ?_ | refine bD rfl ?_ | refine ax ?_ | refine aL ?_ | refine br rfl ?_ | refine bA rfl (fun h=>?_) (fun h=>?_)))
    all_goals try (exfalso; simp_all; omega)
    all_goals refine ct tk (PLe.q ?_)
    all_goals (have : bG [61] L = .nul := by simp [bG,bQ]; omega)
    all_goals (rw [this]; rfl)
  ·have hi : ba (fun x=>[60] == x) de = 4 := by rfl
   by_cases hl : L.length = 2
   ·obtain ⟨a,b,rfl⟩ := ic hl
    repeat' (first | (show Ao _ _ _ _ _; first | refine ak tk rfl ?_ | refine ac ?_ | refine au tk ?_ | refine ao Tryz.call199 (jp.r) (gU) ?_ | refine ao Tryz.call169 (jp.r) (hi ▸ cG _ _) ?_ | refine ao Tryz.call201 (jp.r) (da (p := fun v=>v.kind == 0) _ Tryz.call202 fun v _=>dT v) ?_ | refine ao Tryz.call203 (jp.r) (jU _ _ _ rfl rfl) ?_) | (show V _ _ _ _ _; first | refine ab ?_ | refine aa ?_ | refine av ?_ | refine bD rfl ?_ | refine ax ?_ | refine aL ?_ | refine br rfl ?_ | refine bA rfl (fun h=>?_) (fun h=>?_)))
    all_goals refine ct tk (PLe.q ?_)
    all_goals simp_all [bG,bQ,LVal.nul]
   ·repeat' (first | (show Ao _ _ _ _ _; first | refine ak tk rfl ?_ | refine ac ?_ | refine au tk ?_ | refine ao Tryz.call199 (jp.r) (gU) ?_ | refine ao Tryz.call169 (jp.r) (hi ▸ cG _ _) ?_ | refine ao Tryz.call201 (jp.r) (da (p := fun v=>v.kind == 0) _ Tryz.call202 fun v _=>dT v) ?_) | (show V _ _ _ _ _; first | refine ab ?_ | refine aa ?_ | refine av ?_ | refine bD rfl ?_ | refine ax ?_ | refine aL ?_ | refine br rfl ?_ | refine bA rfl (fun h=>?_) (fun h=>?_)))
    all_goals try (exfalso; simp_all; omega)
    all_goals refine ct tk (PLe.q ?_)
    all_goals (have : bG [60] L = .nul := by simp [bG,bQ]; omega)
    all_goals (rw [this]; rfl)
  ·have hi : ba (fun x=>[60,61] == x) de = 5 := by rfl
   by_cases hl : L.length = 2
   ·obtain ⟨a,b,rfl⟩ := ic hl
    repeat' (first | (show Ao _ _ _ _ _; first | refine ak tk rfl ?_ | refine ac ?_ | refine au tk ?_ | refine ao Tryz.call199 (jp.r) (gU) ?_ | refine ao Tryz.call169 (jp.r) (hi ▸ cG _ _) ?_ | refine ao Tryz.call201 (jp.r) (da (p := fun v=>v.kind == 0) _ Tryz.call202 fun v _=>dT v) ?_ | refine ao Tryz.call203 (jp.r) (jU _ _ _ rfl rfl) ?_) | (show V _ _ _ _ _; first | refine ab ?_ | refine aa ?_ | refine av ?_ | refine bD rfl ?_ | refine ax ?_ | refine aL ?_ | refine br rfl ?_ | refine bA rfl (fun h=>?_) (fun h=>?_)))
    all_goals refine ct tk (PLe.q ?_)
    all_goals simp_all [bG,bQ,LVal.nul]
   ·repeat' (first | (show Ao _ _ _ _ _; first | refine ak tk rfl ?_ | refine ac ?_ | refine au tk ?_ | refine ao Tryz.call199 (jp.r) (gU) ?_ | refine ao Tryz.call169 (jp.r) (hi ▸ cG _ _) ?_ | refine ao Tryz.call201 (jp.r) (da (p := fun v=>v.kind == 0) _ Tryz.call202 fun v _=>dT v) ?_) | (show V _ _ _ _ _; first | refine ab ?_ | refine aa ?_ | refine av ?_ | refine bD rfl ?_ | refine ax ?_ | refine aL ?_ | refine br rfl ?_ | refine bA rfl (fun h=>?_) (fun h=>?_)))
    all_goals try (exfalso; simp_all; omega)
    all_goals refine ct tk (PLe.q ?_)
    all_goals (have : bG [60,61] L = .nul := by simp [bG,bQ]; omega)
    all_goals (rw [this]; rfl)
  ·have hi : ba (fun x=>[97,110,100] == x) de = 6 := by rfl
   by_cases hl : L.length = 2
   ·obtain ⟨a,b,rfl⟩ := ic hl
    repeat' (first | (show Ao _ _ _ _ _; first | refine ak tk rfl ?_ | refine ac ?_ | refine ao Tryz.call199 (jp.r) (gU) ?_ | refine ao Tryz.call169 (jp.r) (hi ▸ cG _ _) ?_) | (show V _ _ _ _ _; first | refine ab ?_ | refine aa ?_ | refine av ?_ | refine bW rfl ?_ | refine bD rfl ?_ | refine ax ?_ | refine br rfl ?_ | (show V _ _ _ (.code (.region 19 _ true) :: _) _; refine bp tk mok ⟨false,false,[]⟩ [0,1,2,3,4,5,6,7] rfl (by decide +kernel) rfl ?_)) | (show Do _ _ _ _ _ _ _; first | refine bK rfl ?_ | refine bg ?_ | refine ce ?_ | refine aY Tryz.call200 (jp.r) (bothV_spec _ _ _) ?_))
    all_goals refine ct tk (PLe.q ?_)
    all_goals simp_all [bG,bQ,LVal.nul]
   ·repeat' (first | (show Ao _ _ _ _ _; first | refine ak tk rfl ?_ | refine ac ?_ | refine au tk ?_ | refine ao Tryz.call199 (jp.r) (gU) ?_ | refine ao Tryz.call169 (jp.r) (hi ▸ cG _ _) ?_) | (show V _ _ _ _ _; first | refine ab ?_ | refine aa ?_ | refine av ?_ | refine bW rfl ?_ | refine bD rfl ?_ | refine ax ?_ | refine br rfl ?_ | (show V _ _ _ (.code (.region 19 _ true) :: _) _; refine bp tk mok ⟨false,false,[]⟩ [0,1,2,3,4,5,6,7] rfl (by decide +kernel) rfl ?_) | refine bA rfl (fun h=>?_) (fun h=>?_)) | (show Do _ _ _ _ _ _ _; first | refine bK rfl ?_))
    all_goals try (exfalso; simp_all; omega)
    all_goals refine ct tk (PLe.q ?_)
    all_goals (have : bG [97,110,100] L = .nul := by simp [bG,bQ]; omega)
    all_goals (rw [this]; rfl)
  ·have hi : ba (fun x=>[111,114] == x) de = 7 := by rfl
   by_cases hl : L.length = 2
   ·obtain ⟨a,b,rfl⟩ := ic hl
    repeat' (first | (show Ao _ _ _ _ _; first | refine ak tk rfl ?_ | refine ac ?_ | refine ao Tryz.call199 (jp.r) (gU) ?_ | refine ao Tryz.call169 (jp.r) (hi ▸ cG _ _) ?_) | (show V _ _ _ _ _; first | refine ab ?_ | refine aa ?_ | refine av ?_ | refine bW rfl ?_ | refine bD rfl ?_ | refine ax ?_ | refine br rfl ?_ | (show V _ _ _ (.code (.region 21 _ true) :: _) _; refine bp tk mok ⟨false,false,[]⟩ [0,1,2,3,4,5,6,7] rfl (by decide +kernel) rfl ?_)) | (show Do _ _ _ _ _ _ _; first | refine bK rfl ?_ | refine bg ?_ | refine ce ?_ | refine aY Tryz.call200 (jp.r) (bothV_spec _ _ _) ?_))
    all_goals refine ct tk (PLe.q ?_)
    all_goals simp_all [bG,bQ,LVal.nul]
   ·repeat' (first | (show Ao _ _ _ _ _; first | refine ak tk rfl ?_ | refine ac ?_ | refine au tk ?_ | refine ao Tryz.call199 (jp.r) (gU) ?_ | refine ao Tryz.call169 (jp.r) (hi ▸ cG _ _) ?_) | (show V _ _ _ _ _; first | refine ab ?_ | refine aa ?_ | refine av ?_ | refine bW rfl ?_ | refine bD rfl ?_ | refine ax ?_ | refine br rfl ?_ | (show V _ _ _ (.code (.region 21 _ true) :: _) _; refine bp tk mok ⟨false,false,[]⟩ [0,1,2,3,4,5,6,7] rfl (by decide +kernel) rfl ?_) | refine bA rfl (fun h=>?_) (fun h=>?_)) | (show Do _ _ _ _ _ _ _; first | refine bK rfl ?_))
    all_goals try (exfalso; simp_all; omega)
    all_goals refine ct tk (PLe.q ?_)
    all_goals (have : bG [111,114] L = .nul := by simp [bG,bQ]; omega)
    all_goals (rw [this]; rfl)
  ·have hi : ba (fun x=>[110,111,116] == x) de = 8 := by rfl
   by_cases hl : L.length = 1
   ·obtain ⟨a,rfl⟩ := List.length_eq_one_iff.1 hl
    repeat' (first | (show Ao _ _ _ _ _; first | refine ak tk rfl ?_ | refine ac ?_ | refine au tk ?_ | refine ao Tryz.call199 (jp.r) (gU) ?_ | refine ao Tryz.call169 (jp.r) (hi ▸ cG _ _) ?_ | refine ao Tryz.call201 (jp.r) (da (p := fun v=>v.kind == 0) _ Tryz.call202 fun v _=>dT v) ?_ | refine uj (g := 203) rfl rfl rfl Tryz.call203 (jp.r) (tV _ _ (by simp)) rfl ?_) | (show V _ _ _ _ _; first | refine ab ?_ | refine aa ?_ | refine av ?_ | refine bD rfl ?_ | refine ax ?_ | refine aL ?_ | refine br rfl ?_ | refine bA rfl (fun h=>?_) (fun h=>?_)))
    all_goals refine ct tk (PLe.q ?_)
    all_goals simp_all [bG,bQ,LVal.nul]
   ·repeat' (first | (show Ao _ _ _ _ _; first | refine ak tk rfl ?_ | refine ac ?_ | refine au tk ?_ | refine ao Tryz.call199 (jp.r) (gU) ?_ | refine ao Tryz.call169 (jp.r) (hi ▸ cG _ _) ?_ | refine ao Tryz.call201 (jp.r) (da (p := fun v=>v.kind == 0) _ Tryz.call202 fun v _=>dT v) ?_) | (show V _ _ _ _ _; first | refine ab ?_ | refine aa ?_ | refine av ?_ | refine bD rfl ?_ | refine ax ?_ | refine aL ?_ | refine br rfl ?_ | refine bA rfl (fun h=>?_) (fun h=>?_)))
    all_goals try (exfalso; simp_all; omega)
    all_goals refine ct tk (PLe.q ?_)
    all_goals (have : bG [110,111,116] L = .nul := by simp [bG,bQ]; omega)
    all_goals (rw [this]; rfl)
  ·have hi : ba (fun x=>[124,124] == x) de = 9 := by rfl
   by_cases hl : L.length = 2
   ·obtain ⟨a,b,rfl⟩ := ic hl
    repeat' (first | (show Ao _ _ _ _ _; first | refine ak tk rfl ?_ | refine ac ?_ | refine au tk ?_ | refine ao Tryz.call199 (jp.r) (gU) ?_ | refine ao Tryz.call169 (jp.r) (hi ▸ cG _ _) ?_ | refine ao Tryz.call201 (jp.r) (da (p := fun v=>v.kind == 0) _ Tryz.call202 fun v _=>dT v) ?_ | refine ao Tryz.call203 (jp.r) (jU _ _ _ rfl rfl) ?_) | (show V _ _ _ _ _; first | refine ab ?_ | refine aa ?_ | refine av ?_ | refine bD rfl ?_ | refine ax ?_ | refine aL ?_ | refine br rfl ?_ | refine bA rfl (fun h=>?_) (fun h=>?_)))
    all_goals refine ct tk (PLe.q ?_)
    all_goals simp_all [bG,bQ,LVal.nul]
   ·repeat' (first | (show Ao _ _ _ _ _; first | refine ak tk rfl ?_ | refine ac ?_ | refine au tk ?_ | refine ao Tryz.call199 (jp.r) (gU) ?_ | refine ao Tryz.call169 (jp.r) (hi ▸ cG _ _) ?_ | refine ao Tryz.call201 (jp.r) (da (p := fun v=>v.kind == 0) _ Tryz.call202 fun v _=>dT v) ?_) | (show V _ _ _ _ _; first | refine ab ?_ | refine aa ?_ | refine av ?_ | refine bD rfl ?_ | refine ax ?_ | refine aL ?_ | refine br rfl ?_ | refine bA rfl (fun h=>?_) (fun h=>?_)))
    all_goals try (exfalso; simp_all; omega)
    all_goals refine ct tk (PLe.q ?_)
    all_goals (have : bG [124,124] L = .nul := by simp [bG,bQ]; omega)
    all_goals (rw [this]; rfl)
  ·have hi : ba (fun x=>[105,115,32,110,117,108,108] == x) de = 10 := by rfl
   by_cases hl : L.length = 1
   ·obtain ⟨a,rfl⟩ := List.length_eq_one_iff.1 hl
    repeat' (first | (show Ao _ _ _ _ _; first | refine ak tk rfl ?_ | refine ac ?_ | refine au tk ?_ | refine ao Tryz.call199 (jp.r) (gU) ?_ | refine ao Tryz.call169 (jp.r) (hi ▸ cG _ _) ?_ | refine ao Tryz.call191 (jp.r) (mO _) ?_) | (show V _ _ _ _ _; first | refine ab ?_ | refine aa ?_ | refine av ?_ | refine bW rfl ?_ | refine bD rfl ?_ | refine ax ?_ | refine br rfl ?_))
    all_goals refine ct tk (PLe.q ?_)
    all_goals simp_all [bG,bQ,LVal.nul]
   ·repeat' (first | (show Ao _ _ _ _ _; first | refine ak tk rfl ?_ | refine ac ?_ | refine au tk ?_ | refine ao Tryz.call199 (jp.r) (gU) ?_ | refine ao Tryz.call169 (jp.r) (hi ▸ cG _ _) ?_) | (show V _ _ _ _ _; first | refine ab ?_ | refine aa ?_ | refine av ?_ | refine bW rfl ?_ | refine ax ?_ | refine br rfl ?_ | refine bA rfl (fun h=>?_) (fun h=>?_)))
    all_goals try (exfalso; simp_all; omega)
    all_goals refine ct tk (PLe.q ?_)
    all_goals (have : bG [105,115,32,110,117,108,108] L = .nul := by simp [bG,bQ]; omega)
    all_goals (rw [this]; rfl)
  ·have hi : ba (fun x=>[108,101,110,103,116,104] == x) de = 11 := by rfl
   by_cases hl : L.length = 1
   ·obtain ⟨a,rfl⟩ := List.length_eq_one_iff.1 hl
    repeat' (first | (show Ao _ _ _ _ _; first | refine ak tk rfl ?_ | refine ac ?_ | refine au tk ?_ | refine ao Tryz.call199 (jp.r) (gU) ?_ | refine ao Tryz.call169 (jp.r) (hi ▸ cG _ _) ?_ | refine ao Tryz.call201 (jp.r) (da (p := fun v=>v.kind == 0) _ Tryz.call202 fun v _=>dT v) ?_ | refine uj (g := 203) rfl rfl rfl Tryz.call203 (jp.r) (tV _ _ (by simp)) rfl ?_) | (show V _ _ _ _ _; first | refine ab ?_ | refine aa ?_ | refine av ?_ | refine bD rfl ?_ | refine ax ?_ | refine aL ?_ | refine br rfl ?_ | refine bA rfl (fun h=>?_) (fun h=>?_)))
    all_goals refine ct tk (PLe.q ?_)
    all_goals simp_all [bG,bQ,LVal.nul]
   ·repeat' (first | (show Ao _ _ _ _ _; first | refine ak tk rfl ?_ | refine ac ?_ | refine au tk ?_ | refine ao Tryz.call199 (jp.r) (gU) ?_ | refine ao Tryz.call169 (jp.r) (hi ▸ cG _ _) ?_ | refine ao Tryz.call201 (jp.r) (da (p := fun v=>v.kind == 0) _ Tryz.call202 fun v _=>dT v) ?_) | (show V _ _ _ _ _; first | refine ab ?_ | refine aa ?_ | refine av ?_ | refine bD rfl ?_ | refine ax ?_ | refine aL ?_ | refine br rfl ?_ | refine bA rfl (fun h=>?_) (fun h=>?_)))
    all_goals try (exfalso; simp_all; omega)
    all_goals refine ct tk (PLe.q ?_)
    all_goals (have : bG [108,101,110,103,116,104] L = .nul := by simp [bG,bQ]; omega)
    all_goals (rw [this]; rfl)
  ·have hi : ba (fun x=>[105,102] == x) de = 12 := by rfl
   by_cases hl : L.length = 3
   ·obtain ⟨a,b,c,rfl⟩ := len3 hl
    repeat' (first | (show Ao _ _ _ _ _; first | refine ak tk rfl ?_ | refine ac ?_ | refine au tk ?_ | refine ao Tryz.call199 (jp.r) (gU) ?_ | refine ao Tryz.call169 (jp.r) (hi ▸ cG _ _) ?_ | refine ao Tryz.call52 (jp.r) (isTS _) ?_) | (show V _ _ _ _ _; first | refine ab ?_ | refine aa ?_ | refine av ?_ | refine bW rfl ?_ | refine bD rfl ?_ | refine ax ?_ | refine br rfl ?_ | refine bA rfl (fun h=>?_) (fun h=>?_)))
    all_goals refine ct tk (PLe.q ?_)
    all_goals simp_all [bG,bQ,LVal.nul]
   ·repeat' (first | (show Ao _ _ _ _ _; first | refine ak tk rfl ?_ | refine ac ?_ | refine au tk ?_ | refine ao Tryz.call199 (jp.r) (gU) ?_ | refine ao Tryz.call169 (jp.r) (hi ▸ cG _ _) ?_) | (show V _ _ _ _ _; first | refine ab ?_ | refine aa ?_ | refine av ?_ | refine bW rfl ?_ | refine bD rfl ?_ | refine ax ?_ | refine br rfl ?_ | refine bA rfl (fun h=>?_) (fun h=>?_)))
    all_goals try (exfalso; simp_all; omega)
    all_goals refine ct tk (PLe.q ?_)
    all_goals (have : bG [105,102] L = .nul := by simp [bG,bQ]; omega)
    all_goals (rw [this]; rfl)
 have hi : ba (fun x=>name == x) de = -1 := kJ fun x hx=>by
  cases hb : name == x with
  | false=>rfl
  | true=>exact absurd (by rw [eq_of_beq hb]; exact hx) hn
 repeat' (first | (show Ao _ _ _ _ _; first | refine ak tk rfl ?_ | refine ac ?_ | refine au tk ?_ | refine ao Tryz.call199 (jp.r) (gU) ?_ | refine ao Tryz.call169 (jp.r) (hi ▸ cG _ _) ?_) | (show V _ _ _ _ _; first | refine ab ?_ | refine aa ?_ | refine bW rfl ?_ | refine br rfl ?_))
 all_goals refine ct tk (PLe.q ?_)
 have : bQ name = none := by
  simp only [de,List.mem_cons,List.mem_nil_iff,or_false,not_or] at hn
  simp [bQ,hn]
 have : bG name L = .nul := by simp [bG,this]
 rw [this]
 rfl
theorem colName_spec (c : LCol) (e : LExpr) : aP Tryz.prog 168 [pcol c,.ptr (cu e)] (aN (c.name == e.name)) := by
 refine PH.ay Tryz.func168 Tryz.ntmps168 ?_
 repeat' (first | (show Ao _ _ _ _ _; first | refine ak tk rfl ?_ | refine ac ?_ | refine aI ?_) | (show V _ _ _ _ _; first | refine ab ?_ | refine aa ?_))
 all_goals refine cR tk (PLe.q rfl)
theorem getVal {l : Rq} {j : Int} (h0 : 0 ≤ j) (h : j < ((l.map ae).length : Int)) : (l.map ae)[j.toNat]? = some (ae (l.getD j.toNat .nul)) := by
 simp at h
 have : j.toNat < l.length := by omega
 simp [this]
theorem gT (v : LEnv) (e : LExpr) : bP v e =
  if e.kind == 1 then e.value
  else if e.kind == 2 then (if 0 ≤ ba (fun c : LCol=>c.name == e.name) v.cols ∧ ba (fun c : LCol=>c.name == e.name) v.cols < v.row.length then v.row.getD (ba (fun c : LCol=>c.name == e.name) v.cols).toNat .nul else .nul)
  else if e.kind == 3 then (if 0 ≤ e.index ∧ e.index < v.params.length ∧ (v.params.getD e.index.toNat .nul).kind = e.value.kind then v.params.getD e.index.toNat .nul else .nul)
  else if e.kind == 4 then (if 0 ≤ ba (fun s : List UInt8=>e.name == s) v.vnames ∧ ba (fun s : List UInt8=>e.name == s) v.vnames < v.vvals.length then v.vvals.getD (ba (fun s : List UInt8=>e.name == s) v.vnames).toNat .nul else .nul)
  else if e.kind == 5 then bG e.name (e.args.map (bP v))
  else .nul := by
 cases e
 rw [bP,evalEs_map]
 rfl
theorem evalStep (v : LEnv) (e : LExpr) (ih : ∀ a ∈ e.args,aP Tryz.prog 120 [penv v,jR a] (kp (bP v a))) :
  aP Tryz.prog 120 [penv v,jR e] (kp (bP v e)) := by
 refine PH.ay Tryz.func120 Tryz.ntmps120 ?_
 repeat' (first | (show Ao _ _ _ _ _; first | refine ak tk rfl ?_ | refine ac ?_ | refine aI ?_ | (refine fT tk rfl rfl rfl rfl rfl rfl ?_; intro bk) | refine au tk ?_ | refine ao Tryz.call129 (jp.r) (indexCol (p := fun c=>c.name == e.name) _ Tryz.call168 fun c _=>colName_spec c e) ?_ | refine ao Tryz.call169 (jp.r) (cG _ _) ?_ | refine ao Tryz.call170 (jp.r) (reckon_spec v e ih) ?_ | refine pM tk rfl rfl rfl rfl rfl rfl (of_decide_eq_true (by assumption)) (getVal (of_decide_eq_true (by assumption)) (of_decide_eq_true (by assumption))) rfl ?_ | ((fail_if_success refine gc rfl ?_); refine gE rfl rfl rfl (fun h=>?_) (fun h=>?_))) | (show V _ _ _ _ _; first | refine ab ?_ | refine aa ?_ | refine av ?_ | refine bD rfl ?_ | refine ax ?_ | refine aL ?_ | (show V _ _ _ (.code (.region 9 _ true) :: _) _; refine bp tk mok ⟨false,false,[]⟩ [0,1,2,3,4,5,6,7,8,9,10,11,12,13,14,15,16,17,18,19,20,21,22,23] rfl (by decide +kernel) rfl ?_) | refine bA rfl (fun h=>?_) (fun h=>?_)) | (show Do _ _ _ _ _ _ _; first | refine bK rfl ?_ | refine bg ?_ | refine vd rfl rfl rfl rfl rfl rfl rfl (of_decide_eq_true (by assumption)) (getVal (of_decide_eq_true (by assumption)) (of_decide_eq_true (by assumption))) rfl ?_ | ((fail_if_success refine mT rfl rfl ?_); refine nC rfl rfl rfl rfl (fun h=>?_) (fun h=>?_))))
 all_goals refine ct tk (PLe.q ?_)
 all_goals rw [gT]
 all_goals simp_all [LVal.nul]
 all_goals rw [zy (by omega)]
 all_goals exact ⟨rfl,rfl,rfl⟩
theorem nZ (v : LEnv) : ∀ e : LExpr,aP Tryz.prog 120 [penv v,jR e] (kp (bP v e))
 | .mk k n i x args=>evalStep v (.mk k n i x args) fun a ha=>by
  have ha' : a ∈ args := ha
  exact nZ v a
def lit (v : LVal) : LExpr := .mk 1 [] 0 v []
def nD (acc r : Int × Int) : Int × Int := (wr (acc.1 + r.1),if r.2 > acc.2 then r.2 else acc.2)
mutual
def iZ : LExpr → Int × Int
 | .mk _ _ _ _ args=>let r := (sizesE args).foldl nD (1,0); (r.1,wr (r.2 + 1))
def sizesE : List LExpr → List (Int × Int)
 | []=>[]
 | e :: r=>iZ e :: sizesE r
end
theorem sizesE_map : ∀ l,sizesE l = l.map iZ
 | []=>rfl
 | e :: r=>by simp [sizesE,sizesE_map r]
theorem sizeE_eq (e : LExpr) : iZ e = (((e.args.map iZ).foldl nD (1,0)).1,wr (((e.args.map iZ).foldl nD (1,0)).2 + 1)) := by
 cases e
 rw [iZ,sizesE_map]
 rfl
theorem foldl_take {α β : Type} (g : β → α → β) (z : β) {l : List α} {j : Nat} (h : j < l.length) : (l.take (j + 1)).foldl g z = g ((l.take j).foldl g z) l[j] := by
 rw [List.take_add_one,ze h,List.foldl_append]
 rfl
theorem sizeStep_spec (e : LExpr) (ih : ∀ a ∈ e.args,aP Tryz.prog 133 [jR a] (.tup [ap (iZ a).1,ap (iZ a).2])) :
  aP Tryz.prog 133 [jR e] (.tup [ap (iZ e).1,ap (iZ e).2]) := by
 refine PH.ay Tryz.func133 Tryz.ntmps133 ?_
 repeat (first | refine ak tk rfl ?_ | refine ac ?_ | refine ab ?_ | refine aa ?_ | refine ax ?_ | refine aI ?_)
 refine gz tk 11 rfl rfl fun hl _=>?_
 rw [zl] at hl
 refine kf (X := Nat) (fun j=>⟨32,upd (upd (upd (upd (upd (fun _=>.any) 5 (ap (((e.args.map iZ).take j).foldl nD (1,0)).2)) 4 (ap (((e.args.map iZ).take j).foldl nD (1,0)).1)) 11 (qG e.args)) 12 (ap (e.args.map bE).length)) 13 (ap j),fun _=>none,fun _=>none⟩)
  (fun j=>j ≤ e.args.length) (fun j=>e.args.length - j) 0 (Nat.zero_le _) (Gh.le (aB (aB (aB (aB (aB bt))))) aT aS) ?_
 intro j hj
 repeat (first | refine ak tk rfl ?_ | refine ac ?_ | refine ab ?_ | refine aa ?_)
 refine bA rfl (fun h=>?_) (fun h=>?_)
 ·have hlt : j < e.args.length := by simpa using h
  repeat (first | refine ab ?_ | refine aa ?_ | refine av ?_ | refine ax ?_)
  refine aV tk (zn j) (tc hlt) ?_
  repeat (first | refine ak tk rfl ?_ | refine ac ?_ | refine ab ?_ | refine aa ?_ | refine aA tk ?_ | (refine fT tk rfl rfl rfl rfl rfl rfl ?_; intro bk) | refine au tk ?_)
  refine ao Tryz.call133 (jp.r) (ih _ (List.getElem_mem hlt)) ?_
  repeat (first | refine ak tk rfl ?_ | refine ac ?_ | refine aa ?_ | refine aL ?_)
  have e1 := foldl_take nD (1,0) (l := e.args.map iZ) (j := j) (by simpa using hlt)
  rw [List.getElem_map] at e1
  refine kR (j + 1) (by omega) hlt (Gh.le (bO (PLe.q (fD (by omega))) (aB (aB (bO (PLe.q (by rw [e1]; rfl)) (bO (PLe.q (by rw [e1]; rfl)) bt))))) aT aS)
 have hge : j = e.args.length := by have : ¬ j < e.args.length := by simpa using h
                                    omega
 subst hge
 rw [show (e.args.map iZ).take e.args.length = e.args.map iZ from by rw [List.take_of_length_le]; simp]
 repeat (first | refine ak tk rfl ?_ | refine ac ?_ | refine ab ?_ | refine aa ?_ | refine br rfl ?_)
 refine vf tk rfl rfl rfl (PLe.q ?_)
 rw [sizeE_eq]
 rfl
theorem size_spec : ∀ e : LExpr,aP Tryz.prog 133 [jR e] (.tup [ap (iZ e).1,ap (iZ e).2])
 | .mk k n i x args=>sizeStep_spec (.mk k n i x args) fun a ha=>by
  have ha' : a ∈ args := ha
  exact size_spec a
def pP (c : UInt8) : Bool := (decide ((c.toNat : Int) ≥ 97) && decide ((c.toNat : Int) ≤ 122)) || (decide ((c.toNat : Int) ≥ 48) && decide ((c.toNat : Int) ≤ 57))
theorem inner_spec (c : UInt8) : aP Tryz.prog 142 [.val (.int .u8 c.toNat)] (aN (pP c)) := by
 refine PH.ay Tryz.func142 Tryz.ntmps142 ?_
 repeat' (first | (show Ao _ _ _ _ _; first | refine ak tk rfl ?_ | refine ac ?_ | ((fail_if_success refine gc rfl ?_); refine gE rfl rfl rfl (fun h=>?_) (fun h=>?_))) | (show V _ _ _ _ _; first | refine ab ?_ | refine aa ?_))
 all_goals refine cR tk (PLe.q ?_)
 all_goals simp_all [pP]
 all_goals omega
theorem colIs_spec (c : LCol) (name : List UInt8) : aP Tryz.prog 209 [pcol c,.ptr [.str name]] (aN (c.name == name)) := by
 refine PH.ay Tryz.func209 Tryz.ntmps209 ?_
 repeat' (first | (show Ao _ _ _ _ _; first | refine ak tk rfl ?_ | refine ac ?_ | refine aI ?_) | (show V _ _ _ _ _; first | refine ab ?_ | refine aa ?_))
 all_goals refine cR tk (PLe.q rfl)
def kY (l : List LCol) (name : List UInt8) : LCol × Bool :=
 let i := ba (fun c : LCol=>c.name == name) l
 if i < 0 then (⟨[],0,false⟩,false) else (l.getD i.toNat ⟨[],0,false⟩,true)
theorem getCol {l : List LCol} {j : Int} (h0 : 0 ≤ j) (h : j < l.length) : (l.map aR)[j.toNat]? = some (aR (l.getD j.toNat ⟨[],0,false⟩)) := by
 have : j.toNat < l.length := by omega
 simp [this]
theorem idxOf_lt {α : Type} {p : α → Bool} {l : List α} : ba p l < l.length := by
 simp only [ba]
 split
 ·rename_i i h
  have := (List.findIdx?_eq_some_iff_getElem.1 h).1
  omega
 ·omega
theorem find_spec (l : List LCol) (name : List UInt8) : aP Tryz.prog 178 [jY l,.str name] (.tup [pcol (kY l name).1,aN (kY l name).2]) := by
 refine PH.ay Tryz.func178 Tryz.ntmps178 ?_
 repeat' (first | (show Ao _ _ _ _ _; first | refine ak tk rfl ?_ | refine ac ?_ | refine aI ?_ | (refine fT tk rfl rfl rfl rfl rfl rfl ?_; intro bk) | refine au tk ?_ | refine ao Tryz.call129 (jp.r) (indexCol (p := fun c=>c.name == name) _ Tryz.call209 fun c _=>colIs_spec c name) ?_ | refine pM tk rfl rfl rfl rfl rfl rfl (Int.not_lt.1 (of_decide_eq_false (by assumption))) (getCol (Int.not_lt.1 (of_decide_eq_false (by assumption))) idxOf_lt) rfl ?_) | (show V _ _ _ _ _; first | refine ab ?_ | refine aa ?_ | refine av ?_ | refine bA rfl (fun h=>?_) (fun h=>?_)))
 all_goals refine V.retCT tk rfl rfl rfl rfl rfl rfl (PLe.q ?_)
 all_goals simp_all [kY]
 all_goals rw [zy (by omega)]
 all_goals exact ⟨⟨rfl,rfl,rfl⟩,rfl⟩
def dz (s : List UInt8) : Bool := decide (1 ≤ s.length) && decide (s.length ≤ 12) && (match s with | []=>false | c :: _=>decide (c.toNat ≥ 97) && decide (c.toNat ≤ 122)) && s.all pP
theorem idxStrAt {l : List UInt8} {j : Nat} (h : j < l.length) : l[((j : Nat) : Int).toNat]? = some l[j] := by simp [h]
theorem mV (s : List UInt8) : aP Tryz.prog 95 [.str s] (aN (dz s)) := by
 cases s with
 | nil =>
  refine PH.ay Tryz.func95 Tryz.ntmps95 ?_
  repeat' (first | (show Ao _ _ _ _ _; first | refine ak tk rfl ?_ | refine ac ?_) | (show V _ _ _ _ _; first | refine ab ?_ | refine aa ?_ | refine bW rfl ?_))
  all_goals refine cR tk (PLe.q rfl)
 | cons c s =>
  refine PH.ay Tryz.func95 Tryz.ntmps95 ?_
  refine V.strF 0 rfl fun hl=>?_
  repeat' (first | (show Ao _ _ _ _ _; first | refine ak tk rfl ?_ | refine ac ?_ | ((fail_if_success refine gc rfl ?_); refine gE rfl rfl rfl (fun h=>?_) (fun h=>?_))) | (show V _ _ _ _ _; first | refine ab ?_ | refine aa ?_ | refine av ?_ | refine bW rfl ?_ | refine ax ?_ | refine bA rfl (fun h=>?_) (fun h=>?_)))
  case cons.refine_1 =>
   refine cR tk (PLe.q ?_)
   have : ¬ (c :: s).length ≤ 12 := by simp only [decide_eq_true_eq] at h; omega
   have : dz (c :: s) = false := by simp only [dz,this]; simp
   rw [this]
  case cons.refine_2.refine_1 =>
   refine cR tk (PLe.q ?_)
   have : ¬ c.toNat ≥ 97 := by simp only [decide_eq_true_eq] at h; omega
   simp [dz,this]
  case cons.refine_2.refine_2.refine_1 =>
   refine cR tk (PLe.q ?_)
   have : ¬ c.toNat ≤ 122 := by simp only [decide_eq_true_eq] at h; omega
   simp [dz,this]
  rename_i h1 h2
  have hs : dz (c :: s) = (c :: s).all pP := by
   simp only [decide_eq_false_iff_not] at h1 h2 h
   have e1 : (c :: s).length ≤ 12 := by omega
   have e2 : c.toNat ≥ 97 := by omega
   have e3 : c.toNat ≤ 122 := by omega
   simp only [dz,e1,e2,e3]
   simp
  rw [hs]
  clear hs h h1 h2
  generalize hL : c :: s = L at *
  refine kf (X := Nat) (fun j=>⟨33,upd (upd (upd (fun _=>.any) 0 (.str L)) 23 (ap L.length)) 24 (ap j),fun _=>none,fun _=>none⟩)
   (fun j=>j ≤ L.length ∧ ∀ x ∈ L.take j,pP x = true) (fun j=>L.length - j) 0 ⟨Nat.zero_le _,by simp⟩ (Gh.le (aB (aB (aB bt))) aT aS) ?_
  rintro j ⟨hj,hpre⟩
  repeat (first | refine ak tk rfl ?_ | refine ac ?_ | refine ab ?_ | refine aa ?_)
  refine bA rfl (fun h=>?_) (fun h=>?_)
  ·have hlt : j < L.length := by simpa using h
   repeat (first | refine ak tk rfl ?_ | refine ac ?_ | refine ab ?_ | refine aa ?_ | refine av ?_ | refine ax ?_)
   refine uG tk rfl rfl rfl rfl rfl rfl (zn j) (idxStrAt hlt) rfl ?_
   skip
   refine ao Tryz.call142 (jp.r) (inner_spec _) ?_
   repeat (first | refine ak tk rfl ?_ | refine ac ?_)
   refine bA rfl (fun h=>?_) (fun h=>?_)
   ·repeat (first | refine ak tk rfl ?_ | refine ac ?_ | refine ab ?_ | refine aa ?_)
    refine cR tk (PLe.q ?_)
    have : L.all pP = false := by
     rw [List.all_eq_false]
     exact ⟨L[j],List.getElem_mem hlt,by simpa using h⟩
    rw [this]
   ·repeat (first | refine ak tk rfl ?_ | refine ac ?_ | refine aa ?_ | refine av ?_ | refine aL ?_)
    refine kR (j + 1) (by omega) ⟨hlt,?_⟩ (Gh.le (bO (PLe.q (fD (by unfold maxLen; unfold im at hl; omega))) (aB (aB bt))) aT aS)
    intro x hx
    rw [List.take_add_one,ze hlt] at hx
    simp only [Option.toList,List.mem_append,List.mem_singleton] at hx
    rcases hx with hx | rfl
    ·exact hpre x hx
    ·simpa using h
  have hge : j = L.length := by have : ¬ j < L.length := by simpa using h
                                omega
  repeat (first | refine ak tk rfl ?_ | refine ac ?_ | refine ab ?_ | refine aa ?_ | refine br rfl ?_)
  refine cR tk (PLe.q ?_)
  have : L.all pP = true := by
   rw [List.all_eq_true]
   rw [hge] at hpre
   simpa using hpre
  rw [this]
abbrev KR := Int × Bool × Int
abbrev pkr (r : KR) : PV := .tup [ap r.1,aN r.2.1,ap r.2.2]
def lp (kind : Int) (nullable ok : Bool) : KR := if ok then (kind,nullable,0) else (0,false,7)
theorem fX (kind : Int) (nullable ok : Bool) : aP Tryz.prog 214 [ap kind,aN nullable,aN ok] (pkr (lp kind nullable ok)) := by
 refine PH.ay Tryz.func214 Tryz.ntmps214 ?_
 repeat' (first | (show Ao _ _ _ _ _; first | refine ak tk rfl ?_ | refine ac ?_) | (show V _ _ _ _ _; first | refine ab ?_ | refine aa ?_ | refine av ?_ | refine bA rfl (fun h=>?_) (fun h=>?_)))
 all_goals refine fC tk (PLe.q ?_)
 all_goals simp_all [lp]
def qQ (a b : Int) : Bool := a == b || a == 0 || b == 0
theorem oY (a b : Int) : aP Tryz.prog 213 [ap a,ap b] (aN (qQ a b)) := by
 refine PH.ay Tryz.func213 Tryz.ntmps213 ?_
 repeat' (first | (show Ao _ _ _ _ _; first | refine ak tk rfl ?_ | refine ac ?_ | ((fail_if_success refine gc rfl ?_); refine gE rfl rfl rfl (fun h=>?_) (fun h=>?_))) | (show V _ _ _ _ _; first | refine ab ?_ | refine aa ?_))
 all_goals refine cR tk (PLe.q ?_)
 all_goals simp_all [qQ]
theorem allOf1_spec (n want : Int) : aP Tryz.prog 212 [ap n,.ptr [ap want]] (aN (n != want && n != 0)) := by
 refine PH.ay Tryz.func212 Tryz.ntmps212 ?_
 repeat' (first | (show Ao _ _ _ _ _; first | refine ak tk rfl ?_ | refine ac ?_ | ((fail_if_success refine gc rfl ?_); refine gE rfl rfl rfl (fun h=>?_) (fun h=>?_))) | (show V _ _ _ _ _; first | refine ab ?_ | refine aa ?_))
 all_goals refine cR tk (PLe.q ?_)
 all_goals simp_all
def oV (want : Int) (l : List Int) : Bool := !(l.any fun n=>n != want && n != 0)
theorem jN (want : Int) (l : List Int) : aP Tryz.prog 210 [ap want,.ptr [pints l]] (aN (oV want l)) := by
 refine PH.ay Tryz.func210 Tryz.ntmps210 ?_
 repeat' (first | (show Ao _ _ _ _ _; first | refine ak tk rfl ?_ | refine ac ?_ | refine aI ?_ | refine ao Tryz.call211 (jp.r) (containsInt (p := fun n=>n != want && n != 0) l Tryz.call212 fun n _=>allOf1_spec n want) ?_) | (show V _ _ _ _ _; first | refine ab ?_ | refine aa ?_))
 all_goals refine cR tk (PLe.q rfl)
def gv (x : Int) : KR := (0,false,x)
def eh (name : List UInt8) (kinds : List Int) (nullable : Bool) : KR :=
 if name == [43] || name == [45] || name == [42] then lp 1 true (oV 1 kinds)
 else if name == [124,124] then lp 3 true (oV 3 kinds)
 else if name == [108,101,110,103,116,104] then lp 1 nullable (oV 3 kinds)
 else if name == [97,110,100] || name == [111,114] || name == [110,111,116] then lp 2 nullable (oV 2 kinds)
 else if name == [105,115,32,110,117,108,108] then (2,false,0)
 else if name == [105,102] then lp (if kinds.getD 2 0 > kinds.getD 1 0 then kinds.getD 2 0 else kinds.getD 1 0) nullable (qQ (kinds.getD 0 0) 2 && qQ (kinds.getD 1 0) (kinds.getD 2 0))
 else lp 2 nullable (qQ (kinds.getD 0 0) (kinds.getD 1 0))
def jH (name : List UInt8) (i : Int) (x : LVal) (ks : List KR) : KR :=
 if bQ name ≠ some ks.length ∨ i ≠ 0 ∨ x ≠ .nul then gv 3
 else match ks.find? fun r=>r.2.2 != 0 with
  | some r=>gv r.2.2
  | none=>eh name (ks.map (·.1)) (ks.any (·.2.1))
mutual
def dt (cols vars : List LCol) : LExpr → KR
 | .mk k n i x args =>
  if k ≠ 5 ∧ 0 < args.length then gv 3
  else if k == 1 then (if eR x && n == [] && i == 0 then (x.kind,x.kind == 0,0) else gv 3)
  else if k == 3 then (if i < 0 ∨ i ≥ 8 ∨ n ≠ [] ∨ x.kind < 1 ∨ x.kind > 3 ∨ x ≠ ⟨x.kind,0,[]⟩ then gv 3 else (x.kind,true,0))
  else if k == 2 || k == 4 then
   (if dz n && i == 0 && decide (x = .nul) then
    (let r := kY (if k == 4 then vars else cols) n
     if r.2 then (r.1.kind,r.1.nullable,0) else gv 23)
    else gv 3)
  else if k == 5 then jH n i x (kindsE cols vars args)
  else gv 3
def kindsE (cols vars : List LCol) : List LExpr → List KR
 | []=>[]
 | e :: r=>dt cols vars e :: kindsE cols vars r
end
theorem kindsE_map (cols vars : List LCol) : ∀ l,kindsE cols vars l = l.map (dt cols vars)
 | []=>rfl
 | e :: r=>by simp [kindsE,kindsE_map cols vars r]
theorem arity_of_idx (name : List UInt8) : (ba (fun x=>name == x) de < 0 ∧ bQ name = none) ∨
  ∃ a : Nat,0 ≤ ba (fun x=>name == x) de ∧ (opArity.map fun n=>[ap n])[(ba (fun x=>name == x) de).toNat]? = some [ap a] ∧ bQ name = some a := by
 by_cases hn : name ∈ de
 ·refine .inr ?_
  simp only [de,List.mem_cons,List.mem_nil_iff,or_false] at hn
  rcases hn with rfl | rfl | rfl | rfl | rfl | rfl | rfl | rfl | rfl | rfl | rfl | rfl | rfl <;> exact ⟨_,by decide,rfl,rfl⟩
 ·refine .inl ⟨?_,?_⟩
  ·rw [kJ fun x hx=>by
    cases hb : name == x with
    | false=>rfl
    | true=>exact absurd (by rw [eq_of_beq hb]; exact hx) hn]
   decide
  ·simp only [de,List.mem_cons,List.mem_nil_iff,or_false,not_or] at hn
   simp [bQ,hn]
theorem find_at {α : Type} {p : α → Bool} {l : List α} {j : Nat} (hlt : j < l.length) (hpre : ∀ x ∈ l.take j,p x = false) (h : p l[j] = true) : l.find? p = some l[j] := by
 rw [List.find?_eq_some_iff_getElem]
 refine ⟨h,j,hlt,rfl,fun i hi=>?_⟩
 have := hpre l[i] (List.mem_take_iff_getElem.2 ⟨i,by omega,rfl⟩)
 simp [this]
theorem kindRows {cols vars : List LCol} {args : List LExpr} {j : Nat} (h : j < args.length) : ((args.take j).map (dt cols vars)).map (fun r=>[ap r.1]) ++ [[ap (dt cols vars args[j]).1]] = ((args.take (j + 1)).map (dt cols vars)).map fun r=>[ap r.1] := by
 rw [List.take_add_one,ze h]
 simp only [List.map_append,Option.toList,List.map_cons,List.map_nil]
theorem kindAny {cols vars : List LCol} {args : List LExpr} {j : Nat} (h : j < args.length) : ((args.take (j + 1)).map (dt cols vars)).any (·.2.1) = (((args.take j).map (dt cols vars)).any (·.2.1) || (dt cols vars args[j]).2.1) := by
 rw [List.take_add_one,ze h]
 simp only [List.map_append,List.any_append,Option.toList,List.map_cons,List.map_nil,List.any_cons,List.any_nil,Bool.or_false]
theorem opKind_spec (cols vars : List LCol) (e : LExpr) (ih : ∀ a ∈ e.args,aP Tryz.prog 134 [jY cols,jY vars,jR a] (pkr (dt cols vars a))) :
  aP Tryz.prog 179 [jY cols,jY vars,jR e] (pkr (jH e.name e.index e.value (e.args.map (dt cols vars)))) := by
 rcases arity_of_idx e.name with ⟨hK,ha⟩ | ⟨ar,hK,hr,ha⟩
 ·refine PH.ay Tryz.func179 Tryz.ntmps179 ?_
  repeat' (first | (show Ao _ _ _ _ _; first | refine ak tk rfl ?_ | refine ac ?_ | refine aI ?_ | refine ao Tryz.call199 (jp.r) (gU) ?_ | refine ao Tryz.call169 (jp.r) (cG _ _) ?_) | (show V _ _ _ _ _; first | refine ab ?_ | refine aa ?_ | refine bW rfl ?_ | (show V _ _ _ (.code (.region 3 _ true) :: _) _; refine bp tk mok ⟨false,false,[]⟩ [0,1,2,3,4,5,6,7,8,9,10,11,12,13,14,15,16,17,18,19,20,21,22] rfl (by decide +kernel) rfl ?_)) | (show Do _ _ _ _ _ _ _; first | refine bK rfl ?_ | refine bg ?_ | ((fail_if_success refine mT rfl rfl ?_); refine nC rfl rfl rfl rfl (fun h=>?_) (fun h=>?_))))
  all_goals try (exfalso; simp_all <;> omega; done)
  all_goals refine fC tk (PLe.q ?_)
  all_goals (have : jH e.name e.index e.value (e.args.map (dt cols vars)) = gv 3 := by simp [jH,ha])
  all_goals (rw [this]; rfl)
 ·refine PH.ay Tryz.func179 Tryz.ntmps179 ?_
  repeat' (first | (show Ao _ _ _ _ _; first | refine ak tk rfl ?_ | refine ac ?_ | refine aI ?_ | (refine fT tk rfl rfl rfl rfl rfl rfl ?_; intro bk) | refine ao Tryz.call199 (jp.r) (gU) ?_ | refine ao Tryz.call169 (jp.r) (cG _ _) ?_) | (show V _ _ _ _ _; first | refine ab ?_ | refine aa ?_ | refine av ?_ | refine bW rfl ?_ | refine ax ?_ | (show V _ _ _ (.code (.region 3 _ true) :: _) _; refine bp tk mok ⟨false,false,[]⟩ [0,1,2,3,4,5,6,7,8,9,10,11,12,13,14,15,16,17,18,19,20,21,22] rfl (by decide +kernel) rfl ?_) | refine bA rfl (fun h=>?_) (fun h=>?_)) | (show Do _ _ _ _ _ _ _; first | refine bK rfl ?_ | refine bg ?_ | refine bc hK hr ?_ | ((fail_if_success refine mT rfl rfl ?_); refine nC rfl rfl rfl rfl (fun h=>?_) (fun h=>?_))))
  all_goals try (exfalso; simp_all <;> omega; done)
  case inr.refine_2.refine_1 =>
   refine fC tk (PLe.q ?_)
   rw [jH,zp (.inl (by rw [ha]; simp at h ⊢; omega))]
   rfl
  case inr.refine_2.refine_2.refine_1 =>
   refine fC tk (PLe.q ?_)
   rw [jH,zp (.inr (.inl (by simpa using h)))]
   rfl
  case inr.refine_2.refine_2.refine_2.refine_1 =>
   refine fC tk (PLe.q ?_)
   rw [jH,zp (.inr (.inr (by intro hh; rw [hh] at h; simp [LVal.nul] at h)))]
   rfl
  rename_i h0 h1 h2
  have hlen : e.args.length = ar := by
   simp at h1
   omega
  have hgood : ¬ (bQ e.name ≠ some (e.args.map (dt cols vars)).length ∨ e.index ≠ 0 ∨ e.value ≠ .nul) := by
   rw [ha]
   rintro (h3 | h3 | h3)
   ·simp [hlen] at h3
   ·exact h3 (by simpa using h2)
   ·apply h3
    cases hv : e.value
    rw [hv] at h
    simp at h
    simp [LVal.nul,h]
  rw [jH,zy hgood]
  refine gz tk 53 rfl rfl fun hl hby=>?_
  rw [zl] at hl hby
  have hby' : e.args.length * 88 ≤ 2 ^ 47 := hby
  refine qO tk 12 0 12 (e := 3) rfl rfl rfl rfl ?_
  refine kf (X := Nat × OwnRef) (fun X=>⟨164,upd (upd (upd (upd (upd (upd (upd (upd (fun _=>.any) 13 (aN (((e.args.take X.1).map (dt cols vars)).any (·.2.1)))) 12 (.box 12 bk 0)) 5 (.ptr (cu e))) 1 (jY vars)) 0 (jY cols)) 53 (qG e.args)) 54 (ap (e.args.map bE).length)) 55 (ap X.1),upd (fun _=>none) 12 (some ⟨bk,[.own 12 X.2 (((e.args.take X.1).map (dt cols vars)).map fun r=>[ap r.1]).length]⟩),upd (fun _=>none) 12 (some ⟨X.2,3,((e.args.take X.1).map (dt cols vars)).map fun r=>[ap r.1],true⟩)⟩)
   (fun X=>X.1 ≤ e.args.length ∧ ∀ x ∈ (e.args.map (dt cols vars)).take X.1,(x.2.2 != 0) = false) (fun X=>e.args.length - X.1) (0,⟨none,0⟩) ⟨Nat.zero_le _,by simp⟩ (Gh.le (aB (aB (aB (aB (aB (aB (aB (aB bt)))))))) (bJ rfl (jp.r) aT) (bI aS)) ?_
  rintro ⟨j,g⟩ ⟨hj,hpre⟩
  replace hj : j ≤ e.args.length := hj
  replace hpre : ∀ x ∈ (e.args.map (dt cols vars)).take j,(x.2.2 != 0) = false := hpre
  repeat (first | refine ak tk rfl ?_ | refine ac ?_ | refine ab ?_ | refine aa ?_)
  refine bA rfl (fun h=>?_) (fun h=>?_)
  ·have hlt : j < e.args.length := by simpa using h
   have hlt' : j < (e.args.map (dt cols vars)).length := by simpa using hlt
   repeat (first | refine ab ?_ | refine aa ?_ | refine av ?_ | refine ax ?_)
   refine aV tk (zn j) (tc hlt) ?_
   repeat (first | refine ak tk rfl ?_ | refine ac ?_ | refine ab ?_ | refine aa ?_ | refine aA tk ?_ | (refine fT tk rfl rfl rfl rfl rfl rfl ?_; intro bk) | refine au tk ?_)
   refine ao Tryz.call134 (jp.r) (ih _ (List.getElem_mem hlt)) ?_
   repeat (first | refine ak tk rfl ?_ | refine ac ?_ | refine ab ?_ | refine aa ?_)
   refine bA rfl (fun h=>?_) (fun h=>?_)
   ·repeat (first | refine ak tk rfl ?_ | refine ac ?_ | refine ab ?_ | refine aa ?_)
    refine fC tk (PLe.q ?_)
    rw [find_at hlt' hpre (by simpa using h),List.getElem_map]
    rfl
   ·repeat (first | refine ak tk rfl ?_ | refine aa ?_ | refine av ?_ | refine aA tk ?_ | refine sv tk rfl rfl rfl rfl rfl rfl ?_)
    refine ux (rows2 := [[ap (dt cols vars e.args[j]).1]]) tk rfl rfl rfl rfl rfl rfl rfl rfl rfl rfl rfl rfl rfl ?_ ?_ fun g'=>?_
    ·simp only [zl,List.length_take,List.length_cons,List.length_nil]
     rw [Nat.min_eq_left hj]
     show (j + 1) * 8 ≤ 2 ^ 47
     omega
    ·simp only [zl,List.length_take,List.length_cons,List.length_nil]
     omega
    repeat (refine ak tk rfl ?_)
    have hpre' : ∀ x ∈ (e.args.map (dt cols vars)).take (j + 1),(x.2.2 != 0) = false := pI (p := fun x : KR=>x.2.2 != 0) hlt' hpre (by rw [List.getElem_map]; exact h)
    have hany := kindAny (cols := cols) (vars := vars) hlt
    refine gE rfl rfl rfl (fun hn=>?_) (fun hn=>?_)
    ·repeat (first | refine ak tk rfl ?_ | refine ac ?_ | refine aa ?_ | refine aL ?_ | refine au tk ?_)
     rw [kindRows hlt]
     refine kR (j + 1,g') ?_ ⟨hlt,hpre'⟩ (Gh.le (bO (PLe.q (fD (by omega))) (aB (aB (aB (aB (aB (aB (bO (PLe.q (by rw [hany,hn]; rfl)) bt)))))))) (bJ rfl (jp.r) aT) (bI aS))
     show e.args.length - (j + 1) < e.args.length - j
     omega
    ·repeat (first | refine ak tk rfl ?_ | refine ac ?_ | refine aa ?_ | refine aL ?_ | refine au tk ?_)
     rw [kindRows hlt]
     refine kR (j + 1,g') ?_ ⟨hlt,hpre'⟩ (Gh.le (bO (PLe.q (fD (by omega))) (aB (aB (aB (aB (aB (aB (bO (PLe.q (by rw [hany,hn]; rfl)) bt)))))))) (bJ rfl (jp.r) aT) (bI aS))
     show e.args.length - (j + 1) < e.args.length - j
     omega
  have hge : j = e.args.length := by have : ¬ j < e.args.length := by simpa using h
                                     omega
  subst hge
  refine oX 12 0 rfl rfl rfl rfl rfl (sD 12 rfl rfl rfl rfl ?_)
  have hks : (e.args.map (dt cols vars)).find? (fun r=>r.2.2 != 0) = none := by
   rw [List.find?_eq_none]
   intro x hx
   have := hpre x (by rw [List.take_of_length_le (by simp)]; exact hx)
   simp [this]
  rw [hks]
  simp only [List.take_length]
  have hlk : (e.args.map (dt cols vars)).length = ar := by simp [hlen]
  generalize e.args.map (dt cols vars) = KS at hlk
  refine iy (st' := ⟨164,upd (upd (upd (fun _=>.any) 13 (aN (KS.any (·.2.1)))) 12 (.ptr [pints (KS.map (·.1))])) 5 (.ptr [ap e.kind,.str e.name,ap e.index,ap e.value.kind,ap e.value.int,.str e.value.text,qG e.args]),fun _=>none,fun _=>none⟩) (Gh.le (aB (bO (PLe.q (show PV.ptr [.list 3 (KS.map fun r=>[ap r.1])] = _ from by simp)) (aB bt))) aT aS) ?_
  replace hlk : (KS.map (·.1)).length = ar := by simpa using hlk
  generalize KS.map (·.1) = kinds at hlk
  generalize KS.any (·.2.1) = nl
  generalize e.name = name at ha
  clear hpre hks hgood h0 h1 h2 h hr hK ih hlen
  by_cases hn : name ∈ de
  ·simp only [de,List.mem_cons,List.mem_nil_iff,or_false] at hn
   rcases hn with rfl | rfl | rfl | rfl | rfl | rfl | rfl | rfl | rfl | rfl | rfl | rfl | rfl
   ·have har : ar = 2 := by have : some 2 = some ar := ha; exact (Option.some.inj this).symm
    subst har
    obtain ⟨a,b,rfl⟩ := ic hlk
    repeat' (first | (show Ao _ _ _ _ _; first | refine ak tk rfl ?_ | refine ac ?_ | refine ao Tryz.call210 (jp.r) (jN _ _) ?_ | refine ao Tryz.call214 (jp.r) (fX _ _ _) ?_) | (show V _ _ _ _ _; first | refine ab ?_ | refine aa ?_ | refine av ?_ | refine bW rfl ?_ | refine ax ?_ | refine br rfl ?_))
    all_goals refine fC tk (PLe.q ?_)
    all_goals simp_all [eh]
   ·have har : ar = 2 := by have : some 2 = some ar := ha; exact (Option.some.inj this).symm
    subst har
    obtain ⟨a,b,rfl⟩ := ic hlk
    repeat' (first | (show Ao _ _ _ _ _; first | refine ak tk rfl ?_ | refine ac ?_ | refine ao Tryz.call210 (jp.r) (jN _ _) ?_ | refine ao Tryz.call214 (jp.r) (fX _ _ _) ?_) | (show V _ _ _ _ _; first | refine ab ?_ | refine aa ?_ | refine av ?_ | refine bW rfl ?_ | refine bD rfl ?_ | refine ax ?_ | refine br rfl ?_))
    all_goals refine fC tk (PLe.q ?_)
    all_goals simp_all [eh]
   ·have har : ar = 2 := by have : some 2 = some ar := ha; exact (Option.some.inj this).symm
    subst har
    obtain ⟨a,b,rfl⟩ := ic hlk
    repeat' (first | (show Ao _ _ _ _ _; first | refine ak tk rfl ?_ | refine ac ?_ | refine ao Tryz.call210 (jp.r) (jN _ _) ?_ | refine ao Tryz.call214 (jp.r) (fX _ _ _) ?_) | (show V _ _ _ _ _; first | refine ab ?_ | refine aa ?_ | refine bW rfl ?_ | refine bD rfl ?_ | refine ax ?_ | refine br rfl ?_))
    all_goals refine fC tk (PLe.q ?_)
    all_goals simp_all [eh]
   ·have har : ar = 2 := by have : some 2 = some ar := ha; exact (Option.some.inj this).symm
    subst har
    obtain ⟨a,b,rfl⟩ := ic hlk
    repeat' (first | (show Ao _ _ _ _ _; first | refine ak tk rfl ?_ | refine ac ?_) | (show V _ _ _ _ _; first | refine ab ?_ | refine aa ?_ | refine av ?_ | refine bD rfl ?_ | refine ax ?_ | refine aL ?_ | refine br rfl ?_ | (show V _ _ _ (.code (.region 34 _ true) :: _) _; refine bp tk mok ⟨false,false,[]⟩ [0,1,2,3,4,5,6,7,8,9,10,11,12,13,14,15] rfl (by decide +kernel) rfl ?_)) | (show Do _ _ _ _ _ _ _; first | refine bK rfl ?_ | refine bg ?_ | refine aY Tryz.call213 (jp.r) (oY _ _) ?_ | refine aY Tryz.call214 (jp.r) (fX _ _ _) ?_))
    all_goals refine fC tk (PLe.q ?_)
    all_goals simp_all [eh]
   ·have har : ar = 2 := by have : some 2 = some ar := ha; exact (Option.some.inj this).symm
    subst har
    obtain ⟨a,b,rfl⟩ := ic hlk
    repeat' (first | (show Ao _ _ _ _ _; first | refine ak tk rfl ?_ | refine ac ?_) | (show V _ _ _ _ _; first | refine ab ?_ | refine aa ?_ | refine av ?_ | refine bD rfl ?_ | refine ax ?_ | refine aL ?_ | refine br rfl ?_ | (show V _ _ _ (.code (.region 34 _ true) :: _) _; refine bp tk mok ⟨false,false,[]⟩ [0,1,2,3,4,5,6,7,8,9,10,11,12,13,14,15] rfl (by decide +kernel) rfl ?_)) | (show Do _ _ _ _ _ _ _; first | refine bK rfl ?_ | refine bg ?_ | refine aY Tryz.call213 (jp.r) (oY _ _) ?_ | refine aY Tryz.call214 (jp.r) (fX _ _ _) ?_))
    all_goals refine fC tk (PLe.q ?_)
    all_goals simp_all [eh]
   ·have har : ar = 2 := by have : some 2 = some ar := ha; exact (Option.some.inj this).symm
    subst har
    obtain ⟨a,b,rfl⟩ := ic hlk
    repeat' (first | (show Ao _ _ _ _ _; first | refine ak tk rfl ?_ | refine ac ?_) | (show V _ _ _ _ _; first | refine ab ?_ | refine aa ?_ | refine av ?_ | refine bD rfl ?_ | refine ax ?_ | refine aL ?_ | refine br rfl ?_ | (show V _ _ _ (.code (.region 34 _ true) :: _) _; refine bp tk mok ⟨false,false,[]⟩ [0,1,2,3,4,5,6,7,8,9,10,11,12,13,14,15] rfl (by decide +kernel) rfl ?_)) | (show Do _ _ _ _ _ _ _; first | refine bK rfl ?_ | refine bg ?_ | refine aY Tryz.call213 (jp.r) (oY _ _) ?_ | refine aY Tryz.call214 (jp.r) (fX _ _ _) ?_))
    all_goals refine fC tk (PLe.q ?_)
    all_goals simp_all [eh]
   ·have har : ar = 2 := by have : some 2 = some ar := ha; exact (Option.some.inj this).symm
    subst har
    obtain ⟨a,b,rfl⟩ := ic hlk
    repeat' (first | (show Ao _ _ _ _ _; first | refine ak tk rfl ?_ | refine ac ?_ | refine ao Tryz.call210 (jp.r) (jN _ _) ?_ | refine ao Tryz.call214 (jp.r) (fX _ _ _) ?_) | (show V _ _ _ _ _; first | refine ab ?_ | refine aa ?_ | refine av ?_ | refine bW rfl ?_ | refine bD rfl ?_ | refine ax ?_ | refine br rfl ?_))
    all_goals refine fC tk (PLe.q ?_)
    all_goals simp_all [eh]
   ·have har : ar = 2 := by have : some 2 = some ar := ha; exact (Option.some.inj this).symm
    subst har
    obtain ⟨a,b,rfl⟩ := ic hlk
    repeat' (first | (show Ao _ _ _ _ _; first | refine ak tk rfl ?_ | refine ac ?_ | refine ao Tryz.call210 (jp.r) (jN _ _) ?_ | refine ao Tryz.call214 (jp.r) (fX _ _ _) ?_) | (show V _ _ _ _ _; first | refine ab ?_ | refine aa ?_ | refine av ?_ | refine bW rfl ?_ | refine bD rfl ?_ | refine ax ?_ | refine br rfl ?_))
    all_goals refine fC tk (PLe.q ?_)
    all_goals simp_all [eh]
   ·have har : ar = 1 := by have : some 1 = some ar := ha; exact (Option.some.inj this).symm
    subst har
    obtain ⟨a,rfl⟩ := List.length_eq_one_iff.1 hlk
    repeat' (first | (show Ao _ _ _ _ _; first | refine ak tk rfl ?_ | refine ac ?_ | refine ao Tryz.call210 (jp.r) (jN _ _) ?_ | refine ao Tryz.call214 (jp.r) (fX _ _ _) ?_) | (show V _ _ _ _ _; first | refine ab ?_ | refine aa ?_ | refine bW rfl ?_ | refine bD rfl ?_ | refine ax ?_ | refine br rfl ?_))
    all_goals refine fC tk (PLe.q ?_)
    all_goals simp_all [eh]
   ·have har : ar = 2 := by have : some 2 = some ar := ha; exact (Option.some.inj this).symm
    subst har
    obtain ⟨a,b,rfl⟩ := ic hlk
    repeat' (first | (show Ao _ _ _ _ _; first | refine ak tk rfl ?_ | refine ac ?_ | refine ao Tryz.call210 (jp.r) (jN _ _) ?_ | refine ao Tryz.call214 (jp.r) (fX _ _ _) ?_) | (show V _ _ _ _ _; first | refine ab ?_ | refine aa ?_ | refine bW rfl ?_ | refine bD rfl ?_ | refine ax ?_ | refine br rfl ?_))
    all_goals refine fC tk (PLe.q ?_)
    all_goals simp_all [eh]
   ·have har : ar = 1 := by have : some 1 = some ar := ha; exact (Option.some.inj this).symm
    subst har
    obtain ⟨a,rfl⟩ := List.length_eq_one_iff.1 hlk
    repeat' (first | (show Ao _ _ _ _ _; first | refine ak tk rfl ?_ | refine ac ?_) | (show V _ _ _ _ _; first | refine ab ?_ | refine aa ?_ | refine bW rfl ?_ | refine bD rfl ?_ | refine ax ?_ | refine br rfl ?_))
    all_goals refine fC tk (PLe.q ?_)
    all_goals simp_all [eh]
   ·have har : ar = 1 := by have : some 1 = some ar := ha; exact (Option.some.inj this).symm
    subst har
    obtain ⟨a,rfl⟩ := List.length_eq_one_iff.1 hlk
    repeat' (first | (show Ao _ _ _ _ _; first | refine ak tk rfl ?_ | refine ac ?_ | refine ao Tryz.call210 (jp.r) (jN _ _) ?_ | refine ao Tryz.call214 (jp.r) (fX _ _ _) ?_) | (show V _ _ _ _ _; first | refine ab ?_ | refine aa ?_ | refine bW rfl ?_ | refine bD rfl ?_ | refine ax ?_ | refine br rfl ?_))
    all_goals refine fC tk (PLe.q ?_)
    all_goals simp_all [eh]
   ·have har : ar = 3 := by have : some 3 = some ar := ha; exact (Option.some.inj this).symm
    subst har
    obtain ⟨a,b,c,rfl⟩ := len3 hlk
    repeat' (first | (show Ao _ _ _ _ _; first | refine ak tk rfl ?_ | refine ac ?_) | (show V _ _ _ _ _; first | refine ab ?_ | refine aa ?_ | refine bW rfl ?_ | refine bD rfl ?_ | refine ax ?_ | refine br rfl ?_ | (show V _ _ _ (.code (.region 33 _ true) :: _) _; refine bp tk mok ⟨false,false,[]⟩ [0,1,2,3,4,5,6,7,8,9,10,11,12,13,14,15,16,17,18,19,20,21,22,23,24,25,26,27,28,29] rfl (by decide +kernel) rfl ?_)) | (show Do _ _ _ _ _ _ _; first | refine bK rfl ?_ | refine bg ?_ | refine aY Tryz.call213 (jp.r) (oY _ _) ?_ | refine aY Tryz.call214 (jp.r) (fX _ _ _) ?_ | ((fail_if_success refine mT rfl rfl ?_); refine nC rfl rfl rfl rfl (fun h=>?_) (fun h=>?_))))
    all_goals refine fC tk (PLe.q ?_)
    all_goals simp_all [eh]
  ·simp only [de,List.mem_cons,List.mem_nil_iff,or_false,not_or] at hn
   simp [bQ,hn] at ha
theorem rx (cols vars : List LCol) (e : LExpr) : dt cols vars e =
  if e.kind ≠ 5 ∧ 0 < e.args.length then gv 3
  else if e.kind == 1 then (if eR e.value && e.name == [] && e.index == 0 then (e.value.kind,e.value.kind == 0,0) else gv 3)
  else if e.kind == 3 then (if e.index < 0 ∨ e.index ≥ 8 ∨ e.name ≠ [] ∨ e.value.kind < 1 ∨ e.value.kind > 3 ∨ e.value ≠ ⟨e.value.kind,0,[]⟩ then gv 3 else (e.value.kind,true,0))
  else if e.kind == 2 || e.kind == 4 then
   (if dz e.name && e.index == 0 && decide (e.value = .nul) then
    (if (kY (if e.kind == 4 then vars else cols) e.name).2 then ((kY (if e.kind == 4 then vars else cols) e.name).1.kind,(kY (if e.kind == 4 then vars else cols) e.name).1.nullable,0) else gv 23)
    else gv 3)
  else if e.kind == 5 then jH e.name e.index e.value (e.args.map (dt cols vars))
  else gv 3 := by
 cases e
 rw [dt,kindsE_map]
 rfl
theorem valNul_iff (x : LVal) : x = .nul ↔ x.kind = 0 ∧ x.int = 0 ∧ x.text = [] := by
 cases x
 simp [LVal.nul]
theorem valK_iff (x : LVal) : x = ⟨x.kind,0,[]⟩ ↔ x.int = 0 ∧ x.text = [] := by
 cases x
 simp
theorem kindStep (cols vars : List LCol) (e : LExpr) (ih : ∀ a ∈ e.args,aP Tryz.prog 134 [jY cols,jY vars,jR a] (pkr (dt cols vars a))) :
  aP Tryz.prog 134 [jY cols,jY vars,jR e] (pkr (dt cols vars e)) := by
 refine PH.ay Tryz.func134 Tryz.ntmps134 ?_
 repeat' (first | (show Ao _ _ _ _ _; first | refine ak tk rfl ?_ | refine ac ?_ | refine aI ?_ | (refine fT tk rfl rfl rfl rfl rfl rfl ?_; intro bk) | refine au tk ?_ | refine ao Tryz.call30 (jp.r) (uh _) ?_ | refine ao Tryz.call95 (jp.r) (mV _) ?_ | refine ao Tryz.call178 (jp.r) (find_spec _ _) ?_ | refine ao Tryz.call179 (jp.r) (opKind_spec cols vars e ih) ?_ | ((fail_if_success refine gc rfl ?_); refine gE rfl rfl rfl (fun h=>?_) (fun h=>?_))) | (show V _ _ _ _ _; first | refine ab ?_ | refine aa ?_ | refine av ?_ | refine bW rfl ?_ | refine bD rfl ?_ | refine ax ?_ | refine aL ?_ | (show V _ _ _ (.code (.region 7 _ true) :: _) _; refine bp tk mok ⟨true,false,[]⟩ [0,1,2,3,4,5,6,7,8,9] rfl (by decide +kernel) rfl ?_) | (show V _ _ _ (.code (.region 22 _ true) :: _) _; refine bp tk mok ⟨true,false,[]⟩ [0,1,2,3,4,5,6] rfl (by decide +kernel) rfl ?_) | refine bA rfl (fun h=>?_) (fun h=>?_)) | (show Do _ _ _ _ _ _ _; first | refine bK rfl ?_ | refine bg ?_ | refine ci ?_))
 all_goals refine fC tk (PLe.q ?_)
 all_goals rw [rx]
 all_goals (simp only [zl,Bool.not_eq_true',decide_eq_true_eq,decide_eq_false_iff_not,bne_iff_ne,beq_iff_eq,ne_eq,beq_eq_false_iff_ne,bne_eq_false_iff_eq] at *)
 all_goals try simp_all [gv,valNul_iff,valK_iff]
 all_goals (rw [zy (by first | omega | (rintro ⟨q1,q2,q3⟩; exact h q1 q2 q3))]; exact ⟨rfl,rfl,rfl⟩)
theorem kind_spec (cols vars : List LCol) : ∀ e : LExpr,aP Tryz.prog 134 [jY cols,jY vars,jR e] (pkr (dt cols vars e))
 | .mk k n i x args=>kindStep cols vars (.mk k n i x args) fun a ha=>by
  have ha' : a ∈ args := ha
  exact kind_spec cols vars a
def cV (cols vars : List LCol) (e : LExpr) : KR := if (iZ e).1 > 60 ∨ (iZ e).2 > 12 then gv 2 else dt cols vars e
theorem nS (cols vars : List LCol) (e : LExpr) : aP Tryz.prog 86 [jY cols,jY vars,jR e] (pkr (cV cols vars e)) := by
 refine PH.ay Tryz.func86 Tryz.ntmps86 ?_
 repeat' (first | (show Ao _ _ _ _ _; first | refine ak tk rfl ?_ | refine ac ?_ | refine aI ?_ | refine ao Tryz.call133 (jp.r) (size_spec _) ?_ | refine ao Tryz.call134 (jp.r) (kind_spec _ _ _) ?_ | ((fail_if_success refine gc rfl ?_); refine gE rfl rfl rfl (fun h=>?_) (fun h=>?_))) | (show V _ _ _ _ _; first | refine ab ?_ | refine aa ?_ | refine av ?_ | refine bW rfl ?_ | refine bA rfl (fun h=>?_) (fun h=>?_)))
 all_goals refine fC tk (PLe.q ?_)
 all_goals simp_all [cV,gv]
 rw [zy (by omega)]
 exact ⟨rfl,rfl,rfl⟩
mutual
def jw : LExpr → Int → Int
 | .mk _ _ _ _ args,m=>mH args m
def mH : List LExpr → Int → Int
 | [],m=>m
 | a :: r,m=>if wr (m - 1) < 0 then -1 else if jw a (wr (m - 1)) < 0 then -1 else mH r (jw a (wr (m - 1)))
end
theorem nodesE_eq (e : LExpr) (m : Int) : jw e m = mH e.args m := by
 cases e
 rw [jw]
 rfl
theorem nodesStep (e : LExpr) (most : Int) (ih : ∀ a ∈ e.args,∀ m,aP Tryz.prog 74 [jR a,ap m] (ap (jw a m))) :
  aP Tryz.prog 74 [jR e,ap most] (ap (jw e most)) := by
 rw [nodesE_eq]
 refine PH.ay Tryz.func74 Tryz.ntmps74 ?_
 repeat (first | refine ak tk rfl ?_ | refine ac ?_ | refine ab ?_ | refine aa ?_ | refine ax ?_ | refine aI ?_)
 refine gz tk 8 rfl rfl fun hl _=>?_
 rw [zl] at hl
 refine kf (X := Nat × Int) (fun X=>⟨25,upd (upd (upd (upd (fun _=>.any) 1 (ap X.2)) 8 (qG e.args)) 9 (ap (e.args.map bE).length)) 10 (ap X.1),fun _=>none,fun _=>none⟩)
  (fun X=>X.1 ≤ e.args.length ∧ mH (e.args.drop X.1) X.2 = mH e.args most) (fun X=>e.args.length - X.1) (0,most) ⟨Nat.zero_le _,rfl⟩ (Gh.le (aB (aB (aB (aB bt)))) aT aS) ?_
 rintro ⟨j,m⟩ ⟨hj,hm⟩
 replace hj : j ≤ e.args.length := hj
 replace hm : mH (e.args.drop j) m = mH e.args most := hm
 rw [← hm]
 repeat (first | refine ak tk rfl ?_ | refine ac ?_ | refine ab ?_ | refine aa ?_)
 refine bA rfl (fun h=>?_) (fun h=>?_)
 ·have hlt : j < e.args.length := by simpa using h
  have hd : e.args.drop j = e.args[j] :: e.args.drop (j + 1) := List.drop_eq_getElem_cons hlt
  rw [hd,mH]
  repeat (first | refine ab ?_ | refine aa ?_ | refine av ?_ | refine ax ?_)
  refine aV tk (zn j) (tc hlt) ?_
  repeat (first | refine ak tk rfl ?_ | refine ac ?_ | refine ab ?_ | refine aa ?_ | (refine fT tk rfl rfl rfl rfl rfl rfl ?_; intro bk) | refine au tk ?_)
  refine bA rfl (fun h1=>?_) (fun h1=>?_)
  ·repeat (first | refine ak tk rfl ?_ | refine ac ?_ | refine ab ?_ | refine aa ?_)
   refine cR tk (PLe.q ?_)
   rw [zp (by simpa [wr] using h1)]
  ·rw [zy (by simpa [wr] using h1)]
   repeat (first | refine ak tk rfl ?_ | refine ab ?_ | refine aa ?_ | refine av ?_ | refine aA tk ?_)
   refine ao Tryz.call74 (jp.r) (ih _ (List.getElem_mem hlt) _) ?_
   repeat (first | refine ak tk rfl ?_ | refine ac ?_ | refine ab ?_ | refine aa ?_)
   refine bA rfl (fun h2=>?_) (fun h2=>?_)
   ·repeat (first | refine ak tk rfl ?_ | refine ac ?_ | refine ab ?_ | refine aa ?_)
    refine cR tk (PLe.q ?_)
    rw [zp (by simpa [wr] using h2)]
   ·repeat (first | refine ak tk rfl ?_ | refine ac ?_ | refine aa ?_ | refine av ?_ | refine aL ?_)
    refine kR (j + 1,jw e.args[j] (wr (m - 1))) ?_ ⟨hlt,?_⟩ (Gh.le (bO (PLe.q (fD (by omega))) (aB (aB (aB bt)))) aT aS)
    ·show e.args.length - (j + 1) < e.args.length - j
     omega
    ·rw [zy (by simpa [wr] using h2)]
 have hge : j = e.args.length := by have : ¬ j < e.args.length := by simpa using h
                                    omega
 repeat (first | refine ak tk rfl ?_ | refine ac ?_ | refine ab ?_ | refine aa ?_ | refine br rfl ?_)
 refine cR tk (PLe.q ?_)
 rw [hge,List.drop_length,mH]
theorem rH : ∀ (e : LExpr) (m : Int),aP Tryz.prog 74 [jR e,ap m] (ap (jw e m))
 | .mk k n i x args,m=>nodesStep (.mk k n i x args) m fun a ha m=>by
  have ha' : a ∈ args := ha
  exact rH a m
end
end Go.Proofs.YteceobbkljmbmaaGreatDoor

namespace Go.Proofs.YteceobbkljmbmaaGreatDoor
noncomputable section
open Go Go.Ab
set_option maxRecDepth 4000
def fK (x : LVal) (k : Int) (nl : Bool) : Prop := eR x = true ∧ (x.kind = k ∨ x.kind = 0) ∧ (x.kind = 0 → nl = true)
theorem valid_kind {x : LVal} (h : eR x = true) : x.kind = 0 ∨ x.kind = 1 ∨ x.kind = 2 ∨ x.kind = 3 := by
 unfold eR at h
 by_cases h0 : x.kind = 0
 ·exact .inl h0
 ·by_cases h1 : x.kind = 1
  ·exact .inr (.inl h1)
  ·by_cases h2 : x.kind = 2
   ·exact .inr (.inr (.inl h2))
   ·by_cases h3 : x.kind = 3
    ·exact .inr (.inr (.inr h3))
    ·simp [h0,h1,h2,h3] at h
theorem iv {k : Int} {nl : Bool} (h : nl = true) : fK .nul k nl := ⟨rfl,.inr rfl,fun _=>h⟩
theorem od (b : Bool) (nl : Bool) : fK (lU b) 2 nl := by
 cases b <;> exact ⟨rfl,.inl rfl,fun h=>by simp [lU] at h⟩
theorem fits_int (n : Int) : fK (intV n) 1 true := by
 unfold intV
 split
 ·exact iv rfl
 ·refine ⟨?_,.inl rfl,fun _=>rfl⟩
  simp [eR]
  omega
theorem fits_number (op : List UInt8) (a b : Int) : fK (po op a b) 1 true := by
 unfold po
 repeat' split
 all_goals first | exact fits_int _ | exact iv rfl
structure EnvOk (cols vars : List LCol) (v : LEnv) : Prop where
 hcols : v.cols = cols
 len : v.row.length = cols.length
 row : ∀ (i : Nat) (c : LCol) (x : LVal),cols[i]? = some c → v.row[i]? = some x → fK x c.kind c.nullable
 params : ∀ x ∈ v.params,eR x = true
 names : v.vnames = vars.map LCol.name
 vlen : v.vvals.length = vars.length
 vals : ∀ (i : Nat) (c : LCol) (x : LVal),vars[i]? = some c → v.vvals[i]? = some x → fK x c.kind c.nullable
theorem idxOf_map {α β : Type} (g : α → β) (p : β → Bool) (q : α → Bool) (h : ∀ a,p (g a) = q a) (l : List α) : ba p (l.map g) = ba q l := by
 have : (l.map g).findIdx? p = l.findIdx? q := by
  induction l with
  | nil=>rfl
  | cons a l ih=>simp [List.findIdx?_cons,h,ih]
 simp [ba,this]
theorem pH {α : Type} {p : α → Bool} {l : List α} (h : 0 ≤ ba p l) : (ba p l).toNat < l.length := by
 have := idxOf_lt (p := p) (l := l)
 omega
theorem find_some {l : List LCol} {name : List UInt8} (h : (kY l name).2 = true) : 0 ≤ ba (fun c : LCol=>c.name == name) l ∧ l[(ba (fun c : LCol=>c.name == name) l).toNat]? = some (kY l name).1 := by
 unfold kY at h ⊢
 by_cases hi : ba (fun c : LCol=>c.name == name) l < 0
 ·simp [hi] at h
 ·have hlt := pH (p := fun c : LCol=>c.name == name) (l := l) (by omega)
  simp only [hi,if_false]
  refine ⟨by omega,?_⟩
  simp [hlt]
theorem ug {l : List LCol} {vals : Rq} {name : List UInt8} (hlen : vals.length = l.length) (hv : ∀ (i : Nat) (c : LCol) (x : LVal),l[i]? = some c → vals[i]? = some x → fK x c.kind c.nullable) (h : (kY l name).2 = true) :
  0 ≤ ba (fun c : LCol=>c.name == name) l ∧ ba (fun c : LCol=>c.name == name) l < vals.length ∧ fK (vals.getD (ba (fun c : LCol=>c.name == name) l).toNat .nul) (kY l name).1.kind (kY l name).1.nullable := by
 obtain ⟨h0,h1⟩ := find_some h
 have hlt := pH h0
 have hlt' : (ba (fun c : LCol=>c.name == name) l).toNat < vals.length := by omega
 refine ⟨h0,by omega,?_⟩
 have := hv _ _ vals[(ba (fun c : LCol=>c.name == name) l).toNat] h1 (ze hlt')
 simpa [hlt'] using this
theorem arity_name {name : List UInt8} {a : Nat} (h : bQ name = some a) : name ∈ de := by
 unfold bQ at h
 simp only [de,List.mem_cons,List.mem_nil_iff,or_false]
 split at h
 ·rename_i h1
  simp only [Bool.or_eq_true,beq_iff_eq] at h1
  rcases h1 with (((((((h1 | h1) | h1) | h1) | h1) | h1) | h1) | h1) | h1 <;> simp [h1]
 ·split at h
  ·rename_i h1
   simp only [Bool.or_eq_true,beq_iff_eq] at h1
   rcases h1 with (h1 | h1) | h1 <;> simp [h1]
  ·split at h
   ·rename_i h1
    simp only [beq_iff_eq] at h1
    simp [h1]
   ·cases h
theorem fits_both {a b : LVal} {ka kb : Int} {na nb : Bool} (d : Int) (hd : d = 0 ∨ d = 1) (ha : fK a ka na) (hb : fK b kb nb) (h1 : ka = 2 ∨ ka = 0) (h2 : kb = 2 ∨ kb = 0) : fK (qe a b d) 2 (na || nb) := by
 obtain ⟨va,ka',na'⟩ := ha
 obtain ⟨vb,kb',nb'⟩ := hb
 have bool2 : ∀ {x : LVal},eR x = true → x.kind = 2 → x.int = 0 ∨ x.int = 1 := by
  intro x hx hk
  simp [eR,hk] at hx
  exact hx.2
 have w1 : wr (1 - d) = 1 - d := by rcases hd with rfl | rfl <;> rfl
 unfold qe
 split
 ·exact od _ _
 ·rename_i hn
  split
  ·exact od _ _
  ·rename_i hm
   apply iv
   by_cases ha0 : a.kind = 0
   ·simp [na' ha0]
   ·by_cases hb0 : b.kind = 0
    ·simp [nb' hb0]
    ·exfalso
     have a2 : a.kind = 2 := by omega
     have b2 : b.kind = 2 := by omega
     have ia := bool2 va a2
     have ib := bool2 vb b2
     simp [a2,b2,w1] at hn hm
     omega
theorem op_sound {name : List UInt8} {xs : Rq} {ks : List KR} (hlen : xs.length = ks.length) (hok : ∀ (i : Nat) (x : LVal) (r : KR),xs[i]? = some x → ks[i]? = some r → fK x r.1 r.2.1) (har : bQ name = some ks.length)
  (ht : (eh name (ks.map (·.1)) (ks.any (·.2.1))).2.2 = 0) : fK (bG name xs) (eh name (ks.map (·.1)) (ks.any (·.2.1))).1 (eh name (ks.map (·.1)) (ks.any (·.2.1))).2.1 := by
 have hn := arity_name har
 have ty0 : ∀ {k : Int} {nl ok : Bool},(lp k nl ok).2.2 = 0 → ok = true ∧ lp k nl ok = (k,nl,0) := by
  intro k nl ok h
  cases ok
  ·simp [lp] at h
  ·exact ⟨rfl,rfl⟩
 have all2 : ∀ {w : Int} {a b : Int},oV w [a,b] = true → (a = w ∨ a = 0) ∧ (b = w ∨ b = 0) := by
  intro w a b h
  simp [oV] at h
  omega
 have all1 : ∀ {w : Int} {a : Int},oV w [a] = true → (a = w ∨ a = 0) := by
  intro w a h
  simp [oV] at h
  omega
 simp only [de,List.mem_cons,List.mem_nil_iff,or_false] at hn
 rcases hn with rfl | rfl | rfl | rfl | rfl | rfl | rfl | rfl | rfl | rfl | rfl | rfl | rfl
 case inl | inr.inl | inr.inr.inl =>
  all_goals
   have h2 : ks.length = 2 := (Option.some.inj har).symm
   obtain ⟨r,s,rfl⟩ := ic h2
   obtain ⟨a,b,rfl⟩ := ic (hlen.trans h2)
   simp [eh] at ht ⊢
   obtain ⟨_,e⟩ := ty0 ht
   rw [e]
   simp [bG,bQ,iW]
   repeat' split
   all_goals first | exact fits_number _ _ _ | exact iv rfl
 case inr.inr.inr.inl | inr.inr.inr.inr.inl | inr.inr.inr.inr.inr.inl =>
  all_goals
   have h2 : ks.length = 2 := (Option.some.inj har).symm
   obtain ⟨r,s,rfl⟩ := ic h2
   obtain ⟨a,b,rfl⟩ := ic (hlen.trans h2)
   have fa := hok 0 a r rfl rfl
   have fb := hok 1 b s rfl rfl
   simp [eh] at ht ⊢
   obtain ⟨_,e⟩ := ty0 ht
   rw [e]
   simp [bG,bQ,iW]
   split
   ·rename_i h0
    apply iv
    rcases h0 with h0 | h0
    ·simp [fa.2.2 h0]
    ·simp [fb.2.2 h0]
   ·exact od _ _
 case inr.inr.inr.inr.inr.inr.inl | inr.inr.inr.inr.inr.inr.inr.inl =>
  all_goals
   have h2 : ks.length = 2 := (Option.some.inj har).symm
   obtain ⟨r,s,rfl⟩ := ic h2
   obtain ⟨a,b,rfl⟩ := ic (hlen.trans h2)
   have fa := hok 0 a r rfl rfl
   have fb := hok 1 b s rfl rfl
   simp [eh] at ht ⊢
   obtain ⟨hal,e⟩ := ty0 ht
   rw [e]
   obtain ⟨h3,h4⟩ := all2 hal
   simp [bG,bQ]
   exact fits_both _ (by omega) fa fb h3 h4
 case inr.inr.inr.inr.inr.inr.inr.inr.inl =>
  have h2 : ks.length = 1 := (Option.some.inj har).symm
  obtain ⟨r,rfl⟩ := List.length_eq_one_iff.1 h2
  obtain ⟨a,rfl⟩ := List.length_eq_one_iff.1 (hlen.trans h2)
  have fa := hok 0 a r rfl rfl
  simp [eh] at ht ⊢
  obtain ⟨hal,e⟩ := ty0 ht
  rw [e]
  have h3 := all1 hal
  simp [bG,bQ,iW,jj]
  split
  ·rename_i h0; exact iv (fa.2.2 h0)
  ·rename_i h0
   have : a.kind = 2 := by have := fa.2.1; omega
   rw [zp this]
   exact od _ _
 case inr.inr.inr.inr.inr.inr.inr.inr.inr.inl =>
  have h2 : ks.length = 2 := (Option.some.inj har).symm
  obtain ⟨r,s,rfl⟩ := ic h2
  obtain ⟨a,b,rfl⟩ := ic (hlen.trans h2)
  simp [eh] at ht ⊢
  obtain ⟨_,e⟩ := ty0 ht
  rw [e]
  simp [bG,bQ,iW]
  repeat' split
  all_goals first | exact iv rfl | skip
  rename_i h3
  refine ⟨?_,.inl rfl,fun h=>by simp at h⟩
  simp [eR]
  omega
 case inr.inr.inr.inr.inr.inr.inr.inr.inr.inr.inl =>
  have h2 : ks.length = 1 := (Option.some.inj har).symm
  obtain ⟨r,rfl⟩ := List.length_eq_one_iff.1 h2
  obtain ⟨a,rfl⟩ := List.length_eq_one_iff.1 (hlen.trans h2)
  simp [eh,bG,bQ]
  exact od _ _
 case inr.inr.inr.inr.inr.inr.inr.inr.inr.inr.inr.inl =>
  have h2 : ks.length = 1 := (Option.some.inj har).symm
  obtain ⟨r,rfl⟩ := List.length_eq_one_iff.1 h2
  obtain ⟨a,rfl⟩ := List.length_eq_one_iff.1 (hlen.trans h2)
  have fa := hok 0 a r rfl rfl
  simp [eh] at ht ⊢
  obtain ⟨hal,e⟩ := ty0 ht
  rw [e]
  have h3 := all1 hal
  simp [bG,bQ,iW,jj]
  split
  ·rename_i h0; exact iv (fa.2.2 h0)
  ·rename_i h0
   have hk : a.kind = 3 := by have := fa.2.1; omega
   rw [zp hk]
   have hv := fa.1
   simp [eR,hk] at hv
   have hi : intV (a.text.length : Int) = ⟨1,a.text.length,[]⟩ := by unfold intV; rw [zy (by omega)]
   rw [hi]
   refine ⟨?_,.inl rfl,fun h=>by simp at h⟩
   simp [eR]
   omega
 case inr.inr.inr.inr.inr.inr.inr.inr.inr.inr.inr.inr =>
  have h2 : ks.length = 3 := (Option.some.inj har).symm
  obtain ⟨r,s,t,rfl⟩ := len3 h2
  obtain ⟨a,b,c,rfl⟩ := len3 (hlen.trans h2)
  have fb := hok 1 b s rfl rfl
  have fc := hok 2 c t rfl rfl
  simp [eh] at ht ⊢
  obtain ⟨hal,e⟩ := ty0 ht
  rw [e]
  simp [qQ] at hal
  have kb := valid_kind fb.1
  have kc := valid_kind fc.1
  have ob := fb.2.1
  have oc := fc.2.1
  simp [bG,bQ]
  split
  ·refine ⟨fb.1,?_,fun h=>by simp [fb.2.2 h]⟩
   by_cases hb0 : b.kind = 0
   ·exact .inr hb0
   ·left
    split <;> omega
  ·refine ⟨fc.1,?_,fun h=>by simp [fc.2.2 h]⟩
   by_cases hc0 : c.kind = 0
   ·exact .inr hc0
   ·left
    split <;> omega
theorem kind_sound {cols vars : List LCol} {v : LEnv} (hv : EnvOk cols vars v) : ∀ e : LExpr,(dt cols vars e).2.2 = 0 → fK (bP v e) (dt cols vars e).1 (dt cols vars e).2.1 := by
 intro e
 generalize hk : SizeOf.sizeOf e = k
 induction k using Nat.strongRecOn generalizing e with
 | _ k ih =>
  intro h0
  have harg : ∀ a ∈ e.args,(dt cols vars a).2.2 = 0 → fK (bP v a) (dt cols vars a).1 (dt cols vars a).2.1 := by
   intro a ha
   refine ih (SizeOf.sizeOf a) ?_ a rfl
   rw [← hk]
   cases e
   have := List.sizeOf_lt_of_mem (show a ∈ _ from ha)
   simp only [LExpr.mk.sizeOf_spec,LExpr.args] at *
   omega
  have hK := rx cols vars e
  have hE := gT v e
  by_cases c0 : e.kind ≠ 5 ∧ 0 < e.args.length
  ·rw [zp c0] at hK; rw [hK] at h0; simp [gv] at h0
  rw [zy c0] at hK
  by_cases c1 : e.kind == 1
  ·rw [zp c1] at hK hE
   by_cases hc : (eR e.value && e.name == [] && e.index == 0) = true
   ·rw [zp hc] at hK
    rw [hK,hE]
    simp only [Bool.and_eq_true] at hc
    exact ⟨hc.1.1,.inl rfl,fun h=>by simp [h]⟩
   ·rw [zy hc] at hK; rw [hK] at h0; simp [gv] at h0
  rw [zy c1] at hK hE
  by_cases c3 : e.kind == 3
  ·have c2 : ¬ (e.kind == 2) = true := by simp at c3 ⊢; omega
   rw [zp c3] at hK
   rw [zy c2,zp c3] at hE
   split at hK
   ·rw [hK] at h0; simp [gv] at h0
   ·rw [hK,hE]
    split
    ·rename_i hp
     have hlt : e.index.toNat < v.params.length := by omega
     have hm : v.params.getD e.index.toNat .nul ∈ v.params := by
      simp [hlt]
     exact ⟨hv.params _ hm,.inl hp.2.2,fun _=>rfl⟩
    ·exact iv rfl
  rw [zy c3] at hK
  by_cases c24 : (e.kind == 2 || e.kind == 4) = true
  ·rw [zp c24] at hK
   by_cases hs : (dz e.name && e.index == 0 && decide (e.value = .nul)) = true
   ·rw [zp hs] at hK
    by_cases hf : (kY (if e.kind == 4 then vars else cols) e.name).2 = true
    ·rw [zp hf] at hK
     rw [hK,hE]
     by_cases c2 : e.kind == 2
     ·have c4 : ¬ (e.kind == 4) = true := by simp at c2 ⊢; omega
      rw [zp c2]
      rw [zy c4] at hf ⊢
      obtain ⟨f1,f2,f3⟩ := ug hv.len hv.row hf
      rw [hv.hcols,zp ⟨f1,f2⟩]
      exact f3
     ·have c4 : (e.kind == 4) = true := by simpa [c2] using c24
      rw [zy c2,zy c3,zp c4]
      rw [zp c4] at hf ⊢
      obtain ⟨f1,f2,f3⟩ := ug hv.vlen hv.vals hf
      have e1 : ba (fun s : List UInt8=>e.name == s) v.vnames = ba (fun c : LCol=>c.name == e.name) vars := by
       rw [hv.names]
       exact idxOf_map LCol.name _ _ (fun c=>by rw [Bool.eq_iff_iff]; simp; exact eq_comm) vars
      rw [e1,zp ⟨f1,f2⟩]
      exact f3
    ·rw [zy hf] at hK; rw [hK] at h0; simp [gv] at h0
   ·rw [zy hs] at hK; rw [hK] at h0; simp [gv] at h0
  rw [zy c24] at hK
  have c2 : ¬ (e.kind == 2) = true := fun h=>c24 (by simp [h])
  have c4 : ¬ (e.kind == 4) = true := fun h=>c24 (by simp [h])
  rw [zy c2,zy c3,zy c4] at hE
  by_cases c5 : e.kind == 5
  ·rw [zp c5] at hK hE
   unfold jH at hK
   split at hK
   ·rw [hK] at h0; simp [gv] at h0
   ·rename_i hop
    split at hK
    ·rename_i r hr
     have := List.find?_some hr
     rw [hK] at h0
     simp [gv] at h0
     simp [h0] at this
    ·rename_i hr
     have hnone := List.find?_eq_none.1 hr
     rw [hK] at h0
     rw [hK,hE]
     refine op_sound (by simp) ?_ ?_ h0
     ·intro i x r hx hr'
      simp only [List.getElem?_map,Option.map_eq_some_iff] at hx hr'
      obtain ⟨a,ha,rfl⟩ := hx
      obtain ⟨b,hb,rfl⟩ := hr'
      rw [ha] at hb
      cases hb
      refine harg a (List.mem_of_getElem? ha) ?_
      have := hnone _ (List.mem_map.2 ⟨a,List.mem_of_getElem? ha,rfl⟩)
      simpa using this
     ·exact Classical.byContradiction fun hne=>hop (.inl hne)
  ·rw [zy c5] at hK; rw [hK] at h0; simp [gv] at h0
theorem type_sound {cols vars : List LCol} {v : LEnv} (hv : EnvOk cols vars v) (e : LExpr) (h : (cV cols vars e).2.2 = 0) : fK (bP v e) (cV cols vars e).1 (cV cols vars e).2.1 := by
 unfold cV at h ⊢
 split at h
 ·simp [gv] at h
 ·rename_i hc
  rw [zy hc]
  exact kind_sound hv e h
end
end Go.Proofs.YteceobbkljmbmaaGreatDoor

namespace Go.Proofs.YteceobbkljmbmaaGreatDoor
noncomputable section
open Go Go.Ab
structure LTable where
 name : List UInt8
 columns : List LCol
 primaryKey : List Int
 deriving DecidableEq
@[simp] def cd (x : LTable) : List PV := [(.str x.name),(.list 70 (x.columns.map aR)),(.list 3 (x.primaryKey.map bT))]
structure LForeignKey where
 table : List UInt8
 columns : List Int
 refTable : List UInt8
 deriving DecidableEq
@[simp] def jL (x : LForeignKey) : List PV := [(.str x.table),(.list 3 (x.columns.map bT)),(.str x.refTable)]
structure LConstraint where
 table : List UInt8
 left : Int
 op : List UInt8
 right : Int
 value : LVal
 deriving DecidableEq
@[simp] def lf (x : LConstraint) : List PV := [(.str x.table),(ap x.left),(.str x.op),(ap x.right),(ap x.value.kind),(ap x.value.int),(.str x.value.text)]
structure LSchema where
 tables : List LTable
 foreignKeys : List LForeignKey
 constraints : List LConstraint
 deriving DecidableEq
@[simp] def bM (x : LSchema) : List PV := [(.list 73 (x.tables.map cd)),(.list 131 (x.foreignKeys.map jL)),(.list 137 (x.constraints.map lf))]
structure LAggregateCall where
 name : List UInt8
 function : List UInt8
 args : List LExpr
@[simp] def lg (x : LAggregateCall) : List PV := [(.str x.name),(.str x.function),(.list 92 (x.args.map bE))]
inductive LQuery where
 | mk (kind : Int) (table : List UInt8) (names : List (List UInt8)) (exprs : List LExpr) (aggregates : List LAggregateCall) (descending : List Bool) (count : Int) (offset : Int) (inputs : List LQuery)
def LQuery.kind : LQuery → Int | .mk a _ _ _ _ _ _ _ _=>a
def LQuery.table : LQuery → List UInt8 | .mk _ a _ _ _ _ _ _ _=>a
def LQuery.names : LQuery → List (List UInt8) | .mk _ _ a _ _ _ _ _ _=>a
def LQuery.exprs : LQuery → List LExpr | .mk _ _ _ a _ _ _ _ _=>a
def LQuery.aggregates : LQuery → List LAggregateCall | .mk _ _ _ _ a _ _ _ _=>a
def LQuery.descending : LQuery → List Bool | .mk _ _ _ _ _ a _ _ _=>a
def LQuery.count : LQuery → Int | .mk _ _ _ _ _ _ a _ _=>a
def LQuery.offset : LQuery → Int | .mk _ _ _ _ _ _ _ a _=>a
def LQuery.inputs : LQuery → List LQuery | .mk _ _ _ _ _ _ _ _ a=>a
mutual
def cn : LQuery → List PV
 | .mk f0 f1 f2 f3 f4 f5 f6 f7 f8=>[(ap f0),(.str f1),(.list 9 (f2.map kC)),(.list 92 (f3.map bE)),(.list 107 (f4.map lg)),(.list 4 (f5.map rBool)),(ap f6),(ap f7),.list 35 (qo f8)]
def qo : List LQuery → List (List PV)
 | []=>[]
 | e :: r=>cn e :: qo r
end
theorem rW : ∀ l,qo l = l.map cn
 | []=>rfl
 | e :: r=>by simp [qo,rW r]
def aH (x : LQuery) : List PV := [(ap x.kind),(.str x.table),(.list 9 (x.names.map kC)),(.list 92 (x.exprs.map bE)),(.list 107 (x.aggregates.map lg)),(.list 4 (x.descending.map rBool)),(ap x.count),(ap x.offset),(.list 35 (x.inputs.map cn))]
theorem bN (x : LQuery) : cn x = aH x := by
 cases x
 simp [cn,aH,rW,LQuery.kind,LQuery.table,LQuery.names,LQuery.exprs,LQuery.aggregates,LQuery.descending,LQuery.count,LQuery.offset,LQuery.inputs]
structure LResult where
 columns : List LCol
 rows : Rz
 deriving DecidableEq
@[simp] def nX (x : LResult) : List PV := [(.list 70 (x.columns.map aR)),(.list 77 (x.rows.map (aq 75 ae)))]
structure LCardinalityBounds where
 low : Int
 high : Int
 deriving DecidableEq
@[simp] def bS (x : LCardinalityBounds) : List PV := [(ap x.low),(ap x.high)]
structure LRelation where
 table : List UInt8
 rows : Rz
 deriving DecidableEq
@[simp] def cZ (x : LRelation) : List PV := [(.str x.table),(.list 77 (x.rows.map (aq 75 ae)))]
structure LCardinalityTableSize where
 table : List UInt8
 rows : Int
 deriving DecidableEq
@[simp] def co (x : LCardinalityTableSize) : List PV := [(.str x.table),(ap x.rows)]
structure LRun where
 s : LSchema
 st : List LRelation
 args : Rq
 vars : List LCol
 names : List (List UInt8)
 vals : Rq
 deriving DecidableEq
@[simp] def dS (x : LRun) : List PV := [(.list 73 (x.s.tables.map cd)),(.list 131 (x.s.foreignKeys.map jL)),(.list 137 (x.s.constraints.map lf)),(.list 79 (x.st.map cZ)),(.list 75 (x.args.map ae)),(.list 70 (x.vars.map aR)),(.list 9 (x.names.map kC)),(.list 75 (x.vals.map ae))]
structure LChecker where
 s : LSchema
 vars : List LCol
 deriving DecidableEq
@[simp] def ek (x : LChecker) : List PV := [(.list 73 (x.s.tables.map cd)),(.list 131 (x.s.foreignKeys.map jL)),(.list 137 (x.s.constraints.map lf)),(.list 70 (x.vars.map aR))]
end
end Go.Proofs.YteceobbkljmbmaaGreatDoor

namespace Go.Ab
noncomputable section
section
variable {P : Program} {T : TT}
theorem detS_idxO (hT : T.Ok P) {o : Oper} {ev : Operand → PV} {H : Heap} {t : TypeId} {x i : Operand} (ho : o.op = .indexAddr t x i) {ti ei : TInfo} {e : TypeId} (hti : T.get t = some ti) (hd : ti.desc = .slice e) (hei : T.get e = some ei)
  {tag : Nat} {g : OwnRef} {len : Nat} (hx : ev x = .own tag g len) {k : IntKind} {j : Int} (hi : ev i = .val (.int k j)) (hj : 0 ≤ j ∧ j.toNat < len) (hb : ∃ b,g.blk = some b) : DetS P o ev H (.optr tag g ei.size j.toNat 0) := by
 intro C M a w _ he
 have hxr := he x (by rw [ho]; simp [Op.operands])
 have hir := he i (by rw [ho]; simp [Op.operands])
 rw [hx] at hxr
 rw [hi] at hir
 simp only [Rep] at hxr hir
 obtain ⟨b,hb⟩ := hb
 have hu := (hT.get hti).rund w
 rw [hd] at hu
 have hsz := (hT.get hei).rsize w
 have h2 : j < (len : Int) := by omega
 refine ⟨.pointer (some ⟨b,j.toNat * ei.size,none⟩),?_,?_⟩
 ·simp [execOp,ho,Instr.indexAt,hir,hxr.2,OwnRef.val,hb,asIntOf,hu,hj.1,h2,hsz,eB]
 ·simp only [Rep]
  exact ⟨trivial,b,hb,by simp⟩
theorem oD {k : Nat} : ∀ {rows : List (List PV)} {j : Nat} {r : List PV},(∀ q ∈ rows,q.length = k) → rows[j]? = some r → ∀ i p,r[i]? = some p → rows.flatten[j * k + i]? = some p
 | [],j,r,_,h,_,_,_=>by simp at h
 | q :: rows,0,r,hl,h,i,p,hp=>by
  simp only [List.getElem?_cons_zero,zo] at h
  subst h
  simp only [List.flatten_cons,Nat.zero_mul,Nat.zero_add]
  rw [List.getElem?_append_left (zg.1 hp).1]
  exact hp
 | q :: rows,j + 1,r,hl,h,i,p,hp=>by
  have hq := hl q (by simp)
  have := oD (rows := rows) (j := j) (fun q hq=>hl q (by simp [hq])) (by simpa using h) i p hp
  simp only [List.flatten_cons]
  rw [List.getElem?_append_right (by rw [hq,Nat.add_mul]; omega),hq,show (j + 1) * k + i - k = j * k + i from by rw [Nat.add_mul]; omega]
  exact this
theorem detS_loadO (hT : T.Ok P) {o : Oper} {ev : Operand → PV} {H : Heap} {t : TypeId} {x : Operand} (ho : o.op = .load t x) {ti : TInfo} (hti : T.get t = some ti) {tag : Nat} {g : OwnRef} {k row off : Nat} (hx : ev x = .optr tag g k row off)
  {e : TypeId} {rows : List (List PV)} {wr : Bool} (hob : H.ob tag = some ⟨g,e,rows,wr⟩) {ei : TInfo} (hei : T.get e = some ei) (hk : k = ei.size) {cells : List PV} (hr : rows[row]? = some cells) {r : PV} (hc : cf ti off cells = some r) : DetS P o ev H r := by
 intro C M a w hi he
 have hxr := he x (by rw [ho]; simp [Op.operands])
 rw [hx] at hxr
 simp only [Rep] at hxr
 obtain ⟨_,b,hb,hv⟩ := hxr
 obtain ⟨i,h1,h2,h3,h4⟩ := hi.objs tag _ hob
 obtain ⟨i',h5,h6,_,_⟩ := (hT.get hei).info
 simp only at h1 h3 h4
 rw [h1] at h5
 cases h5
 rcases h4 with ⟨hn,_⟩ | ⟨b',cur,hb',hm,hcur,hcs,hlc,hcm,hcr,h1c,_,_⟩
 ·rw [hb] at hn; cases hn
 ·rw [hb] at hb'
  cases hb'
  have hlt : row < rows.length := (zg.1 hr).1
  have hcl : cells.length = i.size := h3 cells (List.mem_of_getElem? hr)
  have hks : k = i.size := by rw [hk,h6]
  subst hks
  -- the cells of that row
  have hflat : rows.flatten.length = rows.length * i.size := by
   have : ∀ l : List (List PV),(∀ q ∈ l,q.length = i.size) → l.flatten.length = l.length * i.size := by
    intro l
    induction l with
    | nil=>simp
    | cons q l ih=>intro hl; simp [ih fun q hq=>hl q (by simp [hq]),hl q (by simp),Nat.add_mul]; omega
   exact this rows h3
  have hseg : aD P M false cells ((cur.toList.take (rows.length * i.size)).drop (row * i.size) |>.take i.size) := by
   have h7 := (hcr.drop (row * i.size)).take i.size
   have e1 : (rows.flatten.drop (row * i.size)).take i.size = cells := by
    apply List.ext_getElem?
    intro m
    rw [List.getElem?_take]
    split
    ·rename_i hm
     rw [List.getElem?_drop]
     have hcm : cells[m]? = some cells[m] := ze (by omega)
     rw [hcm]
     exact oD h3 hr m _ hcm
    ·rw [List.getElem?_eq_none (by omega)]
   rwa [e1] at h7
  obtain ⟨v,h8,h9⟩ := nG (hT.get hti) w b (row * i.size) off cells _ hseg (fun j y hj=>by
   rw [cell_of_row w b (row * i.size + j) cur e (0,0) hcur]
   rw [List.getElem?_take] at hj
   split at hj
   ·rw [List.getElem?_drop,List.getElem?_take] at hj
    split at hj
    ·simpa using hj
    ·cases hj
   ·cases hj) hc
  refine ⟨v,?_,h9.slot⟩
  simp [execOp,ho,hv,Instr.loadAt,Instr.sureAddr,h8]
theorem splice_seg {α : Type} (X Y Z cs : List α) (off : Nat) (h : off + cs.length ≤ Y.length) :
  X ++ (Y.take off ++ cs ++ Y.drop (off + cs.length)) ++ Z = (X ++ (Y ++ Z)).take (X.length + off) ++ cs ++ (X ++ (Y ++ Z)).drop (X.length + off + cs.length) := by
 rw [List.take_length_add_append,List.take_append_of_le_length (by omega),show X.length + off + cs.length = X.length + (off + cs.length) from by omega,List.drop_length_add_append,List.drop_append_of_le_length h]
 simp
theorem splice_take {α : Type} (l cs : List α) (p N : Nat) (h : p + cs.length ≤ N) (hN : N ≤ l.length) :
  (l.take p ++ cs ++ l.drop (p + cs.length)).take N = (l.take N).take p ++ cs ++ (l.take N).drop (p + cs.length) := by
 obtain ⟨U,hU⟩ : ∃ U,U = l.take N := ⟨_,rfl⟩
 obtain ⟨W,hW⟩ : ∃ W,W = l.drop N := ⟨_,rfl⟩
 have hl : l = U ++ W := by rw [hU,hW,List.take_append_drop]
 have hUl : U.length = N := by rw [hU]; simp; omega
 rw [← hU,hl,List.take_append_of_le_length (l₁ := U) (i := p) (by omega),List.drop_append_of_le_length (l₁ := U) (i := p + cs.length) (by omega)]
 rw [← List.append_assoc]
 have e : (U.take p ++ cs ++ U.drop (p + cs.length)).length = N := by simp; omega
 rw [← e,List.take_left]
def setRow (rows : List (List PV)) (row off : Nat) (cs : List PV) : List (List PV) := rows.set row (splice (rows.getD row []) off cs)
theorem set_flat {k : Nat} : ∀ {rows : List (List PV)} {j : Nat} {q : List PV},(∀ r ∈ rows,r.length = k) → q.length = k → j < rows.length → (rows.set j q).flatten = rows.flatten.take (j * k) ++ q ++ rows.flatten.drop (j * k + k)
 | [],j,q,_,_,h=>by simp at h
 | r :: rows,0,q,hl,hq,_=>by
  have hr := hl r (by simp)
  simp only [List.set_cons_zero,List.flatten_cons,Nat.zero_mul,List.take_zero,List.nil_append,Nat.zero_add]
  rw [← hr,List.drop_left]
 | r :: rows,j + 1,q,hl,hq,h=>by
  have hr := hl r (by simp)
  have ih := set_flat (rows := rows) (j := j) (q := q) (fun r hr=>hl r (by simp [hr])) hq (by simpa using h)
  simp only [List.set_cons_succ,List.flatten_cons,ih]
  have e1 : (j + 1) * k = r.length + j * k := by rw [Nat.add_mul,hr]; omega
  have e2 : r.length + j * k + k = r.length + (j * k + k) := by omega
  rw [e1,List.take_length_add_append,e2,List.drop_length_add_append]
  simp
theorem eff_storeO (hT : T.Ok P) {o : Oper} {ev : Operand → PV} {H : Heap} {t : TypeId} {x y : Operand} (ho : o.op = .store t x y) {ti : TInfo} (hti : T.get t = some ti) {tag : Nat} {g : OwnRef} {k row off : Nat} (hx : ev x = .optr tag g k row off)
  {e : TypeId} {rows : List (List PV)} (hob : H.ob tag = some ⟨g,e,rows,true⟩) {ei : TInfo} (hei : T.get e = some ei) (hk : k = ei.size) (hrow : row < rows.length) {py : PV} (hy : PLe P (ev y) py) {cs : List PV} (hc : du py = some cs) (hf : PV.frozL cs = true) (h1 : cs.all PV.one = true) (hl : cs.length = ti.size) (hle : off + ti.size ≤ ei.size)
  {K : PV → Heap → Prop} (hK : K .any ⟨H.bx,upd H.ob tag (some ⟨g,e,setRow rows row off cs,true⟩)⟩) : Eff P o ev H K := by
 intro C M a w next Q hi he hn
 have hxr := he x (by rw [ho]; simp [Op.operands])
 have hyr := he y (by rw [ho]; simp [Op.operands])
 rw [hx] at hxr
 simp only [Rep] at hxr
 obtain ⟨_,b,hb,hv⟩ := hxr
 have hr := kM hc (hy M _ hyr)
 have hone := aD.oneCell h1 hr
 have hrf := aD.unslot hf hr
 have hvs : (a.eval y).cells.size = ti.size := by have := hr.length; simp at this; omega
 obtain ⟨i,g1,g2,g3,g4⟩ := hi.objs tag _ hob
 obtain ⟨i',g5,g6,_,_⟩ := (hT.get hei).info
 simp only at g1 g2 g3 g4
 rw [g1] at g5
 cases g5
 rcases g4 with ⟨hn',_⟩ | ⟨b',cur,hb',hm,hcur,hcs,hlc,hcm,hcr,h1c,hw1,hw2⟩
 ·rw [hb] at hn'; cases hn'
 rw [hb] at hb'
 cases hb'
 have hks : k = i.size := by rw [hk,g6]
 subst hks
 rw [← g6] at hle
 have hfit : row * i.size + i.size ≤ rows.length * i.size := by
  have := Nat.mul_le_mul_right i.size (show row + 1 ≤ rows.length from hrow)
  rw [Nat.add_mul] at this
  omega
 have hcap : rows.length * i.size ≤ cur.size := by rw [hcs]; exact Nat.mul_le_mul_right _ hlc
 have hvl : (a.eval y).cells.toList.length = ti.size := by simpa using hvs
 have hst := run_storeCells_at P b (row * i.size + off) e (a.eval y).cells.toList 0 cur w hcur (by rw [hvl]; omega) hone
 simp only [Nat.add_zero] at hst
 have hrun : (execOp a.eval o).run P w = .ok .skip (w.setRow b (cur.toList.take (row * i.size + off) ++ (a.eval y).cells.toList ++ cur.toList.drop (row * i.size + off + (a.eval y).cells.toList.length)).toArray) := by
  simp only [execOp,ho,Instr.storeAt,hv,Instr.sureAddr,Sem.run_bind,Sem.run_pure,Result.andThen_ok,storeVar,(hT.get hti).rsize w,hvs]
  simp only [ne_eq,not_true_eq_false,if_false]
  rw [hst]
  rfl
 unfold Oper.wp
 rw [hrun]
 have hgetD : rows.getD row [] = rows[row] := by simp [hrow]
 have hrl : (rows.getD row []).length = i.size := by rw [hgetD]; exact g3 _ (List.getElem_mem hrow)
 have hspl : (splice (rows.getD row []) off cs).length = i.size := by
  unfold splice
  rw [List.length_append,List.length_append,List.length_take,List.length_drop,hrl,hl]
  omega
 have hlens : ∀ r ∈ setRow rows row off cs,r.length = i.size := by
  intro r hr'
  rcases List.mem_or_eq_of_mem_set hr' with h | h
  ·exact g3 r h
  ·rw [h]; exact hspl
 have hlen : (setRow rows row off cs).length = rows.length := by simp [setRow]
 have hflat : rows.flatten.length = rows.length * i.size := by
  have : ∀ l : List (List PV),(∀ q ∈ l,q.length = i.size) → l.flatten.length = l.length * i.size := by
   intro l
   induction l with
   | nil=>simp
   | cons q l ih=>intro hl; simp [ih fun q hq=>hl q (by simp [hq]),hl q (by simp),Nat.add_mul]; omega
  exact this rows g3
 have hrl2 : rows[row].length = i.size := g3 _ (List.getElem_mem hrow)
 have hrowcells : (rows.flatten.drop (row * i.size)).take i.size = rows.getD row [] := by
  rw [hgetD]
  apply List.ext_getElem?
  intro m
  rw [List.getElem?_take]
  split
  ·rename_i hm'
   rw [List.getElem?_drop]
   have hml : m < rows[row].length := by rw [hrl2]; exact hm'
   have hcm' : rows[row][m]? = some (rows[row][m]'hml) := ze hml
   rw [hcm']
   exact oD g3 (ze hrow) m _ hcm'
  ·rw [List.getElem?_eq_none (by rw [hrl2]; omega)]
 have hpv : (setRow rows row off cs).flatten = splice rows.flatten (row * i.size + off) cs := by
  unfold setRow
  rw [set_flat g3 hspl hrow,← hrowcells]
  have hA : (rows.flatten.take (row * i.size)).length = row * i.size := by rw [List.length_take,hflat]; omega
  have hY : ((rows.flatten.drop (row * i.size)).take i.size).length = i.size := by rw [List.length_take,List.length_drop,hflat]; omega
  have hdec : rows.flatten = rows.flatten.take (row * i.size) ++ ((rows.flatten.drop (row * i.size)).take i.size ++ rows.flatten.drop (row * i.size + i.size)) := by
   rw [← List.drop_drop,List.take_append_drop,List.take_append_drop]
  have key := splice_seg (rows.flatten.take (row * i.size)) ((rows.flatten.drop (row * i.size)).take i.size) (rows.flatten.drop (row * i.size + i.size)) cs off (by rw [hY,hl]; omega)
  rw [← hdec,hA] at key
  exact key
 have hvlist : (cur.toList.take (row * i.size + off) ++ (a.eval y).cells.toList ++ cur.toList.drop (row * i.size + off + (a.eval y).cells.toList.length)).take (rows.length * i.size) =
   (cur.toList.take (rows.length * i.size)).take (row * i.size + off) ++ (a.eval y).cells.toList ++ (cur.toList.take (rows.length * i.size)).drop (row * i.size + off + (a.eval y).cells.toList.length) := by
  exact splice_take cur.toList (a.eval y).cells.toList (row * i.size + off) (rows.length * i.size) (by rw [hvl]; omega) (by simpa using hcap)
 refine hn undef _ _ M _ hK (Mem.le_refl M) (hi.set_obj tag _ hob b hb (setRow rows row off cs) true _ i g1 ?_ hlens ?_ ?_ hcm ?_ ?_ ?_ (fun _=>hw1 trivial) ?_) (by simp [Rep])
 ·rw [hlen]; exact g2
 ·simp only [List.size_toArray,List.length_append,List.length_take,List.length_drop,Array.length_toList,hvl]
  omega
 ·rw [hlen]; exact hlc
 ·rw [hlen,hpv]
  simp only
  rw [hvlist]
  exact rk hcr hrf (row * i.size + off)
 ·rw [hlen]
  simp only
  rw [hvlist]
  intro v hv'
  simp only [List.mem_append] at hv'
  rcases hv' with (h | h) | h
  ·exact h1c v (List.mem_of_mem_take h)
  ·exact hone v h
  ·exact h1c v (List.mem_of_mem_drop h)
 ·intro o' v' hm'
  rw [hw1 trivial o'] at hm'
  cases hm'
 ·intro o' _
  exact hw1 trivial o'
end
section
variable {P : Program} {ops : Array Oper} {rest : List Oper} {o : Oper} {n : Nat} {s s' : Nat → PV} {bx : Nat → Option Box} {ob : Nat → Option Obj} {K : PState → Prop} {T : TT} {rb : RB} {k : Nat} {L : List Nat}
theorem ta (hg : aU ops s o = some true) {r : PV} (hd : DetS P o (evS s) ⟨bx,ob⟩ r) (hp : putD n s o.dst r = some s') (h : Ao P ops rest ⟨n,s',bx,ob⟩ K) : Ao P ops (o :: rest) ⟨n,s,bx,ob⟩ K :=
 eG hg (fun C M a w next Q hi he hn=>by
  obtain ⟨v,hrun,hr⟩ := hd C M a w hi he
  unfold Oper.wp
  rw [hrun]
  exact hn v r ⟨bx,ob⟩ M w ⟨s',hp,h⟩ (Mem.le_refl M) hi hr)
theorem tu (ho : ops[k]? = some o) (hg : aU ops s o = some true) (hc : et o.op = .det) {r : PV} (hd : ∀ bx',DetS P o (evS s) ⟨bx',if rb.o o && gI o.op then ob else fun _=>none⟩ r) (hp : putD n s o.dst r = some s')
  (h : Do P T rb ops L ⟨n,s',bx,ob⟩ K) : Do P T rb ops (k :: L) ⟨n,s,bx,ob⟩ K := by
 refine ⟨o,ho,true,hg,?_⟩
 simp only [if_true,hc]
 exact ⟨r,s',.inr hd,hp,h⟩
theorem nE (hT : T.Ok P) (hg : aU ops s o = some true) {t : TypeId} {x i : Operand} (ho : o.op = .indexAddr t x i) {ti ei : TInfo} {e : TypeId} (hti : T.get t = some ti) (hd : ti.desc = .slice e) (hei : T.get e = some ei)
  {tag : Nat} {g : OwnRef} {len : Nat} (hx : evS s x = .own tag g len) {kk : IntKind} {j : Int} (hi : evS s i = .val (.int kk j)) (hj : 0 ≤ j ∧ j.toNat < len) (hb : ∃ b,g.blk = some b) (hp : putD n s o.dst (.optr tag g ei.size j.toNat 0) = some s') (h : Ao P ops rest ⟨n,s',bx,ob⟩ K) :
  Ao P ops (o :: rest) ⟨n,s,bx,ob⟩ K := ta hg (detS_idxO hT ho hti hd hei hx hi hj hb) hp h
theorem Do.idxO (hT : T.Ok P) (ho : ops[k]? = some o) (hg : aU ops s o = some true) {t : TypeId} {x i : Operand} (hop : o.op = .indexAddr t x i) {ti ei : TInfo} {e : TypeId} (hti : T.get t = some ti) (hd : ti.desc = .slice e) (hei : T.get e = some ei)
  {tag : Nat} {g : OwnRef} {len : Nat} (hx : evS s x = .own tag g len) {kk : IntKind} {j : Int} (hi : evS s i = .val (.int kk j)) (hj : 0 ≤ j ∧ j.toNat < len) (hb : ∃ b,g.blk = some b) (hp : putD n s o.dst (.optr tag g ei.size j.toNat 0) = some s') (h : Do P T rb ops L ⟨n,s',bx,ob⟩ K) :
  Do P T rb ops (k :: L) ⟨n,s,bx,ob⟩ K := tu ho hg (by rw [hop]; rfl) (fun _=>detS_idxO hT hop hti hd hei hx hi hj hb) hp h
theorem dh {t : TypeId} {x i : Operand} {ti ei : TInfo} {e : TypeId} {tag : Nat} {g : OwnRef} {len : Nat} {kk : IntKind} {j : Int} (hT : T.Ok P) (hj : 0 ≤ j ∧ j.toNat < len) (hb : ∃ b,g.blk = some b) (h : Do P T rb ops L ⟨n,s',bx,ob⟩ K) (ho : ops[k]? = some o := by exact rfl) (hg : aU ops s o = some true := by exact rfl) (hop : o.op = .indexAddr t x i := by exact rfl) (hti : T.get t = some ti := by exact rfl) (hd : ti.desc = .slice e := by exact rfl) (hei : T.get e = some ei := by exact rfl) (hx : evS s x = .own tag g len := by exact rfl) (hi : evS s i = .val (.int kk j) := by exact rfl) (hp : putD n s o.dst (.optr tag g ei.size j.toNat 0) = some s' := by exact rfl) : Do P T rb ops (k :: L) ⟨n,s,bx,ob⟩ K := Do.idxO hT ho hg hop hti hd hei hx hi hj hb hp h
theorem uo (hT : T.Ok P) (hg : aU ops s o = some true) {t : TypeId} {x : Operand} (ho : o.op = .load t x) {ti : TInfo} (hti : T.get t = some ti) {tag : Nat} {g : OwnRef} {kz row off : Nat} (hx : evS s x = .optr tag g kz row off)
  {e : TypeId} {rows : List (List PV)} {wr : Bool} (hob : ob tag = some ⟨g,e,rows,wr⟩) {ei : TInfo} (hei : T.get e = some ei) (hk : kz = ei.size) {cells : List PV} (hr : rows[row]? = some cells) {r : PV} (hc : cf ti off cells = some r) (hp : putD n s o.dst r = some s') (h : Ao P ops rest ⟨n,s',bx,ob⟩ K) :
  Ao P ops (o :: rest) ⟨n,s,bx,ob⟩ K := ta hg (detS_loadO hT ho hti hx hob hei hk hr hc) hp h
theorem vk (hT : T.Ok P) (ho : ops[k]? = some o) (hro : rb.o o = true) (hg : aU ops s o = some true) {t : TypeId} {x : Operand} (hop : o.op = .load t x) {ti : TInfo} (hti : T.get t = some ti) {tag : Nat} {g : OwnRef} {kz row off : Nat} (hx : evS s x = .optr tag g kz row off)
  {e : TypeId} {rows : List (List PV)} {wr : Bool} (hob : ob tag = some ⟨g,e,rows,wr⟩) {ei : TInfo} (hei : T.get e = some ei) (hk : kz = ei.size) {cells : List PV} (hr : rows[row]? = some cells) {r : PV} (hc : cf ti off cells = some r) (hp : putD n s o.dst r = some s') (h : Do P T rb ops L ⟨n,s',bx,ob⟩ K) :
  Do P T rb ops (k :: L) ⟨n,s,bx,ob⟩ K := by
 refine tu ho hg (by rw [hop]; rfl) (fun bx'=>?_) hp h
 have : (rb.o o && gI o.op) = true := by rw [hro,hop]; rfl
 rw [this]
 exact detS_loadO hT hop hti hx hob hei hk hr hc
theorem eP {t : TypeId} {x : Operand} {ti : TInfo} {tag : Nat} {g : OwnRef} {kz row off : Nat} {e : TypeId} {rows : List (List PV)} {wr : Bool} {ei : TInfo} {cells : List PV} {r : PV} (hT : T.Ok P) (hr : rows[row]? = some cells) (h : Do P T rb ops L ⟨n,s',bx,ob⟩ K) (ho : ops[k]? = some o := by exact rfl) (hro : rb.o o = true := by exact rfl) (hg : aU ops s o = some true := by exact rfl) (hop : o.op = .load t x := by exact rfl) (hti : T.get t = some ti := by exact rfl) (hx : evS s x = .optr tag g kz row off := by exact rfl) (hob : ob tag = some ⟨g,e,rows,wr⟩ := by exact rfl) (hei : T.get e = some ei := by exact rfl) (hk : kz = ei.size := by exact rfl) (hc : cf ti off cells = some r := by exact rfl) (hp : putD n s o.dst r = some s' := by exact rfl) : Do P T rb ops (k :: L) ⟨n,s,bx,ob⟩ K := vk hT ho hro hg hop hti hx hob hei hk hr hc hp h
theorem qh (hT : T.Ok P) (hg : aU ops s o = some true) {t : TypeId} {x y : Operand} (ho : o.op = .store t x y) (hdst : o.dst = none) {ti : TInfo} (hti : T.get t = some ti) {tag : Nat} {g : OwnRef} {kz row off : Nat} (hx : evS s x = .optr tag g kz row off)
  {e : TypeId} {rows rows' : List (List PV)} (hob : ob tag = some ⟨g,e,rows,true⟩) {ei : TInfo} (hei : T.get e = some ei) (hk : kz = ei.size) (hrow : row < rows.length) {py : PV} (hy : PLe P (evS s y) py) {cs : List PV} (hc : du py = some cs) (hf : PV.frozL cs = true) (h1 : cs.all PV.one = true) (hl : cs.length = ti.size) (hle : off + ti.size ≤ ei.size)
  (hr : setRow rows row off cs = rows') (h : Ao P ops rest ⟨n,s,bx,upd ob tag (some ⟨g,e,rows',true⟩)⟩ K) : Ao P ops (o :: rest) ⟨n,s,bx,ob⟩ K := by
 subst hr
 exact eG hg (eff_storeO hT ho hti hx hob hei hk hrow hy hc hf h1 hl hle ⟨s,by simp [hdst,putD],h⟩)
theorem jc (hT : T.Ok P) (ho : ops[k]? = some o) (hg : aU ops s o = some true) {t : TypeId} {x y : Operand} (hop : o.op = .store t x y) (hdst : o.dst = none) {ti : TInfo} (hti : T.get t = some ti) {tag : Nat} {g : OwnRef} {kz row off : Nat} (hx : evS s x = .optr tag g kz row off)
  {e : TypeId} {rows rows' : List (List PV)} (hob : ob tag = some ⟨g,e,rows,true⟩) {ei : TInfo} (hei : T.get e = some ei) (hk : kz = ei.size) (hrow : row < rows.length) {py : PV} (hy : PLe P (evS s y) py) {cs : List PV} (hc : du py = some cs) (hf : PV.frozL cs = true) (h1 : cs.all PV.one = true) (hl : cs.length = ti.size) (hle : off + ti.size ≤ ei.size)
  (hr : setRow rows row off cs = rows') (h : Do P T rb ops L ⟨n,s,bx,upd ob tag (some ⟨g,e,rows',true⟩)⟩ K) : Do P T rb ops (k :: L) ⟨n,s,bx,ob⟩ K := by
 subst hr
 refine ⟨o,ho,true,hg,?_⟩
 simp only [if_true,hop,et]
 exact ⟨hdst,.inr fun bx'=>eff_storeO hT hop hti hx hob hei hk hrow hy hc hf h1 hl hle ⟨rfl,h⟩⟩
theorem Do.storeOQ {t : TypeId} {x y : Operand} {ti : TInfo} {tag : Nat} {g : OwnRef} {kz row off : Nat} {e : TypeId} {rows rows' : List (List PV)} {ei : TInfo} {py : PV} {cs : List PV} (hT : T.Ok P) (hrow : row < rows.length) (hy : PLe P (evS s y) py) (hle : off + ti.size ≤ ei.size) (hr : setRow rows row off cs = rows') (h : Do P T rb ops L ⟨n,s,bx,upd ob tag (some ⟨g,e,rows',true⟩)⟩ K) (ho : ops[k]? = some o := by exact rfl) (hg : aU ops s o = some true := by exact rfl) (hop : o.op = .store t x y := by exact rfl) (hdst : o.dst = none := by exact rfl) (hti : T.get t = some ti := by exact rfl) (hx : evS s x = .optr tag g kz row off := by exact rfl) (hob : ob tag = some ⟨g,e,rows,true⟩ := by exact rfl) (hei : T.get e = some ei := by exact rfl) (hk : kz = ei.size := by exact rfl) (hc : du py = some cs := by exact rfl) (hf : PV.frozL cs = true := by exact rfl) (h1 : cs.all PV.one = true := by exact rfl) (hl : cs.length = ti.size := by exact rfl) : Do P T rb ops (k :: L) ⟨n,s,bx,ob⟩ K := jc hT ho hg hop hdst hti hx hob hei hk hrow hy hc hf h1 hl hle hr h
theorem ee {α β : Type} {f : α → β} {xs : List α} {j : Nat} {x : α} (h : xs[j]? = some x) : j < (xs.map f).length := by
 have := (zg.1 h).1
 simpa using this
theorem tv {α β : Type} {f : α → β} {xs : List α} {j : Nat} {x : α} {l : Nat} (hl : l = (xs.map f).length) (h : xs[j]? = some x) : j < l := hl ▸ ee h
theorem eo {α : Type} {f : α → List PV} {xs : List α} {j : Nat} {x : α} {g : OwnRef} (ho : xs.map f ≠ [] → ∃ b,g.blk = some b) (h : xs[j]? = some x) : ∃ b,g.blk = some b := by
 refine ho fun e=>?_
 have := (zg.1 h).1
 rw [List.map_eq_nil_iff] at e
 rw [e] at this
 simp at this
theorem fY {α : Type} {f f' : α → List PV} (hE : ∀ x,f' x = f x) {xs ys : List α} {j off : Nat} {x v : α} {cs : List PV} (h : xs[j]? = some x) (hs : splice (f x) off cs = f v) (hy : xs.set j v = ys) : setRow (xs.map f') j off cs = ys.map f' := by
 subst hy
 have hlt := (zg.1 h).1
 unfold setRow
 have e : (xs.map f').getD j [] = f x := by simp [h,hE]
 rw [e,hs,← hE v,List.map_set]
theorem fv {α β : Type} {f : α → β} {xs ys : List α} {j : Nat} {v : α} (hy : xs.set j v = ys) : (xs.map f).length = (ys.map f).length := by subst hy; simp
theorem jP {fn : Func} {R : PV → Heap → Prop} {ks : List KI} {tag : Nat} {g : OwnRef} {e : TypeId} {rows : List (List PV)} {wr : Bool} (hob : ob tag = some ⟨g,e,rows,wr⟩) (h : (rows ≠ [] → ∃ b,g.blk = some b) → V P fn R ks ⟨n,s,bx,ob⟩) : V P fn R ks ⟨n,s,bx,ob⟩ := fun C M a w hi=>by
 refine h (fun hne=>?_) C M a w hi
 obtain ⟨_,_,_,_,h4⟩ := hi.2.objs tag _ hob
 rcases h4 with ⟨_,h5,_⟩ | ⟨b,_,h5,_⟩
 ·exact absurd h5 hne
 ·exact ⟨b,h5⟩
end
end
end Go.Ab
