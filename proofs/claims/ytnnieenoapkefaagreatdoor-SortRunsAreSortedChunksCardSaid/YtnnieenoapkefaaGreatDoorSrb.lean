/- sortRunsAreSortedChunks_holds, part 2: the layer, the plain functions and what they compute; conditions as in the statement. -/
import Derived.Test.YtnnieenoapkefaaGreatDoorSra
set_option maxHeartbeats 4000000
namespace Go.Ab
noncomputable section
open Go.ChangeShapes
def cX (W : World) : Mem := fun b o=>W.cell? ⟨b,o,none⟩
def laidFs (P : Program) : Nat → List Field → Bool
 | _,[]=>true
 | o,f :: fs=>Nat.beq f.offset o && laidFs P (o + P.cellsOf f.type) fs
def okT (P : Program) (S : List TypeId) (t : TypeId) : Bool :=
 match P.underlying t with
 | some .bool | some (.int _) | some .string=>true
 | some (.slice e)=>S.contains e && Nat.blt 0 (P.cellsOf e)
 | some (.struct fs)=>laidFs P 0 fs.toList && fs.toList.all (fun f=>S.contains f.type) && Nat.beq (fs.toList.map fun f=>P.cellsOf f.type).sum (P.cellsOf t)
 | _=>false
def eF (Sh : TypeId → List PV → Prop) : List TypeId → List PV → Prop
 | [],pvs=>pvs = []
 | t :: ts,pvs=>∃ a b,pvs = a ++ b ∧ Sh t a ∧ eF Sh ts b
def Sh (P : Program) : Nat → TypeId → List PV → Prop
 | 0,_,_=>False
 | n + 1,t,pvs=>match P.underlying t with
  | some .bool=>∃ b,pvs = [.val (.bool b)]
  | some (.int k)=>∃ m,pvs = [.val (.int k m)] ∧ (Lit.int k m).wf = true
  | some .string=>∃ l,pvs = [.str l] ∧ l.length ≤ 2 ^ 47
  | some (.slice e)=>∃ rows,pvs = [.list e rows] ∧ ∀ r ∈ rows,Sh P n e r
  | some (.struct fs)=>eF (Sh P n) (fs.toList.map (·.type)) pvs
  | _=>False
section
variable {H : Type} {enc : TypeId × Value → H} {P : Program} {W : World} {S : List TypeId}
theorem aN.of_cells {b : Nat} : ∀ {o : Nat} {pvs : List PV} {cs : List Value},ac P (cX W) false pvs cs → (∀ x ∈ cs,x.oneCell' = true) → (∀ j,j < cs.length → W.cell? ⟨b,o + j,none⟩ = cs[j]?) → aN P (cX W) b o pvs
 | _,[],_,_,_,_=>by simp [aN]
 | o,p :: ps,cs,h,h1,hm=>by
  simp only [ac] at h
  obtain ⟨x,xs,rfl,h2,h3⟩ := h
  simp only [aN]
  refine ⟨⟨x,?_,h1 x (by simp),h2⟩,aN.of_cells h3 (fun y hy=>h1 y (by simp [hy])) fun j hj=>?_⟩
  ·simpa [cX] using hm 0 (by simp)
  ·have := hm (j + 1) (by simpa using hj)
   rw [show o + 1 + j = o + (j + 1) from by omega]
   simpa using this
theorem Sh.one : ∀ {n : Nat} {t : TypeId} {pvs : List PV},Sh P n t pvs → pvs.all PV.one = true := by
 intro n
 induction n with
 | zero=>intro t pvs h; simp [Sh] at h
 | succ n ih =>
  intro t pvs h
  simp only [Sh] at h
  split at h
  ·obtain ⟨b,rfl⟩ := h; rfl
  ·obtain ⟨m,rfl,_⟩ := h; rfl
  ·obtain ⟨l,rfl,_⟩ := h; rfl
  ·obtain ⟨rows,rfl,_⟩ := h; rfl
  ·rename_i fs _
   generalize fs.toList.map (·.type) = ts at h
   induction ts generalizing pvs with
   | nil=>simp only [eF] at h; subst h; rfl
   | cons t ts iht =>
    simp only [eF] at h
    obtain ⟨a,b,rfl,h1,h2⟩ := h
    rw [List.all_append,ih h1,iht h2]
    rfl
  ·cases h
theorem abs_struct {n : Nat} (ih : ∀ t ∈ S,∀ (cs : List Value) x,DataW.trod enc P W 0 (fun _=>true) true n t cs = some x → (x.1.weights P t).all (· ≤ reachBytes) = true → ∃ pvs,Sh P n t pvs ∧ ac P (cX W) false pvs cs) :
  ∀ (fs : List Field) (o : Nat) (cs : List Value) (xs : List (DataW H × List MemPlace)),laidFs P o fs = true → fs.all (fun f=>S.contains f.type) = true → o + (fs.map fun f=>P.cellsOf f.type).sum = cs.length →
   (fs.mapM fun f=>DataW.trod enc P W 0 (fun _=>true) true n f.type ((cs.drop f.offset).take (P.cellsOf f.type))) = some xs →
   (DataW.weightsEach P (fs.map (·.type)) (xs.map (·.1))).all (· ≤ reachBytes) = true → ∃ pvs,eF (Sh P n) (fs.map (·.type)) pvs ∧ ac P (cX W) false pvs (cs.drop o)
 | [],o,cs,xs,_,_,hlen,_,_=>by
  refine ⟨[],by simp [eF],?_⟩
  simp only [ac]
  exact List.drop_eq_nil_of_le (by simp at hlen; omega)
 | f :: fs,o,cs,xs,hl,hS,hlen,hm,hw=>by
  simp only [laidFs,Bool.and_eq_true] at hl
  simp only [List.all_cons,Bool.and_eq_true] at hS
  simp only [List.map_cons,List.sum_cons] at hlen
  have hoff : f.offset = o := Nat.eq_of_beq_eq_true hl.1
  rw [List.mapM_cons] at hm
  cases hx : DataW.trod enc P W 0 (fun _=>true) true n f.type ((cs.drop f.offset).take (P.cellsOf f.type)) with
  | none=>rw [hx] at hm; cases hm
  | some x =>
   rw [hx] at hm
   cases hr : (fs.mapM fun f=>DataW.trod enc P W 0 (fun _=>true) true n f.type ((cs.drop f.offset).take (P.cellsOf f.type))) with
   | none=>rw [hr] at hm; cases hm
   | some r =>
    rw [hr] at hm
    have hm' : x :: r = xs := Option.some.inj hm
    subst hm'
    simp only [List.map_cons,DataW.weightsEach,List.all_append,Bool.and_eq_true] at hw
    obtain ⟨pa,ha1,ha2⟩ := ih f.type (by simpa using hS.1) _ x hx hw.1
    obtain ⟨pb,hb1,hb2⟩ := abs_struct ih fs (o + P.cellsOf f.type) cs r hl.2 hS.2 (by omega) hr hw.2
    refine ⟨pa ++ pb,⟨pa,pb,rfl,ha1,hb1⟩,?_⟩
    have := ha2.append hb2
    rw [hoff] at this
    have e : (cs.drop o).take (P.cellsOf f.type) ++ cs.drop (o + P.cellsOf f.type) = cs.drop o := by
     rw [← List.drop_drop]; exact List.take_append_drop _ _
    rwa [e] at this
theorem abs_rows {n : Nat} {e : TypeId} (ih : ∀ (cs : List Value) x,DataW.trod enc P W 0 (fun _=>true) true n e cs = some x → (x.1.weights P e).all (· ≤ reachBytes) = true → ∃ pvs,Sh P n e pvs ∧ ac P (cX W) false pvs cs)
  {b o c : Nat} : ∀ (elems : List (DataW H × List MemPlace)) (k : Nat),(∀ j,j < elems.length → ((W.cells? 0 ((⟨b,o,none⟩ : Addr).add ((k + j) * c)) c).bind (DataW.trod enc P W 0 (fun _=>true) true n e)) = elems[j]?) →
   (DataW.weightsAll P e (elems.map (·.1))).all (· ≤ reachBytes) = true → ∃ rows : List (List PV),rows.length = elems.length ∧ (∀ r ∈ rows,Sh P n e r) ∧ aM P (cX W) c b (o + k * c) rows
 | [],k,_,_=>⟨[],rfl,by simp,by simp [aM]⟩
 | x :: r,k,hj,hw=>by
  simp only [List.map_cons,DataW.weightsAll,List.all_append,Bool.and_eq_true] at hw
  have h0 := hj 0 (by simp)
  simp only [Nat.add_zero,List.getElem?_cons_zero] at h0
  cases hcs : W.cells? 0 ((⟨b,o,none⟩ : Addr).add (k * c)) c with
  | none=>rw [hcs] at h0; cases h0
  | some cs =>
   rw [hcs] at h0
   simp only [Option.bind_some] at h0
   obtain ⟨pv,hp1,hp2⟩ := ih cs x h0 hw.1
   obtain ⟨_,hlen,hcell⟩ := World.cells?_some hcs
   obtain ⟨rows,hr1,hr2,hr3⟩ := abs_rows ih r (k + 1) (fun j hj'=>by
    have := hj (j + 1) (by simpa using hj')
    rw [show k + (j + 1) = k + 1 + j from by omega] at this
    simpa using this) hw.2
   refine ⟨pv :: rows,by simp [hr1],?_,?_⟩
   ·intro q hq
    rcases List.mem_cons.1 hq with rfl | hq
    ·exact hp1
    ·exact hr2 q hq
   ·simp only [aM]
    have hpl : pv.length = c := by rw [← hlen]; exact (hp2.length).symm
    have hone : ∀ y ∈ cs,y.oneCell' = true := ac.oneCell hp1.one hp2
    refine ⟨hpl,aN.of_cells hp2 hone fun j hj'=>?_,?_⟩
    ·have := hcell j (by omega)
     rw [← this,bD,bD]
    ·rw [show o + (k + 1) * c = o + k * c + c from by rw [Nat.add_mul]; omega] at hr3
     exact hr3
theorem trod_int_some {n : Nat} {t : TypeId} {k : IntKind} {cs : List Value} {x : DataW H × List MemPlace} {sp : Nat → Bool} (hu : P.underlying t = some (.int k)) (h : DataW.trod enc P W 0 sp true (n + 1) t cs = some x) : ∃ m,cs = [.int k m] ∧ (Lit.int k m).wf = true := by
 unfold DataW.trod at h
 rw [hu] at h
 split at h <;> simp_all
theorem trod_bool_some {n : Nat} {t : TypeId} {cs : List Value} {x : DataW H × List MemPlace} {sp : Nat → Bool} (hu : P.underlying t = some .bool) (h : DataW.trod enc P W 0 sp true (n + 1) t cs = some x) : ∃ b,cs = [.bool b] := by
 unfold DataW.trod at h
 rw [hu] at h
 split at h <;> simp_all
theorem trod_str_some {n : Nat} {t : TypeId} {cs : List Value} {x : DataW H × List MemPlace} {sp : Nat → Bool} (hu : P.underlying t = some .string) (h : DataW.trod enc P W 0 sp true (n + 1) t cs = some x) : ∃ s : ByteArray,cs = [.string s] ∧ x.1 = .lit (.string s.data.toList) := by
 unfold DataW.trod at h
 rw [hu] at h
 split at h <;> simp_all
 rw [← h.2]
theorem gX {n : Nat} {t : TypeId} {fs : Array Field} {cs : List Value} {x : DataW H × List MemPlace} {sp : Nat → Bool} (hu : P.underlying t = some (.struct fs)) (h : DataW.trod enc P W 0 sp true (n + 1) t cs = some x) :
  cs.length = P.cellsOf t ∧ ∃ xs,(fs.toList.mapM fun f=>DataW.trod enc P W 0 sp true n f.type ((cs.drop f.offset).take (P.cellsOf f.type))) = some xs ∧ x = (.agg (xs.map (·.1)),xs.flatMap (·.2)) := by
 unfold DataW.trod at h
 rw [hu] at h
 split at h <;> simp_all
 obtain ⟨_,a,h2,h3⟩ := h
 exact ⟨a,h2,h3.symm⟩
theorem hF {n : Nat} {t e : TypeId} {cs : List Value} {x : DataW H × List MemPlace} (hu : P.underlying t = some (.slice e)) (h : DataW.trod enc P W 0 (fun _=>true) true (n + 1) t cs = some x) :
  (cs = [.slice none 0 0] ∧ x = (.nil,[])) ∨ ∃ a len cap elems rest,cs = [.slice (some a) len cap] ∧ len ≤ cap ∧ cap ≤ maxLen ∧
   ((List.range len).mapM fun i=>(W.cells? 0 (a.add (i * P.cellsOf e)) (P.cellsOf e)).bind (DataW.trod enc P W 0 (fun _=>true) true n e)) = some elems ∧
   ((List.range (cap - len)).mapM fun i=>(W.cells? 0 (a.add ((len + i) * P.cellsOf e)) (P.cellsOf e)).bind (DataW.trod enc P W 0 (fun _=>true) true n e)) = some rest ∧
   x.1 = .slice (elems.map (·.1)) (rest.map (·.1)) := by
 unfold DataW.trod at h
 rw [hu] at h
 split at h <;> simp_all
 rename_i e' a len cap _
 obtain ⟨⟨h1,h2⟩,h3⟩ := h
 cases hel : ((List.range len).mapM fun i=>(W.cells? 0 (a.add (i * P.cellsOf e')) (P.cellsOf e')).bind (DataW.trod enc P W 0 (fun _=>true) true n e')) with
 | none=>rw [hel] at h3; cases h3
 | some elems =>
  rw [hel,Option.bind_some] at h3
  cases hre : ((List.range (cap - len)).mapM fun i=>(W.cells? 0 (a.add ((len + i) * P.cellsOf e')) (P.cellsOf e')).bind (DataW.trod enc P W 0 (fun _=>true) true n e')) with
  | none=>rw [hre] at h3; cases h3
  | some rest =>
   rw [hre,Option.map_some,zo] at h3
   exact ⟨a,len,cap,⟨rfl,rfl,rfl⟩,h1,h2,elems,hel,rest,hre,by rw [← h3]⟩
theorem abs (hS : S.all (okT P S) = true) (hinf : ∀ t ∈ S,∃ i,P.info? t = some i ∧ i.bytes = P.bytesOf t ∧ i.size = P.cellsOf t) : ∀ (n : Nat) (t : TypeId),t ∈ S → ∀ (cs : List Value) x,DataW.trod enc P W 0 (fun _=>true) true n t cs = some x →
  (x.1.weights P t).all (· ≤ reachBytes) = true → ∃ pvs,Sh P n t pvs ∧ ac P (cX W) false pvs cs := by
 intro n
 induction n with
 | zero=>intro t _ cs x h; simp [DataW.trod] at h
 | succ n ih =>
  intro t ht cs x h hw
  have hok := List.all_eq_true.1 hS t ht
  unfold okT at hok
  simp only [Sh]
  split at hok
  ·rename_i hu
   obtain ⟨b,rfl⟩ := trod_bool_some hu h
   exact ⟨_,⟨b,rfl⟩,by simp [ac,Rep]⟩
  ·rename_i k hu
   obtain ⟨m,rfl,hm⟩ := trod_int_some hu h
   exact ⟨_,⟨m,rfl,hm⟩,by simp [ac,Rep]⟩
  ·rename_i hu
   obtain ⟨s,rfl,hx⟩ := trod_str_some hu h
   rw [hx] at hw
   simp only [DataW.weights,List.all_cons,List.all_nil,Bool.and_true,decide_eq_true_eq] at hw
   have hle : s.data.toList.length ≤ 2 ^ 47 := Nat.le_trans hw (by unfold reachBytes; omega)
   refine ⟨_,⟨s.data.toList,rfl,hle⟩,?_⟩
   simp only [ac,Rep]
   exact ⟨_,[],rfl,⟨by simp,Nat.le_trans hle (by unfold eD; omega)⟩,rfl⟩
  ·rename_i e hu
   simp only [Bool.and_eq_true] at hok
   have he : e ∈ S := by simpa using hok.1
   obtain ⟨i,hi1,hi2,hi3⟩ := hinf e he
   rcases hF hu h with ⟨rfl,rfl⟩ | ⟨a,len,cap,elems,rest,rfl,hlc,hcm,hel,hre,hx⟩
   ·refine ⟨_,⟨[],rfl,by simp⟩,?_⟩
    simp only [ac,Rep]
    exact ⟨_,[],rfl,⟨none,0,i,rfl,by simp,by simp,hi1,by simp,by simp⟩,rfl⟩
   ·have hlen : elems.length = len := by simpa using mapM_some_length hel
    have hrlen : rest.length = cap - len := by simpa using mapM_some_length hre
    rw [hx] at hw
    simp only [DataW.weights,hu,List.all_cons,List.all_append,zl,Bool.and_eq_true,decide_eq_true_eq] at hw
    have hpos : 0 < P.cellsOf e := by simpa [Nat.blt_eq] using hok.2
    have hget : ∀ j,j < elems.length → (W.cells? 0 (a.add (j * P.cellsOf e)) (P.cellsOf e)).bind (DataW.trod enc P W 0 (fun _=>true) true n e) = elems[j]? := fun j hj=>mapM_some_get hel j j (List.getElem?_range (by omega))
    have hsp : elems ≠ [] → a.spot = none := fun hne=>by
     have h0 := hget 0 (List.length_pos_iff.2 hne)
     rw [Nat.zero_mul] at h0
     cases hcs : W.cells? 0 (a.add 0) (P.cellsOf e) with
     | none=>rw [hcs] at h0; cases elems with
      | nil=>exact absurd rfl hne
      | cons _ _=>cases h0
     | some cs =>
      obtain ⟨_,hl,hc⟩ := World.cells?_some hcs
      have := hc 0 hpos
      cases hs : a.spot with
      | none=>rfl
      | some q =>
       have h1 : W.cell? ((a.add 0).add 0) = none := by
        simp only [World.cell?,Addr.add,hs,if_true]
        split <;> simp
       rw [h1] at this
       have := List.getElem?_eq_none_iff.1 this.symm
       omega
    have hby : len * i.bytes ≤ 2 ^ 47 := by
     have h1 := hw.1
     rw [hi2]
     have : len * P.bytesOf e ≤ (elems.length + rest.length) * P.bytesOf e := Nat.mul_le_mul_right _ (by omega)
     unfold reachBytes at h1
     omega
    by_cases hne : elems = []
    ·subst hne
     refine ⟨_,⟨[],rfl,by simp⟩,?_⟩
     simp only [List.length_nil] at hlen
     subst hlen
     simp only [ac,Rep]
     exact ⟨_,[],rfl,⟨some a,cap,i,rfl,by simp,hcm,hi1,by simp,by simp⟩,rfl⟩
    ·obtain ⟨b,o,sp⟩ := a
     have := hsp hne
     simp only at this
     subst this
     obtain ⟨rows,hr1,hr2,hr3⟩ := abs_rows (fun cs x hx hw=>ih e he cs x hx hw) elems 0 (fun j hj=>by rw [Nat.zero_add]; exact hget j hj) hw.2.1
     refine ⟨_,⟨rows,rfl,hr2⟩,?_⟩
     simp only [ac,Rep]
     have hrl : rows.length = len := by omega
     rw [hrl]
     refine ⟨_,[],rfl,⟨some ⟨b,o,none⟩,cap,i,rfl,hlc,hcm,hi1,hby,fun _=>⟨b,o,rfl,?_⟩⟩,rfl⟩
     rw [hi3]
     simpa using hr3
  ·rename_i fs hu
   simp only [Bool.and_eq_true] at hok
   obtain ⟨hl,xs,hm,hx⟩ := gX hu h
   rw [hx] at hw
   simp only [DataW.weights,hu] at hw
   have hsum := Nat.eq_of_beq_eq_true hok.2
   obtain ⟨pvs,h1,h2⟩ := abs_struct ih fs.toList 0 cs xs hok.1.1 hok.1.2 (by rw [hsum,hl]; omega) hm hw
   exact ⟨pvs,h1,by simpa using h2⟩
  ·cases hok
end
def ew (P : Program) (t : TypeId) (pvs : List PV) : PV :=
 match P.underlying t with
 | some (.struct _)=>.agg pvs
 | _=>pvs.headD .any
def ArgsSh (P : Program) : List TypeId → List PV → Prop
 | [],av0=>av0 = []
 | t :: ts,av0=>∃ n pvs rest,av0 = ew P t pvs :: rest ∧ Sh P n t pvs ∧ ArgsSh P ts rest
section
variable {H : Type} {enc : TypeId × Value → H} {P : Program} {W : World} {S : List TypeId}
theorem abs_val (hS : S.all (okT P S) = true) (hinf : ∀ t ∈ S,∃ i,P.info? t = some i ∧ i.bytes = P.bytesOf t ∧ i.size = P.cellsOf t) {base : Nat} {t : TypeId} (ht : t ∈ S) {v : Value} {d : DataW H} {ps : List MemPlace}
  (hv : Value.okWide P W .any base t v) (h : DataW.Trod enc P W 0 (fun _=>true) true t v d ps) (hw : (d.weights P t).all (· ≤ reachBytes) = true) : ∃ n pvs,Sh P n t pvs ∧ Rep P (cX W) true (ew P t pvs) v := by
 obtain ⟨n,hn⟩ := h
 obtain ⟨pvs,h1,h2⟩ := abs hS hinf n t ht _ (d,ps) hn hw
 refine ⟨n,pvs,h1,?_⟩
 have h2' := ac.slot h2
 have hok := List.all_eq_true.1 hS t ht
 unfold okT at hok
 unfold ew
 have one : v.cells = #[v] → Rep P (cX W) true (pvs.headD .any) v := by
  intro e
  rw [e] at h2'
  cases pvs with
  | nil=>simp [ac] at h2'
  | cons p ps =>
   simp only [ac] at h2'
   obtain ⟨x,xs,hx,hp,_⟩ := h2'
   simp only [List.cons.injEq] at hx
   rw [hx.1]
   exact hp
 cases hu : P.underlying t with
 | none=>rw [hu] at hok; cases hok
 | some td =>
  rw [hu] at hok
  cases td <;> first | (simp only [Bool.false_eq_true] at hok; done) | skip
  case bool=>obtain ⟨b,rfl⟩ := WideShapes.okWide_bool hu hv; exact one rfl
  case int k=>obtain ⟨m,rfl⟩ := WideShapes.okWide_int hu hv; exact one rfl
  case string=>obtain ⟨s,rfl⟩ := WideShapes.okWide_string hu hv; exact one rfl
  case slice e=>obtain ⟨a,len,cap,rfl⟩ := WideShapes.okWide_slice hu hv; exact one rfl
  case struct fs =>
   obtain ⟨cs,rfl,_⟩ := WideShapes.okWide_struct hu hv
   simp only [Rep]
   exact ⟨cs,rfl,h2'⟩
theorem abs_args (hS : S.all (okT P S) = true) (hinf : ∀ t ∈ S,∃ i,P.info? t = some i ∧ i.bytes = P.bytesOf t ∧ i.size = P.cellsOf t) {base : Nat} : ∀ {ts : List TypeId} {vs : List Value} {ds : List (DataW H)} {ps : List MemPlace},(∀ t ∈ ts,t ∈ S) →
  (∀ (j : Nat) t v,ts[j]? = some t → vs[j]? = some v → Value.okWide P W .any base t v) → DataW.TrodAll enc P W 0 (fun _=>true) true ts vs ds ps → (DataW.weightsEach P ts ds).all (· ≤ reachBytes) = true →
  ∃ av0,ArgsSh P ts av0 ∧ ac P (cX W) true av0 vs
 | [],_,_,_,_,_,h,_=>by
  obtain ⟨rfl,rfl,rfl⟩ := trodAll_nil h
  exact ⟨[],rfl,by simp [ac]⟩
 | t :: ts,_,_,_,hm,hv,h,hw=>by
  obtain ⟨v,vs,d,ds,p,q,rfl,rfl,rfl,h1,h2⟩ := trodAll_cons h
  simp only [DataW.weightsEach,List.all_append,Bool.and_eq_true] at hw
  obtain ⟨n,pvs,a1,a2⟩ := abs_val hS hinf (hm t (by simp)) (hv 0 t v rfl rfl) h1 hw.1
  obtain ⟨av0,b1,b2⟩ := abs_args hS hinf (fun t ht=>hm t (by simp [ht])) (fun j t v ht hv'=>hv (j + 1) t v (by simpa using ht) (by simpa using hv')) h2 hw.2
  refine ⟨ew P t pvs :: av0,⟨n,pvs,av0,rfl,a1,b1⟩,?_⟩
  simp only [ac]
  exact ⟨v,vs,rfl,a2,b2⟩
theorem fO (hl : laidOutB P = true) {W' : World} (hb : RowKit.Below W.heap.size W W') {sp : Nat → Bool} : ∀ {ts : List TypeId} {vs : List Value} {ds : List (DataW H)} {ps : List MemPlace},(∀ t ∈ ts,P.readableRec t = true ∧ t < P.types.size) →
  DataW.TrodAll enc P W 0 (fun _=>true) true ts vs ds ps → (∀ x ∈ ps,x.block < W.heap.size) → (∀ x ∈ ps,sp x.block = true) → DataW.TrodAll enc P W' 0 sp true ts vs ds ps
 | [],_,_,_,_,h,_,_=>by
  obtain ⟨rfl,rfl,rfl⟩ := trodAll_nil h
  exact trodAll_mk0
 | t :: ts,_,_,_,hr,h,hlt,hsp=>by
  obtain ⟨v,vs,d,ds,p,q,rfl,rfl,rfl,h1,h2⟩ := trodAll_cons h
  exact ⟨p,q,WideElems.Trod_stays hl (hr t (by simp)).1 (hr t (by simp)).2 h1 (fun x hx=>hb.same (hlt x (by simp [hx]))) (fun x hx=>hsp x (by simp [hx])),
   fO hl hb (fun t ht=>hr t (by simp [ht])) h2 (fun x hx=>hlt x (by simp [hx])) (fun x hx=>hsp x (by simp [hx])),rfl⟩
theorem gW {sp : Nat → Bool} {hd : Bool} : ∀ {ts : List TypeId} {vs : List Value} {ds : List (DataW H)} {ps : List MemPlace},DataW.TrodAll enc P W 0 sp hd ts vs ds ps → ds.length = ts.length
 | [],_,_,_,h=>by
  obtain ⟨_,rfl,_⟩ := trodAll_nil h
  rfl
 | t :: ts,_,_,_,h=>by
  obtain ⟨v,vs,d,ds,p,q,rfl,rfl,rfl,_,h2⟩ := trodAll_cons h
  simp [gW h2]
theorem InvH.start (W : World) (hg : Gl W []) : InvH P ⟨W,[],cX W,hg,[]⟩ (cX W) Heap.empty W :=
 ⟨fun _ _ _ h=>h,Mem.le_refl _,fun _ _ _ h=>.inl h,rfl,rfl,rfl,Nat.le_refl _,fun _ _ _=>rfl,fun _ _ h=>by simp [Heap.empty] at h,fun _ _ h=>by simp [Heap.empty] at h,
  fun _ _ _ _ h=>by simp [Heap.empty] at h,fun _ _ _ _ _ h=>by simp [Heap.empty] at h,fun _ _ _ _ h=>by simp [Heap.empty] at h⟩
theorem InvH.below {hg : Gl W []} {M : Mem} {Hp : Heap} {W' : World} (h : InvH P ⟨W,[],cX W,hg,[]⟩ M Hp W') : RowKit.Below W.heap.size W W' :=
 ⟨h.os,h.tape,h.output,h.size,fun k hk=>h.frame k hk (by simp)⟩
theorem law_calls (hl : laidOutB P = true) {f : FuncId} {fn : Func} {s : ChangeSpec} {fresh handsOn again : Bool} {tb : TypeId} (hvars : s.vars = []) (hr : ∀ t ∈ fn.params.toList,P.readableRec t = true ∧ t < P.types.size) (hres : fn.resultTypes = #[tb]) (htb : P.underlying tb = some .bool)
  (hfn : ∀ ds : List (DataW H),ds.length = fn.params.toList.length → s.fn H ds = { results := [.lit (.bool true)],args := ds })
  (hS : S.all (okT P S) = true) (hinf : ∀ t ∈ S,∃ i,P.info? t = some i ∧ i.bytes = P.bytesOf t ∧ i.size = P.cellsOf t) (hm : ∀ t ∈ fn.params.toList,t ∈ S)
  (hspec : ∀ av0,ArgsSh P fn.params.toList av0 → bl P f av0 (.val (.bool true)))
  {base : Nat} {args : Array Value} {ds gs : List (DataW H)} {before : List MemPlace} (hval : ∀ (j : Nat) t v,fn.params[j]? = some t → args[j]? = some v → Value.okWide P W .any base t v)
  (hW : DataW.Whole enc P fn.params.toList s.vars false W args.toList ds gs before) (hg : Gl W []) (hsz : (DataW.weightsEach P (fn.params.toList ++ s.plain.varTypes P) (ds ++ gs)).all (· ≤ reachBytes) = true) :
  Calls P f args W fun e W'=>∃ v,e = .returned v ∧ s.post enc P fn false fresh handsOn again W args v W' := by
 have hlt := hW.lt
 have hW' := hW
 obtain ⟨p,q,hA,hV,rfl,hz,hn⟩ := hW
 have hV' := hV
 rw [hvars] at hV
 obtain ⟨rfl,rfl⟩ := trodVars_none hV
 have hvt : s.plain.varTypes P = [] := by simp [DataSpec.varTypes,ChangeSpec.plain,hvars]
 rw [hvt,List.append_nil,List.append_nil] at hsz
 have hlen : ds.length = fn.params.toList.length := gW hA
 obtain ⟨av0,h1,h2⟩ := abs_args hS hinf hm (fun j t v ht hv=>hval j t v (by simpa using ht) (by simpa using hv)) hA hsz
 refine (hspec av0 h1 W (cX W) [] hg args (InvH.start W hg) h2).mono ?_
 rintro e W' ⟨v,u,H',M',rfl,⟨rfl,rfl⟩,hi,hrep⟩
 simp only [Rep] at hrep
 subst hrep
 have hb := hi.below
 refine ⟨_,rfl,?_⟩
 have hfn' : s.fn H (ds ++ []) = { results := [.lit (.bool true)],args := ds } := by rw [List.append_nil]; exact hfn ds hlen
 have hargs : ∀ sp : Nat → Bool,(∀ x ∈ p ++ [],sp x.block = true) → DataW.TrodAll enc P W' 0 sp true fn.params.toList args.toList ds p := fun sp hsp =>
  fO hl hb hr hA (fun x hx=>hlt x (by simp [hx])) (fun x hx=>hsp x (by simp [hx]))
 have hres' : ∀ (b : Nat) (sp : Nat → Bool) (hd : Bool),DataW.TrodAll enc P W' b sp hd fn.resultTypes.toList ((Value.bool true).resultList fn.resultTypes.size) [.lit (.bool true)] [] := by
  intro b sp hd
  rw [hres]
  refine trodAll_mk1 ⟨1,?_⟩
  show DataW.trod enc P W' b sp hd 1 tb [.bool true] = _
  unfold DataW.trod
  rw [htb]
 have hvs : ∀ sp : Nat → Bool,DataW.TrodVars enc P W' sp s.vars ([] : List (DataW H)) [] := fun sp=>by rw [hvars]; simp [DataW.TrodVars]
 have hold : ∀ x ∈ p ++ [],(fun b=>decide (b < W.heap.size)) x.block = true := fun x hx=>by simpa using hlt x hx
 refine ⟨ds,[],p ++ [],[],p,[],hW',?_,?_,?_,hb.frame _,fun _=>⟨RowKit.ok_one hres rfl (RowKit.okWide_bool_mk htb true),[.lit (.bool true)] ++ ds,[],([] ++ p) ++ [],⟨[] ++ p,[],?_,hvs _,rfl,?_,fun h=>by cases h⟩,?_⟩⟩
 ·rw [hfn']; exact hres' _ _ _
 ·rw [hfn']; exact hargs _ hold
 ·rw [hfn']; exact hvs _
 ·exact trodAll_append (hargs _ fun _ _=>rfl) (hres' _ _ _)
 ·intro b off hx
  have hx' : MemPlace.cell b off ∈ p ++ [] := by simpa using hx
  rw [hb.frozen (hlt _ hx')]
  exact hz b off hx'
 ·intro x hx _
  simpa using hx
end
theorem rowsOf {α : Type} {f : α → List PV} : ∀ {rows : List (List PV)},(∀ r ∈ rows,∃ x,r = f x) → ∃ xs : List α,rows = xs.map f
 | [],_=>⟨[],rfl⟩
 | r :: rs,h=>by
  obtain ⟨x,rfl⟩ := h r (by simp)
  obtain ⟨xs,rfl⟩ := rowsOf (rows := rs) fun q hq=>h q (by simp [hq])
  exact ⟨x :: xs,rfl⟩
def infosB (P : Program) (S : List TypeId) : Bool := S.all fun t=>match P.info? t with
 | some i=>Nat.beq i.bytes (P.bytesOf t) && Nat.beq i.size (P.cellsOf t)
 | none=>false
theorem infos_of {P : Program} {S : List TypeId} (h : infosB P S = true) : ∀ t ∈ S,∃ i,P.info? t = some i ∧ i.bytes = P.bytesOf t ∧ i.size = P.cellsOf t := by
 intro t ht
 have := List.all_eq_true.1 h t ht
 cases hi : P.info? t with
 | none=>rw [hi] at this; cases this
 | some i =>
  rw [hi] at this
  simp only [Bool.and_eq_true] at this
  exact ⟨i,rfl,Nat.eq_of_beq_eq_true this.1,Nat.eq_of_beq_eq_true this.2⟩
section
variable {B : (H : Type) → DataW H → Nat} {H : Type} {enc : TypeId × Value → H} {P : Program} {W : World} {S : List TypeId}
end
end
end Go.Ab

namespace Go.Ab
noncomputable section
open Go
theorem joined_of {P : Program} {f : FuncId} {fn : Func} {s : ChangeSpec} {c : OpenClaim}
  (h_wf : (c.wf (OpenSpec.ofChange s)) = true)
  (h_laid : (laidOutB P) = true)
  (h_mapsRowed : (mapsRowed P) = true)
  (h_rr : (fn.params.all (P.readableRec ·)) = true)
  (h_nt : (namedTie P c.named s.vars) = true)
  (h_st : ((c.stops == []) && (P.stops == []) && (c.knobs == []) && (P.stopKnobs == [])) = true)
  (h_inPlace : (c.inPlace == P.inPlace f) = true)
  (h_unf : (c.unfollowed == P.unfollowed f) = true)
  (h_rec : (c.recurses == P.recurses f) = true)
  (h_named : (c.named == P.varsNamed f) = true)
  (h_maps : ((c.maps == (fn.params.toList ++ s.plain.varTypes P).any (P.mapsRec ·)) && (c.ifaces == (fn.params.toList ++ s.plain.varTypes P).any (P.ifacesRec ·)) && (c.mapsOut == P.mapsAmong fn.resultTypes.toList)) = true)
  (h_loops : ((c.loops == (fn.params.toList ++ s.plain.varTypes P).any (P.loopsFrom ·))) = true)
  (h_wide : ((c.wideKeys == (fn.params.toList ++ s.plain.varTypes P ++ fn.resultTypes.toList).any (P.wideKeysFrom ·))) = true)
  (h_rest1 : (s.vars.all (P.varReadable ·) && fn.resultTypes.all (fun t=>P.readableRec t && decide (t < P.types.size)) && (c.ifacesOut == fn.resultTypes.toList.any (P.ifacesRec ·)) && (c.loopsOut == fn.resultTypes.toList.any (P.loopsFrom ·))) = true)
  (h_plainKeys : (c.plainKeys == P.plainKeys) = true)
  (h_rest2 : (c.shortTexts.isNone && P.stopsHeard && P.mayEnter && (c.lifted == P.liftsFinal) && (P.make == some c.make)) = true)
  (h_kinds : ((c.kinds == (if c.domain.isEmpty then [] else fn.params.toList.map fun t=>match P.underlying t with | some (.int k)=>some k | _=>none)) && (c.pinned == c.pinnedBy)) = true)
  (h_veil : ((c.veiled == (fn.params.toList ++ s.plain.varTypes P ++ fn.resultTypes.toList).any (P.veiledRec ·)) && c.veiledFits P fn.params.toList (fn.params.toList ++ s.plain.varTypes P ++ fn.resultTypes.toList)) = true)
  : joinedFacts P f fn s c = true := by
 simp only [Bool.and_eq_true] at h_st h_maps h_rest1 h_rest2 h_kinds h_veil
 simp only [joinedFacts,Bool.and_eq_true]
 exact ⟨⟨⟨⟨⟨⟨⟨⟨⟨⟨⟨⟨⟨⟨⟨⟨⟨⟨⟨⟨⟨⟨⟨⟨⟨⟨⟨⟨⟨⟨⟨h_wf,h_laid⟩,h_mapsRowed⟩,h_rr⟩,h_nt⟩,h_st.1.1.1⟩,h_st.1.1.2⟩,h_st.1.2⟩,h_st.2⟩,h_inPlace⟩,h_unf⟩,h_rec⟩,h_named⟩,h_maps.1.1⟩,h_maps.1.2⟩,h_maps.2⟩,h_loops⟩,h_wide⟩,h_rest1.1.1.1⟩,h_rest1.1.1.2⟩,h_rest1.1.2⟩,h_rest1.2⟩,h_plainKeys⟩,h_rest2.1.1.1.1⟩,h_rest2.1.1.1.2⟩,h_rest2.1.1.2⟩,h_rest2.1.2⟩,h_rest2.2⟩,h_kinds.1⟩,h_kinds.2⟩,h_veil.1⟩,h_veil.2⟩
end
end Go.Ab

namespace Go.Ab
noncomputable section
def ag {α β : Type} (o : Option α) (k : α → Option β) : Option β := match o with
 | some a=>k a
 | none=>none
def letP {α β : Type} (a : α) (k : α → β) : β := k a
inductive Flow (σ ρ : Type) where
 | next (s : σ)
 | brk (s : σ)
 | ret (r : ρ)
def Flow.thenR {σ ρ : Type} (fl : Flow σ ρ) (k : σ → Option ρ) : Option ρ := match fl with
 | .next s=>k s
 | .brk s=>k s
 | .ret r=>some r
def Flow.thenF {σ τ ρ : Type} (fl : Flow σ ρ) (k : σ → Option (Flow τ ρ)) : Option (Flow τ ρ) := match fl with
 | .next s=>k s
 | .brk s=>k s
 | .ret r=>some (.ret r)
def aI {α σ ρ : Type} (step : Nat → α → σ → Option (Flow σ ρ)) : Nat → List α → σ → Option (Flow σ ρ)
 | _,[],s=>some (.next s)
 | j,x :: xs,s=>match step j x s with
  | none=>none
  | some (.next s')=>aI step (j + 1) xs s'
  | some (.brk s')=>some (.next s')
  | some (.ret r)=>some (.ret r)
def cC {σ ρ : Type} (step : σ → Option (Flow σ ρ)) : Nat → σ → Option (Flow σ ρ)
 | 0,_=>none
 | n + 1,s=>match step s with
  | none=>none
  | some (.next s')=>cC step n s'
  | some (.brk s')=>some (.next s')
  | some (.ret r)=>some (.ret r)
open Classical in
def bT {σ ρ : Type} (step : σ → Option (Flow σ ρ)) (s : σ) : Option (Flow σ ρ) :=
 if h : ∃ r,∃ n,cC step n s = some r then some h.choose else none
theorem iterM_le {σ ρ : Type} {step : σ → Option (Flow σ ρ)} : ∀ {n m : Nat} {s : σ} {r : Flow σ ρ},cC step n s = some r → n ≤ m → cC step m s = some r
 | 0,_,_,_,h,_=>by simp [cC] at h
 | n + 1,0,_,_,_,hm=>by omega
 | n + 1,m + 1,s,r,h,hm=>by
  simp only [cC] at h ⊢
  split at h
  ·cases h
  ·exact iterM_le h (by omega)
  ·exact h
  ·exact h
theorem whileM_iff {σ ρ : Type} {step : σ → Option (Flow σ ρ)} {s : σ} {r : Flow σ ρ} : bT step s = some r ↔ ∃ n,cC step n s = some r := by
 unfold bT
 constructor
 ·intro h
  split at h
  ·rename_i hx
   obtain ⟨n,hn⟩ := hx.choose_spec
   exact ⟨n,by rw [hn]; exact h⟩
  ·cases h
 ·rintro ⟨n,hn⟩
  have hx : ∃ r,∃ n,cC step n s = some r := ⟨r,n,hn⟩
  rw [dif_pos hx]
  obtain ⟨m,hm⟩ := hx.choose_spec
  have h1 := iterM_le hn (Nat.le_max_left n m)
  have h2 := iterM_le hm (Nat.le_max_right n m)
  rw [h1] at h2
  exact h2.symm
theorem fj {σ ρ : Type} {step : σ → Option (Flow σ ρ)} {s : σ} {fl r : Flow σ ρ} (h : step s = some fl) (hr : match fl with | .next s'=>bT step s' = some r | .brk s'=>r = .next s' | .ret x=>r = .ret x) : bT step s = some r := by
 rw [whileM_iff]
 cases fl with
 | next s' =>
  obtain ⟨n,hn⟩ := whileM_iff.1 hr
  exact ⟨n + 1,by simp only [cC,h,hn]⟩
 | brk s'=>exact ⟨1,by simp only [cC,h,hr]⟩
 | ret x=>exact ⟨1,by simp only [cC,h,hr]⟩
theorem ar {α β : Type} {o : Option α} {k : α → Option β} {r : β} (h : ag o k = some r) : ∃ a,o = some a ∧ k a = some r := by
 cases o with
 | none=>cases h
 | some a=>exact ⟨a,rfl,h⟩
theorem letE {α β : Type} {a : α} {k : α → β} {r : β} (h : letP a k = r) : ∃ x,a = x ∧ k x = r := ⟨a,rfl,h⟩
theorem condT {α : Type} {c : Bool} {A B r : α} (h : c = true) (H : cond c A B = r) : A = r := by subst h; exact H
theorem condF {α : Type} {c : Bool} {A B r : α} (h : c = false) (H : cond c A B = r) : B = r := by subst h; exact H
theorem aU {P : Program} {fn : Func} {R : PV → Heap → Prop} {k : List KI} {st : PState} {c : Operand} {x y : Code} {b : Bool} (hc : evS st.s c = .val (.bool b)) {α : Type} {A B r : α} (H : (bif b then A else B) = r) (ht : A = r → V P fn R (.code x :: k) st) (hf : B = r → V P fn R (.code y :: k) st) : V P fn R (.code (.cond c x y) :: k) st := gd hc (fun h=>ht (Go.Ab.condT h H)) (fun h=>hf (Go.Ab.condF h H))
theorem dG {P : Program} {ops : Array Oper} {o : Oper} {rest : List Oper} {n : Nat} {s : Nat → PV} {bx : Nat → Option Box} {ob : Nat → Option Obj} {K : PState → Prop} {j : Nat} {want b : Bool} {d : Nat} (hg : o.guard = some (j,want)) (hd : (ops[j]?).bind (·.dst) = some d) (hs : s d = .val (.bool b)) {α : Type} {A B r : α} (H : cond b A B = r)
  (ht : A = r → Ao P ops (o :: rest) ⟨n,upd s d (.val (.bool true)),bx,ob⟩ K) (hf : B = r → Ao P ops (o :: rest) ⟨n,upd s d (.val (.bool false)),bx,ob⟩ K) : Ao P ops (o :: rest) ⟨n,s,bx,ob⟩ K := iA hg hd hs (fun h=>ht (condT h H)) (fun h=>hf (condF h H))
theorem Do.sH {P : Program} {T : TT} {rb : RB} {ops : Array Oper} {o : Oper} {k : Nat} {L : List Nat} {n : Nat} {s : Nat → PV} {bx : Nat → Option Box} {ob : Nat → Option Obj} {K : PState → Prop} {j : Nat} {want b : Bool} {d : Nat} (ho : ops[k]? = some o) (hg : o.guard = some (j,want)) (hd : (ops[j]?).bind (·.dst) = some d) (hs : s d = .val (.bool b)) {α : Type} {A B r : α} (H : cond b A B = r)
  (ht : A = r → Do P T rb ops (k :: L) ⟨n,upd s d (.val (.bool true)),bx,ob⟩ K) (hf : B = r → Do P T rb ops (k :: L) ⟨n,upd s d (.val (.bool false)),bx,ob⟩ K) : Do P T rb ops (k :: L) ⟨n,s,bx,ob⟩ K := iE ho hg hd hs (fun h=>ht (condT h H)) (fun h=>hf (condF h H))
theorem bC {σ ρ : Type} {r x : ρ} {k : σ → Option ρ} (h : Flow.thenR (.ret r) k = some x) : r = x := Option.some.inj h
theorem aq {α : Type} {a b : α} (h : some a = some b) : a = b := Option.some.inj h
def en {α σ ρ : Type} (step : Nat → α → σ → Option (Flow σ ρ)) (xs : List α) (j : Nat) (res : Flow σ ρ) : Flow σ ρ → Prop
 | .next s'=>aI step (j + 1) (xs.drop (j + 1)) s' = some res
 | .brk s'=>res = .next s'
 | .ret r=>res = .ret r
theorem rMc {α σ ρ : Type} {step : Nat → α → σ → Option (Flow σ ρ)} {xs : List α} {j : Nat} {s : σ} {res : Flow σ ρ} (hj : j < xs.length) (h : aI step j (xs.drop j) s = some res) :
  ∃ x fl,xs[j]? = some x ∧ step j x s = some fl ∧ en step xs j res fl := by
 rw [List.drop_eq_getElem_cons hj,aI] at h
 refine ⟨xs[j],?_⟩
 split at h
 ·cases h
 ·rename_i s' hs; exact ⟨_,ze hj,hs,h⟩
 ·rename_i s' hs; exact ⟨_,ze hj,hs,(Option.some.inj h).symm⟩
 ·rename_i s' hs; exact ⟨_,ze hj,hs,(Option.some.inj h).symm⟩
theorem rMd {α σ ρ : Type} {step : Nat → α → σ → Option (Flow σ ρ)} {xs : List α} {j : Nat} {s : σ} {res : Flow σ ρ} (hj : xs.length ≤ j) (h : aI step j (xs.drop j) s = some res) : res = .next s := by
 rw [List.drop_eq_nil_of_le hj,aI] at h
 exact (Option.some.inj h).symm
def iterGo {σ ρ : Type} (step : σ → Option (Flow σ ρ)) (n : Nat) (res : Flow σ ρ) : Flow σ ρ → Prop
 | .next s'=>cC step n s' = some res
 | .brk s'=>res = .next s'
 | .ret r=>res = .ret r
theorem bI {σ ρ : Type} {step : σ → Option (Flow σ ρ)} {n : Nat} {s : σ} {res : Flow σ ρ} (h : cC step (n + 1) s = some res) : ∃ fl,step s = some fl ∧ iterGo step n res fl := by
 rw [cC] at h
 split at h
 ·cases h
 ·rename_i s' hs; exact ⟨_,hs,h⟩
 ·rename_i s' hs; exact ⟨_,hs,(Option.some.inj h).symm⟩
 ·rename_i s' hs; exact ⟨_,hs,(Option.some.inj h).symm⟩
section
variable {P : Program} {fn : Func} {R : PV → Heap → Prop} {k : List KI} {n : Nat} {s : Nat → PV} {bx : Nat → Option Box} {ob : Nat → Option Obj} {T : TT} {st : PState}
theorem cS {τ γ : Type} (J : τ → γ → PState) (Gd : τ → Prop) {c : Code} (h : V P fn R (.code c :: .stop (fun st'=>∃ t g,Gd t ∧ st' = J t g) :: k) st) (hk : ∀ t g,Gd t → V P fn R k (J t g)) :
  V P fn R (.code c :: k) st := by
 intro C M a w hi
 have := h C M a w hi
 simp only [after] at this ⊢
 refine wp_mono this ?_
 intro e a w he
 cases e with
 | normal =>
  obtain ⟨C',st',M',hrb,⟨t,g,hG,rfl⟩,hi'⟩ := he
  exact cu hrb (fS hrb) k _ a w (hk t g hG C' M' a w hi')
 | _=>exact he
theorem br {τ γ : Type} {J : τ → γ → PState} {Gd : τ → Prop} (t : τ) (g : γ) (hG : Gd t) (h : Gh P st (J t g)) : V P fn R (.stop (fun st'=>∃ t g,Gd t ∧ st' = J t g) :: k) st :=
 dl h (ix ⟨t,g,hG,rfl⟩)
theorem hP {τ γ β : Type} {x : Option τ} {f : τ → Option β} {r : β} (J : τ → γ → PState) {c : Code} (H : ag x f = some r) (h : ∀ u,x = some u → V P fn R (.code c :: .stop (fun st'=>∃ t g,t = u ∧ st' = J t g) :: k) st)
  (hk : ∀ t g,f t = some r → V P fn R k (J t g)) : V P fn R (.code c :: k) st := by
 obtain ⟨u,h1,h2⟩ := ar H
 exact cS J (fun t=>t = u) (h u h1) (fun t g e=>hk t g (e ▸ h2))
theorem fy {τ γ β : Type} {x : τ} {f : τ → β} {r : β} (J : τ → γ → PState) {c : Code} (H : letP x f = r) (h : ∀ u,x = u → V P fn R (.code c :: .stop (fun st'=>∃ t g,t = u ∧ st' = J t g) :: k) st)
  (hk : ∀ t g,f t = r → V P fn R k (J t g)) : V P fn R (.code c :: k) st := by
 obtain ⟨u,h1,h2⟩ := letE H
 exact cS J (fun t=>t = u) (h u h1) (fun t g e=>hk t g (e ▸ h2))
theorem iD {α σ ρ γ : Type} {step : Nat → α → σ → Option (Flow σ ρ)} {xs : List α} {res : Flow σ ρ} (F : Nat → σ → γ → PState) {s₀ : σ} (g₀ : γ) {c : Code}
  (hres : aI step 0 xs s₀ = some res) (h₀ : Gh P st (F 0 s₀ g₀))
  (round : ∀ j s g,j ≤ xs.length → aI step j (xs.drop j) s = some res →
   V P fn R (.code c :: .stop (fun st'=>∃ s' g',(j + 1 ≤ xs.length ∧ aI step (j + 1) (xs.drop (j + 1)) s' = some res) ∧ st' = F (j + 1) s' g') :: k) (F j s g)) :
  V P fn R (.code (.loop c) :: k) st := by
 refine ir (X := Nat × σ × γ) (fun X=>F X.1 X.2.1 X.2.2) (fun X=>X.1 ≤ xs.length ∧ aI step X.1 (xs.drop X.1) X.2.1 = some res) (fun X=>xs.length - X.1) (0,s₀,g₀) ⟨Nat.zero_le _,by simpa using hres⟩ h₀ ?_
 rintro ⟨j,s,g⟩ ⟨h1,h2⟩
 refine ik (fun st' ⟨s',g',⟨h4,h5⟩,e⟩=>⟨(j + 1,s',g'),?_,⟨h4,h5⟩,e⟩) (round j s g h1 h2)
 show xs.length - (j + 1) < xs.length - j
 omega
theorem bp {σ γ : Type} {Q : σ → Prop} {F : σ → γ → PState} (s' : σ) (g' : γ) (hQ : Q s') (h : Gh P st (F s' g')) : V P fn R (.stop (fun st'=>∃ s' g',Q s' ∧ st' = F s' g') :: k) st :=
 dl h (ix ⟨s',g',hQ,rfl⟩)
theorem co {σ ρ γ : Type} {step : σ → Option (Flow σ ρ)} {res : Flow σ ρ} (F : σ → γ → PState) {s₀ : σ} (g₀ : γ) {c : Code}
  (hres : bT step s₀ = some res) (h₀ : Gh P st (F s₀ g₀))
  (round : ∀ m s g,cC step (m + 1) s = some res → V P fn R (.code c :: .stop (fun st'=>∃ s' g',cC step m s' = some res ∧ st' = F s' g') :: k) (F s g)) :
  V P fn R (.code (.loop c) :: k) st := by
 obtain ⟨m,hm⟩ := whileM_iff.1 hres
 refine ir (X := Nat × σ × γ) (fun X=>F X.2.1 X.2.2) (fun X=>cC step X.1 X.2.1 = some res) (fun X=>X.1) (m,s₀,g₀) hm h₀ ?_
 rintro ⟨j,s,g⟩ h2
 cases j with
 | zero=>simp [cC] at h2
 | succ j =>
 exact ik (fun st' ⟨s',g',h5,e⟩=>⟨(j,s',g'),Nat.lt_succ_self j,h5,e⟩) (round j s g h2)
theorem Gh.cast (d : Nat) {p q : PV} (hs : s d = p) (h : PLe P p q) : Gh P ⟨n,s,bx,ob⟩ ⟨n,upd s d q,bx,ob⟩ := fun _ M _ _ hi =>
 ⟨M,⟨hi.1.1,hi.1.2.1,fun t=>by
  show Rep P M true (upd s d q t) _
  rw [bP]
  split
  ·rename_i e; subst e; have := hi.1.2.2 t; exact h M _ (hs ▸ this)
  ·exact hi.1.2.2 t⟩,hi.2⟩
end
section
variable {α : Type} {f f' : α → List PV}
theorem de (hE : ∀ x,f' x = f x) {xs : List α} {j : Nat} {x : α} (h : xs[j]? = some x) : (xs.map f')[((j : Nat) : Int).toNat]? = some (f x) := by
 simp [h,hE]
theorem aW (hE : ∀ x,f' x = f x) {xs : List α} {i : Int} {x : α} (h : xs[i.toNat]? = some x) : (xs.map f')[i.toNat]? = some (f x) := by
 simp [h,hE]
theorem rowsSubE {xs ys : List α} {a b : Nat} (h : ys = (xs.take b).drop a) : ((xs.map f).take b).drop a = ys.map f := by rw [h]; simp
end
def aZ {α : Type} (xs : List α) (i : Int) : Option α := if 0 ≤ i then xs[i.toNat]? else none
theorem gIs {α : Type} {xs : List α} {i : Int} {x : α} (h : aZ xs i = some x) : 0 ≤ i ∧ xs[i.toNat]? = some x := by
 unfold aZ at h
 split at h
 ·rename_i h0; exact ⟨h0,h⟩
 ·cases h
theorem bN {α β : Type} {xs : List α} {i : Int} {k : α → Option β} {r : β} (h : ag (aZ xs i) k = some r) : ∃ a,(0 ≤ i ∧ xs[i.toNat]? = some a) ∧ k a = some r := by
 obtain ⟨a,h1,h2⟩ := ar h
 exact ⟨a,gIs h1,h2⟩
def subI {α : Type} (xs : List α) (a b : Int) : Option (List α) := if 0 ≤ a ∧ a ≤ b ∧ b ≤ xs.length then some ((xs.take b.toNat).drop a.toNat) else none
theorem subI_some {α : Type} {xs ys : List α} {a b : Int} (h : subI xs a b = some ys) : (0 ≤ a ∧ a ≤ b ∧ b ≤ xs.length) ∧ ys = (xs.take b.toNat).drop a.toNat := by
 unfold subI at h
 split at h
 ·rename_i h0; exact ⟨h0,(Option.some.inj h).symm⟩
 ·cases h
def appI {α : Type} (bytes : Nat) (xs ys : List α) : Option (List α) := if (xs.length + ys.length) * bytes ≤ 2 ^ 47 ∧ xs.length + ys.length ≤ maxLen then some (xs ++ ys) else none
theorem gq {α : Type} {bytes : Nat} {xs ys zs : List α} (h : appI bytes xs ys = some zs) : (xs.length + ys.length) * bytes ≤ 2 ^ 47 ∧ xs.length + ys.length ≤ maxLen ∧ zs = xs ++ ys := by
 unfold appI at h
 split at h
 ·rename_i h0; exact ⟨h0.1,h0.2,(Option.some.inj h).symm⟩
 ·cases h
theorem appI_by {α β : Type} {f : α → β} {bytes : Nat} {xs ys : List α} (h : (xs.length + ys.length) * bytes ≤ 2 ^ 47) : ((xs.map f).length + (ys.map f).length) * bytes ≤ 2 ^ 47 := by simpa using h
theorem appI_mx {α β : Type} {f : α → β} {xs ys : List α} (h : xs.length + ys.length ≤ maxLen) : (xs.map f).length + (ys.map f).length ≤ maxLen := by simpa using h
theorem appI_eq {α β : Type} {f : α → β} {xs ys zs : List α} (h : zs = xs ++ ys) : xs.map f ++ ys.map f = zs.map f := by rw [h,List.map_append]
def Flow.thenP {σ β : Type} (fl : Flow σ Empty) (k : σ → Option β) : Option β := match fl with
 | .next s=>k s
 | .brk s=>k s
 | .ret r=>r.elim
theorem bu {σ β : Type} {fl : Flow σ Empty} {t : σ} {k : σ → Option β} {r : β} (h : fl = .next t) (H : fl.thenP k = some r) : k t = some r := by subst h; exact H
section
variable {P : Program} {fn : Func} {R : PV → Heap → Prop} {k : List KI} {n : Nat} {s : Nat → PV} {bx : Nat → Option Box} {ob : Nat → Option Obj} {T : TT}
def nB {σ γ : Type} : σ → γ → Nat → Option Box := fun _ _ _=>none
def nO {σ γ : Type} : σ → γ → Nat → Option Obj := fun _ _ _=>none
theorem ie {α σ ρ γ β : Type} {step : Nat → α → σ → Option (Flow σ ρ)} {xs : List α} {s₀ : σ} {th : Flow σ ρ → Option β} {r : β} {rw : α → List PV}
  (hT : T.Ok P) (d : Nat) {e : TypeId} {ei : TInfo} (hei : T.get e = some ei) (hs : s d = .list e (xs.map rw))
  (S : σ → γ → Nat → PV) (B : σ → γ → Nat → Option Box) (O : σ → γ → Nat → Option Obj) (E : (Nat → PV) → Nat → σ → γ → Nat → PV) (g₀ : γ)
  {id rid : Nat} {ops : Array Oper} {o : Oper} {tst : Operand} {rest : Code} {S' : Nat → σ → γ → Nat → PV}
  (H : ag (aI step 0 xs s₀) th = some r)
  (h₀ : Gh P ⟨n,s,bx,ob⟩ ⟨n,E (S s₀ g₀) 0 s₀ g₀,B s₀ g₀,O s₀ g₀⟩)
  (ho : ops.toList = [o])
  (hq : ∀ j s g,eS T ops n (E (S s g) j s g) (B s g) o = some (S' j s g))
  (ht : ∀ j s g,evS (S' j s g) tst = .val (.bool (decide ((j : Int) < ((xs.length : Nat) : Int)))))
  (hx : ∀ j s g,Gh P ⟨n,S' j s g,B s g,O s g⟩ ⟨n,S s g,B s g,O s g⟩)
  (round : ∀ fl,th fl = some r → ∀ j s g,xs.length ≤ maxLen → j < xs.length → ∀ x fb,xs[j]? = some x → step j x s = some fb → en step xs j fl fb →
   V P fn R (.code rest :: .stop (fun st'=>∃ s' g',(j + 1 ≤ xs.length ∧ aI step (j + 1) (xs.drop (j + 1)) s' = some fl) ∧ st' = ⟨n,E (S s' g') (j + 1) s' g',B s' g',O s' g'⟩) :: .blk id :: .stop (fun st'=>∃ t g,fl = .next t ∧ st' = ⟨n,S t g,B t g,O t g⟩) :: k) ⟨n,S' j s g,B s g,O s g⟩)
  (hk : ∀ t g,th (.next t) = some r → V P fn R k ⟨n,S t g,B t g,O t g⟩) :
  V P fn R (.code (.block id (.loop (.seq (.region rid ops false) (.seq (.cond tst .skip (.exit id)) rest)))) :: k) ⟨n,s,bx,ob⟩ := by
 refine ia hT d hei hs (fun hz _=>?_)
 rw [zl] at hz
 obtain ⟨fl,h1,h2⟩ := ar H
 refine cS (fun t g=>⟨n,S t g,B t g,O t g⟩) (fun t=>fl = .next t) ?_ (fun t g e=>hk t g (by subst e; exact h2))
 refine aA (iD (fun j s g=>⟨n,E (S s g) j s g,B s g,O s g⟩) g₀ h1 h₀ (fun j s g hj hr=>?_))
 refine ae (ah ?_)
 rw [ho]
 refine ay hT (hq j s g) (ak ?_)
 refine ae (gd (ht j s g) (fun h=>?_) (fun h=>?_))
 ·have hl : j < xs.length := by simpa using h
  obtain ⟨x,fb,hx1,H,hg⟩ := rMc hl hr
  exact av (round fl h2 j s g hz hl x fb hx1 H hg)
 ·have hn := rMd (by simpa using h) hr
  refine cA (k' := .stop (fun st'=>∃ t g,fl = .next t ∧ st' = ⟨n,S t g,B t g,O t g⟩) :: k) ?_ (br s g hn (hx j s g))
  simp [eo,Nat.beq_refl]
theorem iG {α σ γ β : Type} {step : Nat → α → σ → Option (Flow σ Empty)} {xs : List α} {s₀ : σ} {kk : σ → Option (β)} {r : β} {rw : α → List PV}
  (hT : T.Ok P) (d : Nat) {e : TypeId} {ei : TInfo} (hei : T.get e = some ei) (hs : s d = .list e (xs.map rw))
  (S : σ → γ → Nat → PV) (B : σ → γ → Nat → Option Box) (O : σ → γ → Nat → Option Obj) (E : (Nat → PV) → Nat → σ → γ → Nat → PV) (g₀ : γ)
  {id rid : Nat} {ops : Array Oper} {o : Oper} {tst : Operand} {rest : Code} {S' : Nat → σ → γ → Nat → PV}
  (H : ag (aI step 0 xs s₀) (fun fl=>fl.thenP kk) = some r)
  (ho : ops.toList = [o])
  (h₀ : Gh P ⟨n,s,bx,ob⟩ ⟨n,E (S s₀ g₀) 0 s₀ g₀,B s₀ g₀,O s₀ g₀⟩)
  (hq : ∀ j s g,eS T ops n (E (S s g) j s g) (B s g) o = some (S' j s g))
  (ht : ∀ j s g,evS (S' j s g) tst = .val (.bool (decide ((j : Int) < ((xs.length : Nat) : Int)))))
  (hx : ∀ j s g,Gh P ⟨n,S' j s g,B s g,O s g⟩ ⟨n,S s g,B s g,O s g⟩)
  (round : ∀ fl,fl.thenP kk = some r → ∀ j s g,xs.length ≤ maxLen → j < xs.length → ∀ x fb,xs[j]? = some x → step j x s = some fb → en step xs j fl fb →
   V P fn R (.code rest :: .stop (fun st'=>∃ s' g',(j + 1 ≤ xs.length ∧ aI step (j + 1) (xs.drop (j + 1)) s' = some fl) ∧ st' = ⟨n,E (S s' g') (j + 1) s' g',B s' g',O s' g'⟩) :: .blk id :: .stop (fun st'=>∃ t g,fl = .next t ∧ st' = ⟨n,S t g,B t g,O t g⟩) :: k) ⟨n,S' j s g,B s g,O s g⟩)
  (hk : ∀ t g,kk t = some r → V P fn R k ⟨n,S t g,B t g,O t g⟩) :
  V P fn R (.code (.block id (.loop (.seq (.region rid ops false) (.seq (.cond tst .skip (.exit id)) rest)))) :: k) ⟨n,s,bx,ob⟩ :=
 ie hT d hei hs S B O E g₀ H h₀ ho hq ht hx round (fun t g e=>hk t g e)
theorem iF {α σ γ β : Type} {step : Nat → α → σ → Option (Flow σ β)} {xs : List α} {s₀ : σ} {kk : σ → Option (β)} {r : β} {rw : α → List PV}
  (hT : T.Ok P) (d : Nat) {e : TypeId} {ei : TInfo} (hei : T.get e = some ei) (hs : s d = .list e (xs.map rw))
  (S : σ → γ → Nat → PV) (B : σ → γ → Nat → Option Box) (O : σ → γ → Nat → Option Obj) (E : (Nat → PV) → Nat → σ → γ → Nat → PV) (g₀ : γ)
  {id rid : Nat} {ops : Array Oper} {o : Oper} {tst : Operand} {rest : Code} {S' : Nat → σ → γ → Nat → PV}
  (H : ag (aI step 0 xs s₀) (fun fl=>fl.thenR kk) = some r)
  (ho : ops.toList = [o])
  (h₀ : Gh P ⟨n,s,bx,ob⟩ ⟨n,E (S s₀ g₀) 0 s₀ g₀,B s₀ g₀,O s₀ g₀⟩)
  (hq : ∀ j s g,eS T ops n (E (S s g) j s g) (B s g) o = some (S' j s g))
  (ht : ∀ j s g,evS (S' j s g) tst = .val (.bool (decide ((j : Int) < ((xs.length : Nat) : Int)))))
  (hx : ∀ j s g,Gh P ⟨n,S' j s g,B s g,O s g⟩ ⟨n,S s g,B s g,O s g⟩)
  (round : ∀ fl,fl.thenR kk = some r → ∀ j s g,xs.length ≤ maxLen → j < xs.length → ∀ x fb,xs[j]? = some x → step j x s = some fb → en step xs j fl fb →
   V P fn R (.code rest :: .stop (fun st'=>∃ s' g',(j + 1 ≤ xs.length ∧ aI step (j + 1) (xs.drop (j + 1)) s' = some fl) ∧ st' = ⟨n,E (S s' g') (j + 1) s' g',B s' g',O s' g'⟩) :: .blk id :: .stop (fun st'=>∃ t g,fl = .next t ∧ st' = ⟨n,S t g,B t g,O t g⟩) :: k) ⟨n,S' j s g,B s g,O s g⟩)
  (hk : ∀ t g,kk t = some r → V P fn R k ⟨n,S t g,B t g,O t g⟩) :
  V P fn R (.code (.block id (.loop (.seq (.region rid ops false) (.seq (.cond tst .skip (.exit id)) rest)))) :: k) ⟨n,s,bx,ob⟩ :=
 ie hT d hei hs S B O E g₀ H h₀ ho hq ht hx round (fun t g e=>hk t g e)
def eL {α : Type} (i m d : Nat) (ety : TypeId) (xs : List α) (rw : α → List PV) (e : Nat → PV) (j : Nat) : Nat → PV := upd (upd (upd e i (.val (.int .i64 (j : Int)))) m (.val (.int .i64 (xs.length : Int)))) d (.list ety (xs.map rw))
theorem it {α σ γ β : Type} {step : Nat → α → σ → Option (Flow σ Empty)} {xs : List α} {s₀ : σ} {kk : σ → Option (β)} {r : β} {rw : α → List PV}
  (hT : T.Ok P) (i m d : Nat) {e : TypeId} {ei : TInfo}
  (S : σ → γ → Nat → PV) (B : σ → γ → Nat → Option Box) (O : σ → γ → Nat → Option Obj) (g₀ : γ)
  {id rid : Nat} {ops : Array Oper} {o : Oper} {tst : Operand} {rest : Code} {S' : Nat → σ → γ → Nat → PV}
  (H : ag (aI step 0 xs s₀) (fun fl=>fl.thenP kk) = some r)
  (round : ∀ fl,fl.thenP kk = some r → ∀ j s g,xs.length ≤ maxLen → j < xs.length → ∀ x fb,xs[j]? = some x → step j x s = some fb → en step xs j fl fb →
   V P fn R (.code rest :: .stop (fun st'=>∃ s' g',(j + 1 ≤ xs.length ∧ aI step (j + 1) (xs.drop (j + 1)) s' = some fl) ∧ st' = ⟨n,eL i m d e xs rw (S s' g') (j + 1),B s' g',O s' g'⟩) :: .blk id :: .stop (fun st'=>∃ t g,fl = .next t ∧ st' = ⟨n,S t g,B t g,O t g⟩) :: k) ⟨n,S' j s g,B s g,O s g⟩)
  (hk : ∀ t g,kk t = some r → V P fn R k ⟨n,S t g,B t g,O t g⟩)
  (hs : s d = .list e (xs.map rw) := by exact rfl) (hei : T.get e = some ei := by exact rfl) (ho : ops.toList = [o] := by exact rfl)
  (h₀ : Gh P ⟨n,s,bx,ob⟩ ⟨n,eL i m d e xs rw (S s₀ g₀) 0,B s₀ g₀,O s₀ g₀⟩ := by exact Gh.d)
  (hq : ∀ j s g,eS T ops n (eL i m d e xs rw (S s g) j) (B s g) o = some (S' j s g) := by exact fun _ _ _=>rfl)
  (ht : ∀ j s g,evS (S' j s g) tst = .val (.bool (decide ((j : Int) < ((xs.length : Nat) : Int)))) := by exact fun _ _ _=>rfl)
  (hx : ∀ j s g,Gh P ⟨n,S' j s g,B s g,O s g⟩ ⟨n,S s g,B s g,O s g⟩ := by exact fun _ _ _=>Gh.d) :
  V P fn R (.code (.block id (.loop (.seq (.region rid ops false) (.seq (.cond tst .skip (.exit id)) rest)))) :: k) ⟨n,s,bx,ob⟩ :=
 iG hT d hei hs S B O (fun e j _ _=>eL i m d _ xs rw e j) g₀ H ho h₀ hq ht hx round hk
theorem gJ {α σ γ β : Type} {step : Nat → α → σ → Option (Flow σ β)} {xs : List α} {s₀ : σ} {kk : σ → Option (β)} {r : β} {rw : α → List PV}
  (hT : T.Ok P) (i m d : Nat) {e : TypeId} {ei : TInfo}
  (S : σ → γ → Nat → PV) (B : σ → γ → Nat → Option Box) (O : σ → γ → Nat → Option Obj) (g₀ : γ)
  {id rid : Nat} {ops : Array Oper} {o : Oper} {tst : Operand} {rest : Code} {S' : Nat → σ → γ → Nat → PV}
  (H : ag (aI step 0 xs s₀) (fun fl=>fl.thenR kk) = some r)
  (round : ∀ fl,fl.thenR kk = some r → ∀ j s g,xs.length ≤ maxLen → j < xs.length → ∀ x fb,xs[j]? = some x → step j x s = some fb → en step xs j fl fb →
   V P fn R (.code rest :: .stop (fun st'=>∃ s' g',(j + 1 ≤ xs.length ∧ aI step (j + 1) (xs.drop (j + 1)) s' = some fl) ∧ st' = ⟨n,eL i m d e xs rw (S s' g') (j + 1),B s' g',O s' g'⟩) :: .blk id :: .stop (fun st'=>∃ t g,fl = .next t ∧ st' = ⟨n,S t g,B t g,O t g⟩) :: k) ⟨n,S' j s g,B s g,O s g⟩)
  (hk : ∀ t g,kk t = some r → V P fn R k ⟨n,S t g,B t g,O t g⟩)
  (hs : s d = .list e (xs.map rw) := by exact rfl) (hei : T.get e = some ei := by exact rfl) (ho : ops.toList = [o] := by exact rfl)
  (h₀ : Gh P ⟨n,s,bx,ob⟩ ⟨n,eL i m d e xs rw (S s₀ g₀) 0,B s₀ g₀,O s₀ g₀⟩ := by exact Gh.d)
  (hq : ∀ j s g,eS T ops n (eL i m d e xs rw (S s g) j) (B s g) o = some (S' j s g) := by exact fun _ _ _=>rfl)
  (ht : ∀ j s g,evS (S' j s g) tst = .val (.bool (decide ((j : Int) < ((xs.length : Nat) : Int)))) := by exact fun _ _ _=>rfl)
  (hx : ∀ j s g,Gh P ⟨n,S' j s g,B s g,O s g⟩ ⟨n,S s g,B s g,O s g⟩ := by exact fun _ _ _=>Gh.d) :
  V P fn R (.code (.block id (.loop (.seq (.region rid ops false) (.seq (.cond tst .skip (.exit id)) rest)))) :: k) ⟨n,s,bx,ob⟩ :=
 iF hT d hei hs S B O (fun e j _ _=>eL i m d _ xs rw e j) g₀ H ho h₀ hq ht hx round hk
end
def resT (s : Nat → PV) : List ResultVar → Option (List PV)
 | []=>some []
 | .tmp t :: l=>match resT s l with | some ps=>some (s t :: ps) | none=>none
 | .cell _ _ :: _=>none
section
variable {P : Program} {fn : Func} {R : PV → Heap → Prop} {k : List KI} {n : Nat} {s : Nat → PV} {bx : Nat → Option Box} {ob : Nat → Option Obj} {T : TT} {st : PState}
theorem resT_all : ∀ {l : List ResultVar} {ps : List PV},resT s l = some ps → ee T ⟨n,s,bx,ob⟩ l ps
 | [],ps,h=>by simp only [resT,zo] at h; exact h.symm
 | .tmp t :: l,ps,h=>by
  simp only [resT] at h
  split at h
  ·rename_i qs hq; cases h; exact ⟨_,_,rfl,rfl,resT_all hq⟩
  ·cases h
 | .cell _ _ :: _,ps,h=>by simp [resT] at h
theorem ii {α : Type} {x y : α} {ps : List PV} {r : PV} (hT : T.Ok P) (H : x = y) (h : resT s fn.results.toList = some ps) (he : x = y → er ps = r := by intro e; subst e; rfl) :
  V P fn (fun u H=>u = r ∧ H = Heap.empty) (.code .ret :: k) ⟨n,s,bx,ob⟩ := cb hT rfl (resT_all h) (PLe.q (he H))
theorem cE {α : Type} {x y : α} {ps : List PV} {r : PV} (hT : T.Ok P) (H : some x = some y) (h : resT s fn.results.toList = some ps) (he : x = y → er ps = r := by intro e; subst e; rfl) :
  V P fn (fun u H=>u = r ∧ H = Heap.empty) (.code .ret :: k) ⟨n,s,bx,ob⟩ := ii hT (aq H) h he
theorem eJ {α σ ρ γ : Type} {step : Nat → α → σ → Option (Flow σ ρ)} {xs : List α} {j : Nat} {res fb : Flow σ ρ} {v : σ} {F : σ → γ → PState} (g' : γ) (H : some (Flow.next v) = some fb) (hl : j < xs.length) (hg : en step xs j res fb) (h : Gh P st (F v g') := by exact Gh.d) :
  V P fn R (.stop (fun st'=>∃ s' g',(j + 1 ≤ xs.length ∧ aI step (j + 1) (xs.drop (j + 1)) s' = some res) ∧ st' = F s' g') :: k) st := by
 cases H
 exact bp v g' ⟨hl,hg⟩ h
end
section
variable {P : Program} {ops : Array Oper} {rest : List Oper} {o : Oper} {n : Nat} {s s' : Nat → PV} {bx : Nat → Option Box} {ob : Nat → Option Obj} {K : PState → Prop} {T : TT} {rb : RB} {k : Nat} {L : List Nat}
theorem Ao.cast (d : Nat) {p q : PV} (hs : s d = p) (h : PLe P p q) (hV : Ao P ops rest ⟨n,upd s d q,bx,ob⟩ K) : Ao P ops rest ⟨n,s,bx,ob⟩ K := cW (Gh.cast d hs h) hV
theorem Ao.lenL (hT : T.Ok P) (hg : ap ops s o = some true) {x : Operand} {t : TypeId} {ts : List TypeId} (ho : o.op = .call { callee := .builtin .len,args := #[x],argTypes := (t :: ts).toArray }) {ti : TInfo} {e' : TypeId} (hti : T.get t = some ti) (hd : ti.desc = .slice e')
  {e : TypeId} {rows : List (List PV)} (hx : evS s x = .list e rows) {m : Nat} (hm : rows.length = m) (hp : putD n s o.dst (.val (.int .i64 m)) = some s') (h : Ao P ops rest ⟨n,s',bx,ob⟩ K) : Ao P ops (o :: rest) ⟨n,s,bx,ob⟩ K := by
 refine gv hT hg (r := .val (.int .i64 m)) ?_ hp h
 rw [ho]
 simp [cV,eT,hti,hd,hx,lenPV,hm]
theorem aK {x : Operand} {t : TypeId} {ts : List TypeId} {ti : TInfo} {e' : TypeId} {e : TypeId} {rows : List (List PV)} {m : Nat} (hT : T.Ok P) (hm : rows.length = m) (h : Ao P ops rest ⟨n,s',bx,ob⟩ K) (hg : ap ops s o = some true := by exact rfl) (ho : o.op = .call { callee := .builtin .len,args := #[x],argTypes := (t :: ts).toArray } := by exact rfl) (hti : T.get t = some ti := by exact rfl) (hd : ti.desc = .slice e' := by exact rfl) (hx : evS s x = .list e rows := by exact rfl) (hp : putD n s o.dst (.val (.int .i64 m)) = some s' := by exact rfl) : Ao P ops (o :: rest) ⟨n,s,bx,ob⟩ K := Ao.lenL hT hg ho hti hd hx hm hp h
theorem Ao.lenO (hT : T.Ok P) (hg : ap ops s o = some true) {x : Operand} {t : TypeId} {ts : List TypeId} (ho : o.op = .call { callee := .builtin .len,args := #[x],argTypes := (t :: ts).toArray }) {ti : TInfo} {e' : TypeId} (hti : T.get t = some ti) (hd : ti.desc = .slice e')
  {tg l : Nat} {g : OwnRef} (hx : evS s x = .own tg g l) {m : Nat} (hm : l = m) (hp : putD n s o.dst (.val (.int .i64 m)) = some s') (h : Ao P ops rest ⟨n,s',bx,ob⟩ K) : Ao P ops (o :: rest) ⟨n,s,bx,ob⟩ K := by
 refine gv hT hg (r := .val (.int .i64 m)) ?_ hp h
 rw [ho]
 simp [cV,eT,hti,hd,hx,lenPV,hm]
theorem il (ho : ops[k]? = some o) (hg : ap ops s o = some true) {x : Operand} {t : TypeId} {ts : List TypeId} (hop : o.op = .call { callee := .builtin .len,args := #[x],argTypes := (t :: ts).toArray }) {ti : TInfo} {e' : TypeId} (hti : T.get t = some ti) (hd : ti.desc = .slice e')
  {e : TypeId} {rows : List (List PV)} (hx : evS s x = .list e rows) {m : Nat} (hm : rows.length = m) (hp : putD n s o.dst (.val (.int .i64 m)) = some s') (h : Do P T rb ops L ⟨n,s',bx,ob⟩ K) : Do P T rb ops (k :: L) ⟨n,s,bx,ob⟩ K := by
 refine iu ho hg (by rw [hop]; rfl) (r := .val (.int .i64 m)) ?_ hp h
 rw [hop]
 simp [cw,cV,eT,hti,hd,hx,lenPV,hm]
theorem ip (ho : ops[k]? = some o) (hg : ap ops s o = some true) {t : TypeId} {x : Operand} {lo hi : Option Operand} (hop : o.op = .slice t x lo hi none) {ti : TInfo} {e : TypeId} (hti : T.get t = some ti) (hd : ti.desc = .slice e)
  {rows : List (List PV)} (hx : evS s x = .list e rows) {m : Nat} (hm : rows.length = m) {a b : Int} (ha : ec (lo.map (evS s)) 0 = some a) (hb : ec (hi.map (evS s)) m = some b) (hab : 0 ≤ a ∧ a ≤ b ∧ b ≤ m)
  {rows' : List (List PV)} (hr : (rows.take b.toNat).drop a.toNat = rows') (hp : putD n s o.dst (.list e rows') = some s') (h : Do P T rb ops L ⟨n,s',bx,ob⟩ K) : Do P T rb ops (k :: L) ⟨n,s,bx,ob⟩ K := by
 subst hm
 refine iu ho hg (by rw [hop]; rfl) (r := .list e rows') ?_ hp h
 rw [hop]
 simp only [cw,cV,hti,hd,hx,gL,Nat.beq_refl,zc,ha,hb]
 rw [zp hab,hr]
theorem Rep.rowsLe {M : Mem} {b : Bool} {e : TypeId} {rows rows' : List (List PV)} (h : eh P rows rows') {x : Value} (hx : Rep P M b (.list e rows) x) : Rep P M b (.list e rows') x := PLe2.list h M b x hx
theorem eff_appendC (hT : T.Ok P) {o : Oper} {ev : Operand → PV} {H : Heap} {x y : Operand} {t : TypeId} (ho : o.op = .call { callee := .builtin .append,args := #[x,y],argTypes := #[t,t] }) {ti ei : TInfo} {e : TypeId} (hti : T.get t = some ti) (hd : ti.desc = .slice e) (hei : T.get e = some ei)
  (hz : Nat.beq ei.zero.cells.size ei.size = true) (hsz : Nat.blt 0 ei.size = true) {tag : Nat} {g : OwnRef} {len : Nat} {rows rows2 rows2' rows' : List (List PV)} {wr : Bool} (hx : ev x = .own tag g len) (hob : H.ob tag = some ⟨g,e,rows,wr⟩) (hlen : len = rows.length) (hy : ev y = .list e rows2)
  (hle : eh P rows2 rows2') (hby : (rows.length + rows2'.length) * ei.bytes ≤ 2 ^ 47) (hmx : rows.length + rows2'.length ≤ maxLen) (heq : rows ++ rows2' = rows') {K : PV → Heap → Prop} (hk : ∀ g',K (.own tag g' rows'.length) ⟨H.bx,upd H.ob tag (some ⟨g',e,rows',wr⟩)⟩) : Eff P o ev H K := by
 subst heq
 classical
 have hxy : x ≠ y := fun e=>by subst e; rw [hx] at hy; cases hy
 intro C M a w next Q hi he hn
 have key := eff_appendO (P := P) (o := o) (ev := fun z=>if z = y then PV.list e rows2' else ev z) (H := H) hT ho hti hd hei hz hsz (rows2 := rows2') (by simp [hxy,hx]) hob hlen (by simp) hby hmx (K := K) hk
 refine key C M a w next Q hi (fun z hz=>?_) hn
 by_cases hzy : z = y
 ·subst hzy
  simp only [if_true]
  have := he z hz
  rw [hy] at this
  exact Rep.rowsLe hle this
 ·simp only [hzy,if_false]
  exact he z hz
theorem dV (hT : T.Ok P) (hg : ap ops s o = some true) {x y : Operand} {t : TypeId} (ho : o.op = .call { callee := .builtin .append,args := #[x,y],argTypes := #[t,t] }) {d : Nat} (hdst : o.dst = some d) (hlt : Nat.blt d n = true) {ti ei : TInfo} {e : TypeId} (hti : T.get t = some ti) (hd : ti.desc = .slice e) (hei : T.get e = some ei)
  (hz : Nat.beq ei.zero.cells.size ei.size = true) (hsz : Nat.blt 0 ei.size = true) {tag : Nat} {g : OwnRef} {len : Nat} {rows rows2 rows2' rows' : List (List PV)} {wr : Bool} (hx : evS s x = .own tag g len) (hob : ob tag = some ⟨g,e,rows,wr⟩) (hlen : len = rows.length) (hy : evS s y = .list e rows2)
  (hle : eh P rows2 rows2') (hby : (rows.length + rows2'.length) * ei.bytes ≤ 2 ^ 47) (hmx : rows.length + rows2'.length ≤ maxLen) (heq : rows ++ rows2' = rows') (h : ∀ g',Ao P ops rest ⟨n,upd s d (.own tag g' rows'.length),bx,upd ob tag (some ⟨g',e,rows',wr⟩)⟩ K) : Ao P ops (o :: rest) ⟨n,s,bx,ob⟩ K :=
 cR hg (eff_appendC hT ho hti hd hei hz hsz hx hob hlen hy hle hby hmx heq fun g'=>⟨_,by simp [hdst,putD,hlt],h g'⟩)
theorem ib (hT : T.Ok P) (hg : ap ops s o = some true) {t e : TypeId} {m : Nat} {ps : Array (Nat × Operand)} (ho : o.op = .buildSlice t m ps) {ti : TInfo} (hti : T.get t = some ti) (hd : ti.desc = .slice e) {rows rows' : List (List PV)}
  (hr : dA T e m (cf (evS s) ps) = some rows) (hle : eh P rows rows') {d : Nat} (hdst : o.dst = some d) (hlt : Nat.blt d n = true) (h : Ao P ops rest ⟨n,upd s d (.list e rows'),bx,ob⟩ K) : Ao P ops (o :: rest) ⟨n,s,bx,ob⟩ K := by
 refine Ao.bsF hT hg ho hti hd hr (s' := upd s d (.list e rows)) (by simp [hdst,putD,hlt]) (Ao.cast d (cN _ _ _) (PLe.of2 (PLe2.list hle)) ?_)
 have : upd (upd s d (PV.list e rows)) d (.list e rows') = upd s d (.list e rows') := by
  funext t
  simp only [bP]
  split <;> rfl
 rw [this]
 exact h
end
section
variable {P : Program} {fn : Func} {R : PV → Heap → Prop} {ks : List KI} {n : Nat} {s : Nat → PV} {bx : Nat → Option Box} {ob : Nat → Option Obj} {T : TT}
end
section
variable {P : Program} {C : Ctx} {M : Mem} {H : Heap} {w : World}
theorem InvH.reobj (h : InvH P C M H w) {tag : Nat} {g : OwnRef} {e : TypeId} {rows rows' : List (List PV)} {wr : Bool} (hx : H.ob tag = some ⟨g,e,rows,wr⟩) (hl : rows'.map List.length = rows.map List.length) (hle : dL P rows.flatten rows'.flatten) :
  InvH P C M ⟨H.bx,upd H.ob tag (some ⟨g,e,rows',wr⟩)⟩ w := by
 have hlen : rows'.length = rows.length := by simpa using congrArg List.length hl
 have key : ∀ t y,upd H.ob tag (some ⟨g,e,rows',wr⟩) t = some y → (t = tag ∧ y = ⟨g,e,rows',wr⟩) ∨ H.ob t = some y := by
  intro t y hy
  rw [bP] at hy
  split at hy
  ·rename_i e; exact .inl ⟨e,(Option.some.inj hy).symm⟩
  ·exact .inr hy
 have same : ∀ t y,upd H.ob tag (some ⟨g,e,rows',wr⟩) t = some y → ∃ z,H.ob t = some z ∧ z.g = y.g := by
  intro t y hy
  rcases key t y hy with ⟨rfl,rfl⟩ | hy
  ·exact ⟨_,hx,rfl⟩
  ·exact ⟨y,hy,rfl⟩
 refine ⟨h.mem,h.ext,h.new,h.os,h.tape,h.output,h.size,h.frame,h.boxes,?_,h.dbox,?_,?_⟩
 ·intro t y hy
  rcases key t y hy with ⟨rfl,rfl⟩ | hy
  ·obtain ⟨i,h1,h2,h3,h4⟩ := h.objs _ _ hx
   simp only at h1 h2 h3 h4
   refine ⟨i,h1,?_,?_,?_⟩
   ·simpa only [hlen] using h2
   ·intro r hr
    have : r.length ∈ rows'.map List.length := List.mem_map.2 ⟨r,hr,rfl⟩
    rw [hl] at this
    obtain ⟨q,hq,e1⟩ := List.mem_map.1 this
    rw [← e1]
    exact h3 q hq
   ·rcases h4 with ⟨a,b,c⟩ | ⟨b,cur,h5,h6,h7,h8,h9,h10,h11,h12,h13,h14⟩
    ·refine .inl ⟨a,?_,c⟩
     rw [b] at hlen
     exact List.length_eq_zero_iff.1 hlen
    ·refine .inr ⟨b,cur,h5,h6,h7,h8,?_,h10,?_,?_,h13,?_⟩
     ·simpa only [hlen] using h9
     ·simp only [hlen]; exact hle M false _ h11
     ·simpa only [hlen] using h12
     ·simpa only [hlen] using h14
  ·exact h.objs t y hy
 ·intro t t' y y' b hy hy' hb hb'
  obtain ⟨z,hz,e1⟩ := same t y hy
  obtain ⟨z',hz',e1'⟩ := same t' y' hy'
  exact h.dobj t t' z z' b hz hz' (e1 ▸ hb) (e1' ▸ hb')
 ·intro t t' y y' hy hy' hb
  obtain ⟨z',hz',e1'⟩ := same t' y' hy'
  exact h.dmix t t' y z' hy hz' (e1' ▸ hb)
end
section
variable {P : Program} {ops : Array Oper} {rest : List Oper} {o : Oper} {n : Nat} {s s' : Nat → PV} {bx : Nat → Option Box} {ob : Nat → Option Obj} {K : PState → Prop} {T : TT} {rb : RB} {k : Nat} {L : List Nat}
theorem ig (hT : T.Ok P) (hg : ap ops s o = some true) {t t' : TypeId} {x : Operand} (ho : o.op = .binOp .eql t x (.const (.slice none 0 0)) t') {ti : TInfo} {e : TypeId} (hti : T.get t = some ti) (hd : ti.desc = .slice e) {e' : TypeId} {rows : List (List PV)} (hx : evS s x = .list e' rows) {d : Nat} (hdst : o.dst = some d) (hlt : Nat.blt d n = true)
  (h : ∀ b : Bool,(b = true → rows = []) → Ao P ops rest ⟨n,upd s d (.val (.bool b)),bx,ob⟩ K) : Ao P ops (o :: rest) ⟨n,s,bx,ob⟩ K := by
 refine cR hg (fun C M a w next Q hi he hn=>?_)
 have hxr := he x (by rw [ho]; simp [Op.operands])
 rw [show (⟨n,s,bx,ob⟩ : PState).s = s from rfl,hx] at hxr
 simp only [Rep] at hxr
 obtain ⟨ad,c,i,hv,_,_,_,_,hr⟩ := hxr
 have hu := (hT.get hti).und
 rw [hd] at hu
 have hrun : (execOp a.eval o).run P w = .ok (.value (.bool ad.isNone)) w := by
  have h1 := run_equal_slice_nil (P := P) w t e ad rows.length c hu
  have h2 : (eqGuard .eql t x (.const (.slice none 0 0)) (.slice ad rows.length c) (.slice none 0 0)).run P w = .ok () w := by unfold eqGuard; split <;> simp
  simp only [execOp,ho,hv,show a.eval (.const (.slice none 0 0)) = .slice none 0 0 from rfl,Sem.run_bind,h2,Result.andThen_ok,binOp,h1]
  rfl
 unfold Oper.wp
 rw [hrun]
 refine hn _ (.val (.bool ad.isNone)) ⟨bx,ob⟩ M w ⟨_,by simp [hdst,putD,hlt],h ad.isNone fun hb=>?_⟩ (Mem.le_refl M) hi (by simp only [Rep])
 cases rows with
 | nil=>rfl
 | cons r rows =>
  obtain ⟨b,o,e1,_⟩ := hr (by simp)
  rw [e1] at hb
  cases hb
theorem iq (hT : T.Ok P) (hg : ap ops s o = some true) {t e : TypeId} {m : Nat} {ps : Array (Nat × Operand)} (ho : o.op = .buildSlice t m ps) {d : Nat} (hdst : o.dst = some d) (hlt : Nat.blt d n = true) {ti : TInfo} (hti : T.get t = some ti) (hd : ti.desc = .slice e) {rows rows' : List (List PV)}
  (hr : dA T e m (cf (evS s) ps) = some rows) (hl : rows'.map List.length = rows.map List.length) (hm : rows.length = m) (hle : dL P rows.flatten rows'.flatten) (h : ∀ g,Ao P ops rest ⟨n,upd s d (.own d g rows'.length),bx,upd ob d (some ⟨g,e,rows',true⟩)⟩ K) : Ao P ops (o :: rest) ⟨n,s,bx,ob⟩ K := by
 refine Ao.bsO hT hg ho hdst hlt hti hd hr fun g=>?_
 have hlen : rows'.length = m := by rw [← hm]; simpa using congrArg List.length hl
 have h' := h g
 rw [hlen] at h'
 refine cW (st' := ⟨n,upd s d (.own d g m),bx,upd ob d (some ⟨g,e,rows',true⟩)⟩) ?_ h'
 intro C M a w hi
 refine ⟨M,hi.1,?_⟩
 have := hi.2.reobj (tag := d) (rows' := rows') (cN _ _ _) hl hle
 simp only [PState.heap] at this ⊢
 have e2 : upd (upd ob d (some ⟨g,e,rows,true⟩)) d (some ⟨g,e,rows',true⟩) = upd ob d (some ⟨g,e,rows',true⟩) := by
  funext t
  simp only [bP]
  split <;> rfl
 rwa [e2] at this
end
@[simp] theorem bPs {α β : Type} (a : α) (k : α → Option β) : ag (some a) k = k a := rfl
@[simp] theorem bindP_none {α β : Type} (k : α → Option β) : ag none k = none := rfl
@[simp] theorem dM {α β : Type} (a : α) (k : α → β) : letP a k = k a := rfl
@[simp] theorem gT {σ β : Type} (s : σ) (k : σ → Option β) : Flow.thenP (.next s) k = k s := rfl
@[simp] theorem eu {σ ρ : Type} (s : σ) (k : σ → Option ρ) : Flow.thenR (.next s) k = k s := rfl
@[simp] theorem thenR_retS {σ ρ : Type} (r : ρ) (k : σ → Option ρ) : Flow.thenR (.ret r) k = some r := rfl
@[simp] theorem thenF_nextS {σ τ ρ : Type} (s : σ) (k : σ → Option (Flow τ ρ)) : Flow.thenF (.next s) k = k s := rfl
@[simp] theorem thenF_retS {σ τ ρ : Type} (r : ρ) (k : σ → Option (Flow τ ρ)) : Flow.thenF (.ret r) k = some (.ret r) := rfl
theorem appI_ok {α : Type} {bytes : Nat} {xs ys : List α} (h1 : (xs.length + ys.length) * bytes ≤ 2 ^ 47) (h2 : xs.length + ys.length ≤ maxLen) : appI bytes xs ys = some (xs ++ ys) := by
 unfold appI; rw [zp ⟨h1,h2⟩]
theorem gD {α : Type} {xs : List α} {i : Int} {x : α} (h0 : 0 ≤ i) (h : xs[i.toNat]? = some x) : aZ xs i = some x := by unfold aZ; rw [zp h0,h]
theorem getI_nat {α : Type} {xs : List α} {j : Nat} {x : α} (h : xs[j]? = some x) : aZ xs (j : Int) = some x := gD (by omega) (by simpa using h)
theorem subI_ok {α : Type} {xs : List α} {a b : Int} (h : 0 ≤ a ∧ a ≤ b ∧ b ≤ xs.length) : subI xs a b = some ((xs.take b.toNat).drop a.toNat) := by unfold subI; rw [zp h]
theorem dO {α σ ρ : Type} {step : Nat → α → σ → Option (Flow σ ρ)} (I : Nat → σ → Prop) (Q : ρ → Prop) :
  ∀ (xs : List α) (j : Nat) (s : σ),I j s → (∀ k x s,xs[k]? = some x → I (j + k) s → ∃ fl,step (j + k) x s = some fl ∧ (match fl with | .next s'=>I (j + k + 1) s' | .brk _=>False | .ret r=>Q r)) →
   ∃ fl,aI step j xs s = some fl ∧ (match fl with | .next s'=>I (j + xs.length) s' | .brk _=>False | .ret r=>Q r)
 | [],j,s,h,_=>⟨.next s,rfl,by simpa using h⟩
 | x :: xs,j,s,h,hs=>by
  obtain ⟨fl,h1,h2⟩ := hs 0 x s rfl (by simpa using h)
  rw [Nat.add_zero] at h1
  cases fl with
  | next s' =>
   obtain ⟨fl,h3,h4⟩ := dO I Q xs (j + 1) s' (by simpa using h2) (fun k y t hk hI=>by
    obtain ⟨fl,h5,h6⟩ := hs (k + 1) y t (by simpa using hk) (by rw [show j + (k + 1) = j + 1 + k from by omega]; exact hI)
    rw [show j + (k + 1) = j + 1 + k from by omega] at h5 h6
    exact ⟨fl,h5,h6⟩)
   refine ⟨fl,by rw [aI,h1]; exact h3,?_⟩
   rw [show j + (x :: xs).length = j + 1 + xs.length from by simp; omega]
   exact h4
  | brk s'=>exact absurd h2 (by simp)
  | ret r=>exact ⟨.ret r,by rw [aI,h1],h2⟩
theorem rMa {α σ ρ : Type} {step : Nat → α → σ → Option (Flow σ ρ)} {xs : List α} {s : σ} (S : Nat → σ) (h0 : S 0 = s) (hs : ∀ k x,xs[k]? = some x → step k x (S k) = some (.next (S (k + 1)))) : aI step 0 xs s = some (.next (S xs.length)) := by
 subst h0
 obtain ⟨fl,h1,h2⟩ := dO (step := step) (fun j s=>s = S j) (fun _=>False) xs 0 (S 0) rfl (fun k x s hk hI=>by
  simp only [Nat.zero_add] at hI
  subst hI
  exact ⟨_,by rw [Nat.zero_add]; exact hs k x hk,by simp⟩)
 cases fl with
 | next s'=>simp only [Nat.zero_add] at h2; rw [h1,h2]
 | brk s'=>exact absurd h2 (by simp)
 | ret r=>exact absurd h2 (by simp)
theorem rangeM_map {α β ρ : Type} {step : Nat → α → List β → Option (Flow (List β) ρ)} {xs : List α} (f : α → β) (hs : ∀ k x,xs[k]? = some x → step k x ((xs.take k).map f) = some (.next ((xs.take k).map f ++ [f x]))) :
  aI step 0 xs [] = some (.next (xs.map f)) := by
 have := rMa (step := step) (xs := xs) (fun k=>(xs.take k).map f) rfl (fun k x hk=>by
  rw [hs k x hk,List.take_add_one,hk]
  simp)
 simpa using this
section
variable {P : Program} {T : TT} {M : Mem}
end
def ce {α : Type} (p : Prop) [Decidable p] (a : α) : Option α := if p then some a else none
theorem bs {α : Type} {p : Prop} [Decidable p] {a b : α} (h : ce p a = some b) : p ∧ a = b := by
 unfold ce at h
 split at h
 ·rename_i hp; exact ⟨hp,Option.some.inj h⟩
 ·cases h
@[simp] theorem bG {α : Type} {p : Prop} [Decidable p] {a : α} (h : p) : ce p a = some a := by unfold ce; rw [zp h]
end
end Go.Ab

namespace Go.Ab
noncomputable section
open Go.Proofs
def tS (d : TypeDesc) : TInfo := ⟨d,1,24,.slice none 0 0,[]⟩
def tP (d : TypeDesc) : TInfo := ⟨d,1,8,.pointer none,[]⟩
def tF (d : TypeDesc) : TInfo := ⟨d,1,8,.nilFunc,[]⟩
theorem tO {P : Program} {k : Nat} {v : TInfo} (i : TypeInfo) (h : P.info? k = some i) (e : (i.size,i.bytes,i.zero,v.eqf) = (v.size,v.bytes,some v.zero,[])) (u : P.underlying k = some v.desc) : v.Ok P k := by
 simp only [Prod.mk.injEq] at e
 exact ⟨⟨i,h,e.1,e.2.1,e.2.2.1⟩,u,fun hn=>absurd e.2.2.2 hn⟩
def ti38 : TInfo := ⟨Tryz.t37.desc,3,32,.agg #[.string ⟨#[]⟩,.int .i64 0,.bool false],[(9,0),(3,1),(4,2)]⟩
def ti48 : TInfo := ⟨Tryz.t47.desc,3,32,.agg #[.int .i64 0,.int .i64 0,.string ⟨#[]⟩],[(3,0),(3,1),(9,2)]⟩
def ti115 : TInfo := ⟨Tryz.t114.desc,1,8,.agg #[.int .i64 0],[(3,0)]⟩
def ti138 : TInfo := ⟨Tryz.t138.desc,4,40,.agg #[.int .i64 0,.string ⟨#[]⟩,.int .i64 0,.int .i64 0],[(3,0),(9,1),(3,2),(3,3)]⟩
def ti139 : TInfo := ⟨Tryz.t138.desc,4,40,.agg #[.int .i64 0,.string ⟨#[]⟩,.int .i64 0,.int .i64 0],[(3,0),(9,1),(3,2),(3,3)]⟩
def ti260 : TInfo := ⟨Tryz.t259.desc,1,16,.agg #[.string ⟨#[]⟩],[(9,0)]⟩
theorem ti38_ok : ti38.Ok Tryz.prog 38 := ⟨⟨Tryz.t38,by kernel_rfl,rfl,rfl,rfl⟩,Tryz.underlying38,fun _=>⟨Tryz.stoodInHeld38,Tryz.eqGuardType38,by simp [bg,Program.fieldsOf,Tryz.underlying38,ti38],by kernel_rfl⟩⟩
theorem ti48_ok : ti48.Ok Tryz.prog 48 := ⟨⟨Tryz.t48,by kernel_rfl,rfl,rfl,rfl⟩,Tryz.underlying48,fun _=>⟨Tryz.stoodInHeld48,Tryz.eqGuardType48,by simp [bg,Program.fieldsOf,Tryz.underlying48,ti48],by kernel_rfl⟩⟩
theorem ti115_ok : ti115.Ok Tryz.prog 115 := ⟨⟨Tryz.t115,by kernel_rfl,rfl,rfl,rfl⟩,Tryz.underlying115,fun _=>⟨Tryz.stoodInHeld115,Tryz.eqGuardType115,by simp [bg,Program.fieldsOf,Tryz.underlying115,ti115],by kernel_rfl⟩⟩
theorem ti138_ok : ti138.Ok Tryz.prog 138 := ⟨⟨Tryz.t138,by kernel_rfl,rfl,rfl,rfl⟩,Tryz.underlying138,fun _=>⟨Tryz.stoodInHeld138,Tryz.eqGuardType138,by simp [bg,Program.fieldsOf,Tryz.underlying138,ti138],by kernel_rfl⟩⟩
theorem ti139_ok : ti139.Ok Tryz.prog 139 := ⟨⟨Tryz.t139,by kernel_rfl,rfl,rfl,rfl⟩,Tryz.underlying139,fun _=>⟨Tryz.stoodInHeld139,Tryz.eqGuardType139,by simp [bg,Program.fieldsOf,Tryz.underlying139,ti139],by kernel_rfl⟩⟩
theorem ti260_ok : ti260.Ok Tryz.prog 260 := ⟨⟨Tryz.t260,by kernel_rfl,rfl,rfl,rfl⟩,Tryz.underlying260,fun _=>⟨Tryz.stoodInHeld260,Tryz.eqGuardType260,by simp [bg,Program.fieldsOf,Tryz.underlying260,ti260],by kernel_rfl⟩⟩
def tt : TT := (.node 109 (tS Tryz.t109.desc) (.node 46 ⟨Tryz.t45.desc,3,72,.agg #[.slice none 0 0,.slice none 0 0,.slice none 0 0],[]⟩ (.node 26 ⟨Tryz.t25.desc,2,48,.agg #[.slice none 0 0,.slice none 0 0],[]⟩ (.node 20 ⟨Tryz.t20.desc,1,16,.nilIface,[]⟩ (.node 4 ⟨Tryz.t4.desc,1,1,.bool false,[]⟩ (.node 2 ⟨Tryz.t2.desc,1,8,.int .i64 0,[]⟩ (.node 1 (tF Tryz.t1.desc) .leaf .leaf) (.node 3 ⟨Tryz.t3.desc,1,8,.int .i64 0,[]⟩ .leaf .leaf)) (.node 9 ⟨Tryz.t9.desc,1,16,.string ⟨#[]⟩,[]⟩ (.node 5 ⟨Tryz.t5.desc,1,1,.int .u8 0,[]⟩ .leaf .leaf) .leaf)) (.node 23 (tS Tryz.t23.desc) (.node 22 (tS Tryz.t22.desc) (.node 21 ⟨Tryz.t21.desc,1,4,.int .i32 0,[]⟩ .leaf .leaf) .leaf) (.node 25 ⟨Tryz.t25.desc,2,48,.agg #[.slice none 0 0,.slice none 0 0],[]⟩ (.node 24 (tS Tryz.t24.desc) .leaf .leaf) .leaf))) (.node 39 (tS Tryz.t39.desc) (.node 30 (tF Tryz.t30.desc) (.node 28 ⟨Tryz.t3.desc,1,8,.int .i64 0,[]⟩ (.node 27 (tF Tryz.t27.desc) .leaf .leaf) .leaf) (.node 38 ti38 (.node 33 (tS Tryz.t33.desc) .leaf .leaf) .leaf)) (.node 42 (tS Tryz.t42.desc) (.node 41 ⟨Tryz.t40.desc,3,64,.agg #[.string ⟨#[]⟩,.slice none 0 0,.slice none 0 0],[]⟩ (.node 40 ⟨Tryz.t40.desc,3,64,.agg #[.string ⟨#[]⟩,.slice none 0 0,.slice none 0 0],[]⟩ .leaf .leaf) .leaf) (.node 44 (tS Tryz.t44.desc) (.node 43 (tS Tryz.t43.desc) .leaf .leaf) .leaf)))) (.node 65 ⟨Tryz.t64.desc,2,48,.agg #[.slice none 0 0,.slice none 0 0],[]⟩ (.node 55 (tS Tryz.t54.desc) (.node 50 (tS Tryz.t50.desc) (.node 49 (tF Tryz.t49.desc) (.node 48 ti48 .leaf .leaf) .leaf) (.node 53 ⟨Tryz.t52.desc,2,40,.agg #[.string ⟨#[]⟩,.slice none 0 0],[]⟩ (.node 51 (tS Tryz.t50.desc) .leaf .leaf) .leaf)) (.node 58 (tS Tryz.t58.desc) (.node 57 (tS Tryz.t57.desc) (.node 56 (tS Tryz.t56.desc) .leaf .leaf) .leaf) (.node 61 ⟨Tryz.t60.desc,9,160,.agg #[.int .i64 0,.string ⟨#[]⟩,.slice none 0 0,.slice none 0 0,.slice none 0 0,.slice none 0 0,.int .i64 0,.int .i64 0,.slice none 0 0],[]⟩ (.node 59 (tS Tryz.t59.desc) .leaf .leaf) .leaf))) (.node 80 (tF Tryz.t79.desc) (.node 74 (tF Tryz.t74.desc) (.node 70 (tF Tryz.t70.desc) (.node 69 (tF Tryz.t68.desc) .leaf .leaf) .leaf) (.node 79 (tF Tryz.t79.desc) (.node 77 (tF Tryz.t77.desc) .leaf .leaf) .leaf)) (.node 104 (tF Tryz.t104.desc) (.node 86 (tP Tryz.t86.desc) (.node 85 (tF Tryz.t85.desc) .leaf .leaf) .leaf) (.node 107 (tF Tryz.t107.desc) (.node 105 (tF Tryz.t105.desc) .leaf .leaf) .leaf))))) (.node 187 (tF Tryz.t187.desc) (.node 148 (tP Tryz.t148.desc) (.node 125 ⟨Tryz.t125.desc,8,192,.agg #[.slice none 0 0,.slice none 0 0,.slice none 0 0,.slice none 0 0,.slice none 0 0,.slice none 0 0,.slice none 0 0,.slice none 0 0],[]⟩ (.node 117 (tF Tryz.t117.desc) (.node 113 ⟨Tryz.t112.desc,3,40,.agg #[.slice none 0 0,.int .i64 0,.int .i64 0],[]⟩ (.node 111 (tF Tryz.t111.desc) .leaf .leaf) (.node 115 ti115 .leaf .leaf)) (.node 123 (tF Tryz.t123.desc) (.node 120 (tF Tryz.t120.desc) .leaf .leaf) .leaf)) (.node 138 ti138 (.node 135 (tF Tryz.t135.desc) (.node 126 ⟨Tryz.t125.desc,8,192,.agg #[.slice none 0 0,.slice none 0 0,.slice none 0 0,.slice none 0 0,.slice none 0 0,.slice none 0 0,.slice none 0 0,.slice none 0 0],[]⟩ .leaf .leaf) .leaf) (.node 144 ⟨Tryz.t143.desc,7,88,.agg #[.int .i64 0,.string ⟨#[]⟩,.int .i64 0,.int .i64 0,.int .i64 0,.string ⟨#[]⟩,.slice none 0 0],[]⟩ (.node 139 ti139 .leaf .leaf) .leaf))) (.node 168 (tF Tryz.t168.desc) (.node 164 ⟨Tryz.t163.desc,5,120,.agg #[.slice none 0 0,.slice none 0 0,.slice none 0 0,.slice none 0 0,.slice none 0 0],[]⟩ (.node 156 (tF Tryz.t156.desc) (.node 154 ⟨Tryz.t153.desc,4,96,.agg #[.slice none 0 0,.slice none 0 0,.slice none 0 0,.slice none 0 0],[]⟩ .leaf .leaf) .leaf) (.node 167 (tF Tryz.t167.desc) (.node 166 (tF Tryz.t166.desc) .leaf .leaf) .leaf)) (.node 181 ⟨Tryz.t181.desc,8,8,.agg #[.bool false,.bool false,.bool false,.bool false,.bool false,.bool false,.bool false,.bool false],[]⟩ (.node 178 ⟨Tryz.t177.desc,3,56,.agg #[.string ⟨#[]⟩,.string ⟨#[]⟩,.slice none 0 0],[]⟩ (.node 169 ⟨Tryz.t169.desc,1,8,.int .u64 0,[]⟩ .leaf .leaf) .leaf) (.node 184 (tS Tryz.t184.desc) (.node 182 (tF Tryz.t182.desc) .leaf .leaf) .leaf)))) (.node 237 ⟨Tryz.t237.desc,1,4,.int .u32 0,[]⟩ (.node 208 (tF Tryz.t208.desc) (.node 198 ⟨Tryz.t197.desc,1,16,.nilIface,[]⟩ (.node 190 (tF Tryz.t190.desc) (.node 188 (tF Tryz.t188.desc) .leaf .leaf) .leaf) (.node 206 (tF Tryz.t206.desc) (.node 203 (tF Tryz.t203.desc) .leaf .leaf) .leaf)) (.node 229 ⟨Tryz.t3.desc,1,8,.int .i64 0,[]⟩ (.node 227 (tF Tryz.t227.desc) (.node 225 (tF Tryz.t225.desc) .leaf .leaf) .leaf) (.node 233 (tP Tryz.t233.desc) (.node 230 (tS Tryz.t230.desc) .leaf .leaf) .leaf))) (.node 260 ti260 (.node 249 ⟨Tryz.t249.desc,24,24,.agg #[.int .u8 0,.int .u8 0,.int .u8 0,.int .u8 0,.int .u8 0,.int .u8 0,.int .u8 0,.int .u8 0,.int .u8 0,.int .u8 0,.int .u8 0,.int .u8 0,.int .u8 0,.int .u8 0,.int .u8 0,.int .u8 0,.int .u8 0,.int .u8 0,.int .u8 0,.int .u8 0,.int .u8 0,.int .u8 0,.int .u8 0,.int .u8 0],[]⟩ (.node 247 ⟨Tryz.t246.desc,3,48,.agg #[.string ⟨#[]⟩,.string ⟨#[]⟩,.nilIface],[]⟩ (.node 242 ⟨Tryz.t242.desc,1,8,.int .u64 0,[]⟩ .leaf .leaf) .leaf) (.node 258 (tP Tryz.t258.desc) (.node 257 (tP Tryz.t257.desc) .leaf .leaf) .leaf)) (.node 268 ⟨Tryz.t268.desc,64,64,.agg #[.int .u8 0,.int .u8 0,.int .u8 0,.int .u8 0,.int .u8 0,.int .u8 0,.int .u8 0,.int .u8 0,.int .u8 0,.int .u8 0,.int .u8 0,.int .u8 0,.int .u8 0,.int .u8 0,.int .u8 0,.int .u8 0,.int .u8 0,.int .u8 0,.int .u8 0,.int .u8 0,.int .u8 0,.int .u8 0,.int .u8 0,.int .u8 0,.int .u8 0,.int .u8 0,.int .u8 0,.int .u8 0,.int .u8 0,.int .u8 0,.int .u8 0,.int .u8 0,.int .u8 0,.int .u8 0,.int .u8 0,.int .u8 0,.int .u8 0,.int .u8 0,.int .u8 0,.int .u8 0,.int .u8 0,.int .u8 0,.int .u8 0,.int .u8 0,.int .u8 0,.int .u8 0,.int .u8 0,.int .u8 0,.int .u8 0,.int .u8 0,.int .u8 0,.int .u8 0,.int .u8 0,.int .u8 0,.int .u8 0,.int .u8 0,.int .u8 0,.int .u8 0,.int .u8 0,.int .u8 0,.int .u8 0,.int .u8 0,.int .u8 0,.int .u8 0],[]⟩ (.node 267 ⟨Tryz.t267.desc,32,32,.agg #[.int .u8 0,.int .u8 0,.int .u8 0,.int .u8 0,.int .u8 0,.int .u8 0,.int .u8 0,.int .u8 0,.int .u8 0,.int .u8 0,.int .u8 0,.int .u8 0,.int .u8 0,.int .u8 0,.int .u8 0,.int .u8 0,.int .u8 0,.int .u8 0,.int .u8 0,.int .u8 0,.int .u8 0,.int .u8 0,.int .u8 0,.int .u8 0,.int .u8 0,.int .u8 0,.int .u8 0,.int .u8 0,.int .u8 0,.int .u8 0,.int .u8 0,.int .u8 0],[]⟩ (.node 262 ⟨Tryz.t262.desc,20,160,.agg #[.int .u64 0,.int .u64 0,.int .u64 0,.int .u64 0,.int .u64 0,.int .u64 0,.int .u64 0,.int .u64 0,.int .u64 0,.int .u64 0,.int .u64 0,.int .u64 0,.int .u64 0,.int .u64 0,.int .u64 0,.int .u64 0,.int .u64 0,.int .u64 0,.int .u64 0,.int .u64 0],[]⟩ .leaf .leaf) .leaf) (.node 284 ⟨Tryz.t283.desc,7,80,.agg #[.string ⟨#[]⟩,.int .i64 0,.string ⟨#[]⟩,.int .i64 0,.int .i64 0,.int .i64 0,.string ⟨#[]⟩],[]⟩ (.node 282 ⟨Tryz.t281.desc,3,56,.agg #[.string ⟨#[]⟩,.slice none 0 0,.string ⟨#[]⟩],[]⟩ .leaf .leaf) .leaf))))))
theorem tk : tt.Ok Tryz.prog := ⟨tO Tryz.t109 (by kernel_rfl) rfl Tryz.underlying109,⟨tO Tryz.t46 (by kernel_rfl) rfl Tryz.underlying46,⟨tO Tryz.t26 (by kernel_rfl) rfl Tryz.underlying26,⟨tO Tryz.t20 (by kernel_rfl) rfl Tryz.underlying20,⟨tO Tryz.t4 (by kernel_rfl) rfl Tryz.underlying4,⟨tO Tryz.t2 (by kernel_rfl) rfl Tryz.underlying2,⟨tO Tryz.t1 (by kernel_rfl) rfl Tryz.underlying1,trivial,trivial⟩,⟨tO Tryz.t3 (by kernel_rfl) rfl Tryz.underlying3,trivial,trivial⟩⟩,⟨tO Tryz.t9 (by kernel_rfl) rfl Tryz.underlying9,⟨tO Tryz.t5 (by kernel_rfl) rfl Tryz.underlying5,trivial,trivial⟩,trivial⟩⟩,⟨tO Tryz.t23 (by kernel_rfl) rfl Tryz.underlying23,⟨tO Tryz.t22 (by kernel_rfl) rfl Tryz.underlying22,⟨tO Tryz.t21 (by kernel_rfl) rfl Tryz.underlying21,trivial,trivial⟩,trivial⟩,⟨tO Tryz.t25 (by kernel_rfl) rfl Tryz.underlying25,⟨tO Tryz.t24 (by kernel_rfl) rfl Tryz.underlying24,trivial,trivial⟩,trivial⟩⟩⟩,⟨tO Tryz.t39 (by kernel_rfl) rfl Tryz.underlying39,⟨tO Tryz.t30 (by kernel_rfl) rfl Tryz.underlying30,⟨tO Tryz.t28 (by kernel_rfl) rfl Tryz.underlying28,⟨tO Tryz.t27 (by kernel_rfl) rfl Tryz.underlying27,trivial,trivial⟩,trivial⟩,⟨ti38_ok,⟨tO Tryz.t33 (by kernel_rfl) rfl Tryz.underlying33,trivial,trivial⟩,trivial⟩⟩,⟨tO Tryz.t42 (by kernel_rfl) rfl Tryz.underlying42,⟨tO Tryz.t41 (by kernel_rfl) rfl Tryz.underlying41,⟨tO Tryz.t40 (by kernel_rfl) rfl Tryz.underlying40,trivial,trivial⟩,trivial⟩,⟨tO Tryz.t44 (by kernel_rfl) rfl Tryz.underlying44,⟨tO Tryz.t43 (by kernel_rfl) rfl Tryz.underlying43,trivial,trivial⟩,trivial⟩⟩⟩⟩,⟨tO Tryz.t65 (by kernel_rfl) rfl Tryz.underlying65,⟨tO Tryz.t55 (by kernel_rfl) rfl Tryz.underlying55,⟨tO Tryz.t50 (by kernel_rfl) rfl Tryz.underlying50,⟨tO Tryz.t49 (by kernel_rfl) rfl Tryz.underlying49,⟨ti48_ok,trivial,trivial⟩,trivial⟩,⟨tO Tryz.t53 (by kernel_rfl) rfl Tryz.underlying53,⟨tO Tryz.t51 (by kernel_rfl) rfl Tryz.underlying51,trivial,trivial⟩,trivial⟩⟩,⟨tO Tryz.t58 (by kernel_rfl) rfl Tryz.underlying58,⟨tO Tryz.t57 (by kernel_rfl) rfl Tryz.underlying57,⟨tO Tryz.t56 (by kernel_rfl) rfl Tryz.underlying56,trivial,trivial⟩,trivial⟩,⟨tO Tryz.t61 (by kernel_rfl) rfl Tryz.underlying61,⟨tO Tryz.t59 (by kernel_rfl) rfl Tryz.underlying59,trivial,trivial⟩,trivial⟩⟩⟩,⟨tO Tryz.t80 (by kernel_rfl) rfl Tryz.underlying80,⟨tO Tryz.t74 (by kernel_rfl) rfl Tryz.underlying74,⟨tO Tryz.t70 (by kernel_rfl) rfl Tryz.underlying70,⟨tO Tryz.t69 (by kernel_rfl) rfl Tryz.underlying69,trivial,trivial⟩,trivial⟩,⟨tO Tryz.t79 (by kernel_rfl) rfl Tryz.underlying79,⟨tO Tryz.t77 (by kernel_rfl) rfl Tryz.underlying77,trivial,trivial⟩,trivial⟩⟩,⟨tO Tryz.t104 (by kernel_rfl) rfl Tryz.underlying104,⟨tO Tryz.t86 (by kernel_rfl) rfl Tryz.underlying86,⟨tO Tryz.t85 (by kernel_rfl) rfl Tryz.underlying85,trivial,trivial⟩,trivial⟩,⟨tO Tryz.t107 (by kernel_rfl) rfl Tryz.underlying107,⟨tO Tryz.t105 (by kernel_rfl) rfl Tryz.underlying105,trivial,trivial⟩,trivial⟩⟩⟩⟩⟩,⟨tO Tryz.t187 (by kernel_rfl) rfl Tryz.underlying187,⟨tO Tryz.t148 (by kernel_rfl) rfl Tryz.underlying148,⟨tO Tryz.t125 (by kernel_rfl) rfl Tryz.underlying125,⟨tO Tryz.t117 (by kernel_rfl) rfl Tryz.underlying117,⟨tO Tryz.t113 (by kernel_rfl) rfl Tryz.underlying113,⟨tO Tryz.t111 (by kernel_rfl) rfl Tryz.underlying111,trivial,trivial⟩,⟨ti115_ok,trivial,trivial⟩⟩,⟨tO Tryz.t123 (by kernel_rfl) rfl Tryz.underlying123,⟨tO Tryz.t120 (by kernel_rfl) rfl Tryz.underlying120,trivial,trivial⟩,trivial⟩⟩,⟨ti138_ok,⟨tO Tryz.t135 (by kernel_rfl) rfl Tryz.underlying135,⟨tO Tryz.t126 (by kernel_rfl) rfl Tryz.underlying126,trivial,trivial⟩,trivial⟩,⟨tO Tryz.t144 (by kernel_rfl) rfl Tryz.underlying144,⟨ti139_ok,trivial,trivial⟩,trivial⟩⟩⟩,⟨tO Tryz.t168 (by kernel_rfl) rfl Tryz.underlying168,⟨tO Tryz.t164 (by kernel_rfl) rfl Tryz.underlying164,⟨tO Tryz.t156 (by kernel_rfl) rfl Tryz.underlying156,⟨tO Tryz.t154 (by kernel_rfl) rfl Tryz.underlying154,trivial,trivial⟩,trivial⟩,⟨tO Tryz.t167 (by kernel_rfl) rfl Tryz.underlying167,⟨tO Tryz.t166 (by kernel_rfl) rfl Tryz.underlying166,trivial,trivial⟩,trivial⟩⟩,⟨tO Tryz.t181 (by kernel_rfl) rfl Tryz.underlying181,⟨tO Tryz.t178 (by kernel_rfl) rfl Tryz.underlying178,⟨tO Tryz.t169 (by kernel_rfl) rfl Tryz.underlying169,trivial,trivial⟩,trivial⟩,⟨tO Tryz.t184 (by kernel_rfl) rfl Tryz.underlying184,⟨tO Tryz.t182 (by kernel_rfl) rfl Tryz.underlying182,trivial,trivial⟩,trivial⟩⟩⟩⟩,⟨tO Tryz.t237 (by kernel_rfl) rfl Tryz.underlying237,⟨tO Tryz.t208 (by kernel_rfl) rfl Tryz.underlying208,⟨tO Tryz.t198 (by kernel_rfl) rfl Tryz.underlying198,⟨tO Tryz.t190 (by kernel_rfl) rfl Tryz.underlying190,⟨tO Tryz.t188 (by kernel_rfl) rfl Tryz.underlying188,trivial,trivial⟩,trivial⟩,⟨tO Tryz.t206 (by kernel_rfl) rfl Tryz.underlying206,⟨tO Tryz.t203 (by kernel_rfl) rfl Tryz.underlying203,trivial,trivial⟩,trivial⟩⟩,⟨tO Tryz.t229 (by kernel_rfl) rfl Tryz.underlying229,⟨tO Tryz.t227 (by kernel_rfl) rfl Tryz.underlying227,⟨tO Tryz.t225 (by kernel_rfl) rfl Tryz.underlying225,trivial,trivial⟩,trivial⟩,⟨tO Tryz.t233 (by kernel_rfl) rfl Tryz.underlying233,⟨tO Tryz.t230 (by kernel_rfl) rfl Tryz.underlying230,trivial,trivial⟩,trivial⟩⟩⟩,⟨ti260_ok,⟨tO Tryz.t249 (by kernel_rfl) rfl Tryz.underlying249,⟨tO Tryz.t247 (by kernel_rfl) rfl Tryz.underlying247,⟨tO Tryz.t242 (by kernel_rfl) rfl Tryz.underlying242,trivial,trivial⟩,trivial⟩,⟨tO Tryz.t258 (by kernel_rfl) rfl Tryz.underlying258,⟨tO Tryz.t257 (by kernel_rfl) rfl Tryz.underlying257,trivial,trivial⟩,trivial⟩⟩,⟨tO Tryz.t268 (by kernel_rfl) rfl Tryz.underlying268,⟨tO Tryz.t267 (by kernel_rfl) rfl Tryz.underlying267,⟨tO Tryz.t262 (by kernel_rfl) rfl Tryz.underlying262,trivial,trivial⟩,trivial⟩,⟨tO Tryz.t284 (by kernel_rfl) rfl Tryz.underlying284,⟨tO Tryz.t282 (by kernel_rfl) rfl Tryz.underlying282,trivial,trivial⟩,trivial⟩⟩⟩⟩⟩⟩
end
end Go.Ab


namespace Go.Proofs.YtnnieenoapkefaaGreatDoor
noncomputable section
open Go Go.Ab
theorem mok : Tryz.prog.follows .mixedOrders = true := by kernel_rfl
abbrev af (n : Int) : PV := .val (.int .i64 n)
abbrev bB (b : Bool) : PV := .val (.bool b)
structure LVal where
 kind : Int
 int : Int
 text : List UInt8
 deriving DecidableEq
structure LCol where
 name : List UInt8
 kind : Int
 nullable : Bool
 deriving DecidableEq
structure LEnv where
 cols : List LCol
 row : List LVal
 params : List LVal
 vnames : List (List UInt8)
 vvals : List LVal
@[simp] def aa (v : LVal) : List PV := [af v.kind,af v.int,.str v.text]
@[simp] def encCol (c : LCol) : List PV := [.str c.name,af c.kind,bB c.nullable]
abbrev pvals (l : List LVal) : PV := .list 48 (l.map aa)
abbrev pcols (l : List LCol) : PV := .list 38 (l.map encCol)
abbrev pstrs (l : List (List UInt8)) : PV := .list 9 (l.map fun s=>[.str s])
@[simp] def encEnv (v : LEnv) : List PV := [pcols v.cols,pvals v.row,pvals v.params,pstrs v.vnames,pvals v.vvals]
theorem aw {n : Int} (h1 : -9223372036854775808 ≤ n) (h2 : n ≤ 9223372036854775807) : IntKind.i64.wrap n = n := by
 simp only [IntKind.wrap,IntKind.bits,IntKind.signed]
 simp
 omega
theorem pint_succ {j : Nat} (h : j < maxLen) : af (IntKind.i64.wrap ((j : Int) + 1)) = af ((j + 1 : Nat) : Int) := by
 rw [aw (by omega) (by simp [maxLen] at h; omega)]
 simp
abbrev Rq := List LVal
abbrev Rz := List (List LVal)
abbrev rInt : Int → List PV := fun n=>[af n]
abbrev rBool : Bool → List PV := fun b=>[bB b]
abbrev ab {α : Type} (e : TypeId) (f : α → List PV) : List α → List PV := fun l=>[.list e (l.map f)]
structure LExtsortOrdering where
 columns : List Int
 descending : List Bool
 deriving DecidableEq
@[simp] def az (x : LExtsortOrdering) : List PV := [(.list 3 (x.columns.map rInt)),(.list 4 (x.descending.map rBool))]
end
end Go.Proofs.YtnnieenoapkefaaGreatDoor

namespace Go.Ab
noncomputable section
section
variable {P : Program} {T : TT}
theorem detS_idxO (hT : T.Ok P) {o : Oper} {ev : Operand → PV} {H : Heap} {t : TypeId} {x i : Operand} (ho : o.op = .indexAddr t x i) {ti ei : TInfo} {e : TypeId} (hti : T.get t = some ti) (hd : ti.desc = .slice e) (hei : T.get e = some ei)
  {tag : Nat} {g : OwnRef} {len : Nat} (hx : ev x = .own tag g len) {k : IntKind} {j : Int} (hi : ev i = .val (.int k j)) (hj : 0 ≤ j ∧ j.toNat < len) (hb : ∃ b,g.blk = some b) : DetS P o ev H (.optr tag g ei.size j.toNat 0) := by
 intro C M a w _ he
 have hxr := he x (by rw [ho]; simp [Op.operands])
 have hir := he i (by rw [ho]; simp [Op.operands])
 rw [hx] at hxr
 rw [hi] at hir
 simp only [Rep] at hxr hir
 obtain ⟨b,hb⟩ := hb
 have hu := (hT.get hti).rund w
 rw [hd] at hu
 have hsz := (hT.get hei).rsize w
 have h2 : j < (len : Int) := by omega
 refine ⟨.pointer (some ⟨b,j.toNat * ei.size,none⟩),?_,?_⟩
 ·simp [execOp,ho,Instr.indexAt,hir,hxr.2,OwnRef.val,hb,asIntOf,hu,hj.1,h2,hsz,bD]
 ·simp only [Rep]
  exact ⟨trivial,b,hb,by simp⟩
theorem eH {k : Nat} : ∀ {rows : List (List PV)} {j : Nat} {r : List PV},(∀ q ∈ rows,q.length = k) → rows[j]? = some r → ∀ i p,r[i]? = some p → rows.flatten[j * k + i]? = some p
 | [],j,r,_,h,_,_,_=>by simp at h
 | q :: rows,0,r,hl,h,i,p,hp=>by
  simp only [List.getElem?_cons_zero,zo] at h
  subst h
  simp only [List.flatten_cons,Nat.zero_mul,Nat.zero_add]
  rw [List.getElem?_append_left (zg.1 hp).1]
  exact hp
 | q :: rows,j + 1,r,hl,h,i,p,hp=>by
  have hq := hl q (by simp)
  have := eH (rows := rows) (j := j) (fun q hq=>hl q (by simp [hq])) (by simpa using h) i p hp
  simp only [List.flatten_cons]
  rw [List.getElem?_append_right (by rw [hq,Nat.add_mul]; omega),hq,show (j + 1) * k + i - k = j * k + i from by rw [Nat.add_mul]; omega]
  exact this
theorem detS_loadO (hT : T.Ok P) {o : Oper} {ev : Operand → PV} {H : Heap} {t : TypeId} {x : Operand} (ho : o.op = .load t x) {ti : TInfo} (hti : T.get t = some ti) {tag : Nat} {g : OwnRef} {k row off : Nat} (hx : ev x = .optr tag g k row off)
  {e : TypeId} {rows : List (List PV)} {wr : Bool} (hob : H.ob tag = some ⟨g,e,rows,wr⟩) {ei : TInfo} (hei : T.get e = some ei) (hk : k = ei.size) {cells : List PV} (hr : rows[row]? = some cells) {r : PV} (hc : cx ti off cells = some r) : DetS P o ev H r := by
 intro C M a w hi he
 have hxr := he x (by rw [ho]; simp [Op.operands])
 rw [hx] at hxr
 simp only [Rep] at hxr
 obtain ⟨_,b,hb,hv⟩ := hxr
 obtain ⟨i,h1,h2,h3,h4⟩ := hi.objs tag _ hob
 obtain ⟨i',h5,h6,_,_⟩ := (hT.get hei).info
 simp only at h1 h3 h4
 rw [h1] at h5
 cases h5
 rcases h4 with ⟨hn,_⟩ | ⟨b',cur,hb',hm,hcur,hcs,hlc,hcm,hcr,h1c,_,_⟩
 ·rw [hb] at hn; cases hn
 ·rw [hb] at hb'
  cases hb'
  have hlt : row < rows.length := (zg.1 hr).1
  have hcl : cells.length = i.size := h3 cells (List.mem_of_getElem? hr)
  have hks : k = i.size := by rw [hk,h6]
  subst hks
  -- the cells of that row
  have hflat : rows.flatten.length = rows.length * i.size := by
   have : ∀ l : List (List PV),(∀ q ∈ l,q.length = i.size) → l.flatten.length = l.length * i.size := by
    intro l
    induction l with
    | nil=>simp
    | cons q l ih=>intro hl; simp [ih fun q hq=>hl q (by simp [hq]),hl q (by simp),Nat.add_mul]; omega
   exact this rows h3
  have hseg : ac P M false cells ((cur.toList.take (rows.length * i.size)).drop (row * i.size) |>.take i.size) := by
   have h7 := (hcr.drop (row * i.size)).take i.size
   have e1 : (rows.flatten.drop (row * i.size)).take i.size = cells := by
    apply List.ext_getElem?
    intro m
    rw [List.getElem?_take]
    split
    ·rename_i hm
     rw [List.getElem?_drop]
     have hcm : cells[m]? = some cells[m] := ze (by omega)
     rw [hcm]
     exact eH h3 hr m _ hcm
    ·rw [List.getElem?_eq_none (by omega)]
   rwa [e1] at h7
  obtain ⟨v,h8,h9⟩ := ej (hT.get hti) w b (row * i.size) off cells _ hseg (fun j y hj=>by
   rw [cell_of_row w b (row * i.size + j) cur e (0,0) hcur]
   rw [List.getElem?_take] at hj
   split at hj
   ·rw [List.getElem?_drop,List.getElem?_take] at hj
    split at hj
    ·simpa using hj
    ·cases hj
   ·cases hj) hc
  refine ⟨v,?_,h9.slot⟩
  simp [execOp,ho,hv,Instr.loadAt,Instr.sureAddr,h8]
theorem splice_seg {α : Type} (X Y Z cs : List α) (off : Nat) (h : off + cs.length ≤ Y.length) :
  X ++ (Y.take off ++ cs ++ Y.drop (off + cs.length)) ++ Z = (X ++ (Y ++ Z)).take (X.length + off) ++ cs ++ (X ++ (Y ++ Z)).drop (X.length + off + cs.length) := by
 rw [List.take_length_add_append,List.take_append_of_le_length (by omega),show X.length + off + cs.length = X.length + (off + cs.length) from by omega,List.drop_length_add_append,List.drop_append_of_le_length h]
 simp
theorem splice_take {α : Type} (l cs : List α) (p N : Nat) (h : p + cs.length ≤ N) (hN : N ≤ l.length) :
  (l.take p ++ cs ++ l.drop (p + cs.length)).take N = (l.take N).take p ++ cs ++ (l.take N).drop (p + cs.length) := by
 obtain ⟨U,hU⟩ : ∃ U,U = l.take N := ⟨_,rfl⟩
 obtain ⟨W,hW⟩ : ∃ W,W = l.drop N := ⟨_,rfl⟩
 have hl : l = U ++ W := by rw [hU,hW,List.take_append_drop]
 have hUl : U.length = N := by rw [hU]; simp; omega
 rw [← hU,hl,List.take_append_of_le_length (l₁ := U) (i := p) (by omega),List.drop_append_of_le_length (l₁ := U) (i := p + cs.length) (by omega)]
 rw [← List.append_assoc]
 have e : (U.take p ++ cs ++ U.drop (p + cs.length)).length = N := by simp; omega
 rw [← e,List.take_left]
def setRow (rows : List (List PV)) (row off : Nat) (cs : List PV) : List (List PV) := rows.set row (splice (rows.getD row []) off cs)
theorem set_flat {k : Nat} : ∀ {rows : List (List PV)} {j : Nat} {q : List PV},(∀ r ∈ rows,r.length = k) → q.length = k → j < rows.length → (rows.set j q).flatten = rows.flatten.take (j * k) ++ q ++ rows.flatten.drop (j * k + k)
 | [],j,q,_,_,h=>by simp at h
 | r :: rows,0,q,hl,hq,_=>by
  have hr := hl r (by simp)
  simp only [List.set_cons_zero,List.flatten_cons,Nat.zero_mul,List.take_zero,List.nil_append,Nat.zero_add]
  rw [← hr,List.drop_left]
 | r :: rows,j + 1,q,hl,hq,h=>by
  have hr := hl r (by simp)
  have ih := set_flat (rows := rows) (j := j) (q := q) (fun r hr=>hl r (by simp [hr])) hq (by simpa using h)
  simp only [List.set_cons_succ,List.flatten_cons,ih]
  have e1 : (j + 1) * k = r.length + j * k := by rw [Nat.add_mul,hr]; omega
  have e2 : r.length + j * k + k = r.length + (j * k + k) := by omega
  rw [e1,List.take_length_add_append,e2,List.drop_length_add_append]
  simp
theorem eff_storeO (hT : T.Ok P) {o : Oper} {ev : Operand → PV} {H : Heap} {t : TypeId} {x y : Operand} (ho : o.op = .store t x y) {ti : TInfo} (hti : T.get t = some ti) {tag : Nat} {g : OwnRef} {k row off : Nat} (hx : ev x = .optr tag g k row off)
  {e : TypeId} {rows : List (List PV)} (hob : H.ob tag = some ⟨g,e,rows,true⟩) {ei : TInfo} (hei : T.get e = some ei) (hk : k = ei.size) (hrow : row < rows.length) {py : PV} (hy : PLe P (ev y) py) {cs : List PV} (hc : bt py = some cs) (hf : PV.frozL cs = true) (h1 : cs.all PV.one = true) (hl : cs.length = ti.size) (hle : off + ti.size ≤ ei.size)
  {K : PV → Heap → Prop} (hK : K .any ⟨H.bx,upd H.ob tag (some ⟨g,e,setRow rows row off cs,true⟩)⟩) : Eff P o ev H K := by
 intro C M a w next Q hi he hn
 have hxr := he x (by rw [ho]; simp [Op.operands])
 have hyr := he y (by rw [ho]; simp [Op.operands])
 rw [hx] at hxr
 simp only [Rep] at hxr
 obtain ⟨_,b,hb,hv⟩ := hxr
 have hr := da hc (hy M _ hyr)
 have hone := ac.oneCell h1 hr
 have hrf := ac.unslot hf hr
 have hvs : (a.eval y).cells.size = ti.size := by have := hr.length; simp at this; omega
 obtain ⟨i,g1,g2,g3,g4⟩ := hi.objs tag _ hob
 obtain ⟨i',g5,g6,_,_⟩ := (hT.get hei).info
 simp only at g1 g2 g3 g4
 rw [g1] at g5
 cases g5
 rcases g4 with ⟨hn',_⟩ | ⟨b',cur,hb',hm,hcur,hcs,hlc,hcm,hcr,h1c,hw1,hw2⟩
 ·rw [hb] at hn'; cases hn'
 rw [hb] at hb'
 cases hb'
 have hks : k = i.size := by rw [hk,g6]
 subst hks
 rw [← g6] at hle
 have hfit : row * i.size + i.size ≤ rows.length * i.size := by
  have := Nat.mul_le_mul_right i.size (show row + 1 ≤ rows.length from hrow)
  rw [Nat.add_mul] at this
  omega
 have hcap : rows.length * i.size ≤ cur.size := by rw [hcs]; exact Nat.mul_le_mul_right _ hlc
 have hvl : (a.eval y).cells.toList.length = ti.size := by simpa using hvs
 have hst := run_storeCells_at P b (row * i.size + off) e (a.eval y).cells.toList 0 cur w hcur (by rw [hvl]; omega) hone
 simp only [Nat.add_zero] at hst
 have hrun : (execOp a.eval o).run P w = .ok .skip (w.setRow b (cur.toList.take (row * i.size + off) ++ (a.eval y).cells.toList ++ cur.toList.drop (row * i.size + off + (a.eval y).cells.toList.length)).toArray) := by
  simp only [execOp,ho,Instr.storeAt,hv,Instr.sureAddr,Sem.run_bind,Sem.run_pure,Result.andThen_ok,storeVar,(hT.get hti).rsize w,hvs]
  simp only [ne_eq,not_true_eq_false,if_false]
  rw [hst]
  rfl
 unfold Oper.wp
 rw [hrun]
 have hgetD : rows.getD row [] = rows[row] := by simp [hrow]
 have hrl : (rows.getD row []).length = i.size := by rw [hgetD]; exact g3 _ (List.getElem_mem hrow)
 have hspl : (splice (rows.getD row []) off cs).length = i.size := by
  unfold splice
  rw [List.length_append,List.length_append,List.length_take,List.length_drop,hrl,hl]
  omega
 have hlens : ∀ r ∈ setRow rows row off cs,r.length = i.size := by
  intro r hr'
  rcases List.mem_or_eq_of_mem_set hr' with h | h
  ·exact g3 r h
  ·rw [h]; exact hspl
 have hlen : (setRow rows row off cs).length = rows.length := by simp [setRow]
 have hflat : rows.flatten.length = rows.length * i.size := by
  have : ∀ l : List (List PV),(∀ q ∈ l,q.length = i.size) → l.flatten.length = l.length * i.size := by
   intro l
   induction l with
   | nil=>simp
   | cons q l ih=>intro hl; simp [ih fun q hq=>hl q (by simp [hq]),hl q (by simp),Nat.add_mul]; omega
  exact this rows g3
 have hrl2 : rows[row].length = i.size := g3 _ (List.getElem_mem hrow)
 have hrowcells : (rows.flatten.drop (row * i.size)).take i.size = rows.getD row [] := by
  rw [hgetD]
  apply List.ext_getElem?
  intro m
  rw [List.getElem?_take]
  split
  ·rename_i hm'
   rw [List.getElem?_drop]
   have hml : m < rows[row].length := by rw [hrl2]; exact hm'
   have hcm' : rows[row][m]? = some (rows[row][m]'hml) := ze hml
   rw [hcm']
   exact eH g3 (ze hrow) m _ hcm'
  ·rw [List.getElem?_eq_none (by rw [hrl2]; omega)]
 have hpv : (setRow rows row off cs).flatten = splice rows.flatten (row * i.size + off) cs := by
  unfold setRow
  rw [set_flat g3 hspl hrow,← hrowcells]
  have hA : (rows.flatten.take (row * i.size)).length = row * i.size := by rw [List.length_take,hflat]; omega
  have hY : ((rows.flatten.drop (row * i.size)).take i.size).length = i.size := by rw [List.length_take,List.length_drop,hflat]; omega
  have hdec : rows.flatten = rows.flatten.take (row * i.size) ++ ((rows.flatten.drop (row * i.size)).take i.size ++ rows.flatten.drop (row * i.size + i.size)) := by
   rw [← List.drop_drop,List.take_append_drop,List.take_append_drop]
  have key := splice_seg (rows.flatten.take (row * i.size)) ((rows.flatten.drop (row * i.size)).take i.size) (rows.flatten.drop (row * i.size + i.size)) cs off (by rw [hY,hl]; omega)
  rw [← hdec,hA] at key
  exact key
 have hvlist : (cur.toList.take (row * i.size + off) ++ (a.eval y).cells.toList ++ cur.toList.drop (row * i.size + off + (a.eval y).cells.toList.length)).take (rows.length * i.size) =
   (cur.toList.take (rows.length * i.size)).take (row * i.size + off) ++ (a.eval y).cells.toList ++ (cur.toList.take (rows.length * i.size)).drop (row * i.size + off + (a.eval y).cells.toList.length) := by
  exact splice_take cur.toList (a.eval y).cells.toList (row * i.size + off) (rows.length * i.size) (by rw [hvl]; omega) (by simpa using hcap)
 refine hn undef _ _ M _ hK (Mem.le_refl M) (hi.set_obj tag _ hob b hb (setRow rows row off cs) true _ i g1 ?_ hlens ?_ ?_ hcm ?_ ?_ ?_ (fun _=>hw1 trivial) ?_) (by simp [Rep])
 ·rw [hlen]; exact g2
 ·simp only [List.size_toArray,List.length_append,List.length_take,List.length_drop,Array.length_toList,hvl]
  omega
 ·rw [hlen]; exact hlc
 ·rw [hlen,hpv]
  simp only
  rw [hvlist]
  exact fJ hcr hrf (row * i.size + off)
 ·rw [hlen]
  simp only
  rw [hvlist]
  intro v hv'
  simp only [List.mem_append] at hv'
  rcases hv' with (h | h) | h
  ·exact h1c v (List.mem_of_mem_take h)
  ·exact hone v h
  ·exact h1c v (List.mem_of_mem_drop h)
 ·intro o' v' hm'
  rw [hw1 trivial o'] at hm'
  cases hm'
 ·intro o' _
  exact hw1 trivial o'
end
section
variable {P : Program} {ops : Array Oper} {rest : List Oper} {o : Oper} {n : Nat} {s s' : Nat → PV} {bx : Nat → Option Box} {ob : Nat → Option Obj} {K : PState → Prop} {T : TT} {rb : RB} {k : Nat} {L : List Nat}
theorem im (ho : ops[k]? = some o) (hg : ap ops s o = some true) (hc : bm o.op = .det) {r : PV} (hd : ∀ bx',DetS P o (evS s) ⟨bx',if rb.o o && bK o.op then dT ob else fun _=>none⟩ r) (hp : putD n s o.dst r = some s')
  (h : Do P T rb ops L ⟨n,s',bx,ob⟩ K) : Do P T rb ops (k :: L) ⟨n,s,bx,ob⟩ K := by
 refine ⟨o,ho,true,hg,?_⟩
 simp only [if_true,hc]
 exact ⟨r,s',.inr hd,hp,h⟩
theorem Do.idxO (hT : T.Ok P) (ho : ops[k]? = some o) (hg : ap ops s o = some true) {t : TypeId} {x i : Operand} (hop : o.op = .indexAddr t x i) {ti ei : TInfo} {e : TypeId} (hti : T.get t = some ti) (hd : ti.desc = .slice e) (hei : T.get e = some ei)
  {tag : Nat} {g : OwnRef} {len : Nat} (hx : evS s x = .own tag g len) {kk : IntKind} {j : Int} (hi : evS s i = .val (.int kk j)) (hj : 0 ≤ j ∧ j.toNat < len) (hb : ∃ b,g.blk = some b) (hp : putD n s o.dst (.optr tag g ei.size j.toNat 0) = some s') (h : Do P T rb ops L ⟨n,s',bx,ob⟩ K) :
  Do P T rb ops (k :: L) ⟨n,s,bx,ob⟩ K := im ho hg (by rw [hop]; rfl) (fun _=>detS_idxO hT hop hti hd hei hx hi hj hb) hp h
theorem aQ {t : TypeId} {x i : Operand} {ti ei : TInfo} {e : TypeId} {tag : Nat} {g : OwnRef} {len : Nat} {kk : IntKind} {j : Int} (hT : T.Ok P) (hj : 0 ≤ j ∧ j.toNat < len) (hb : ∃ b,g.blk = some b) (h : Do P T rb ops L ⟨n,s',bx,ob⟩ K) (ho : ops[k]? = some o := by exact rfl) (hg : ap ops s o = some true := by exact rfl) (hop : o.op = .indexAddr t x i := by exact rfl) (hti : T.get t = some ti := by exact rfl) (hd : ti.desc = .slice e := by exact rfl) (hei : T.get e = some ei := by exact rfl) (hx : evS s x = .own tag g len := by exact rfl) (hi : evS s i = .val (.int kk j) := by exact rfl) (hp : putD n s o.dst (.optr tag g ei.size j.toNat 0) = some s' := by exact rfl) : Do P T rb ops (k :: L) ⟨n,s,bx,ob⟩ K := Do.idxO hT ho hg hop hti hd hei hx hi hj hb hp h
theorem bw (hT : T.Ok P) (ho : ops[k]? = some o) (hro : rb.o o = true) (hg : ap ops s o = some true) {t : TypeId} {x : Operand} (hop : o.op = .load t x) {ti : TInfo} (hti : T.get t = some ti) {tag : Nat} {g : OwnRef} {kz row off : Nat} (hx : evS s x = .optr tag g kz row off)
  {e : TypeId} {rows : List (List PV)} {wr : Bool} (hob : ob tag = some ⟨g,e,rows,wr⟩) {ei : TInfo} (hei : T.get e = some ei) (hk : kz = ei.size) {cells : List PV} (hr : rows[row]? = some cells) {r : PV} (hc : cx ti off cells = some r) (hp : putD n s o.dst r = some s') (h : Do P T rb ops L ⟨n,s',bx,ob⟩ K) (hst : Nat.ble 1000000000000000 tag = false := by rfl) :
  Do P T rb ops (k :: L) ⟨n,s,bx,ob⟩ K := by
 refine im ho hg (by rw [hop]; rfl) (fun bx'=>?_) hp h
 have : (rb.o o && bK o.op) = true := by rw [hro,hop]; rfl
 rw [this]
 exact detS_loadO hT hop hti hx ((statO_of hst).trans hob) hei hk hr hc
theorem cL (hT : T.Ok P) (ho : ops[k]? = some o) (hg : ap ops s o = some true) {t : TypeId} {x y : Operand} (hop : o.op = .store t x y) (hdst : o.dst = none) {ti : TInfo} (hti : T.get t = some ti) {tag : Nat} {g : OwnRef} {kz row off : Nat} (hx : evS s x = .optr tag g kz row off)
  {e : TypeId} {rows rows' : List (List PV)} (hob : ob tag = some ⟨g,e,rows,true⟩) {ei : TInfo} (hei : T.get e = some ei) (hk : kz = ei.size) (hrow : row < rows.length) {py : PV} (hy : PLe P (evS s y) py) {cs : List PV} (hc : bt py = some cs) (hf : PV.frozL cs = true) (h1 : cs.all PV.one = true) (hl : cs.length = ti.size) (hle : off + ti.size ≤ ei.size)
  (hr : setRow rows row off cs = rows') (h : Do P T rb ops L ⟨n,s,bx,upd ob tag (some ⟨g,e,rows',true⟩)⟩ K) : Do P T rb ops (k :: L) ⟨n,s,bx,ob⟩ K := by
 subst hr
 refine ⟨o,ho,true,hg,?_⟩
 simp only [if_true,hop,bm]
 exact ⟨hdst,.inr fun bx'=>eff_storeO hT hop hti hx hob hei hk hrow hy hc hf h1 hl hle ⟨rfl,h⟩⟩
theorem Do.storeOQ {t : TypeId} {x y : Operand} {ti : TInfo} {tag : Nat} {g : OwnRef} {kz row off : Nat} {e : TypeId} {rows rows' : List (List PV)} {ei : TInfo} {py : PV} {cs : List PV} (hT : T.Ok P) (hrow : row < rows.length) (hy : PLe P (evS s y) py) (hle : off + ti.size ≤ ei.size) (hr : setRow rows row off cs = rows') (h : Do P T rb ops L ⟨n,s,bx,upd ob tag (some ⟨g,e,rows',true⟩)⟩ K) (ho : ops[k]? = some o := by exact rfl) (hg : ap ops s o = some true := by exact rfl) (hop : o.op = .store t x y := by exact rfl) (hdst : o.dst = none := by exact rfl) (hti : T.get t = some ti := by exact rfl) (hx : evS s x = .optr tag g kz row off := by exact rfl) (hob : ob tag = some ⟨g,e,rows,true⟩ := by exact rfl) (hei : T.get e = some ei := by exact rfl) (hk : kz = ei.size := by exact rfl) (hc : bt py = some cs := by exact rfl) (hf : PV.frozL cs = true := by exact rfl) (h1 : cs.all PV.one = true := by exact rfl) (hl : cs.length = ti.size := by exact rfl) : Do P T rb ops (k :: L) ⟨n,s,bx,ob⟩ K := cL hT ho hg hop hdst hti hx hob hei hk hrow hy hc hf h1 hl hle hr h
theorem bE {α β : Type} {f : α → β} {xs : List α} {j : Nat} {x : α} (h : xs[j]? = some x) : j < (xs.map f).length := by
 have := (zg.1 h).1
 simpa using this
theorem gM {α β : Type} {f : α → β} {xs : List α} {j : Nat} {x : α} {l : Nat} (hl : l = (xs.map f).length) (h : xs[j]? = some x) : j < l := hl ▸ bE h
theorem bL {α : Type} {f : α → List PV} {xs : List α} {j : Nat} {x : α} {g : OwnRef} (ho : xs.map f ≠ [] → ∃ b,g.blk = some b) (h : xs[j]? = some x) : ∃ b,g.blk = some b := by
 refine ho fun e=>?_
 have := (zg.1 h).1
 rw [List.map_eq_nil_iff] at e
 rw [e] at this
 simp at this
theorem cK {α : Type} {f f' : α → List PV} (hE : ∀ x,f' x = f x) {xs ys : List α} {j off : Nat} {x v : α} {cs : List PV} (h : xs[j]? = some x) (hs : splice (f x) off cs = f v) (hy : xs.set j v = ys) : setRow (xs.map f') j off cs = ys.map f' := by
 subst hy
 have hlt := (zg.1 h).1
 unfold setRow
 have e : (xs.map f').getD j [] = f x := by simp [h,hE]
 rw [e,hs,← hE v,List.map_set]
theorem bW {α β : Type} {f : α → β} {xs ys : List α} {j : Nat} {v : α} (hy : xs.set j v = ys) : (xs.map f).length = (ys.map f).length := by subst hy; simp
theorem eE {fn : Func} {R : PV → Heap → Prop} {ks : List KI} {tag : Nat} {g : OwnRef} {e : TypeId} {rows : List (List PV)} {wr : Bool} (hob : ob tag = some ⟨g,e,rows,wr⟩) (h : (rows ≠ [] → ∃ b,g.blk = some b) → V P fn R ks ⟨n,s,bx,ob⟩) : V P fn R ks ⟨n,s,bx,ob⟩ := fun C M a w hi=>by
 refine h (fun hne=>?_) C M a w hi
 obtain ⟨_,_,_,_,h4⟩ := hi.2.objs tag _ hob
 rcases h4 with ⟨_,h5,_⟩ | ⟨b,_,h5,_⟩
 ·exact absurd h5 hne
 ·exact ⟨b,h5⟩
end
def giveB (bx : Nat → Option Box) (m : List (Nat × Nat)) : Nat → Option Box := fun t=>match m.find? (fun p=>Nat.beq p.2 t) with
 | some p=>bx p.1
 | none=>none
def eK (ob : Nat → Option Obj) (m : List (Nat × Nat)) : Nat → Option Obj := fun t=>match m.find? (fun p=>Nat.beq p.2 t) with
 | some p=>ob p.1
 | none=>none
theorem beqC (a b : Nat) : Nat.beq a b = Nat.beq b a := by
 cases h : Nat.beq a b with
 | true=>rw [Nat.eq_of_beq_eq_true h]; exact (Nat.beq_refl b).symm
 | false =>
  cases h' : Nat.beq b a with
  | true=>rw [Nat.eq_of_beq_eq_true h'] at h; rw [show Nat.beq a a = true from Nat.beq_refl a] at h; cases h
  | false=>rfl
theorem bX (bx : Nat → Option Box) : giveB bx [] = fun _=>none := rfl
theorem bY (ob : Nat → Option Obj) : eK ob [] = fun _=>none := rfl
theorem bH (ob : Nat → Option Obj) (c k : Nat) (m : List (Nat × Nat)) : eK ob ((c,k) :: m) = upd (eK ob m) k (ob c) := by
 funext t
 simp only [eK,upd,List.find?_cons]
 rw [beqC t k]
 cases Nat.beq k t <;> rfl
def backB (bx : Nat → Option Box) (m : List (Nat × Nat)) (bx' : Nat → Option Box) : Nat → Option Box := fun t=>match m.find? (fun p=>Nat.beq p.1 t) with
 | some p=>bx' p.2
 | none=>bx t
def backO (ob : Nat → Option Obj) (m : List (Nat × Nat)) (ob' : Nat → Option Obj) : Nat → Option Obj := fun t=>match m.find? (fun p=>Nat.beq p.1 t) with
 | some p=>ob' p.2
 | none=>ob t
def bd : List Nat → Bool
 | []=>true
 | a :: l=>l.all (fun b=>!Nat.beq a b) && bd l
theorem cz {f : Nat × Nat → Nat} : ∀ {m : List (Nat × Nat)} {p : Nat × Nat},bd (m.map f) = true → p ∈ m → m.find? (fun q=>Nat.beq (f q) (f p)) = some p
 | [],_,_,h=>by simp at h
 | q :: m,p,hd,h=>by
  simp only [List.map_cons,bd,Bool.and_eq_true] at hd
  rw [List.find?_cons]
  rcases List.mem_cons.1 h with rfl | h
  ·rw [show Nat.beq (f p) (f p) = true from Nat.beq_refl _]
  ·have hne : Nat.beq (f q) (f p) = false := by
    have := (List.all_eq_true.1 hd.1) (f p) (List.mem_map.2 ⟨p,h,rfl⟩)
    simpa using this
   rw [hne]
   exact cz hd.2 h
theorem fD {f : Nat × Nat → Nat} {m : List (Nat × Nat)} {t : Nat} {p : Nat × Nat} (h : m.find? (fun q=>Nat.beq (f q) t) = some p) : p ∈ m ∧ f p = t :=
 ⟨List.mem_of_find?_eq_some h,by
  have := List.find?_some h
  exact Nat.eq_of_beq_eq_true this⟩
def cv (H : Heap) (mb mo : List (Nat × Nat)) : List Nat := mb.filterMap (fun p=>(H.bx p.1).map Box.b) ++ mo.filterMap (fun p=>(H.ob p.1).bind fun x=>x.g.blk)
theorem ff {H : Heap} {mb mo : List (Nat × Nat)} {b : Nat} (h : b ∈ cv H mb mo) : (∃ p x,p ∈ mb ∧ H.bx p.1 = some x ∧ x.b = b) ∨ ∃ p x,p ∈ mo ∧ H.ob p.1 = some x ∧ x.g.blk = some b := by
 simp only [cv,List.mem_append,List.mem_filterMap] at h
 rcases h with ⟨p,hp,h⟩ | ⟨p,hp,h⟩
 ·rw [Option.map_eq_some_iff] at h
  obtain ⟨x,hx,rfl⟩ := h
  exact .inl ⟨p,x,hp,hx,rfl⟩
 ·rw [Option.bind_eq_some_iff] at h
  obtain ⟨x,hx,h⟩ := h
  exact .inr ⟨p,x,hp,hx,h⟩
theorem ownOf_box {H : Heap} {mb mo : List (Nat × Nat)} {p : Nat × Nat} {x : Box} (hp : p ∈ mb) (hx : H.bx p.1 = some x) : x.b ∈ cv H mb mo := by
 simp only [cv,List.mem_append,List.mem_filterMap]
 exact .inl ⟨p,hp,by rw [hx]; rfl⟩
theorem ownOf_obj {H : Heap} {mb mo : List (Nat × Nat)} {p : Nat × Nat} {x : Obj} {b : Nat} (hp : p ∈ mo) (hx : H.ob p.1 = some x) (hb : x.g.blk = some b) : b ∈ cv H mb mo := by
 simp only [cv,List.mem_append,List.mem_filterMap]
 exact .inr ⟨p,hp,by rw [hx]; exact hb⟩
section
variable {P : Program} {C : Ctx} {M : Mem} {H : Heap} {w : World} {mb mo : List (Nat × Nat)}
theorem eM {bx : Nat → Option Box} {m : List (Nat × Nat)} {t : Nat} {x : Box} (h : giveB bx m t = some x) : ∃ p,p ∈ m ∧ p.2 = t ∧ bx p.1 = some x := by
 unfold giveB at h
 split at h
 ·rename_i p hp
  obtain ⟨h1,h2⟩ := fD (f := Prod.snd) hp
  exact ⟨p,h1,h2,h⟩
 ·cases h
theorem eO {ob : Nat → Option Obj} {m : List (Nat × Nat)} {t : Nat} {x : Obj} (h : eK ob m t = some x) : ∃ p,p ∈ m ∧ p.2 = t ∧ ob p.1 = some x := by
 unfold eK at h
 split at h
 ·rename_i p hp
  obtain ⟨h1,h2⟩ := fD (f := Prod.snd) hp
  exact ⟨p,h1,h2,h⟩
 ·cases h
theorem fst_inj {m : List (Nat × Nat)} (hd : bd (m.map Prod.fst) = true) {p q : Nat × Nat} (hp : p ∈ m) (hq : q ∈ m) (h : p.1 = q.1) : p = q := by
 have h1 := cz (f := Prod.fst) hd hp
 have h2 := cz (f := Prod.fst) hd hq
 rw [h] at h1
 rw [h1] at h2
 exact Option.some.inj h2
theorem InvH.ownMine (h : InvH P C M H w) : ∀ b ∈ cv H mb mo,C.mine b := by
 intro b hb
 rcases ff hb with ⟨p,x,_,hx,rfl⟩ | ⟨p,x,_,hx,hb⟩
 ·exact (h.boxes _ _ hx).1
 ·obtain ⟨_,_,_,_,h4⟩ := h.objs _ _ hx
  rcases h4 with ⟨h5,_⟩ | ⟨b',_,h5,h6,_⟩
  ·rw [h5] at hb; cases hb
  ·rw [h5] at hb; cases hb; exact h6
theorem InvH.enterH (h : InvH P C M H w) (hb1 : bd (mb.map Prod.fst) = true) (ho1 : bd (mo.map Prod.fst) = true) : InvH P ⟨w,cv H mb mo,M,h.gl h.ownMine,[]⟩ M ⟨giveB H.bx mb,eK H.ob mo⟩ w := by
 refine ⟨h.mem,Mem.le_refl M,fun _ _ _ hm=>.inl hm,rfl,rfl,rfl,Nat.le_refl _,fun _ _ _=>rfl,?_,?_,?_,?_,?_⟩
 ·intro t x hx
  obtain ⟨p,hp,_,hx⟩ := eM hx
  obtain ⟨_,h2,h3⟩ := h.boxes _ _ hx
  exact ⟨.inr (ownOf_box hp hx),h2,h3⟩
 ·intro t x hx
  obtain ⟨p,hp,_,hx⟩ := eO hx
  obtain ⟨i,h1,h2,h3,h4⟩ := h.objs _ _ hx
  refine ⟨i,h1,h2,h3,?_⟩
  rcases h4 with h4 | ⟨b,cur,hb,_,h5⟩
  ·exact .inl h4
  ·exact .inr ⟨b,cur,hb,.inr (ownOf_obj hp hx hb),h5⟩
 ·intro t t' x x' hx hx' hb
  obtain ⟨p,hp,e1,hy⟩ := eM hx
  obtain ⟨q,hq,e2,hy'⟩ := eM hx'
  rw [← e1,← e2,fst_inj hb1 hp hq (h.dbox _ _ x x' hy hy' hb)]
 ·intro t t' x x' b hx hx' hb hb'
  obtain ⟨p,hp,e1,hy⟩ := eO hx
  obtain ⟨q,hq,e2,hy'⟩ := eO hx'
  rw [← e1,← e2,fst_inj ho1 hp hq (h.dobj _ _ x x' b hy hy' hb hb')]
 ·intro t t' x x' hx hx' hb
  obtain ⟨p,hp,_,hy⟩ := eM hx
  obtain ⟨q,hq,_,hy'⟩ := eO hx'
  exact h.dmix _ _ x x' hy hy' hb
theorem InvH.afterH {M' : Mem} {H' : Heap} {w' : World} (h : InvH P C M H w) (_hb1 : bd (mb.map Prod.fst) = true) (hb2 : bd (mb.map Prod.snd) = true) (_ho1 : bd (mo.map Prod.fst) = true) (ho2 : bd (mo.map Prod.snd) = true)
  {hg : Gl w (cv H mb mo)} (h' : InvH P ⟨w,cv H mb mo,M,hg,[]⟩ M' H' w') : InvH P C M' ⟨backB H.bx mb H'.bx,backO H.ob mo H'.ob⟩ w' := by
 have hown : ∀ b,b ∈ cv H mb mo → C.mine b := by
  intro b hb
  rcases ff hb with ⟨p,x,_,hx,rfl⟩ | ⟨p,x,_,hx,hb⟩
  ·exact (h.boxes _ _ hx).1
  ·obtain ⟨_,_,_,_,h4⟩ := h.objs _ _ hx
   rcases h4 with ⟨h5,_⟩ | ⟨b',_,h5,h6,_⟩
   ·rw [h5] at hb; cases hb
   ·rw [h5] at hb; cases hb; exact h6
 have hup : ∀ b,(⟨w,cv H mb mo,M,hg,[]⟩ : Ctx).mine b → C.mine b := fun b hb=>by
  rcases hb with hb | hb
  ·exact .inl (Nat.le_trans h.size hb)
  ·exact hown b hb
 have hnone : ∀ b o,b < w.heap.size → b ∉ cv H mb mo → M b o = none → M' b o = none := by
  intro b o hb hno hn
  cases hm : M' b o with
  | none=>rfl
  | some v =>
   rcases h'.new b o v hm with h1 | h1 | h1
   ·rw [show M b o = some v from h1] at hn; cases hn
   ·exact absurd hb (Nat.not_lt.2 h1)
   ·exact absurd h1 hno
 have kb : ∀ t x,backB H.bx mb H'.bx t = some x → (∃ p,p ∈ mb ∧ p.1 = t ∧ H'.bx p.2 = some x) ∨ ((∀ p ∈ mb,p.1 ≠ t) ∧ H.bx t = some x) := by
  intro t x hx
  unfold backB at hx
  split at hx
  ·rename_i p hp
   obtain ⟨h1,h2⟩ := fD (f := Prod.fst) hp
   exact .inl ⟨p,h1,h2,hx⟩
  ·rename_i hp
   rw [List.find?_eq_none] at hp
   exact .inr ⟨fun p hp' e=>hp p hp' (by rw [e]; exact Nat.beq_refl _),hx⟩
 have ko : ∀ t x,backO H.ob mo H'.ob t = some x → (∃ p,p ∈ mo ∧ p.1 = t ∧ H'.ob p.2 = some x) ∨ ((∀ p ∈ mo,p.1 ≠ t) ∧ H.ob t = some x) := by
  intro t x hx
  unfold backO at hx
  split at hx
  ·rename_i p hp
   obtain ⟨h1,h2⟩ := fD (f := Prod.fst) hp
   exact .inl ⟨p,h1,h2,hx⟩
  ·rename_i hp
   rw [List.find?_eq_none] at hp
   exact .inr ⟨fun p hp' e=>hp p hp' (by rw [e]; exact Nat.beq_refl _),hx⟩
 -- what was kept is not among what was handed over
 have nb : ∀ t x,(∀ p ∈ mb,p.1 ≠ t) → H.bx t = some x → x.b ∉ cv H mb mo := by
  intro t x hn hx hm
  rcases ff hm with ⟨p,y,hp,hy,e⟩ | ⟨p,y,hp,hy,e⟩
  ·exact hn p hp (h.dbox _ _ y x hy hx e)
  ·exact h.dmix _ _ x y hx hy e
 have no : ∀ t x b,(∀ p ∈ mo,p.1 ≠ t) → H.ob t = some x → x.g.blk = some b → b ∉ cv H mb mo := by
  intro t x b hn hx hb hm
  rcases ff hm with ⟨p,y,hp,hy,e⟩ | ⟨p,y,hp,hy,e⟩
  ·exact h.dmix _ _ y x hy hx (by rw [hb,e])
  ·exact hn p hp (h.dobj _ _ y x b hy hx e hb)
 have mb' : ∀ t x,H'.bx t = some x → w.heap.size ≤ x.b ∨ x.b ∈ cv H mb mo := fun t x hx=>(h'.boxes t x hx).1
 have mo' : ∀ t x b,H'.ob t = some x → x.g.blk = some b → w.heap.size ≤ b ∨ b ∈ cv H mb mo := by
  intro t x b hx hb
  obtain ⟨_,_,_,_,h4⟩ := h'.objs t x hx
  rcases h4 with ⟨h5,_⟩ | ⟨b',_,h5,h6,_⟩
  ·rw [h5] at hb; cases hb
  ·rw [h5] at hb; cases hb; exact h6
 have bz : ∀ t x b,H.ob t = some x → x.g.blk = some b → b < w.heap.size := fun t x b hx hb=>h.obj_lt hx hb
 have snd_eq : ∀ {m : List (Nat × Nat)},bd (m.map Prod.snd) = true → ∀ {p q : Nat × Nat},p ∈ m → q ∈ m → p.2 = q.2 → p = q := by
  intro m hd p q hp hq e
  have h1 := cz (f := Prod.snd) hd hp
  have h2 := cz (f := Prod.snd) hd hq
  rw [e] at h1
  rw [h1] at h2
  exact Option.some.inj h2
 refine ⟨h'.mem,Mem.le_trans h.ext h'.ext,?_,h'.os.trans h.os,h'.tape.trans h.tape,h'.output.trans h.output,Nat.le_trans h.size h'.size,?_,?_,?_,?_,?_,?_⟩
 ·intro b o v hm
  rcases h'.new b o v hm with h1 | h1
  ·exact h.new b o v h1
  ·exact .inr (hup b h1)
 ·intro b hb hn
  have hno : b ∉ cv H mb mo := fun hm=>by
   rcases hown b hm with h1 | h1
   ·omega
   ·exact hn h1
  exact (h'.frame b (Nat.lt_of_lt_of_le hb h.size) hno).trans (h.frame b hb hn)
 ·intro t x hx
  rcases kb t x hx with ⟨p,hp,_,hx⟩ | ⟨hn,hx⟩
  ·obtain ⟨h1,h2,h3⟩ := h'.boxes _ _ hx
   exact ⟨hup _ h1,h2,h3⟩
  ·have hno := nb t x hn hx
   exact (h.boxes t x hx).keep h'.ext (fun o ho=>hnone _ o (h.box_lt hx) hno ho) (h'.frame _ (h.box_lt hx) hno)
 ·intro t x hx
  rcases ko t x hx with ⟨p,hp,_,hx⟩ | ⟨hn,hx⟩
  ·obtain ⟨i,h1,h2,h3,h4⟩ := h'.objs _ _ hx
   refine ⟨i,h1,h2,h3,?_⟩
   rcases h4 with h4 | ⟨b,cur,h5,h6,h7⟩
   ·exact .inl h4
   ·exact .inr ⟨b,cur,h5,hup _ h6,h7⟩
  ·exact (h.objs t x hx).keep h'.ext (fun b o hb ho=>hnone _ o (h.obj_lt hx hb) (no t x b hn hx hb) ho) (fun b hb=>h'.frame _ (h.obj_lt hx hb) (no t x b hn hx hb))
 ·intro t t' x x' hx hx' hb
  rcases kb t x hx with ⟨p,hp,e,hx⟩ | ⟨hn,hx⟩ <;> rcases kb t' x' hx' with ⟨q,hq,e',hx'⟩ | ⟨hn',hx'⟩
  ·have := snd_eq hb2 hp hq (h'.dbox _ _ x x' hx hx' hb)
   rw [← e,← e',this]
  ·rcases mb' _ _ hx with h1 | h1
   ·have := h.box_lt hx'; omega
   ·exact absurd (hb ▸ h1) (nb t' x' hn' hx')
  ·rcases mb' _ _ hx' with h1 | h1
   ·have := h.box_lt hx; omega
   ·exact absurd (hb ▸ h1) (nb t x hn hx)
  ·exact h.dbox t t' x x' hx hx' hb
 ·intro t t' x x' b hx hx' hb hb'
  rcases ko t x hx with ⟨p,hp,e,hx⟩ | ⟨hn,hx⟩ <;> rcases ko t' x' hx' with ⟨q,hq,e',hx'⟩ | ⟨hn',hx'⟩
  ·have := snd_eq ho2 hp hq (h'.dobj _ _ x x' b hx hx' hb hb')
   rw [← e,← e',this]
  ·rcases mo' _ _ b hx hb with h1 | h1
   ·have := h.obj_lt hx' hb'; omega
   ·exact absurd h1 (no t' x' b hn' hx' hb')
  ·rcases mo' _ _ b hx' hb' with h1 | h1
   ·have := h.obj_lt hx hb; omega
   ·exact absurd h1 (no t x b hn hx hb)
  ·exact h.dobj t t' x x' b hx hx' hb hb'
 ·intro t t' x x' hx hx' hb
  rcases kb t x hx with ⟨p,hp,e,hx⟩ | ⟨hn,hx⟩ <;> rcases ko t' x' hx' with ⟨q,hq,e',hx'⟩ | ⟨hn',hx'⟩
  ·exact h'.dmix _ _ x x' hx hx' hb
  ·rcases mb' _ _ hx with h1 | h1
   ·have := h.obj_lt hx' hb; omega
   ·exact no t' x' _ hn' hx' hb h1
  ·rcases mo' _ _ _ hx' hb with h1 | h1
   ·have := h.box_lt hx; omega
   ·exact nb t x hn hx h1
  ·exact h.dmix t t' x x' hx hx' hb
theorem eff_callH {o : Oper} {ev : Operand → PV} {H : Heap} {fx : Operand} {av0 : Array Operand} {ts : Array TypeId} (ho : o.op = .call { callee := .value fx,args := av0,argTypes := ts }) {g : FuncId} {caps : List PV}
  (hf : ev fx = .fn g caps) (hcall : ∀ vs w,(callFunc g vs).run P w = .ok (.enter g vs) w) (mb mo : List (Nat × Nat)) (hb1 : bd (mb.map Prod.fst) = true) (hb2 : bd (mb.map Prod.snd) = true) (ho1 : bd (mo.map Prod.fst) = true) (ho2 : bd (mo.map Prod.snd) = true)
  {args : List PV} (hle : cJ P (av0.toList.map ev ++ caps) args) {R : PV → Heap → Prop} (hc : PH P g args ⟨giveB H.bx mb,eK H.ob mo⟩ R)
  {K : PV → Heap → Prop} (hk : ∀ u H',R u H' → K u ⟨backB H.bx mb H'.bx,backO H.ob mo H'.ob⟩) : Eff P o ev H K := by
 intro C M a w next Q hi he hn
 have hfr := he fx (by rw [ho]; simp [Op.operands,Call.operands])
 rw [hf] at hfr
 simp only [Rep] at hfr
 obtain ⟨cs,hv,hcaps⟩ := hfr
 have hargs : ac P M true (av0.toList.map ev) (av0.map a.eval).toList := by
  simpa using fM av0.toList fun x hx=>he x (by rw [ho]; simp_all [Op.operands,Call.operands])
 have hrep := hle M _ (hargs.append hcaps)
 have hrun : (execOp a.eval o).run P w = .ok (.enter g (av0.map a.eval ++ cs)) w := by
  simp [execOp,ho,resolve,hv,Deferred.ofValue,invoke,hcall]
 unfold Oper.wp
 rw [hrun]
 simp only [Oper.upon]
 refine (hc w M (cv H mb mo) (hi.gl hi.ownMine) _ (hi.enterH hb1 ho1) (by simpa using hrep)).mono ?_
 rintro e w' ⟨v,u,H',M',rfl,hR,hi',hr⟩
 exact hn v u _ M' w' (hk u H' hR) hi'.ext (hi.afterH hb1 hb2 ho1 ho2 hi') hr
end
section
variable {P : Program} {ops : Array Oper} {rest : List Oper} {o : Oper} {n : Nat} {s s' : Nat → PV} {bx bx1 : Nat → Option Box} {ob ob1 : Nat → Option Obj} {K : PState → Prop} {T : TT} {rb : RB} {k : Nat} {L : List Nat}
theorem cp (hg : ap ops s o = some true) {fx : Operand} {av0 : Array Operand} {ts : Array TypeId} (ho : o.op = .call { callee := .value fx,args := av0,argTypes := ts }) {g : FuncId} {caps : List PV}
  (hf : evS s fx = .fn g caps) (hcall : ∀ vs w,(callFunc g vs).run P w = .ok (.enter g vs) w) (mb mo : List (Nat × Nat)) (hb1 : bd (mb.map Prod.fst) = true) (hb2 : bd (mb.map Prod.snd) = true) (ho1 : bd (mo.map Prod.fst) = true) (ho2 : bd (mo.map Prod.snd) = true)
  {args : List PV} (hle : cJ P (av0.toList.map (evS s) ++ caps) args) {Hin : Heap} (hin : Hin = ⟨giveB bx mb,eK ob mo⟩) {R : PV → Heap → Prop} (hc : PH P g args Hin R)
  (h : ∀ u H',R u H' → ∃ s',putD n s o.dst u = some s' ∧ Ao P ops rest ⟨n,s',backB bx mb H'.bx,backO ob mo H'.ob⟩ K) : Ao P ops (o :: rest) ⟨n,s,bx,ob⟩ K :=
 cR hg (eff_callH ho hf hcall mb mo hb1 hb2 ho1 ho2 hle (hin ▸ hc) h)
theorem PLe2.own {t t' : Nat} {g : OwnRef} {l l' : Nat} (h : l = l') : PLe2 P (.own t g l) (.own t' g l') := by
 subst h
 intro M s x hx
 simpa only [Rep] using hx
theorem iw {fn : Func} {R : PV → Heap → Prop} {ks : List KI} {T : TT} (hT : T.Ok P) {rs : Array ResultVar} (hres : fn.results = rs) {ps : List PV} (h : ee T ⟨n,s,bx,ob⟩ rs.toList ps) {u : PV} (hu : PLe P (er ps) u) (hR : R u ⟨bx,ob⟩) :
  V P fn R (.code .ret :: ks) ⟨n,s,bx,ob⟩ := V.ret hT hres h hu ⟨fun _ _ hx=>hx,fun _ _ hx=>hx⟩ hR
theorem eA {fn : Func} {R : PV → Heap → Prop} (hres : fn.results = #[]) {u : PV} (hu : PLe P (.tup []) u) (hR : R u ⟨bx,ob⟩) : V P fn R [] ⟨n,s,bx,ob⟩ := by
 intro C M a w hi
 refine retP.ofN hi fun C w hi=>?_
 have hr : (results fn a.tmps).run P w = .ok (.tuple #[]) w := by
  rw [eN hres]
  simp
 exact ⟨.tuple #[],hr,.tuple #[],u,⟨bx,ob⟩,M,rfl,hR,hi.2,hu M _ (by simp [Rep,ac])⟩
end
end
end Go.Ab

namespace Go.Ab
noncomputable section
open Classical in
def limN {β : Type} (F : Nat → Option β) : Option β :=
 if h : ∃ r,∃ n,∀ m,n ≤ m → F m = some r then some h.choose else none
theorem limN_some {β : Type} {F : Nat → Option β} {r : β} (h : limN F = some r) : ∃ n,F n = some r := by
 unfold limN at h
 split at h
 ·next hx =>
  obtain ⟨n,hn⟩ := hx.choose_spec
  exact ⟨n,by rw [hn n (Nat.le_refl n)]; exact h⟩
 ·cases h
theorem limN_eq {β : Type} {F : Nat → Option β} {r : β} (n : Nat) (h : ∀ m,n ≤ m → F m = some r) : limN F = some r := by
 have hx : ∃ r,∃ n,∀ m,n ≤ m → F m = some r := ⟨r,n,h⟩
 unfold limN
 rw [dif_pos hx]
 obtain ⟨k,hk⟩ := hx.choose_spec
 have e1 := hk (max n k) (Nat.le_max_right n k)
 have e2 := h (max n k) (Nat.le_max_left n k)
 rw [← e1,e2]
end
end Go.Ab

namespace Go.Ab
noncomputable section
theorem gC {α : Type} {f : α → List PV} {xs ys : List α} {j : Nat} {x : α} {g : OwnRef} (ho : xs.map f ≠ [] → ∃ b,g.blk = some b) (hl : (xs.map f).length = (ys.map f).length) (h : ys[j]? = some x) : ∃ b,g.blk = some b := by
 refine ho fun e=>?_
 have := (zg.1 h).1
 have h0 : ys.length = 0 := by
  rw [e] at hl
  simpa using hl.symm
 omega
section
variable {P : Program} {T : TT}
end
section
variable {P : Program} {ops : Array Oper} {rest : List Oper} {o : Oper} {n : Nat} {s s' : Nat → PV} {bx : Nat → Option Box} {ob : Nat → Option Obj} {K : PState → Prop} {T : TT} {rb : RB} {k : Nat} {L : List Nat}
theorem hC (hg : ap ops s o = some true) {t t' : TypeId} {x y : Operand} (ho : o.op = .binOp .shr t x y t') {kk k2 : IntKind} {a b : Int} (hx : evS s x = .val (.int kk a)) (hy : evS s y = .val (.int k2 b)) (hb : 0 ≤ b) {m : Nat} (hm : min b.toNat kk.bits = m)
  (hp : putD n s o.dst (.val (.int kk (a.fdiv (2 ^ m)))) = some s') (h : Ao P ops rest ⟨n,s',bx,ob⟩ K) : Ao P ops (o :: rest) ⟨n,s,bx,ob⟩ K := by
 refine cR hg (fun C M a' w next Q hi he hn=>?_)
 have hxr := he x (by rw [ho]; simp [Op.operands])
 have hyr := he y (by rw [ho]; simp [Op.operands])
 rw [show (⟨n,s,bx,ob⟩ : PState).s = s from rfl,hx] at hxr
 rw [show (⟨n,s,bx,ob⟩ : PState).s = s from rfl,hy] at hyr
 simp only [Rep] at hxr hyr
 subst hm
 have hrun : (execOp a'.eval o).run P w = .ok (.value (.int kk (a.fdiv (2 ^ (min b.toNat kk.bits))))) w := by
  have h2 : (eqGuard .shr t x y (.int kk a) (.int k2 b)).run P w = .ok () w := by simp [eqGuard]
  have hb' : ¬ b < 0 := by omega
  simp only [execOp,ho,hxr,hyr,Sem.run_bind,h2,Result.andThen_ok,binOp,Op.shift,zy hb']
  rfl
 unfold Oper.wp
 rw [hrun]
 exact hn _ _ ⟨bx,ob⟩ M w ⟨s',hp,h⟩ (Mem.le_refl M) hi (by simp only [Rep])
end
section
variable {P : Program} {T : TT}
end
section
variable {P : Program} {ops : Array Oper} {rest : List Oper} {o : Oper} {n : Nat} {s s' : Nat → PV} {bx : Nat → Option Box} {ob : Nat → Option Obj} {K : PState → Prop} {T : TT} {rb : RB} {k : Nat} {L : List Nat}
end
section
variable {P : Program} {C : Ctx} {M : Mem} {H : Heap} {w : World}
theorem freeze_new (w : World) (cs : Array Value) (e : TypeId) (n : Nat) : (w.alloc (.cells cs e)).freeze ⟨w.heap.size,n,none⟩ 1 = w.alloc (.cells cs e (n,n + 1)) := by
 unfold World.freeze World.alloc
 simp only [Nat.one_ne_zero,if_false]
 congr 1
 apply Array.ext
 ·simp
 ·intro i h1 h2
  rw [Array.getElem_modify]
  split
  ·rename_i hi
   subst hi
   simp
  ·rename_i hi
   have : i < w.heap.size := by simp at h2; omega
   simp [Array.getElem_push,this]
end
section
variable {P : Program} {ops : Array Oper} {rest : List Oper} {o : Oper} {n : Nat} {s s' : Nat → PV} {bx : Nat → Option Box} {ob : Nat → Option Obj} {K : PState → Prop} {T : TT} {rb : RB} {k : Nat} {L : List Nat}
end
section
variable {P : Program} {C : Ctx} {M : Mem} {H : Heap} {w : World}
open Classical in
def cZ (H : Heap) (w : World) : List Nat := (List.range w.heap.size).filter fun b=>decide ((∃ t x,H.bx t = some x ∧ x.b = b) ∨ ∃ t x,H.ob t = some x ∧ x.g.blk = some b)
theorem mem_ownAll {b : Nat} : b ∈ cZ H w ↔ b < w.heap.size ∧ ((∃ t x,H.bx t = some x ∧ x.b = b) ∨ ∃ t x,H.ob t = some x ∧ x.g.blk = some b) := by
 simp [cZ]
theorem InvH.ownAllMine (h : InvH P C M H w) : ∀ b ∈ cZ H w,C.mine b := by
 intro b hb
 rcases (mem_ownAll.1 hb).2 with ⟨t,x,hx,e⟩ | ⟨t,x,hx,e⟩
 ·rw [← e]; exact (h.boxes t x hx).1
 ·obtain ⟨i,_,_,_,hn | ⟨b',cur,h1,h2,_⟩⟩ := h.objs t x hx
  ·rw [hn.1] at e; cases e
  ·rw [h1] at e; cases e; exact h2
theorem InvH.rebase (h : InvH P C M H w) (ds : List Deferred) : InvH P ⟨w,cZ H w,M,h.gl h.ownAllMine,ds⟩ M H w := by
 refine ⟨h.mem,Mem.le_refl M,fun _ _ _ hm=>.inl hm,rfl,rfl,rfl,Nat.le_refl _,fun _ _ _=>rfl,fun t x hx=>?_,fun t x hx=>?_,h.dbox,h.dobj,h.dmix⟩
 ·obtain ⟨_,h2,h3⟩ := h.boxes t x hx
  exact ⟨.inr (mem_ownAll.2 ⟨h.box_lt hx,.inl ⟨t,x,hx,rfl⟩⟩),h2,h3⟩
 ·obtain ⟨i,h1,h2,h3,h4⟩ := h.objs t x hx
  refine ⟨i,h1,h2,h3,?_⟩
  rcases h4 with h4 | ⟨b,cur,h5,_,h7⟩
  ·exact .inl h4
  ·exact .inr ⟨b,cur,h5,.inr (mem_ownAll.2 ⟨h.obj_lt hx h5,.inr ⟨t,x,hx,h5⟩⟩),h7⟩
theorem InvH.unbase (h : InvH P C M H w) {hg : Gl w (cZ H w)} {ds : List Deferred} {M' : Mem} {H' : Heap} {w' : World} (h' : InvH P ⟨w,cZ H w,M,hg,ds⟩ M' H' w') : InvH P C M' H' w' := by
 have hup : ∀ b,(⟨w,cZ H w,M,hg,ds⟩ : Ctx).mine b → C.mine b := fun b hb=>hb.elim (fun hb=>.inl (Nat.le_trans h.size hb)) (fun hb=>h.ownAllMine b hb)
 refine ⟨h'.mem,Mem.le_trans h.ext h'.ext,fun b o v hm=>?_,h'.os.trans h.os,h'.tape.trans h.tape,h'.output.trans h.output,Nat.le_trans h.size h'.size,fun b hb hn=>?_,fun t x hx=>?_,fun t x hx=>?_,h'.dbox,h'.dobj,h'.dmix⟩
 ·rcases h'.new b o v hm with h1 | h1
  ·exact h.new b o v h1
  ·exact .inr (hup b h1)
 ·have : b ∉ cZ H w := fun hm=>by
   rcases h.ownAllMine b hm with h1 | h1
   ·omega
   ·exact hn h1
  exact (h'.frame b (Nat.lt_of_lt_of_le hb h.size) this).trans (h.frame b hb hn)
 ·obtain ⟨h1,h2,h3⟩ := h'.boxes t x hx
  exact ⟨hup _ h1,h2,h3⟩
 ·obtain ⟨i,h1,h2,h3,h4⟩ := h'.objs t x hx
  refine ⟨i,h1,h2,h3,?_⟩
  rcases h4 with h4 | ⟨b,cur,h5,h6,h7⟩
  ·exact .inl h4
  ·exact .inr ⟨b,cur,h5,hup _ h6,h7⟩
theorem InvH.dead_own (h : InvH P C M H w) {b : Nat} {o : Go.Obj} (hb : w.heap[b]? = some o) (ho : Dead o) : b ∉ cZ H w := fun hm=>by
 rcases (mem_ownAll.1 hm).2 with ⟨t,x,hx,e⟩ | ⟨t,x,hx,e⟩
 ·exact h.deadBox hb ho hx e
 ·exact h.deadObj hb ho hx e rfl
end
def dr (o : Oper) : Bool := match o.op with | .defer _=>false | _=>true
def Fr (ro : Option Nat) : Fence := { Fence.wide with round := ro }
section
variable {P : Program} {ops : Array Oper} {Q Qx : Exit → Act → World → Prop} {ro : Option Nat}
theorem oper_in {o : Oper} {a : Act} {w : World} {next next' : Act → World → Prop} (hd : dr o = true) (hpan : ∀ c a w,¬ Qx (.panic c) a w) (hQ : ¬ LetsOut Qx) (hn : ∀ a w,next a w → next' a w) (h : o.wp P a w next Qx) : o.wpIn (Fr ro) 0 P a w next' Q := by
 refine ⟨fun _ _=>trivial,?_⟩
 rw [Oper.semAt_eq _ _ _ (fun c hc=>by simp [dr,hc] at hd)]
 unfold Oper.wp at h
 generalize (execOp a.eval o).run P w = r at h
 have hno : (Fr ro).depth.isSome = true → 1 ≤ 0 := fun h=>by simp [Fence.wide,Fr] at h
 cases r with
 | halt s w'=>cases s <;> first | exact absurd h (hpan _ _ _) | exact h.elim
 | ok r w' =>
  cases r with
  | value v=>exact hn _ _ h
  | skip=>exact hn _ _ h
  | defer d=>exact hn _ _ h
  | enter f args =>
   refine ⟨hno,CallsIn.mono (show CallsIn (Fr ro) (0 - 1) P f args w' _ from callsIn_wide.2 h) fun e w'' he=>?_⟩
   cases e with
   | returned v=>exact hn _ _ he
   | panicked chain=>exact absurd he (hpan _ _ _)
   | outgrown=>exact absurd he hQ
  | row row args =>
   refine ⟨hno,fun c cs _=>?_⟩
   obtain ⟨v,w'',h1,h2⟩ := h c cs
   exact ⟨v,w'',hn _ _ h1,stepsIn_wide.2 h2⟩
  | _=>exact h.elim
theorem list_in (hpan : ∀ c a w,¬ Qx (.panic c) a w) (hQ : ¬ LetsOut Qx) {rest : List Oper} (hr : ∀ a w,Qx .normal a w → wpListIn (Fr ro) 0 P ops Q rest a w) :
  ∀ (l : List Oper),l.all dr = true → ∀ (a : Act) (w : World),wpList P ops Qx l a w → wpListIn (Fr ro) 0 P ops Q (l ++ rest) a w
 | [],_,a,w,h=>hr a w h
 | o :: l,hd,a,w,h=>by
  simp only [List.all_cons,Bool.and_eq_true] at hd
  simp only [wpList,wpListIn,List.cons_append] at h ⊢
  split
  ·rename_i hw
   rw [zp hw] at h
   rcases h with h | h
   ·exact oper_in hd.1 hpan hQ (fun a w=>list_in hpan hQ hr l hd.2 a w) h
   ·exact absurd h.2 hQ
  ·rename_i hw
   rw [zy hw] at h
   exact ⟨fun _ _=>trivial,list_in hpan hQ hr l hd.2 _ w h⟩
theorem Ao.inn {st : PState} {K : PState → Prop} {l rest : List Oper} (h : Ao P ops l st K) (hd : l.all dr = true) {C : Ctx} {M : Mem} {a : Act} {w : World} (hi : cj P C M st a w)
  (hr : ∀ st' M' a' w',K st' → cj P C M' st' a' w' → wpListIn (Fr ro) 0 P ops Q rest a' w') : wpListIn (Fr ro) 0 P ops Q (l ++ rest) a w :=
 list_in (Qx := Exit.then (fun a w=>wpListIn (Fr ro) 0 P ops Q rest a w) fun _ _ _=>False) (fun _ _ _ h=>h) (fun ⟨_,_,h⟩=>h) (fun _ _ h=>h) l hd a w (h C M a w _ hi hr)
end
def VR (P : Program) (lo : Nat) (G : PState → Prop) (c : Code) (st : PState) : Prop :=
 ∀ C M a w,cj P C M st a w → c.wpIn (Fr (some lo)) 0 P (Exit.then (fun a' w'=>∃ st' M',G st' ∧ cj P C M' st' a' w') fun _ _ _=>False) a w
section
variable {P : Program} {lo : Nat} {G : PState → Prop} {st : PState}
theorem VR.seq {x y : Code} (h : VR P lo (fun st'=>VR P lo G y st') x st) : VR P lo G (.seq x y) st := fun C M a w hi=>by
 refine wpIn_seq (wpIn_mono (h C M a w hi) fun e a' w' he=>?_)
 cases e with
 | normal=>obtain ⟨st',M',hG,hi'⟩ := he; exact hG C M' a' w' hi'
 | _=>exact he.elim
theorem VR.block {id : Nat} {c : Code} (h : VR P lo G c st) : VR P lo G (.block id c) st := fun C M a w hi=>by
 refine wpIn_block (wpIn_mono (h C M a w hi) fun e a' w' he=>?_)
 cases e with
 | normal=>exact he
 | _=>exact he.elim
theorem VR.gh {c : Code} {st' : PState} (hg : Gh P st st') (h : VR P lo G c st') : VR P lo G c st := fun C M a w hi =>
 let ⟨M',hi'⟩ := hg C M a w hi
 h C M' a w hi'
theorem VR.region {id : Nat} {ops : Array Oper} (hd : ops.toList.all dr = true) (h : Ao P ops ops.toList st G) : VR P lo G (.region id ops false) st := fun C M a w hi=>by
 have := h.inn (rest := []) (Q := Exit.then (fun a' w'=>∃ st' M',G st' ∧ cj P C M' st' a' w') fun _ _ _=>False) (ro := some lo) hd hi (fun st' M' _ _ hG hi'=>⟨st',M',hG,hi'⟩)
 rw [List.append_nil] at this
 exact wpIn_region_list this
end
structure JOk (P : Program) (J : Nat → Mem → World → Prop) : Prop where
 gl : ∀ j M w,J j M w → Gl w []
 mem : ∀ j M w,J j M w → ∀ b o v,M b o = some v → w.cell? ⟨b,o,none⟩ = some v
 grow : ∀ j M M' w w' (hg : Gl w []),J j M w → InvH P ⟨w,[],M,hg,[]⟩ M' Heap.empty w' → J j M' w'
def RoundOk (P : Program) (J : Nat → Mem → World → Prop) (l : Nat) (xs : List PV) : Prop :=
 ∀ j x v M W,xs[j]? = some x → Rep P M true x v → J j M W → YieldAt Fence.wide 0 P l #[v] W fun e W'=>e = .returned (.bool true) ∧ ∃ M',M.le M' ∧ J (j + 1) M' W'
def SeqP (P : Program) (gf : FuncId) (caps xs : List PV) : Prop :=
 ∀ (w : World) (M : Mem) (lb : Array Value),ac P M true caps lb.toList → ∀ (l : Nat) (J : Nat → Mem → World → Prop),JOk P J → RoundOk P J l xs → J 0 M w →
  Calls P gf (#[.func (.yield l) #[] #[]] ++ lb) w fun e W'=>(∃ v,e = .returned v) ∧ ∃ M',J xs.length M' W'
theorem iv {P : Program} {fn : Func} {R : PV → Heap → Prop} {k : List KI} {g : Operand} {p : Tmp} {assign body : Code} {n : Nat} {s : Nat → PV} {bx : Nat → Option Box} {ob : Nat → Option Obj} {gf : FuncId} {caps xs : List PV}
  (hg : evS s g = .fn gf caps) (hcall : ∀ vs w,(callFunc gf vs).run P w = .ok (.enter gf vs) w) (hp : Nat.blt p n = true) (hseq : SeqP P gf caps xs)
  (I : Nat → (Nat → Option Box) → (Nat → Option Obj) → Prop) (h0 : I 0 bx ob)
  (hbody : ∀ lo j x bx ob,xs[j]? = some x → I j bx ob → VR P lo (fun st1=>VR P lo (fun st'=>I (j + 1) st'.bx st'.ob) body st1) assign ⟨n,upd s p x,bx,ob⟩)
  (hdone : ∀ bx ob,I xs.length bx ob → V P fn R k ⟨n,s,bx,ob⟩) :
  V P fn R (.code (.rangeFunc g #[p] assign body) :: k) ⟨n,s,bx,ob⟩ := by
 intro C M a w hi
 refine (wpIn_wide (n := 0)).1 (wpIn_rangeFunc ?_)
 intro f _
 have hgv := hi.1.ev g
 rw [hg] at hgv
 simp only [Rep] at hgv
 obtain ⟨lb,hv,hcaps⟩ := hgv
 obtain ⟨rec,hrec⟩ : ∃ rec : Loop,rec = { state := .ready,pending := none,fn := f,tmps := a.tmps,params := #[p],assign := assign,body := body,defers := w.heap.size } := ⟨_,rfl⟩
 obtain ⟨W1,hW1⟩ : ∃ W1,(w.alloc (.deferred (some []))).alloc (.loop rec) = W1 := ⟨_,rfl⟩
 have hi1 : InvH P C M ⟨bx,ob⟩ W1 := by rw [← hW1]; exact (hi.2.alloc_plain _).alloc_plain _
 have hL1 : W1.heap[w.heap.size + 1]? = some (.loop rec) := by
  rw [← hW1]; have := World.alloc_heap_new (w.alloc (.deferred (some []))) (.loop rec); rwa [World.size_alloc] at this
 have hD1 : W1.heap[w.heap.size]? = some (.deferred (some [])) := by
  rw [← hW1,heap_alloc_old (w.alloc (.deferred (some []))) (.loop rec) (by rw [World.size_alloc]; omega)]; exact World.alloc_heap_new w _
 have hsz : C.w0.heap.size ≤ w.heap.size := hi.2.size
 let J : Nat → Mem → World → Prop := fun j M' W=>∃ bx ob,I j bx ob ∧ InvH P C M' ⟨bx,ob⟩ W ∧ M.le M' ∧ W.heap[w.heap.size]? = some (.deferred (some [])) ∧ W.heap[w.heap.size + 1]? = some (.loop rec)
 refine ⟨w.heap.size + 1,[markD w.heap.size],W1,{ target := .fn (.func gf) lb,args := #[.func (.yield (w.heap.size + 1)) #[] #[]] },W1,gf,#[.func (.yield (w.heap.size + 1)) #[] #[]] ++ lb,W1,?_,?_,fun _ _=>trivial,?_,fun h=>by simp [Fence.wide] at h,?_⟩
 ·rw [← hW1,hrec]; exact run_enterLoop_outer _ _ _ _ _
 ·simp only [resolve,hv]
  simp [go_sem]
 ·simp [invoke,go_sem,hcall]
 ·refine (callsIn_wide.2 (hseq W1 M lb hcaps (w.heap.size + 1) J ⟨?_,?_,?_⟩ ?_ ⟨bx,ob,h0,hi1,Mem.le_refl M,hD1,hL1⟩)).mono ?_
  ·rintro j M' W ⟨bx,ob,_,h1,_⟩
   exact h1.gl (by simp)
  ·rintro j M' W ⟨bx,ob,_,h1,_⟩ b o v hm
   exact h1.mem b o v hm
  ·rintro j M1 M2 W W' hgl ⟨bx,ob,h1,h2,h3,h4,h5⟩ h6
   exact ⟨bx,ob,h1,h2.after h6,Mem.le_trans h3 h6.ext,(h6.frame _ (Array.getElem?_eq_some_iff.1 h4).1 (by simp)).trans h4,(h6.frame _ (Array.getElem?_eq_some_iff.1 h5).1 (by simp)).trans h5⟩
  ·-- a round
   rintro j x v M' W hx hr ⟨bx,ob,hI,hinv,hle,hD,hL⟩
   subst hrec
   have hlt : w.heap.size + 1 < W.heap.size := (Array.getElem?_eq_some_iff.1 hL).1
   have hsl : cn P [] M' n (upd s p x) { tmps := a.tmps.setIfInBounds p v,defers := [] } :=
    cn.put (a := { tmps := a.tmps,defers := [] }) ⟨hi.1.1,rfl,fun t=>Rep.mono hle (hi.1.2.2 t)⟩ (by simpa [Nat.blt_eq] using hp) hr
   have hwalk := hbody (w.heap.size + 1) j x bx ob hx hI ⟨W,cZ ⟨bx,ob⟩ W,M',hinv.gl hinv.ownAllMine,[]⟩ M' { tmps := a.tmps.setIfInBounds p v,defers := [] } W ⟨hsl,hinv.rebase []⟩
   have e0 : Array.foldl (fun (tmps : Array Value) (x : Tmp × Value)=>match x with | (t,a)=>tmps.setIfInBounds t a) a.tmps (#[p].zip #[v]) = a.tmps.setIfInBounds p v := by simp
   refine ⟨_,_,_,_,run_yield hL rfl,roundIn_of_wpIn trivial ?_⟩
   dsimp only
   rw [e0]
   refine wpIn_mono hwalk fun e a1 w1 he=>?_
   cases e with
   | normal =>
    obtain ⟨st1,M1,hG1,hi1'⟩ := he
    have hLw1 := (hi1'.2.frame _ (show w.heap.size + 1 < W.heap.size from hlt) (hinv.dead_own hL trivial)).trans hL
    have hDw1 := (hi1'.2.frame _ (show w.heap.size < W.heap.size by omega) (hinv.dead_own hD trivial)).trans hD
    have hlt1 : w.heap.size + 1 < w1.heap.size := (Array.getElem?_eq_some_iff.1 hLw1).1
    have hinv1 := hinv.unbase hi1'.2
    refine ⟨_,run_beginRound hLw1 rfl,?_⟩
    obtain ⟨W2,hW2⟩ : ∃ W2,w1.putObj (w.heap.size + 1) (.loop { state := .busy,pending := none,fn := f,tmps := a.tmps,params := #[p],assign := assign,body := body,defers := w.heap.size }) = W2 := ⟨_,rfl⟩
    rw [hW2]
    have hinv2 : InvH P C M1 st1.heap W2 := by rw [← hW2]; exact hinv1.putDead (by omega) hLw1 trivial _
    have hL2 : W2.heap[w.heap.size + 1]? = some (.loop { state := .busy,pending := none,fn := f,tmps := a.tmps,params := #[p],assign := assign,body := body,defers := w.heap.size }) := by rw [← hW2]; exact World.putObj_heap_same hlt1
    have hD2 : W2.heap[w.heap.size]? = some (.deferred (some [])) := by rw [← hW2,World.putObj_heap_other (by omega)]; exact hDw1
    have hwalk2 := hG1 ⟨W2,cZ st1.heap W2,M1,hinv2.gl hinv2.ownAllMine,[]⟩ M1 a1 W2 ⟨hi1'.1,hinv2.rebase []⟩
    refine wpIn_mono hwalk2 fun e a' w' he=>?_
    cases e with
    | normal =>
     obtain ⟨st',M'',hI',hi'⟩ := he
     have hl2 : w.heap.size + 1 < W2.heap.size := (Array.getElem?_eq_some_iff.1 hL2).1
     have hLw := (hi'.2.frame _ (show w.heap.size + 1 < W2.heap.size from hl2) (hinv2.dead_own hL2 trivial)).trans hL2
     have hDw := (hi'.2.frame _ (show w.heap.size < W2.heap.size by omega) (hinv2.dead_own hD2 trivial)).trans hD2
     have hlw : w.heap.size + 1 < w'.heap.size := (Array.getElem?_eq_some_iff.1 hLw).1
     have hinv' := hinv2.unbase hi'.2
     have hm1 : M'.le M1 := hi1'.2.ext
     have hm2 : M1.le M'' := hi'.2.ext
     refine ⟨_,_,run_endRound none hLw,rfl,M'',Mem.le_trans hm1 hm2,st'.bx,st'.ob,hI',hinv'.putDead (by omega) hLw trivial _,Mem.le_trans hle (Mem.le_trans hm1 hm2),?_,?_⟩
     ·rw [World.putObj_heap_other (by omega)]; exact hDw
     ·rw [World.putObj_heap_same hlw]; rfl
    | _=>exact he.elim
   | _=>exact he.elim
  ·-- all rounds are done
   rintro e W ⟨⟨v,rfl⟩,M',bx,ob,hI,hinv,hle,hD,hL⟩
   have hlt : w.heap.size + 1 < W.heap.size := (Array.getElem?_eq_some_iff.1 hL).1
   obtain ⟨W2,hW2⟩ : ∃ W2,W.putObj (w.heap.size + 1) (.loop { rec with state := .exhausted }) = W2 := ⟨_,rfl⟩
   refine ⟨none,W2,?_,?_⟩
   ·have := run_endLoop (P := P) hL (by rw [hrec]; simp)
    rw [this,hW2,hrec]
   ·have hinv2 : InvH P C M' ⟨bx,ob⟩ W2 := by rw [← hW2]; exact hinv.putDead (by omega) hL trivial _
    have hD2 : W2.heap[w.heap.size]? = some (.deferred (some [])) := by rw [← hW2,World.putObj_heap_other (by omega)]; exact hD
    have hrb : Reb P C ⟨W2,cZ ⟨bx,ob⟩ W2,M',hinv2.gl hinv2.ownAllMine,markD w.heap.size :: C.ds⟩ :=
     ⟨fun _ _ _ h=>hinv2.unbase h,hinv2.size,fun b hb hl=>(hinv2.ownAllMine b hb).elim (fun h=>by omega) id,fun b hb hn=>hinv2.frame b hb hn,[w.heap.size],rfl,by simp,
      fun D hD'=>by
       have : D = w.heap.size := by simpa using hD'
       subst this
       exact ⟨hsz,(Array.getElem?_eq_some_iff.1 hD2).1,hinv2.dead_own hD2 trivial,hD2⟩⟩
    exact cu hrb (fS hrb) k .normal _ _ (hdone bx ob hI _ M' { a with defers := [markD w.heap.size] ++ a.defers } W2 ⟨⟨hi.1.1,by show [markD w.heap.size] ++ a.defers = _; rw [hi.1.2.1]; rfl,fun t=>Rep.mono hle (hi.1.2.2 t)⟩,hinv2.rebase _⟩)
section
variable {P : Program} {C : Ctx} {M : Mem} {w : World}
theorem InvH.base (hm : ∀ b o v,M b o = some v → w.cell? ⟨b,o,none⟩ = some v) (hg : Gl w []) : InvH P ⟨w,[],M,hg,[]⟩ M Heap.empty w :=
 ⟨hm,Mem.le_refl M,fun _ _ _ hm=>.inl hm,rfl,rfl,rfl,Nat.le_refl _,fun _ _ _=>rfl,fun _ _ hx=>by simp [Heap.empty] at hx,fun _ _ hx=>by simp [Heap.empty] at hx,
  fun _ _ _ _ hx=>by simp [Heap.empty] at hx,fun _ _ _ _ _ hx=>by simp [Heap.empty] at hx,fun _ _ _ _ hx=>by simp [Heap.empty] at hx⟩
end
section
variable {P : Program} {ops : Array Oper} {rest : List Oper} {o : Oper} {n : Nat} {s s' : Nat → PV} {bx : Nat → Option Box} {ob : Nat → Option Obj} {K : PState → Prop} {T : TT}
theorem Ao.sub3 (hT : T.Ok P) (hg : ap ops s o = some true) {t : TypeId} {x lo hi mx : Operand} (ho : o.op = .slice t x (some lo) (some hi) (some mx)) {ti : TInfo} {e : TypeId} (hti : T.get t = some ti) (hd : ti.desc = .slice e)
  {rows : List (List PV)} (hx : evS s x = .list e rows) {k1 k2 k3 : IntKind} {a b : Int} (ha : evS s lo = .val (.int k1 a)) (hb : evS s hi = .val (.int k2 b)) (hc : evS s mx = .val (.int k3 b)) (hab : 0 ≤ a ∧ a ≤ b ∧ b ≤ rows.length)
  {rows' : List (List PV)} (hr : (rows.take b.toNat).drop a.toNat = rows') (hp : putD n s o.dst (.list e rows') = some s') (h : Ao P ops rest ⟨n,s',bx,ob⟩ K) : Ao P ops (o :: rest) ⟨n,s,bx,ob⟩ K := by
 subst hr
 refine cR hg (fun C M act w next Q hinv he hn=>?_)
 have hxr := he x (by rw [ho]; simp [Op.operands])
 have har := he lo (by rw [ho]; simp [Op.operands])
 have hbr := he hi (by rw [ho]; simp [Op.operands])
 have hcr := he mx (by rw [ho]; simp [Op.operands])
 rw [show (⟨n,s,bx,ob⟩ : PState).s = s from rfl] at hxr har hbr hcr
 rw [hx] at hxr
 rw [ha] at har
 rw [hb] at hbr
 rw [hc] at hcr
 simp only [Rep] at hxr har hbr hcr
 obtain ⟨ad,c,i,hv,hlc,hcm,hinf,hby,hrows⟩ := hxr
 have hu := (hT.get hti).rund w
 rw [hd] at hu
 have sb : ∀ (k : IntKind) (n : Int) (y : Nat) (c : BoundsCode),0 ≤ n → n ≤ y → (Instr.sliceBound (.int k n) y c).run P w = .ok n.toNat w := by
  intro k n y c h0 hy
  simp [Instr.sliceBound,asIntOf,h0,hy]
 have hbs : (Instr.sliceBounds true rows.length c (some (.int k1 a)) (some (.int k2 b)) (some (.int k3 b))).run P w = .ok (a.toNat,b.toNat,b.toNat) w := by
  have b1 := sb k3 b c .slice3Acap (by omega) (by omega)
  have b2 := sb k2 b b.toNat .slice3B (by omega) (by omega)
  have b3 := sb k1 a b.toNat .slice3C hab.1 (by omega)
  simp [Instr.sliceBounds,b1,b2,b3]
 have hsz : (sizeOf e).run P w = .ok i.size w := by simp [sizeOf,typeInfo,hinf]
 have hlen : ((rows.take b.toNat).drop a.toNat).length = b.toNat - a.toNat := by simp; omega
 have hrun : (execOp act.eval o).run P w = .ok (.value (.slice (if b.toNat = a.toNat then ad else ad.map (·.add (a.toNat * i.size))) (b.toNat - a.toNat) (b.toNat - a.toNat))) w := by
  simp [execOp,ho,hv,har,hbr,hcr,Instr.sliceAt,Instr.slice,hu,hbs,hsz]
 unfold Oper.wp
 rw [hrun]
 refine hn _ (.list e ((rows.take b.toNat).drop a.toNat)) ⟨bx,ob⟩ M w ⟨s',hp,h⟩ (Mem.le_refl M) hinv ?_
 simp only [Rep]
 refine ⟨_,_,i,by rw [hlen],by rw [hlen]; omega,by omega,hinf,?_,fun hne=>?_⟩
 ·rw [hlen]
  exact Nat.le_trans (Nat.mul_le_mul_right _ (by omega)) hby
 ·have hr0 : rows ≠ [] := by rintro rfl; simp at hne
  obtain ⟨bb,oo,rfl,hrr⟩ := hrows hr0
  have hlt : a.toNat < b.toNat := by
   rcases Nat.lt_or_ge a.toNat b.toNat with h | h
   ·exact h
   ·exfalso; apply hne; apply List.eq_nil_of_length_eq_zero; omega
  refine ⟨bb,oo + a.toNat * i.size,?_,(hrr.take _).drop _⟩
  rw [zy (by omega)]
  simp [bD]
end
def noB : Nat → Option Box := fun _=>none
def noO : Nat → Option Obj := fun _=>none
def QN (P : Program) (J : Nat → Mem → World → Prop) (n : Nat) (Q : Act → World → Prop) (j : Nat) (s : Nat → PV) : Prop := ∀ M a w,cn P [] M n s a → J j M w → Q a w
def VI (P : Program) (J : Nat → Mem → World → Prop) (n : Nat) (Q : Exit → Act → World → Prop) (c : Code) (j : Nat) (s : Nat → PV) : Prop := QN P J n (c.wpIn Fence.wide 0 P Q) j s
section
variable {P : Program} {J : Nat → Mem → World → Prop} {n j : Nat} {Q : Exit → Act → World → Prop} {s : Nat → PV} {l : Nat} {xs : List PV}
theorem cn.weak {ds : List Deferred} {M : Mem} {s' : Nat → PV} {a : Act} (hs : cn P ds M n s a) (h : SLe P s s') : cn P ds M n s' a := ⟨hs.1,hs.2.1,fun t=>h t M _ (hs.2.2 t)⟩
theorem VI.weak {c : Code} {s' : Nat → PV} (h : SLe P s s') (hv : VI P J n Q c j s') : VI P J n Q c j s := fun M a w hs hj=>hv M a w (hs.weak h) hj
theorem VI.skip (h : QN P J n (Q .normal) j s) : VI P J n Q .skip j s := fun M a w hs hj=>wpIn_skip (h M a w hs hj)
theorem VI.exit {id : Nat} (h : QN P J n (Q (.exit id)) j s) : VI P J n Q (.exit id) j s := fun M a w hs hj=>wpIn_exit (h M a w hs hj)
theorem VI.seq {x y : Code} (h : VI P J n (Exit.then (fun a w=>y.wpIn Fence.wide 0 P Q a w) Q) x j s) : VI P J n Q (.seq x y) j s := fun M a w hs hj=>wpIn_seq (h M a w hs hj)
theorem VI.block {id : Nat} {c : Code} (h : VI P J n (Exit.inBlock id Q) c j s) : VI P J n Q (.block id c) j s := fun M a w hs hj=>wpIn_block (h M a w hs hj)
theorem VI.cond {c : Operand} {x y : Code} {b : Bool} (hc : evS s c = .val (.bool b)) (h : VI P J n Q (if b then x else y) j s) : VI P J n Q (.cond c x y) j s := fun M a w hs hj=>by
 have := hs.ev c
 rw [hc] at this
 simp only [Rep] at this
 exact wpIn_cond this (h M a w hs hj)
theorem VI.region (hJ : JOk P J) {id : Nat} {ops : Array Oper} (hd : ops.toList.all dr = true) (h : Ao P ops ops.toList ⟨n,s,noB,noO⟩ fun st'=>st'.n = n ∧ (st'.bx = noB ∧ st'.ob = noO) ∧ QN P J n (Q .normal) j st'.s) : VI P J n Q (.region id ops false) j s := fun M a w hs hj=>by
 have hg := hJ.gl j M w hj
 have := h.inn (rest := []) (Q := Q) (ro := none) hd (C := ⟨w,[],M,hg,[]⟩) (M := M) (a := a) (w := w) ⟨hs,InvH.base (hJ.mem j M w hj) hg⟩ (fun st' M' a' w' ⟨h1,⟨h2,h3⟩,h4⟩ hi'=>by
  obtain ⟨n',s',bx',ob'⟩ := st'
  simp only at h1 h2 h3 h4
  subst h1 h2 h3
  exact h4 M' a' w' hi'.1 (hJ.grow j M M' w w' hg hj hi'.2))
 rw [List.append_nil] at this
 exact wpIn_region_list this
theorem VI.draw (hJ : JOk P J) {T : TT} (hT : T.Ok P) (hmix : P.follows .mixedOrders = true) (rb : RB) (L : List Nat) {id : Nat} {ops : Array Oper} (hL : L.length = ops.size)
  (hok : drawOk rb ops L = true) (hal : (ops.toList.all fun o=>match o.op with | .alloc t=>(match o.dst with | some d=>Nat.blt d n && (noB d).isNone && (T.get t).isSome | none=>false) | _=>true) = true)
  (h : Do P T rb ops L ⟨n,s,noB,noO⟩ fun st'=>st'.n = n ∧ (st'.bx = noB ∧ st'.ob = noO) ∧ QN P J n (Q .normal) j st'.s) : VI P J n Q (.region id ops true) j s := fun M a w hs hj=>by
 have hg := hJ.gl j M w hj
 refine wpIn_wide.2 (draw_wp hT hmix rb L hL hok hal h (C := ⟨w,[],M,hg,[]⟩) (M := M) (a := a) (w := w) ⟨hs,InvH.base (hJ.mem j M w hj) hg⟩ fun st' M' a' w' ⟨h1,⟨h2,h3⟩,h4⟩ hi'=>?_)
 obtain ⟨n',s',bx',ob'⟩ := st'
 simp only at h1 h2 h3 h4
 subst h1 h2 h3
 exact h4 M' a' w' hi'.1 (hJ.grow j M M' w w' hg hj hi'.2)
theorem VI.yield (hJ : JOk P J) (hR : RoundOk P J l xs) {id : Nat} {ops : Array Oper} (pre : List Oper) (o : Oper) (post : List Oper) (hl : ops.toList = pre ++ o :: post) (hd : pre.all dr = true) (hd2 : post.all dr = true)
  {fx y : Operand} {ts : Array TypeId} (ho : o.op = .call { callee := .value fx,args := #[y],argTypes := ts }) {x : PV} (hx : xs[j]? = some x)
  (h : Ao P ops pre ⟨n,s,noB,noO⟩ fun st'=>st'.n = n ∧ (st'.bx = noB ∧ st'.ob = noO) ∧ ap ops st'.s o = some true ∧ evS st'.s fx = .val (.func (.yield l) #[] #[]) ∧ evS st'.s y = x ∧
   ∃ s',putD n st'.s o.dst (.val (.bool true)) = some s' ∧ Ao P ops post ⟨n,s',noB,noO⟩ fun st'=>st'.n = n ∧ (st'.bx = noB ∧ st'.ob = noO) ∧ QN P J n (Q .normal) (j + 1) st'.s) : VI P J n Q (.region id ops false) j s := fun M a w hs hj=>by
 have hg := hJ.gl j M w hj
 refine wpIn_region_list ?_
 rw [hl]
 refine h.inn (Q := Q) (ro := none) hd (C := ⟨w,[],M,hg,[]⟩) (M := M) (a := a) (w := w) ⟨hs,InvH.base (hJ.mem j M w hj) hg⟩ (fun st' M' a' w' ⟨h1,⟨h2,h3⟩,hgd,hf,hy,s',hp,hpost⟩ hi'=>?_)
 obtain ⟨n',s1,bx',ob'⟩ := st'
 simp only at h1 h2 h3 hgd hf hy hp
 subst h1 h2 h3
 have hj' := hJ.grow j M M' w w' hg hj hi'.2
 have hs1 : cn P [] M' n' s1 a' := hi'.1
 have hfr := hs1.ev fx
 rw [hf] at hfr
 simp only [Rep] at hfr
 have hyr := hs1.ev y
 rw [hy] at hyr
 obtain ⟨fn,tmps,assign,body,hrun,hround⟩ := hR j x (a'.eval y) M' w' hx hyr hj'
 simp only [wpListIn]
 rw [zp (dY hs1 hgd)]
 refine ⟨fun _ _=>trivial,?_⟩
 have hex : (o.semAt (Fr none).round a'.eval).run P w' = .ok (.round l fn tmps assign body) w' := by
  rw [show (Fr none).round = none from rfl,Oper.semAt_none]
  simp [execOp,ho,resolve,hfr,Deferred.ofValue,invoke,hrun]
 rw [hex,Oper.uponIn_round]
 refine ⟨fun h=>by simp [Fence.wide,Fr] at h,RoundIn.mono hround fun e w2 he=>?_⟩
 obtain ⟨rfl,M2,hle,hj2⟩ := he
 have hs2 : cn P [] M2 n' s' (a'.put o.dst (.bool true)) := (hs1.mono hle).putD hp (by simp [Rep])
 have hg2 := hJ.gl _ M2 w2 hj2
 have := hpost.inn (rest := []) (Q := Q) (ro := none) hd2 (C := ⟨w2,[],M2,hg2,[]⟩) (M := M2) (a := a'.put o.dst (.bool true)) (w := w2) ⟨hs2,InvH.base (hJ.mem _ M2 w2 hj2) hg2⟩ (fun st' M' a' w' ⟨h1,⟨h2,h3⟩,h4⟩ hi'=>by
  obtain ⟨n',s',bx',ob'⟩ := st'
  simp only at h1 h2 h3 h4
  subst h1 h2 h3
  exact h4 M' a' w' hi'.1 (hJ.grow _ M2 M' w2 w' hg2 hj2 hi'.2))
 rw [List.append_nil] at this
 exact this
theorem VI.loop {c : Code} (I : Nat → Nat → (Nat → PV) → Prop) {m : Nat} (h0 : I m j s) (round : ∀ m j s,I m j s → VI P J n (Exit.then (fun a w=>∃ m',m' < m ∧ ∃ j s M,I m' j s ∧ cn P [] M n s a ∧ J j M w) Q) c j s) : VI P J n Q (.loop c) j s := fun M a w hs hj=>by
 refine wpIn_wide.2 (wp_loop_by (fun m a w=>∃ j s M,I m j s ∧ cn P [] M n s a ∧ J j M w) ⟨j,s,M,h0,hs,hj⟩ ?_)
 rintro m a w ⟨j,s,M,hI,hs,hj⟩
 exact wpIn_wide.1 (round m j s hI M a w hs hj)
theorem SeqP.of {P : Program} {gf : FuncId} {fn : Func} {c : Code} (hf : P.funcs[gf]? = some fn) (hb : fn.body = some c) (hres : fn.results = #[]) {nt : Nat} (hn : fn.ntmps = nt) {caps xs : List PV} (hargs : Nat.ble (caps.length + 1) nt = true)
  (h : ∀ l J,JOk P J → RoundOk P J l xs → VI P J nt (fun e a w=>(e = .normal ∨ e = .ret) ∧ a.defers = [] ∧ ∃ M',J xs.length M' w) c 0 (initS (.val (.func (.yield l) #[] #[]) :: caps))) : SeqP P gf caps xs := by
 intro w M lb hlb l J hJ hR h0
 have hle := Nat.le_of_ble_eq_true hargs
 have hl := hlb.length
 obtain ⟨vs,hvs⟩ : ∃ vs : Array Value,vs = (#[Value.func (.yield l) #[] #[]] : Array Value) ++ lb := ⟨_,rfl⟩
 have hall : ac P M true (.val (.func (.yield l) #[] #[]) :: caps) vs.toList := by
  rw [hvs]
  simp only [ac]
  exact ⟨.func (.yield l) #[] #[],lb.toList,by simp,by simp [Rep],hlb⟩
 rw [← hvs]
 refine calls_of_wp hf hb (wp_mono (wpIn_wide.1 (h l J hJ hR M _ w ⟨?_,rfl,fun t=>?_⟩ h0)) fun e a w he=>?_)
 ·have := hall.length
  simp at this ⊢
  omega
 ·simp only [initS]
  cases hp : (PV.val (.func (.yield l) #[] #[]) :: caps)[t]? with
  | none=>simp [Rep]
  | some p =>
   obtain ⟨x,hx,hr⟩ := hall.get t p hp
   have hlt : t < vs.size := by
    have := (zg.1 hx).1
    simpa using this
   have : (vs ++ Array.replicate (fn.ntmps - vs.size) undef)[t]? = some x := by
    rw [Array.getElem?_append_left hlt,← Array.getElem?_toList]
    exact hx
   simpa [this] using hr
 ·obtain ⟨he1,hd,M',hj⟩ := he
  have hr : (results fn a.tmps).run P w = .ok (.tuple #[]) w := by
   rw [eN hres]
   simp
  rcases he1 with rfl | rfl
  ·exact ⟨hd,_,hr,⟨_,rfl⟩,M',hj⟩
  ·exact ⟨hd,_,hr,⟨_,rfl⟩,M',hj⟩
end
end
end Go.Ab

namespace Go.Proofs.YtnnieenoapkefaaGreatDoor
noncomputable section
open Go Go.Ab
attribute [local irreducible] V Ao Do Gh Eff PH IntKind.wrap
set_option maxRecDepth 4000
def aP (rA : Rq) (c0 : Int) : Bool :=
 (decide (c0 ≥ (rA.length : Int)))
theorem fE (rA : Rq) (c0 : Int) :
  bl Tryz.prog 40 [(.list 48 (rA.map aa)),(.ptr [(af c0)])] (bB (aP rA c0)) := by
 obtain ⟨r,H⟩ : ∃ r,aP rA c0 = r := ⟨_,rfl⟩
 rw [H]
 unfold aP at H
 refine PH.aL Tryz.func40 Tryz.ntmps40 ?_
 refine ao 1 tk rfl (ae (ah (al 2 tk rfl (aK tk (zl _) ?_))))
 refine al 2 tk rfl (ak ?_)
 exact ii tk H rfl
def be (sA : Rz) (f : Rq → Option (Bool)) : Option (Int) :=
 ag (aI (σ := Unit) (ρ := (Int)) (fun (j1 : Nat) (x1 : Rq) (_ : Unit) =>
  ag (f x1) fun x16 =>
  cond x16
   (some (.ret (j1 : Int)))
   (some (.next ()))) 0 sA ()) fun fl1=>fl1.thenR fun (_ : Unit) =>
 some (-1)
theorem dw {g_f : FuncId} {caps_f : List PV} (sA : Rz) (f : Rq → Option (Bool)) (hg_f : ∀ (vs : Array Value) (w : World),(callFunc g_f vs).run Tryz.prog w = .ok (.enter g_f vs) w) (hp_f : ∀ a0 r,f a0 = some r → bl Tryz.prog g_f ((.list 48 (a0.map aa)) :: caps_f) (bB r)) (r : Int) (H : be sA f = some r) :
  bl Tryz.prog 39 [(.list 51 (sA.map (ab 48 aa))),(.fn g_f caps_f)] (af r) := by
 unfold be at H
 refine PH.aL Tryz.func39 Tryz.ntmps39 ?_
 refine ao 1 tk rfl (ae (ae (ah (ay tk rfl (aK tk (zl _) ?_)))))
 refine ay tk rfl (ak ?_)
 refine gJ tk 8 7 0 (fun s1 g1=>upd (fun _=>.any) 1 (.fn g_f caps_f)) nB nO () H (fun fl1 Hp1 j1 s1 g1 hz1 hl1 x1 fb1 hx1 H hg1=>?_) (fun s1 g1 H=>?_)
 ·refine ae (aA (ao 2 tk rfl (ae (ah (al 3 tk rfl ?_)))))
  refine db tk (zn j1) (de (fun _=>rfl) hx1) ?_
  refine ay tk rfl ?_
  obtain ⟨x16,h16,H⟩ := ar H
  refine bM hg_f (cJ.r) (hp_f _ _ h16) ?_
  refine ak ?_
  refine aU rfl H (fun H=>?_) (fun H=>?_)
  ·refine ao 2 tk rfl ?_
   obtain rfl := aq H
   have e1 : fl1 = .ret _ := hg1
   subst e1
   obtain rfl := bC Hp1
   refine cb tk rfl (ps := [(af (j1 : Int))]) ⟨_,_,rfl,rfl,rfl⟩ (PLe.q rfl)
  refine av (bv (bJ 2 tk rfl ?_))
  exact eJ () H hl1 hg1
 refine ao 1 tk rfl ?_
 exact cE tk H rfl
theorem clone_24 {m : Nat} (xs : Rz) : fw Tryz.prog 24 [.list 51 (xs.map (ab 48 aa))] (OwnR m 51 (xs.map (ab 48 aa))) := by
 refine PH.aL Tryz.func24 Tryz.ntmps24 ?_
 refine ia tk 0 rfl rfl (fun hz hb=>?_)
 refine ao 1 tk rfl (ae (ae (ah (ay tk rfl ?_))))
 refine ig tk rfl rfl rfl rfl rfl rfl rfl (fun b hn=>?_)
 refine ak ?_
 refine gd rfl (fun h=>?_) (fun h=>?_)
 ·refine ao 1 tk rfl (hO tk 2 902 (e := 51) rfl rfl ?_)
  refine hM tk rfl rfl rfl rfl (hn h).symm
 ·refine av (ae (ah ?_))
  refine iq (rows' := []) tk rfl rfl rfl rfl rfl rfl rfl rfl rfl (dL.refl _) fun g=>?_
  refine ay tk rfl ?_
  refine dV (rows2' := xs.map (ab 48 aa)) (rows' := xs.map (ab 48 aa)) tk rfl rfl rfl rfl rfl rfl rfl rfl rfl rfl rfl rfl rfl (eh.refl _) (by simpa using hb) (by simpa using hz) rfl fun g'=>?_
  refine ay tk rfl (ak ?_)
  refine hM tk rfl rfl rfl rfl rfl
def aH (data : Rz) (a : Int) (b : Int) (cmp : Rq → Rq → Option (Int)) : Option (Rz) :=
 ag (bT (σ := Rz × Int) (ρ := Empty) (fun (s1 : Rz × Int) =>
  cond (decide (s1.2 < b))
   (ag (bT (σ := Rz × Int) (ρ := Empty) (fun (s22 : Rz × Int) =>
    ag (
     cond (decide (s22.2 > a))
      (ag (aZ s22.1 s22.2) fun (x25 : Rq) =>
      ag (aZ s22.1 (IntKind.i64.wrap (s22.2 - (1 : Int)))) fun (x30 : Rq) =>
      ag (cmp x25 x30) fun x32 =>
      some (s22.1,(decide (x32 < (0 : Int)))))
      (some (s22.1,false))) fun (t29 : Rz × Bool) =>
    cond t29.2
     (ag (aZ t29.1 (IntKind.i64.wrap (s22.2 - (1 : Int)))) fun (x45 : Rq) =>
     ag (aZ t29.1 s22.2) fun (x49 : Rq) =>
     ag (aZ t29.1 s22.2) fun (_ : Rq) =>
     letP (t29.1.set s22.2.toNat x45) fun (y30 : Rz) =>
     ag (aZ y30 (IntKind.i64.wrap (s22.2 - (1 : Int)))) fun (_ : Rq) =>
     letP (y30.set ((IntKind.i64.wrap (s22.2 - (1 : Int))).toNat) x49) fun (y31 : Rz) =>
     some (.next (y31,(IntKind.i64.wrap (s22.2 - (1 : Int))))))
     (some (.brk (t29.1,s22.2)))) (s1.1,s1.2)) fun fl22=>fl22.thenP fun (s22 : Rz × Int) =>
   some (.next (s22.1,(IntKind.i64.wrap (s1.2 + (1 : Int))))))
   (some (.brk (s1.1,s1.2)))) (data,(IntKind.i64.wrap (a + (1 : Int))))) fun fl1=>fl1.thenP fun (s1 : Rz × Int) =>
 some s1.1
theorem ci (g_data : OwnRef) {g_cmp : FuncId} {caps_cmp : List PV} (data : Rz) (a : Int) (b : Int) (cmp : Rq → Rq → Option (Int)) (hg_cmp : ∀ (vs : Array Value) (w : World),(callFunc g_cmp vs).run Tryz.prog w = .ok (.enter g_cmp vs) w) (hp_cmp : ∀ a0 a1 r,cmp a0 a1 = some r → bl Tryz.prog g_cmp ((.list 48 (a0.map aa)) :: (.list 48 (a1.map aa)) :: caps_cmp) (af r)) (r : Rz) (H : aH data a b cmp = some r) :
  PH Tryz.prog 58 [(.own 0 g_data (data.map (ab 48 aa)).length),(af a),(af b),(.fn g_cmp caps_cmp)] ⟨fun _=>none,upd (fun _=>none) 0 (some ⟨g_data,51,(data.map (ab 48 aa)),true⟩)⟩ (fun u H=>u = (.tup []) ∧ H = ⟨fun _=>none,upd (fun _=>none) 0 (some ⟨g_data,51,(r.map (ab 48 aa)),true⟩)⟩) := by
 unfold aH at H
 refine PH.aL Tryz.func58 Tryz.ntmps58 ?_
 refine ao 3 tk rfl ?_
 obtain ⟨fl1,H1,Hp1⟩ := ar H
 refine cS (τ := Rz × Int) (γ := Unit) (fun s1 g1=>⟨53,upd (fun _=>.any) 0 (.own 0 g_data (s1.1.map (ab 48 aa)).length),fun _=>none,upd (fun _=>none) 0 (some ⟨g_data,51,(s1.1.map (ab 48 aa)),true⟩)⟩) (fun t=>fl1 = .next t) ?_ (fun s1 g1 hn1=>?_)
 ·refine aA ?_
  refine co (fun s1 g1=>⟨53,upd (upd (upd (upd (upd (fun _=>.any) 8 (af s1.2)) 3 (.fn g_cmp caps_cmp)) 2 (af b)) 1 (af a)) 0 (.own 0 g_data (s1.1.map (ab 48 aa)).length),fun _=>none,upd (fun _=>none) 0 (some ⟨g_data,51,(s1.1.map (ab 48 aa)),true⟩)⟩) () H1 Gh.d (fun m1 s1 g1 hr1=>?_)
  obtain ⟨fb1,H,hg1⟩ := bI hr1
  refine ae (ao 3 tk rfl ?_)
  refine aU rfl H (fun H=>?_) (fun H=>?_)
  ·refine av (ae (aA (ao 2 tk rfl ?_)))
   obtain ⟨fl22,H22,Hp22⟩ := ar H
   refine cS (τ := Rz × Int) (γ := Unit) (fun s22 g22=>⟨53,upd (upd (upd (upd (upd (fun _=>.any) 8 (af s1.2)) 3 (.fn g_cmp caps_cmp)) 2 (af b)) 1 (af a)) 0 (.own 0 g_data (s22.1.map (ab 48 aa)).length),fun _=>none,upd (fun _=>none) 0 (some ⟨g_data,51,(s22.1.map (ab 48 aa)),true⟩)⟩) (fun t=>fl22 = .next t) ?_ (fun s22 g22 hn22=>?_)
   ·refine aA ?_
    refine co (fun s22 g22=>⟨53,upd (upd (upd (upd (upd (upd (fun _=>.any) 9 (af s22.2)) 8 (af s1.2)) 3 (.fn g_cmp caps_cmp)) 2 (af b)) 1 (af a)) 0 (.own 0 g_data (s22.1.map (ab 48 aa)).length),fun _=>none,upd (fun _=>none) 0 (some ⟨g_data,51,(s22.1.map (ab 48 aa)),true⟩)⟩) () H22 Gh.d (fun m22 s22 g22 hr22=>?_)
    obtain ⟨fb22,H,hg22⟩ := bI hr22
    refine ae (ae ?_)
    refine hP (γ := Unit) (fun t29 g29=>⟨53,upd (upd (upd (upd (upd (upd (upd (fun _=>.any) 34 (bB t29.2)) 9 (af s22.2)) 8 (af s1.2)) 3 (.fn g_cmp caps_cmp)) 2 (af b)) 1 (af a)) 0 (.own 0 g_data (t29.1.map (ab 48 aa)).length),fun _=>none,upd (fun _=>none) 0 (some ⟨g_data,51,(t29.1.map (ab 48 aa)),true⟩)⟩) H (fun _ H=>?_) (fun t29 g29 H=>?_)
    ·refine eE (tag := 0) rfl (fun ho0=>?_)
     refine cP tk mok ⟨false,true,[]⟩ [0,1,2,3,4,5,6,7,8,9,10,11,12,13,14,15,16] rfl (by decide +kernel) rfl (aS 4 rfl ?_)
     refine Do.sH rfl rfl rfl rfl H (fun H=>?_) (fun H=>?_)
     ·refine aS 3 rfl ?_
      obtain ⟨x25,k25,H⟩ := bN H
      refine aQ tk ⟨k25.1,(bE k25.2)⟩ (bL ho0 k25.2) ?_
      refine bw tk rfl rfl rfl rfl rfl rfl rfl rfl rfl (aW (fun _=>rfl) k25.2) rfl rfl ?_
      refine aS 3 rfl ?_
      obtain ⟨x30,k30,H⟩ := bN H
      refine aQ tk ⟨k30.1,(bE k30.2)⟩ (bL ho0 k30.2) ?_
      refine bw tk rfl rfl rfl rfl rfl rfl rfl rfl rfl (aW (fun _=>rfl) k30.2) rfl rfl ?_
      obtain ⟨x32,h32,H⟩ := ar H
      refine cI hg_cmp (cJ.r) (hp_cmp _ _ _ h32) ?_
      refine aS 2 rfl (ct ?_)
      refine br _ () (aq H) Gh.d
     refine aS 13 rfl (ct ?_)
     refine br _ () (aq H) Gh.d
    refine aU rfl H (fun H=>?_) (fun H=>?_)
    ·refine av (ae (aA ?_))
     refine eE (tag := 0) rfl (fun ho0=>?_)
     refine cP tk mok ⟨false,true,[]⟩ [0,1,2,3,4,5,6,7,8,9,10,11,12,13,14,15,16,17] rfl (by decide +kernel) rfl (aS 8 rfl ?_)
     obtain ⟨x45,k45,H⟩ := bN H
     refine aQ tk ⟨k45.1,(bE k45.2)⟩ (bL ho0 k45.2) ?_
     refine bw tk rfl rfl rfl rfl rfl rfl rfl rfl rfl (aW (fun _=>rfl) k45.2) rfl rfl ?_
     refine aS 2 rfl ?_
     obtain ⟨x49,k49,H⟩ := bN H
     refine aQ tk ⟨k49.1,(bE k49.2)⟩ (bL ho0 k49.2) ?_
     refine bw tk rfl rfl rfl rfl rfl rfl rfl rfl rfl (aW (fun _=>rfl) k49.2) rfl rfl ?_
     obtain ⟨x51,k51,H⟩ := bN H
     refine aQ tk ⟨k51.1,(bE k51.2)⟩ (bL ho0 k51.2) ?_
     obtain ⟨y30,hy30,H⟩ := letE H
     refine cL tk rfl rfl rfl rfl rfl rfl rfl rfl rfl (by rw [zl]; exact (zg.1 k51.2).1) (PLe.refl _ _) rfl rfl rfl rfl (by decide) (cK (fun _=>rfl) k51.2 rfl hy30) ?_
     obtain ⟨x52,k52,H⟩ := bN H
     refine aQ tk ⟨k52.1,(gM (bW (f := (ab 48 aa)) hy30) k52.2)⟩ (gC ho0 (bW (f := (ab 48 aa)) hy30) k52.2) ?_
     obtain ⟨y31,hy31,H⟩ := letE H
     refine cL tk rfl rfl rfl rfl rfl rfl rfl rfl rfl (by rw [zl]; exact (zg.1 k52.2).1) (PLe.refl _ _) rfl rfl rfl rfl (by decide) (cK (fun _=>rfl) k52.2 rfl hy31) ?_
     refine ct (bv (bJ 3 tk rfl ?_))
     obtain rfl := aq H
     refine bp (y31,(IntKind.i64.wrap (s22.2 - (1 : Int)))) () hg22 (Gh.le (bA (PLe.of2 (PLe2.of_eq (congrArg (PV.own 0 g_data) ((bW (f := (ab 48 aa)) hy30).trans (bW (f := (ab 48 aa)) hy31))))) (ax (ax (ax (ax (ax aY)))))) aD (aR aB))
    refine cA rfl ?_
    obtain rfl := aq H
    refine br (t29.1,s22.2) () hg22 Gh.d
   have H := bu hn22 Hp22
   refine bv (bJ 3 tk rfl ?_)
   obtain rfl := aq H
   refine bp (s22.1,(IntKind.i64.wrap (s1.2 + (1 : Int)))) () hg1 Gh.d
  refine cA rfl ?_
  obtain rfl := aq H
  refine br (s1.1,s1.2) () hg1 Gh.d
 have H := bu hn1 Hp1
 obtain rfl := aq H
 refine dl (st' := ⟨53,fun _=>.any,fun _=>none,upd (fun _=>none) 0 (some ⟨g_data,51,(s1.1.map (ab 48 aa)),true⟩)⟩) (Gh.le aY aD (aR aB)) ?_
 refine eA rfl (PLe.q rfl) ⟨rfl,rfl⟩
def aE (data : Rz) (a : Int) (b : Int) (n : Int) (_cmp : Rq → Rq → Option (Int)) : Option (Rz) :=
 ag (bT (σ := Rz × Int) (ρ := Empty) (fun (s1 : Rz × Int) =>
  cond (decide (s1.2 < n))
   (ag (aZ s1.1 (IntKind.i64.wrap (b + s1.2))) fun (x28 : Rq) =>
   ag (aZ s1.1 (IntKind.i64.wrap (a + s1.2))) fun (x34 : Rq) =>
   ag (aZ s1.1 (IntKind.i64.wrap (a + s1.2))) fun (_ : Rq) =>
   letP (s1.1.set ((IntKind.i64.wrap (a + s1.2)).toNat) x28) fun (y6 : Rz) =>
   ag (aZ y6 (IntKind.i64.wrap (b + s1.2))) fun (_ : Rq) =>
   letP (y6.set ((IntKind.i64.wrap (b + s1.2)).toNat) x34) fun (y7 : Rz) =>
   some (.next (y7,(IntKind.i64.wrap (s1.2 + (1 : Int))))))
   (some (.brk (s1.1,s1.2)))) (data,0)) fun fl1=>fl1.thenP fun (s1 : Rz × Int) =>
 some s1.1
theorem bF (g_data : OwnRef) {g_cmp : FuncId} {caps_cmp : List PV} (data : Rz) (a : Int) (b : Int) (n : Int) (cmp : Rq → Rq → Option (Int)) (_hg_cmp : ∀ (vs : Array Value) (w : World),(callFunc g_cmp vs).run Tryz.prog w = .ok (.enter g_cmp vs) w) (_hp_cmp : ∀ a0 a1 r,cmp a0 a1 = some r → bl Tryz.prog g_cmp ((.list 48 (a0.map aa)) :: (.list 48 (a1.map aa)) :: caps_cmp) (af r)) (r : Rz) (H : aE data a b n cmp = some r) :
  PH Tryz.prog 126 [(.own 0 g_data (data.map (ab 48 aa)).length),(af a),(af b),(af n),(.fn g_cmp caps_cmp)] ⟨fun _=>none,upd (fun _=>none) 0 (some ⟨g_data,51,(data.map (ab 48 aa)),true⟩)⟩ (fun u H=>u = (.tup []) ∧ H = ⟨fun _=>none,upd (fun _=>none) 0 (some ⟨g_data,51,(r.map (ab 48 aa)),true⟩)⟩) := by
 unfold aE at H
 refine PH.aL Tryz.func126 Tryz.ntmps126 ?_
 refine ao 1 tk rfl ?_
 obtain ⟨fl1,H1,Hp1⟩ := ar H
 refine cS (τ := Rz × Int) (γ := Unit) (fun s1 g1=>⟨38,upd (fun _=>.any) 0 (.own 0 g_data (s1.1.map (ab 48 aa)).length),fun _=>none,upd (fun _=>none) 0 (some ⟨g_data,51,(s1.1.map (ab 48 aa)),true⟩)⟩) (fun t=>fl1 = .next t) ?_ (fun s1 g1 hn1=>?_)
 ·refine aA ?_
  refine co (fun s1 g1=>⟨38,upd (upd (upd (upd (upd (fun _=>.any) 10 (af s1.2)) 3 (af n)) 2 (af b)) 1 (af a)) 0 (.own 0 g_data (s1.1.map (ab 48 aa)).length),fun _=>none,upd (fun _=>none) 0 (some ⟨g_data,51,(s1.1.map (ab 48 aa)),true⟩)⟩) () H1 Gh.d (fun m1 s1 g1 hr1=>?_)
  obtain ⟨fb1,H,hg1⟩ := bI hr1
  refine ae (ao 3 tk rfl ?_)
  refine aU rfl H (fun H=>?_) (fun H=>?_)
  ·refine av (ae (aA ?_))
   refine eE (tag := 0) rfl (fun ho0=>?_)
   refine cP tk mok ⟨false,true,[]⟩ [0,1,2,3,4,5,6,7,8,9,10,11,12,13,14,15,16,17,18,19,20,21,22,23] rfl (by decide +kernel) rfl (aS 12 rfl ?_)
   obtain ⟨x28,k28,H⟩ := bN H
   refine aQ tk ⟨k28.1,(bE k28.2)⟩ (bL ho0 k28.2) ?_
   refine bw tk rfl rfl rfl rfl rfl rfl rfl rfl rfl (aW (fun _=>rfl) k28.2) rfl rfl ?_
   refine aS 4 rfl ?_
   obtain ⟨x34,k34,H⟩ := bN H
   refine aQ tk ⟨k34.1,(bE k34.2)⟩ (bL ho0 k34.2) ?_
   refine bw tk rfl rfl rfl rfl rfl rfl rfl rfl rfl (aW (fun _=>rfl) k34.2) rfl rfl ?_
   obtain ⟨x36,k36,H⟩ := bN H
   refine aQ tk ⟨k36.1,(bE k36.2)⟩ (bL ho0 k36.2) ?_
   obtain ⟨y6,hy6,H⟩ := letE H
   refine cL tk rfl rfl rfl rfl rfl rfl rfl rfl rfl (by rw [zl]; exact (zg.1 k36.2).1) (PLe.refl _ _) rfl rfl rfl rfl (by decide) (cK (fun _=>rfl) k36.2 rfl hy6) ?_
   obtain ⟨x37,k37,H⟩ := bN H
   refine aQ tk ⟨k37.1,(gM (bW (f := (ab 48 aa)) hy6) k37.2)⟩ (gC ho0 (bW (f := (ab 48 aa)) hy6) k37.2) ?_
   obtain ⟨y7,hy7,H⟩ := letE H
   refine cL tk rfl rfl rfl rfl rfl rfl rfl rfl rfl (by rw [zl]; exact (zg.1 k37.2).1) (PLe.refl _ _) rfl rfl rfl rfl (by decide) (cK (fun _=>rfl) k37.2 rfl hy7) ?_
   refine ct (bv (bJ 3 tk rfl ?_))
   obtain rfl := aq H
   refine bp (y7,(IntKind.i64.wrap (s1.2 + (1 : Int)))) () hg1 (Gh.le (bA (PLe.of2 (PLe2.of_eq (congrArg (PV.own 0 g_data) ((bW (f := (ab 48 aa)) hy6).trans (bW (f := (ab 48 aa)) hy7))))) (ax (ax (ax (ax aY))))) aD (aR aB))
  refine cA rfl ?_
  obtain rfl := aq H
  refine br (s1.1,s1.2) () hg1 Gh.d
 have H := bu hn1 Hp1
 obtain rfl := aq H
 refine dl (st' := ⟨38,fun _=>.any,fun _=>none,upd (fun _=>none) 0 (some ⟨g_data,51,(s1.1.map (ab 48 aa)),true⟩)⟩) (Gh.le aY aD (aR aB)) ?_
 refine eA rfl (PLe.q rfl) ⟨rfl,rfl⟩
def cF (rA : Rq) (byA : LExtsortOrdering) : Option (Rq) :=
 ag (aI (σ := Rq) (ρ := Empty) (fun (_ : Nat) (x1 : Int) (s1 : Rq) =>
  ag (aZ rA x1) fun (x18 : LVal) =>
  ag (appI 32 s1 ([x18] : Rq)) fun (x21 : Rq) =>
  some (.next x21)) 0 byA.columns []) fun fl1=>fl1.thenP fun (s1 : Rq) =>
 some s1
theorem fQ (rA : Rq) (byA : LExtsortOrdering) (r : Rq) (H : cF rA byA = some r) :
  bl Tryz.prog 44 [(.list 48 (rA.map aa)),(.agg (az byA))] (.list 48 (r.map aa)) := by
 unfold cF at H
 refine PH.aL Tryz.func44 Tryz.ntmps44 ?_
 refine ae (ah (cM ?_))
 refine ay tk rfl (ak (ao 1 tk rfl (ae (ae (ah (al 2 tk rfl (aK tk (zl _) ?_)))))))
 refine ay tk rfl (ak (hO tk 5 21 (e := 48) rfl rfl ?_))
 refine it (γ := OwnRef) tk 11 10 9 (fun s1 g1=>upd (upd (fun _=>.any) 5 (.own 21 g1 (s1.map aa).length)) 0 (.list 48 (rA.map aa))) nB (fun s1 g1=>upd (fun _=>none) 21 (some ⟨g1,48,(s1.map aa),true⟩)) (⟨none,0⟩) H (fun fl1 Hp1 j1 s1 g1 hz1 hl1 x1 fb1 hx1 H hg1=>?_) (fun s1 g1 H=>?_)
 ·refine ae (aA (ae (ah ?_)))
  refine db tk (zn j1) (de (fun _=>rfl) hx1) ?_
  refine al 2 tk rfl (ak (ah (al 3 tk rfl ?_)))
  obtain ⟨x18,k18,H⟩ := bN H
  refine db tk k18.1 (aW (fun _=>rfl) k18.2) ?_
  refine ay tk rfl (ib tk rfl rfl rfl rfl (rows' := List.map aa ([x18] : Rq)) rfl (eh.refl _) rfl rfl ?_)
  obtain ⟨x21,h21,H⟩ := ar H
  have k21 := gq h21
  refine dV (rows2' := List.map aa ([x18] : Rq)) (rows' := List.map aa x21) tk rfl rfl rfl rfl rfl rfl rfl rfl rfl rfl rfl rfl rfl (eh.refl _) (appI_by k21.1) (appI_mx k21.2.1) (appI_eq k21.2.2) fun g21=>?_
  refine ay tk rfl (ak (bv (bJ 2 tk rfl ?_)))
  exact eJ g21 H hl1 hg1
 refine ao 2 tk rfl (fZ 4 rfl rfl rfl ?_)
 exact cE tk H rfl
def ez (a : LVal) (b : LVal) : Bool :=
 cond (a.kind != b.kind)
  ((decide (a.kind < b.kind)))
  (cond (a.int != b.int)
   ((decide (a.int < b.int)))
   ((Op.bytesLess a.text b.text)))
theorem W_expr_Less (a : LVal) (b : LVal) :
  bl Tryz.prog 60 [(.agg (aa a)),(.agg (aa b))] (bB (ez a b)) := by
 obtain ⟨r,H⟩ : ∃ r,ez a b = r := ⟨_,rfl⟩
 rw [H]
 unfold ez at H
 refine PH.aL Tryz.func60 Tryz.ntmps60 ?_
 refine ae (ah (cM ?_))
 refine cM ?_
 refine ay tk rfl (ak (ae (aA (ao 6 tk rfl ?_))))
 refine aU rfl H (fun H=>?_) (fun H=>?_)
 ·refine ao 6 tk rfl ?_
  exact ii tk H rfl
 refine ao 6 tk rfl ?_
 refine aU rfl H (fun H=>?_) (fun H=>?_)
 ·refine ao 6 tk rfl ?_
  exact ii tk H rfl
 refine av (bv (ao 6 tk rfl ?_))
 exact ii tk H rfl
def aG (s1A : Rz) (s2A : Rz) (eq : Rq → Rq → Option (Bool)) : Option (Bool) :=
 cond ((s1A.length : Int) != (s2A.length : Int))
  (some false)
  (ag (aI (σ := Unit) (ρ := (Bool)) (fun (j1 : Nat) (x1 : Rq) (_ : Unit) =>
   ag (aZ s2A (j1 : Int)) fun (x24 : Rq) =>
   ag (eq x1 x24) fun x29 =>
   cond (!x29)
    (some (.ret false))
    (some (.next ()))) 0 s1A ()) fun fl1=>fl1.thenR fun (_ : Unit) =>
  some true)
theorem cq {g_eq : FuncId} {caps_eq : List PV} (s1A : Rz) (s2A : Rz) (eq : Rq → Rq → Option (Bool)) (hg_eq : ∀ (vs : Array Value) (w : World),(callFunc g_eq vs).run Tryz.prog w = .ok (.enter g_eq vs) w) (hp_eq : ∀ a0 a1 r,eq a0 a1 = some r → bl Tryz.prog g_eq ((.list 48 (a0.map aa)) :: (.list 48 (a1.map aa)) :: caps_eq) (bB r)) (r : Bool) (H : aG s1A s2A eq = some r) :
  bl Tryz.prog 16 [(.list 51 (s1A.map (ab 48 aa))),(.list 51 (s2A.map (ab 48 aa))),(.fn g_eq caps_eq)] (bB r) := by
 unfold aG at H
 refine PH.aL Tryz.func16 Tryz.ntmps16 ?_
 refine ao 1 tk rfl (ae (ae (ah (ay tk rfl (aK tk (zl _) ?_)))))
 refine ay tk rfl (aK tk (zl _) ?_)
 refine ay tk rfl (ak ?_)
 refine aU rfl H (fun H=>?_) (fun H=>?_)
 ·refine ao 1 tk rfl ?_
  exact cE tk H rfl
 refine av (ae (ae (ah (ay tk rfl (aK tk (zl _) ?_)))))
 refine ay tk rfl (ak ?_)
 refine gJ tk 17 16 15 (fun s1 g1=>upd (upd (fun _=>.any) 2 (.fn g_eq caps_eq)) 1 (.list 51 (s2A.map (ab 48 aa)))) nB nO () H (fun fl1 Hp1 j1 s1 g1 hz1 hl1 x1 fb1 hx1 H hg1=>?_) (fun s1 g1 H=>?_)
 ·refine ae (aA (ae (ah (ay tk rfl ?_))))
  refine db tk (zn j1) (de (fun _=>rfl) hx1) ?_
  refine al 3 tk rfl (ak (ae (ah (al 2 tk rfl ?_))))
  obtain ⟨x24,k24,H⟩ := bN H
  refine db tk k24.1 (aW (fun _=>rfl) k24.2) ?_
  refine al 2 tk rfl (ak (ae (ah (al 3 tk rfl ?_))))
  obtain ⟨x29,h29,H⟩ := ar H
  refine bM hg_eq (cJ.r) (hp_eq _ _ _ h29) ?_
  refine ay tk rfl (ak ?_)
  refine aU rfl H (fun H=>?_) (fun H=>?_)
  ·refine ao 1 tk rfl ?_
   obtain rfl := aq H
   have e1 : fl1 = .ret _ := hg1
   subst e1
   obtain rfl := bC Hp1
   refine cb tk rfl (ps := [(bB false)]) ⟨_,_,rfl,rfl,rfl⟩ (PLe.q rfl)
  refine av (bv (bJ 2 tk rfl ?_))
  exact eJ () H hl1 hg1
 refine ao 1 tk rfl ?_
 exact cE tk H rfl
def aT (s1A : Rq) (s2A : Rq) : Option (Bool) :=
 cond ((s1A.length : Int) != (s2A.length : Int))
  (some false)
  (ag (aI (σ := Unit) (ρ := (Bool)) (fun (j1 : Nat) (x1 : LVal) (_ : Unit) =>
   ag (aZ s2A (j1 : Int)) fun (x22 : LVal) =>
   cond (!(x1.kind == x22.kind && (x1.int == x22.int && (x1.text == x22.text && true))))
    (some (.ret false))
    (some (.next ()))) 0 s1A ()) fun fl1=>fl1.thenR fun (_ : Unit) =>
  some true)
theorem dH (s1A : Rq) (s2A : Rq) (r : Bool) (H : aT s1A s2A = some r) :
  bl Tryz.prog 18 [(.list 48 (s1A.map aa)),(.list 48 (s2A.map aa))] (bB r) := by
 unfold aT at H
 refine PH.aL Tryz.func18 Tryz.ntmps18 ?_
 refine ao 1 tk rfl (ae (ae (ah (ay tk rfl (aK tk (zl _) ?_)))))
 refine ay tk rfl (aK tk (zl _) ?_)
 refine ay tk rfl (ak ?_)
 refine aU rfl H (fun H=>?_) (fun H=>?_)
 ·refine ao 1 tk rfl ?_
  exact cE tk H rfl
 refine av (ae (ae (ah (ay tk rfl (aK tk (zl _) ?_)))))
 refine ay tk rfl (ak ?_)
 refine gJ tk 13 12 0 (fun s1 g1=>upd (fun _=>.any) 1 (.list 48 (s2A.map aa))) nB nO () H (fun fl1 Hp1 j1 s1 g1 hz1 hl1 x1 fb1 hx1 H hg1=>?_) (fun s1 g1 H=>?_)
 ·refine ae (aA (ao 2 tk rfl (ae (cP tk mok ⟨false,false,[]⟩ [0,1,2,3,4,5,6,7,8] rfl (by decide +kernel) rfl (aS 2 rfl ?_)))))
  refine ft rfl rfl rfl rfl rfl rfl rfl (zn j1) (de (fun _=>rfl) hx1) rfl ?_
  refine aS 3 rfl ?_
  obtain ⟨x22,k22,H⟩ := bN H
  refine ft rfl rfl rfl rfl rfl rfl rfl k22.1 (aW (fun _=>rfl) k22.2) rfl ?_
  refine aS 2 rfl (ct ?_)
  refine aU rfl H (fun H=>?_) (fun H=>?_)
  ·refine ao 1 tk rfl ?_
   obtain rfl := aq H
   have e1 : fl1 = .ret _ := hg1
   subst e1
   obtain rfl := bC Hp1
   refine cb tk rfl (ps := [(bB false)]) ⟨_,_,rfl,rfl,rfl⟩ (PLe.q rfl)
  refine av (bv (bJ 2 tk rfl ?_))
  exact eJ () H hl1 hg1
 refine ao 1 tk rfl ?_
 exact cE tk H rfl
theorem clone_15 {m : Nat} (xs : Rq) : fw Tryz.prog 15 [.list 48 (xs.map aa)] (OwnR m 48 (xs.map aa)) := by
 refine PH.aL Tryz.func15 Tryz.ntmps15 ?_
 refine ia tk 0 rfl rfl (fun hz hb=>?_)
 refine ao 1 tk rfl (ae (ae (ah (ay tk rfl ?_))))
 refine ig tk rfl rfl rfl rfl rfl rfl rfl (fun b hn=>?_)
 refine ak ?_
 refine gd rfl (fun h=>?_) (fun h=>?_)
 ·refine ao 1 tk rfl (hO tk 2 902 (e := 48) rfl rfl ?_)
  refine hM tk rfl rfl rfl rfl (hn h).symm
 ·refine av (ae (ah ?_))
  refine iq (rows' := []) tk rfl rfl rfl rfl rfl rfl rfl rfl rfl (dL.refl _) fun g=>?_
  refine ay tk rfl ?_
  refine dV (rows2' := xs.map aa) (rows' := xs.map aa) tk rfl rfl rfl rfl rfl rfl rfl rfl rfl rfl rfl rfl rfl (eh.refl _) (by simpa using hb) (by simpa using hz) rfl fun g'=>?_
  refine ay tk rfl (ak ?_)
  refine hM tk rfl rfl rfl rfl rfl
def aC (sA : Rz) (f : Rq → Option (Bool)) : Option (Bool) :=
 ag (be sA f) fun x7 =>
 some (decide (x7 ≥ (0 : Int)))
theorem dg {g_f : FuncId} {caps_f : List PV} (sA : Rz) (f : Rq → Option (Bool)) (hg_f : ∀ (vs : Array Value) (w : World),(callFunc g_f vs).run Tryz.prog w = .ok (.enter g_f vs) w) (hp_f : ∀ a0 r,f a0 = some r → bl Tryz.prog g_f ((.list 48 (a0.map aa)) :: caps_f) (bB r)) (r : Bool) (H : aC sA f = some r) :
  bl Tryz.prog 20 [(.list 51 (sA.map (ab 48 aa))),(.fn g_f caps_f)] (bB r) := by
 unfold aC at H
 refine PH.aL Tryz.func20 Tryz.ntmps20 ?_
 refine ao 1 tk rfl (ae (ah (al 2 tk rfl ?_)))
 obtain ⟨x7,h7,H⟩ := ar H
 have s7 := dw sA f hg_f hp_f _ h7
 refine bM Tryz.call39 (cJ.r) s7 ?_
 refine al 2 tk rfl (ak ?_)
 exact cE tk H rfl
def aO (data : Rz) (a : Int) (m : Int) (b : Int) (cmp : Rq → Rq → Option (Int)) : Option (Rz) :=
 ag (bT (σ := Rz × Int × Int) (ρ := Empty) (fun (s1 : Rz × Int × Int) =>
  cond (s1.2.1 != s1.2.2)
   (cond (decide (s1.2.1 > s1.2.2))
    (ag (aE s1.1 (IntKind.i64.wrap (m - s1.2.1)) m s1.2.2 cmp) fun x31 =>
    ag (ce (x31.length = s1.1.length) ()) fun (_ : Unit) =>
    some (.next (x31,(IntKind.i64.wrap (s1.2.1 - s1.2.2)),s1.2.2)))
    (ag (aE s1.1 (IntKind.i64.wrap (m - s1.2.1)) (IntKind.i64.wrap ((IntKind.i64.wrap (m + s1.2.2)) - s1.2.1)) s1.2.1 cmp) fun x46 =>
    ag (ce (x46.length = s1.1.length) ()) fun (_ : Unit) =>
    some (.next (x46,s1.2.1,(IntKind.i64.wrap (s1.2.2 - s1.2.1))))))
   (some (.brk (s1.1,s1.2.1,s1.2.2)))) (data,(IntKind.i64.wrap (m - a)),(IntKind.i64.wrap (b - m)))) fun fl1=>fl1.thenP fun (s1 : Rz × Int × Int) =>
 ag (aE s1.1 (IntKind.i64.wrap (m - s1.2.1)) m s1.2.1 cmp) fun x57 =>
 ag (ce (x57.length = s1.1.length) ()) fun (_ : Unit) =>
 some x57
theorem dU (g_data : OwnRef) {g_cmp : FuncId} {caps_cmp : List PV} (data : Rz) (a : Int) (m : Int) (b : Int) (cmp : Rq → Rq → Option (Int)) (hg_cmp : ∀ (vs : Array Value) (w : World),(callFunc g_cmp vs).run Tryz.prog w = .ok (.enter g_cmp vs) w) (hp_cmp : ∀ a0 a1 r,cmp a0 a1 = some r → bl Tryz.prog g_cmp ((.list 48 (a0.map aa)) :: (.list 48 (a1.map aa)) :: caps_cmp) (af r)) (r : Rz) (H : aO data a m b cmp = some r) :
  PH Tryz.prog 92 [(.own 0 g_data (data.map (ab 48 aa)).length),(af a),(af m),(af b),(.fn g_cmp caps_cmp)] ⟨fun _=>none,upd (fun _=>none) 0 (some ⟨g_data,51,(data.map (ab 48 aa)),true⟩)⟩ (fun u H=>u = (.tup []) ∧ H = ⟨fun _=>none,upd (fun _=>none) 0 (some ⟨g_data,51,(r.map (ab 48 aa)),true⟩)⟩) := by
 unfold aO at H
 refine PH.aL Tryz.func92 Tryz.ntmps92 ?_
 refine ao 4 tk rfl (ao 4 tk rfl (ae ?_))
 obtain ⟨fl1,H1,Hp1⟩ := ar H
 refine cS (τ := Rz × Int × Int) (γ := Unit) (fun s1 g1=>⟨58,upd (upd (upd (upd (fun _=>.any) 10 (af s1.2.1)) 4 (.fn g_cmp caps_cmp)) 2 (af m)) 0 (.own 0 g_data (s1.1.map (ab 48 aa)).length),fun _=>none,upd (fun _=>none) 0 (some ⟨g_data,51,(s1.1.map (ab 48 aa)),true⟩)⟩) (fun t=>fl1 = .next t) ?_ (fun s1 g1 hn1=>?_)
 ·refine aA ?_
  refine co (fun s1 g1=>⟨58,upd (upd (upd (upd (upd (fun _=>.any) 11 (af s1.2.2)) 10 (af s1.2.1)) 4 (.fn g_cmp caps_cmp)) 2 (af m)) 0 (.own 0 g_data (s1.1.map (ab 48 aa)).length),fun _=>none,upd (fun _=>none) 0 (some ⟨g_data,51,(s1.1.map (ab 48 aa)),true⟩)⟩) () H1 Gh.d (fun m1 s1 g1 hr1=>?_)
  obtain ⟨fb1,H,hg1⟩ := bI hr1
  refine ae (ao 3 tk rfl ?_)
  refine aU rfl H (fun H=>?_) (fun H=>?_)
  ·refine av (aA (ao 3 tk rfl ?_))
   refine aU rfl H (fun H=>?_) (fun H=>?_)
   ·refine ae (ah (al 7 tk rfl ?_))
    obtain ⟨x31,h31,H⟩ := ar H
    have s31 := bF g_data s1.1 (IntKind.i64.wrap (m - s1.2.1)) m s1.2.2 cmp hg_cmp hp_cmp _ h31
    obtain ⟨_,q31_0,H⟩ := ar H
    have l31_0 := (bs q31_0).1
    have z31_0 : (List.map (ab 48 aa) s1.1).length = (List.map (ab 48 aa) x31).length := by simpa using (l31_0).symm
    refine cp (g := 126) rfl rfl rfl Tryz.call126 [] [(0,0)] rfl rfl rfl rfl (cJ.of2 (dL.cons (PLe2.own rfl) (dL.cons (PLe2.of_eq rfl) (dL.cons (PLe2.of_eq rfl) (dL.cons (PLe2.of_eq rfl) (dL.cons (PLe2.of_eq rfl) dL.nil)))))) (by rw [bX,bH,bY]; rfl) s31 ?_
    rintro u31 H31h ⟨rfl,rfl⟩
    refine ⟨_,rfl,?_⟩
    refine cW (st' := ⟨_,_,fun _=>none,upd (fun _=>none) 0 (some ⟨g_data,51,(x31.map (ab 48 aa)),true⟩)⟩) (Gh.le (bV _ _) aD (aR aB)) ?_
    refine ak (bJ 4 tk rfl (bv ?_))
    obtain rfl := aq H
    refine bp (x31,(IntKind.i64.wrap (s1.2.1 - s1.2.2)),s1.2.2) () hg1 (Gh.le (bA (PLe.of2 (PLe2.of_eq (congrArg (PV.own 0 g_data) z31_0))) (ax (ax (ax (ax aY))))) aD (aR aB))
   refine ae (ah (al 11 tk rfl ?_))
   obtain ⟨x46,h46,H⟩ := ar H
   have s46 := bF g_data s1.1 (IntKind.i64.wrap (m - s1.2.1)) (IntKind.i64.wrap ((IntKind.i64.wrap (m + s1.2.2)) - s1.2.1)) s1.2.1 cmp hg_cmp hp_cmp _ h46
   obtain ⟨_,q46_0,H⟩ := ar H
   have l46_0 := (bs q46_0).1
   have z46_0 : (List.map (ab 48 aa) s1.1).length = (List.map (ab 48 aa) x46).length := by simpa using (l46_0).symm
   refine cp (g := 126) rfl rfl rfl Tryz.call126 [] [(0,0)] rfl rfl rfl rfl (cJ.of2 (dL.cons (PLe2.own rfl) (dL.cons (PLe2.of_eq rfl) (dL.cons (PLe2.of_eq rfl) (dL.cons (PLe2.of_eq rfl) (dL.cons (PLe2.of_eq rfl) dL.nil)))))) (by rw [bX,bH,bY]; rfl) s46 ?_
   rintro u46 H46h ⟨rfl,rfl⟩
   refine ⟨_,rfl,?_⟩
   refine cW (st' := ⟨_,_,fun _=>none,upd (fun _=>none) 0 (some ⟨g_data,51,(x46.map (ab 48 aa)),true⟩)⟩) (Gh.le (bV _ _) aD (aR aB)) ?_
   refine ak (bJ 4 tk rfl (bv ?_))
   obtain rfl := aq H
   refine bp (x46,s1.2.1,(IntKind.i64.wrap (s1.2.2 - s1.2.1))) () hg1 (Gh.le (bA (PLe.of2 (PLe2.of_eq (congrArg (PV.own 0 g_data) z46_0))) (ax (ax (ax (ax aY))))) aD (aR aB))
  refine cA rfl ?_
  obtain rfl := aq H
  refine br (s1.1,s1.2.1,s1.2.2) () hg1 Gh.d
 have H := bu hn1 Hp1
 refine ah (al 7 tk rfl ?_)
 obtain ⟨x57,h57,H⟩ := ar H
 have s57 := bF g_data s1.1 (IntKind.i64.wrap (m - s1.2.1)) m s1.2.1 cmp hg_cmp hp_cmp _ h57
 obtain ⟨_,q57_0,H⟩ := ar H
 have l57_0 := (bs q57_0).1
 have z57_0 : (List.map (ab 48 aa) s1.1).length = (List.map (ab 48 aa) x57).length := by simpa using (l57_0).symm
 refine cp (g := 126) rfl rfl rfl Tryz.call126 [] [(0,0)] rfl rfl rfl rfl (cJ.of2 (dL.cons (PLe2.own rfl) (dL.cons (PLe2.of_eq rfl) (dL.cons (PLe2.of_eq rfl) (dL.cons (PLe2.of_eq rfl) (dL.cons (PLe2.of_eq rfl) dL.nil)))))) (by rw [bX,bH,bY]; rfl) s57 ?_
 rintro u57 H57h ⟨rfl,rfl⟩
 refine ⟨_,rfl,?_⟩
 refine cW (st' := ⟨_,_,fun _=>none,upd (fun _=>none) 0 (some ⟨g_data,51,(x57.map (ab 48 aa)),true⟩)⟩) (Gh.le (bV _ _) aD (aR aB)) ?_
 refine ak ?_
 obtain rfl := aq H
 refine dl (st' := ⟨58,fun _=>.any,fun _=>none,upd (fun _=>none) 0 (some ⟨g_data,51,(x57.map (ab 48 aa)),true⟩)⟩) (Gh.le aY aD (aR aB)) ?_
 refine eA rfl (PLe.q rfl) ⟨rfl,rfl⟩
def cd (a : Rq) (b : Rq) (downs : List Bool) : Option (Int) :=
 ag (aI (σ := Unit) (ρ := (Int)) (fun (j1 : Nat) (x1 : LVal) (_ : Unit) =>
  ag (
   cond (decide ((j1 : Int) ≥ (b.length : Int)))
    (some true)
    (ag (aZ b (j1 : Int)) fun (x25 : LVal) =>
    some (x1.kind == x25.kind && (x1.int == x25.int && (x1.text == x25.text && true))))) fun (t3 : Bool) =>
  cond t3
   (some (.next ()))
   (ag (aZ b (j1 : Int)) fun (x35 : LVal) =>
   letP (ez x1 x35) fun x37 =>
   cond (decide ((j1 : Int) < (downs.length : Int)))
    (ag (aZ downs (j1 : Int)) fun (x45 : Bool) =>
    cond x45
     (cond (!x37)
      (some (.ret (-1)))
      (some (.ret 1)))
     (cond x37
      (some (.ret (-1)))
      (some (.ret 1))))
    (cond x37
     (some (.ret (-1)))
     (some (.ret 1))))) 0 a ()) fun fl1=>fl1.thenR fun (_ : Unit) =>
 some 0
theorem fR (a : Rq) (b : Rq) (downs : List Bool) (r : Int) (H : cd a b downs = some r) :
  bl Tryz.prog 43 [(.list 48 (a.map aa)),(.list 48 (b.map aa)),(.list 4 (downs.map rBool))] (af r) := by
 unfold cd at H
 refine PH.aL Tryz.func43 Tryz.ntmps43 ?_
 refine ao 1 tk rfl (ae (ae (ah (ay tk rfl (aK tk (zl _) ?_)))))
 refine ay tk rfl (ak ?_)
 refine gJ tk 11 10 0 (fun s1 g1=>upd (upd (fun _=>.any) 2 (.list 4 (downs.map rBool))) 1 (.list 48 (b.map aa))) nB nO () H (fun fl1 Hp1 j1 s1 g1 hz1 hl1 x1 fb1 hx1 H hg1=>?_) (fun s1 g1 H=>?_)
 ·refine ae (aA (ao 2 tk rfl (ae (ae ?_))))
  refine hP (γ := Unit) (fun t3 g3=>⟨52,upd (upd (upd (upd (upd (upd (upd (fun _=>.any) 28 (bB t3)) 11 (af (j1 : Int))) 10 (af (a.length : Int))) 7 (af (j1 : Int))) 2 (.list 4 (downs.map rBool))) 1 (.list 48 (b.map aa))) 0 (.list 48 (a.map aa)),fun _=>none,fun _=>none⟩) H (fun _ H=>?_) (fun t3 g3 H=>?_)
  ·refine cP tk mok ⟨false,false,[]⟩ [0,1,2,3,4,5,6,7,8,9,10,11,12,13,14] rfl (by decide +kernel) rfl (aS 2 rfl (il rfl rfl rfl rfl rfl rfl (zl _) rfl (aS 2 rfl ?_)))
   refine Do.sH rfl rfl rfl rfl H (fun H=>?_) (fun H=>?_)
   ·refine aS 10 rfl (ct ?_)
    refine br _ () (aq H) Gh.d
   refine aS 2 rfl ?_
   refine ft rfl rfl rfl rfl rfl rfl rfl (zn j1) (de (fun _=>rfl) hx1) rfl ?_
   refine aS 3 rfl ?_
   obtain ⟨x25,k25,H⟩ := bN H
   refine ft rfl rfl rfl rfl rfl rfl rfl k25.1 (aW (fun _=>rfl) k25.2) rfl ?_
   refine aS 3 rfl (ct ?_)
   refine br _ () (aq H) Gh.d
  refine aU rfl H (fun H=>?_) (fun H=>?_)
  ·refine cA rfl (bJ 2 tk rfl ?_)
   exact eJ () H hl1 hg1
  refine av (ae (cP tk mok ⟨false,false,[]⟩ [0,1,2,3,4,5,6,7,8,9] rfl (by decide +kernel) rfl (aS 2 rfl ?_)))
  refine ft rfl rfl rfl rfl rfl rfl rfl (zn j1) (de (fun _=>rfl) hx1) rfl ?_
  refine aS 3 rfl ?_
  obtain ⟨x35,k35,H⟩ := bN H
  refine ft rfl rfl rfl rfl rfl rfl rfl k35.1 (aW (fun _=>rfl) k35.2) rfl ?_
  refine hZ rfl ?_
  obtain ⟨x37,h37,H⟩ := letE H
  have s37 := W_expr_Less x1 x35
  rw [h37] at s37
  refine cI Tryz.call60 (cJ.r) s37 ?_
  refine hZ rfl (ct (ae (ae (ah (al 2 tk rfl (aK tk (zl _) ?_))))))
  refine al 2 tk rfl ?_
  refine dG rfl rfl rfl H (fun H=>?_) (fun H=>?_)
  ·refine al 2 tk rfl ?_
   obtain ⟨x45,k45,H⟩ := bN H
   refine db tk k45.1 (aW (fun _=>rfl) k45.2) ?_
   refine al 2 tk rfl (ak ?_)
   refine aU rfl H (fun H=>?_) (fun H=>?_)
   ·refine bJ 3 tk rfl (ae (ao 1 tk rfl ?_))
    refine aU rfl H (fun H=>?_) (fun H=>?_)
    ·refine ao 1 tk rfl ?_
     obtain rfl := aq H
     have e1 : fl1 = .ret _ := hg1
     subst e1
     obtain rfl := bC Hp1
     refine cb tk rfl (ps := [(af (-1))]) ⟨_,_,rfl,rfl,rfl⟩ (PLe.q rfl)
    refine av (ao 1 tk rfl ?_)
    obtain rfl := aq H
    have e1 : fl1 = .ret _ := hg1
    subst e1
    obtain rfl := bC Hp1
    refine cb tk rfl (ps := [(af 1)]) ⟨_,_,rfl,rfl,rfl⟩ (PLe.q rfl)
   refine av (ae (ao 1 tk rfl ?_))
   refine aU rfl H (fun H=>?_) (fun H=>?_)
   ·refine ao 1 tk rfl ?_
    obtain rfl := aq H
    have e1 : fl1 = .ret _ := hg1
    subst e1
    obtain rfl := bC Hp1
    refine cb tk rfl (ps := [(af (-1))]) ⟨_,_,rfl,rfl,rfl⟩ (PLe.q rfl)
   refine av (ao 1 tk rfl ?_)
   obtain rfl := aq H
   have e1 : fl1 = .ret _ := hg1
   subst e1
   obtain rfl := bC Hp1
   refine cb tk rfl (ps := [(af 1)]) ⟨_,_,rfl,rfl,rfl⟩ (PLe.q rfl)
  refine al 5 tk rfl (ak (hX rfl (av (ae (ao 1 tk rfl ?_)))))
  refine aU rfl H (fun H=>?_) (fun H=>?_)
  ·refine ao 1 tk rfl ?_
   obtain rfl := aq H
   have e1 : fl1 = .ret _ := hg1
   subst e1
   obtain rfl := bC Hp1
   refine cb tk rfl (ps := [(af (-1))]) ⟨_,_,rfl,rfl,rfl⟩ (PLe.q rfl)
  refine av (ao 1 tk rfl ?_)
  obtain rfl := aq H
  have e1 : fl1 = .ret _ := hg1
  subst e1
  obtain rfl := bC Hp1
  refine cb tk rfl (ps := [(af 1)]) ⟨_,_,rfl,rfl,rfl⟩ (PLe.q rfl)
 refine ao 1 tk rfl ?_
 exact cE tk H rfl
def bn (x : Rq) (y : Rq) : Option (Bool) :=
 ag (aT x y) fun x7 =>
 some x7
theorem fm (x : Rq) (y : Rq) (r : Bool) (H : bn x y = some r) :
  bl Tryz.prog 17 [(.list 48 (x.map aa)),(.list 48 (y.map aa))] (bB r) := by
 unfold bn at H
 refine PH.aL Tryz.func17 Tryz.ntmps17 ?_
 refine ao 1 tk rfl (ae (ah (al 2 tk rfl ?_)))
 obtain ⟨x7,h7,H⟩ := ar H
 have s7 := dH x y _ h7
 refine bM Tryz.call18 (cJ.r) s7 ?_
 refine ay tk rfl (ak ?_)
 exact cE tk H rfl
def bj (l : Rz) (byA : LExtsortOrdering) (memory : Int) : Option (Int) :=
 cond (decide ((l.length : Int) > (600 : Int)))
  (some 2)
  (letP (
   cond (decide (memory < (2 : Int)))
    (true)
    ((decide (memory > (64 : Int))))) fun (t1 : Bool) =>
  cond t1
   (some 1)
   (cond (decide ((byA.descending.length : Int) > (byA.columns.length : Int)))
    (some 3)
    (ag (aI (σ := Unit) (ρ := (Int)) (fun (_ : Nat) (x2 : Int) (_ : Unit) =>
     cond (decide (x2 < (0 : Int)))
      (some (.ret 3))
      (ag (aC l (fun a0=>some (aP a0 x2))) fun x37 =>
      cond x37
       (some (.ret 3))
       (some (.next ())))) 0 byA.columns ()) fun fl2=>fl2.thenR fun (_ : Unit) =>
    some 0)))
theorem fT (l : Rz) (byA : LExtsortOrdering) (memory : Int) (r : Int) (H : bj l byA memory = some r) :
  bl Tryz.prog 22 [(.list 51 (l.map (ab 48 aa))),(.agg (az byA)),(af memory)] (af r) := by
 unfold bj at H
 refine PH.aL Tryz.func22 Tryz.ntmps22 ?_
 refine ae (ah (cM ?_))
 refine ay tk rfl (ak (ae (ae (ah (ay tk rfl (aK tk (zl _) ?_))))))
 refine ay tk rfl (ak ?_)
 refine aU rfl H (fun H=>?_) (fun H=>?_)
 ·refine ao 1 tk rfl ?_
  exact cE tk H rfl
 refine av (ae (ae ?_))
 refine fy (γ := Unit) (fun t1 g1=>⟨40,upd (upd (upd (fun _=>.any) 17 (bB t1)) 4 (.ptr (az byA))) 0 (.list 51 (l.map (ab 48 aa))),fun _=>none,fun _=>none⟩) H (fun _ H=>?_) (fun t1 g1 H=>?_)
 ·refine ah (al 3 tk rfl ?_)
  refine dG rfl rfl rfl H (fun H=>?_) (fun H=>?_)
  ·refine al 3 tk rfl (ak ?_)
   refine br _ () H Gh.d
  refine al 3 tk rfl (ak ?_)
  refine br _ () H Gh.d
 refine aU rfl H (fun H=>?_) (fun H=>?_)
 ·refine ao 1 tk rfl ?_
  exact cE tk H rfl
 refine av (ae (ae (ah (al 2 tk rfl (aK tk (zl _) ?_)))))
 refine al 2 tk rfl (aK tk (zl _) ?_)
 refine ay tk rfl (ak ?_)
 refine aU rfl H (fun H=>?_) (fun H=>?_)
 ·refine ao 1 tk rfl ?_
  exact cE tk H rfl
 refine av (ae (ae (ah (al 2 tk rfl (aK tk (zl _) ?_)))))
 refine ay tk rfl (ak ?_)
 refine gJ tk 28 27 26 (fun s2 g2=>upd (fun _=>.any) 0 (.list 51 (l.map (ab 48 aa)))) nB nO () H (fun fl2 Hp2 j2 s2 g2 hz2 hl2 x2 fb2 hx2 H hg2=>?_) (fun s2 g2 H=>?_)
 ·refine ae (aA (ae (ah ?_)))
  refine db tk (zn j2) (de (fun _=>rfl) hx2) ?_
  refine ay tk rfl ?_
  refine ic tk rfl rfl rfl rfl rfl rfl fun b8=>?_
  refine Ao.sB tk rfl rfl rfl rfl rfl rfl rfl rfl rfl rfl rfl (ak (ae (iy 8 rfl rfl rfl rfl (ah (al 3 tk rfl ?_)))))
  refine dG rfl rfl rfl H (fun H=>?_) (fun H=>?_)
  ·refine al 4 tk rfl (ak (io rfl (ao 1 tk rfl ?_)))
   obtain rfl := aq H
   have e2 : fl2 = .ret _ := hg2
   subst e2
   obtain rfl := bC Hp2
   refine cb tk rfl (ps := [(af 3)]) ⟨_,_,rfl,rfl,rfl⟩ (PLe.q rfl)
  refine al 2 tk rfl ?_
  obtain ⟨x37,h37,H⟩ := ar H
  have s37 := dg l (fun a0=>some (aP a0 x2)) Tryz.call40 (fun a0 r h=>(aq h) ▸ fE a0 x2) _ h37
  refine bM Tryz.call20 (cJ.r) s37 ?_
  refine ay tk rfl (ak ?_)
  refine aU rfl H (fun H=>?_) (fun H=>?_)
  ·refine ao 1 tk rfl ?_
   obtain rfl := aq H
   have e2 : fl2 = .ret _ := hg2
   subst e2
   obtain rfl := bC Hp2
   refine cb tk rfl (ps := [(af 3)]) ⟨_,_,rfl,rfl,rfl⟩ (PLe.q rfl)
  refine av (bv (bJ 2 tk rfl ?_))
  exact eJ () H hl2 hg2
 refine ao 1 tk rfl ?_
 exact cE tk H rfl
def aJ (rec59 : Rz → Int → Int → Int → Option (Rz)) (data : Rz) (a : Int) (m : Int) (b : Int) (cmp : Rq → Rq → Option (Int)) : Option (Rz) :=
 cond ((IntKind.i64.wrap (m - a)) == (1 : Int))
  (ag (bT (σ := Rz × Int × Int) (ρ := Empty) (fun (s1 : Rz × Int × Int) =>
   cond (decide (s1.2.1 < s1.2.2))
    (ag (aZ s1.1 (IntKind.i64.wrap (Int.fdiv (IntKind.u64.wrap (IntKind.i64.wrap (s1.2.1 + s1.2.2))) (2 ^ 1)))) fun (x43 : Rq) =>
    ag (aZ s1.1 a) fun (x47 : Rq) =>
    ag (cmp x43 x47) fun x49 =>
    cond (decide (x49 < (0 : Int)))
     (some (.next (s1.1,(IntKind.i64.wrap ((IntKind.i64.wrap (Int.fdiv (IntKind.u64.wrap (IntKind.i64.wrap (s1.2.1 + s1.2.2))) (2 ^ 1))) + (1 : Int))),s1.2.2)))
     (some (.next (s1.1,s1.2.1,(IntKind.i64.wrap (Int.fdiv (IntKind.u64.wrap (IntKind.i64.wrap (s1.2.1 + s1.2.2))) (2 ^ 1)))))))
    (some (.brk (s1.1,s1.2.1,s1.2.2)))) (data,m,b)) fun fl1=>fl1.thenP fun (s1 : Rz × Int × Int) =>
  ag (bT (σ := Rz × Int) (ρ := Empty) (fun (s2 : Rz × Int) =>
   cond (decide (s2.2 < (IntKind.i64.wrap (s1.2.1 - (1 : Int)))))
    (ag (aZ s2.1 (IntKind.i64.wrap (s2.2 + (1 : Int)))) fun (x69 : Rq) =>
    ag (aZ s2.1 s2.2) fun (x73 : Rq) =>
    ag (aZ s2.1 s2.2) fun (_ : Rq) =>
    letP (s2.1.set s2.2.toNat x69) fun (y7 : Rz) =>
    ag (aZ y7 (IntKind.i64.wrap (s2.2 + (1 : Int)))) fun (_ : Rq) =>
    letP (y7.set ((IntKind.i64.wrap (s2.2 + (1 : Int))).toNat) x73) fun (y8 : Rz) =>
    some (.next (y8,(IntKind.i64.wrap (s2.2 + (1 : Int))))))
    (some (.brk (s2.1,s2.2)))) (s1.1,a)) fun fl2=>fl2.thenP fun (s2 : Rz × Int) =>
  some s2.1)
  (cond ((IntKind.i64.wrap (b - m)) == (1 : Int))
   (ag (bT (σ := Rz × Int × Int) (ρ := Empty) (fun (s9 : Rz × Int × Int) =>
    cond (decide (s9.2.1 < s9.2.2))
     (ag (aZ s9.1 m) fun (x95 : Rq) =>
     ag (aZ s9.1 (IntKind.i64.wrap (Int.fdiv (IntKind.u64.wrap (IntKind.i64.wrap (s9.2.1 + s9.2.2))) (2 ^ 1)))) fun (x99 : Rq) =>
     ag (cmp x95 x99) fun x101 =>
     cond (!(decide (x101 < (0 : Int))))
      (some (.next (s9.1,(IntKind.i64.wrap ((IntKind.i64.wrap (Int.fdiv (IntKind.u64.wrap (IntKind.i64.wrap (s9.2.1 + s9.2.2))) (2 ^ 1))) + (1 : Int))),s9.2.2)))
      (some (.next (s9.1,s9.2.1,(IntKind.i64.wrap (Int.fdiv (IntKind.u64.wrap (IntKind.i64.wrap (s9.2.1 + s9.2.2))) (2 ^ 1)))))))
     (some (.brk (s9.1,s9.2.1,s9.2.2)))) (data,a,m)) fun fl9=>fl9.thenP fun (s9 : Rz × Int × Int) =>
   ag (bT (σ := Rz × Int) (ρ := Empty) (fun (s10 : Rz × Int) =>
    cond (decide (s10.2 > s9.2.1))
     (ag (aZ s10.1 (IntKind.i64.wrap (s10.2 - (1 : Int)))) fun (x121 : Rq) =>
     ag (aZ s10.1 s10.2) fun (x125 : Rq) =>
     ag (aZ s10.1 s10.2) fun (_ : Rq) =>
     letP (s10.1.set s10.2.toNat x121) fun (y15 : Rz) =>
     ag (aZ y15 (IntKind.i64.wrap (s10.2 - (1 : Int)))) fun (_ : Rq) =>
     letP (y15.set ((IntKind.i64.wrap (s10.2 - (1 : Int))).toNat) x125) fun (y16 : Rz) =>
     some (.next (y16,(IntKind.i64.wrap (s10.2 - (1 : Int))))))
     (some (.brk (s10.1,s10.2)))) (s9.1,m)) fun fl10=>fl10.thenP fun (s10 : Rz × Int) =>
   some s10.1)
   (letP (
    cond (decide (m > (IntKind.i64.wrap (Int.fdiv (IntKind.u64.wrap (IntKind.i64.wrap (a + b))) (2 ^ 1)))))
     ((data,(IntKind.i64.wrap ((IntKind.i64.wrap ((IntKind.i64.wrap (Int.fdiv (IntKind.u64.wrap (IntKind.i64.wrap (a + b))) (2 ^ 1))) + m)) - b)),(IntKind.i64.wrap (Int.fdiv (IntKind.u64.wrap (IntKind.i64.wrap (a + b))) (2 ^ 1)))))
     ((data,a,m))) fun (t17 : Rz × Int × Int) =>
   ag (bT (σ := Rz × Int × Int) (ρ := Empty) (fun (s18 : Rz × Int × Int) =>
    cond (decide (s18.2.1 < s18.2.2))
     (ag (aZ s18.1 (IntKind.i64.wrap ((IntKind.i64.wrap ((IntKind.i64.wrap ((IntKind.i64.wrap (Int.fdiv (IntKind.u64.wrap (IntKind.i64.wrap (a + b))) (2 ^ 1))) + m)) - (1 : Int))) - (IntKind.i64.wrap (Int.fdiv (IntKind.u64.wrap (IntKind.i64.wrap (s18.2.1 + s18.2.2))) (2 ^ 1)))))) fun (x163 : Rq) =>
     ag (aZ s18.1 (IntKind.i64.wrap (Int.fdiv (IntKind.u64.wrap (IntKind.i64.wrap (s18.2.1 + s18.2.2))) (2 ^ 1)))) fun (x167 : Rq) =>
     ag (cmp x163 x167) fun x169 =>
     cond (!(decide (x169 < (0 : Int))))
      (some (.next (s18.1,(IntKind.i64.wrap ((IntKind.i64.wrap (Int.fdiv (IntKind.u64.wrap (IntKind.i64.wrap (s18.2.1 + s18.2.2))) (2 ^ 1))) + (1 : Int))),s18.2.2)))
      (some (.next (s18.1,s18.2.1,(IntKind.i64.wrap (Int.fdiv (IntKind.u64.wrap (IntKind.i64.wrap (s18.2.1 + s18.2.2))) (2 ^ 1)))))))
     (some (.brk (s18.1,s18.2.1,s18.2.2)))) (t17.1,t17.2.1,t17.2.2)) fun fl18=>fl18.thenP fun (s18 : Rz × Int × Int) =>
   letP (
    cond (decide (s18.2.1 < m))
     ((s18.1,(decide (m < (IntKind.i64.wrap ((IntKind.i64.wrap ((IntKind.i64.wrap (Int.fdiv (IntKind.u64.wrap (IntKind.i64.wrap (a + b))) (2 ^ 1))) + m)) - s18.2.1))))))
     ((s18.1,false))) fun (t19 : Rz × Bool) =>
   ag (
    cond t19.2
     (ag (aO t19.1 s18.2.1 m (IntKind.i64.wrap ((IntKind.i64.wrap ((IntKind.i64.wrap (Int.fdiv (IntKind.u64.wrap (IntKind.i64.wrap (a + b))) (2 ^ 1))) + m)) - s18.2.1)) cmp) fun x191 =>
     ag (ce (x191.length = t19.1.length) ()) fun (_ : Unit) =>
     some x191)
     (some t19.1)) fun (t20 : Rz) =>
   letP (
    cond (decide (a < s18.2.1))
     ((t20,(decide (s18.2.1 < (IntKind.i64.wrap (Int.fdiv (IntKind.u64.wrap (IntKind.i64.wrap (a + b))) (2 ^ 1)))))))
     ((t20,false))) fun (t21 : Rz × Bool) =>
   ag (
    cond t21.2
     (ag (rec59 t21.1 a s18.2.1 (IntKind.i64.wrap (Int.fdiv (IntKind.u64.wrap (IntKind.i64.wrap (a + b))) (2 ^ 1)))) fun x205 =>
     ag (ce (x205.length = t21.1.length) ()) fun (_ : Unit) =>
     some x205)
     (some t21.1)) fun (t22 : Rz) =>
   cond (decide ((IntKind.i64.wrap (Int.fdiv (IntKind.u64.wrap (IntKind.i64.wrap (a + b))) (2 ^ 1))) < (IntKind.i64.wrap ((IntKind.i64.wrap ((IntKind.i64.wrap (Int.fdiv (IntKind.u64.wrap (IntKind.i64.wrap (a + b))) (2 ^ 1))) + m)) - s18.2.1))))
    (cond (decide ((IntKind.i64.wrap ((IntKind.i64.wrap ((IntKind.i64.wrap (Int.fdiv (IntKind.u64.wrap (IntKind.i64.wrap (a + b))) (2 ^ 1))) + m)) - s18.2.1)) < b))
     (ag (rec59 t22 (IntKind.i64.wrap (Int.fdiv (IntKind.u64.wrap (IntKind.i64.wrap (a + b))) (2 ^ 1))) (IntKind.i64.wrap ((IntKind.i64.wrap ((IntKind.i64.wrap (Int.fdiv (IntKind.u64.wrap (IntKind.i64.wrap (a + b))) (2 ^ 1))) + m)) - s18.2.1)) b) fun x219 =>
     ag (ce (x219.length = t22.length) ()) fun (_ : Unit) =>
     some x219)
     (some t22))
    (some t22)))
theorem dE (g_data : OwnRef) {g_cmp : FuncId} {caps_cmp : List PV} (rec59 : Rz → Int → Int → Int → Option (Rz)) (hrec59 : ∀ g0 a0 a1 a2 a3 r,rec59 a0 a1 a2 a3 = some r → PH Tryz.prog 59 [(.own 0 g0 (a0.map (ab 48 aa)).length),(af a1),(af a2),(af a3),(.fn g_cmp caps_cmp)] ⟨fun _=>none,upd (fun _=>none) 0 (some ⟨g0,51,(a0.map (ab 48 aa)),true⟩)⟩ (fun u H=>u = (.tup []) ∧ H = ⟨fun _=>none,upd (fun _=>none) 0 (some ⟨g0,51,(r.map (ab 48 aa)),true⟩)⟩)) (data : Rz) (a : Int) (m : Int) (b : Int) (cmp : Rq → Rq → Option (Int)) (hg_cmp : ∀ (vs : Array Value) (w : World),(callFunc g_cmp vs).run Tryz.prog w = .ok (.enter g_cmp vs) w) (hp_cmp : ∀ a0 a1 r,cmp a0 a1 = some r → bl Tryz.prog g_cmp ((.list 48 (a0.map aa)) :: (.list 48 (a1.map aa)) :: caps_cmp) (af r)) (r : Rz) (H : aJ rec59 data a m b cmp = some r) :
  PH Tryz.prog 59 [(.own 0 g_data (data.map (ab 48 aa)).length),(af a),(af m),(af b),(.fn g_cmp caps_cmp)] ⟨fun _=>none,upd (fun _=>none) 0 (some ⟨g_data,51,(data.map (ab 48 aa)),true⟩)⟩ (fun u H=>u = (.tup []) ∧ H = ⟨fun _=>none,upd (fun _=>none) 0 (some ⟨g_data,51,(r.map (ab 48 aa)),true⟩)⟩) := by
 unfold aJ at H
 refine PH.aL Tryz.func59 Tryz.ntmps59 ?_
 refine ae (ao 4 tk rfl ?_)
 refine aU rfl H (fun H=>?_) (fun H=>?_)
 ·refine ao 2 tk rfl (ao 2 tk rfl (ae ?_))
  obtain ⟨fl1,H1,Hp1⟩ := ar H
  refine cS (τ := Rz × Int × Int) (γ := Unit) (fun s1 g1=>⟨220,upd (upd (upd (fun _=>.any) 10 (af s1.2.1)) 1 (af a)) 0 (.own 0 g_data (s1.1.map (ab 48 aa)).length),fun _=>none,upd (fun _=>none) 0 (some ⟨g_data,51,(s1.1.map (ab 48 aa)),true⟩)⟩) (fun t=>fl1 = .next t) ?_ (fun s1 g1 hn1=>?_)
  ·refine aA ?_
   refine co (fun s1 g1=>⟨220,upd (upd (upd (upd (upd (fun _=>.any) 11 (af s1.2.2)) 10 (af s1.2.1)) 4 (.fn g_cmp caps_cmp)) 1 (af a)) 0 (.own 0 g_data (s1.1.map (ab 48 aa)).length),fun _=>none,upd (fun _=>none) 0 (some ⟨g_data,51,(s1.1.map (ab 48 aa)),true⟩)⟩) () H1 Gh.d (fun m1 s1 g1 hr1=>?_)
   obtain ⟨fb1,H,hg1⟩ := bI hr1
   refine ae (ao 3 tk rfl ?_)
   refine aU rfl H (fun H=>?_) (fun H=>?_)
   ·refine av (aA (ae (ah (al 4 tk rfl (hC (m := 1) rfl rfl rfl rfl (by decide) rfl rfl (al 2 tk rfl (ak (ae ?_))))))))
    refine eE (tag := 0) rfl (fun ho0=>?_)
    refine cP tk mok ⟨false,true,[]⟩ [0,1,2,3,4,5,6,7,8,9,10] rfl (by decide +kernel) rfl (aS 3 rfl ?_)
    obtain ⟨x43,k43,H⟩ := bN H
    refine aQ tk ⟨k43.1,(bE k43.2)⟩ (bL ho0 k43.2) ?_
    refine bw tk rfl rfl rfl rfl rfl rfl rfl rfl rfl (aW (fun _=>rfl) k43.2) rfl rfl ?_
    refine aS 2 rfl ?_
    obtain ⟨x47,k47,H⟩ := bN H
    refine aQ tk ⟨k47.1,(bE k47.2)⟩ (bL ho0 k47.2) ?_
    refine bw tk rfl rfl rfl rfl rfl rfl rfl rfl rfl (aW (fun _=>rfl) k47.2) rfl rfl ?_
    obtain ⟨x49,h49,H⟩ := ar H
    refine cI hg_cmp (cJ.r) (hp_cmp _ _ _ h49) ?_
    refine hZ rfl (ct ?_)
    refine aU rfl H (fun H=>?_) (fun H=>?_)
    ·refine bJ 3 tk rfl (bv ?_)
     obtain rfl := aq H
     refine bp (s1.1,(IntKind.i64.wrap ((IntKind.i64.wrap (Int.fdiv (IntKind.u64.wrap (IntKind.i64.wrap (s1.2.1 + s1.2.2))) (2 ^ 1))) + (1 : Int))),s1.2.2) () hg1 Gh.d
    refine bJ 2 tk rfl (bv ?_)
    obtain rfl := aq H
    refine bp (s1.1,s1.2.1,(IntKind.i64.wrap (Int.fdiv (IntKind.u64.wrap (IntKind.i64.wrap (s1.2.1 + s1.2.2))) (2 ^ 1)))) () hg1 Gh.d
   refine cA rfl ?_
   obtain rfl := aq H
   refine br (s1.1,s1.2.1,s1.2.2) () hg1 Gh.d
  have H := bu hn1 Hp1
  refine ae (ao 2 tk rfl ?_)
  obtain ⟨fl2,H2,Hp2⟩ := ar H
  refine cS (τ := Rz × Int) (γ := Unit) (fun s2 g2=>⟨220,upd (fun _=>.any) 0 (.own 0 g_data (s2.1.map (ab 48 aa)).length),fun _=>none,upd (fun _=>none) 0 (some ⟨g_data,51,(s2.1.map (ab 48 aa)),true⟩)⟩) (fun t=>fl2 = .next t) ?_ (fun s2 g2 hn2=>?_)
  ·refine aA ?_
   refine co (fun s2 g2=>⟨220,upd (upd (upd (fun _=>.any) 13 (af s2.2)) 10 (af s1.2.1)) 0 (.own 0 g_data (s2.1.map (ab 48 aa)).length),fun _=>none,upd (fun _=>none) 0 (some ⟨g_data,51,(s2.1.map (ab 48 aa)),true⟩)⟩) () H2 Gh.d (fun m2 s2 g2 hr2=>?_)
   obtain ⟨fb2,H,hg2⟩ := bI hr2
   refine ae (ao 4 tk rfl ?_)
   refine aU rfl H (fun H=>?_) (fun H=>?_)
   ·refine av (ae (aA ?_))
    refine eE (tag := 0) rfl (fun ho0=>?_)
    refine cP tk mok ⟨false,true,[]⟩ [0,1,2,3,4,5,6,7,8,9,10,11,12,13,14,15,16,17] rfl (by decide +kernel) rfl (aS 8 rfl ?_)
    obtain ⟨x69,k69,H⟩ := bN H
    refine aQ tk ⟨k69.1,(bE k69.2)⟩ (bL ho0 k69.2) ?_
    refine bw tk rfl rfl rfl rfl rfl rfl rfl rfl rfl (aW (fun _=>rfl) k69.2) rfl rfl ?_
    refine aS 2 rfl ?_
    obtain ⟨x73,k73,H⟩ := bN H
    refine aQ tk ⟨k73.1,(bE k73.2)⟩ (bL ho0 k73.2) ?_
    refine bw tk rfl rfl rfl rfl rfl rfl rfl rfl rfl (aW (fun _=>rfl) k73.2) rfl rfl ?_
    obtain ⟨x75,k75,H⟩ := bN H
    refine aQ tk ⟨k75.1,(bE k75.2)⟩ (bL ho0 k75.2) ?_
    obtain ⟨y7,hy7,H⟩ := letE H
    refine cL tk rfl rfl rfl rfl rfl rfl rfl rfl rfl (by rw [zl]; exact (zg.1 k75.2).1) (PLe.refl _ _) rfl rfl rfl rfl (by decide) (cK (fun _=>rfl) k75.2 rfl hy7) ?_
    obtain ⟨x76,k76,H⟩ := bN H
    refine aQ tk ⟨k76.1,(gM (bW (f := (ab 48 aa)) hy7) k76.2)⟩ (gC ho0 (bW (f := (ab 48 aa)) hy7) k76.2) ?_
    obtain ⟨y8,hy8,H⟩ := letE H
    refine cL tk rfl rfl rfl rfl rfl rfl rfl rfl rfl (by rw [zl]; exact (zg.1 k76.2).1) (PLe.refl _ _) rfl rfl rfl rfl (by decide) (cK (fun _=>rfl) k76.2 rfl hy8) ?_
    refine ct (bv (bJ 3 tk rfl ?_))
    obtain rfl := aq H
    refine bp (y8,(IntKind.i64.wrap (s2.2 + (1 : Int)))) () hg2 (Gh.le (bA (PLe.of2 (PLe2.of_eq (congrArg (PV.own 0 g_data) ((bW (f := (ab 48 aa)) hy7).trans (bW (f := (ab 48 aa)) hy8))))) (ax (ax aY))) aD (aR aB))
   refine cA rfl ?_
   obtain rfl := aq H
   refine br (s2.1,s2.2) () hg2 Gh.d
  have H := bu hn2 Hp2
  obtain rfl := aq H
  refine dl (st' := ⟨220,fun _=>.any,fun _=>none,upd (fun _=>none) 0 (some ⟨g_data,51,(s2.1.map (ab 48 aa)),true⟩)⟩) (Gh.le aY aD (aR aB)) ?_
  refine iw tk rfl (ps := []) rfl (PLe.q rfl) ⟨rfl,rfl⟩
 refine av (ae (ao 4 tk rfl ?_))
 refine aU rfl H (fun H=>?_) (fun H=>?_)
 ·refine ao 2 tk rfl (ao 2 tk rfl (ae ?_))
  obtain ⟨fl9,H9,Hp9⟩ := ar H
  refine cS (τ := Rz × Int × Int) (γ := Unit) (fun s9 g9=>⟨220,upd (upd (upd (fun _=>.any) 14 (af s9.2.1)) 2 (af m)) 0 (.own 0 g_data (s9.1.map (ab 48 aa)).length),fun _=>none,upd (fun _=>none) 0 (some ⟨g_data,51,(s9.1.map (ab 48 aa)),true⟩)⟩) (fun t=>fl9 = .next t) ?_ (fun s9 g9 hn9=>?_)
  ·refine aA ?_
   refine co (fun s9 g9=>⟨220,upd (upd (upd (upd (upd (fun _=>.any) 15 (af s9.2.2)) 14 (af s9.2.1)) 4 (.fn g_cmp caps_cmp)) 2 (af m)) 0 (.own 0 g_data (s9.1.map (ab 48 aa)).length),fun _=>none,upd (fun _=>none) 0 (some ⟨g_data,51,(s9.1.map (ab 48 aa)),true⟩)⟩) () H9 Gh.d (fun m9 s9 g9 hr9=>?_)
   obtain ⟨fb9,H,hg9⟩ := bI hr9
   refine ae (ao 3 tk rfl ?_)
   refine aU rfl H (fun H=>?_) (fun H=>?_)
   ·refine av (aA (ae (ah (al 4 tk rfl (hC (m := 1) rfl rfl rfl rfl (by decide) rfl rfl (al 2 tk rfl (ak (ae ?_))))))))
    refine eE (tag := 0) rfl (fun ho0=>?_)
    refine cP tk mok ⟨false,true,[]⟩ [0,1,2,3,4,5,6,7,8,9,10,11] rfl (by decide +kernel) rfl (aS 3 rfl ?_)
    obtain ⟨x95,k95,H⟩ := bN H
    refine aQ tk ⟨k95.1,(bE k95.2)⟩ (bL ho0 k95.2) ?_
    refine bw tk rfl rfl rfl rfl rfl rfl rfl rfl rfl (aW (fun _=>rfl) k95.2) rfl rfl ?_
    refine aS 2 rfl ?_
    obtain ⟨x99,k99,H⟩ := bN H
    refine aQ tk ⟨k99.1,(bE k99.2)⟩ (bL ho0 k99.2) ?_
    refine bw tk rfl rfl rfl rfl rfl rfl rfl rfl rfl (aW (fun _=>rfl) k99.2) rfl rfl ?_
    obtain ⟨x101,h101,H⟩ := ar H
    refine cI hg_cmp (cJ.r) (hp_cmp _ _ _ h101) ?_
    refine aS 2 rfl (ct ?_)
    refine aU rfl H (fun H=>?_) (fun H=>?_)
    ·refine bJ 3 tk rfl (bv ?_)
     obtain rfl := aq H
     refine bp (s9.1,(IntKind.i64.wrap ((IntKind.i64.wrap (Int.fdiv (IntKind.u64.wrap (IntKind.i64.wrap (s9.2.1 + s9.2.2))) (2 ^ 1))) + (1 : Int))),s9.2.2) () hg9 Gh.d
    refine bJ 2 tk rfl (bv ?_)
    obtain rfl := aq H
    refine bp (s9.1,s9.2.1,(IntKind.i64.wrap (Int.fdiv (IntKind.u64.wrap (IntKind.i64.wrap (s9.2.1 + s9.2.2))) (2 ^ 1)))) () hg9 Gh.d
   refine cA rfl ?_
   obtain rfl := aq H
   refine br (s9.1,s9.2.1,s9.2.2) () hg9 Gh.d
  have H := bu hn9 Hp9
  refine ae (ao 2 tk rfl ?_)
  obtain ⟨fl10,H10,Hp10⟩ := ar H
  refine cS (τ := Rz × Int) (γ := Unit) (fun s10 g10=>⟨220,upd (fun _=>.any) 0 (.own 0 g_data (s10.1.map (ab 48 aa)).length),fun _=>none,upd (fun _=>none) 0 (some ⟨g_data,51,(s10.1.map (ab 48 aa)),true⟩)⟩) (fun t=>fl10 = .next t) ?_ (fun s10 g10 hn10=>?_)
  ·refine aA ?_
   refine co (fun s10 g10=>⟨220,upd (upd (upd (fun _=>.any) 17 (af s10.2)) 14 (af s9.2.1)) 0 (.own 0 g_data (s10.1.map (ab 48 aa)).length),fun _=>none,upd (fun _=>none) 0 (some ⟨g_data,51,(s10.1.map (ab 48 aa)),true⟩)⟩) () H10 Gh.d (fun m10 s10 g10 hr10=>?_)
   obtain ⟨fb10,H,hg10⟩ := bI hr10
   refine ae (ao 3 tk rfl ?_)
   refine aU rfl H (fun H=>?_) (fun H=>?_)
   ·refine av (ae (aA ?_))
    refine eE (tag := 0) rfl (fun ho0=>?_)
    refine cP tk mok ⟨false,true,[]⟩ [0,1,2,3,4,5,6,7,8,9,10,11,12,13,14,15,16,17] rfl (by decide +kernel) rfl (aS 8 rfl ?_)
    obtain ⟨x121,k121,H⟩ := bN H
    refine aQ tk ⟨k121.1,(bE k121.2)⟩ (bL ho0 k121.2) ?_
    refine bw tk rfl rfl rfl rfl rfl rfl rfl rfl rfl (aW (fun _=>rfl) k121.2) rfl rfl ?_
    refine aS 2 rfl ?_
    obtain ⟨x125,k125,H⟩ := bN H
    refine aQ tk ⟨k125.1,(bE k125.2)⟩ (bL ho0 k125.2) ?_
    refine bw tk rfl rfl rfl rfl rfl rfl rfl rfl rfl (aW (fun _=>rfl) k125.2) rfl rfl ?_
    obtain ⟨x127,k127,H⟩ := bN H
    refine aQ tk ⟨k127.1,(bE k127.2)⟩ (bL ho0 k127.2) ?_
    obtain ⟨y15,hy15,H⟩ := letE H
    refine cL tk rfl rfl rfl rfl rfl rfl rfl rfl rfl (by rw [zl]; exact (zg.1 k127.2).1) (PLe.refl _ _) rfl rfl rfl rfl (by decide) (cK (fun _=>rfl) k127.2 rfl hy15) ?_
    obtain ⟨x128,k128,H⟩ := bN H
    refine aQ tk ⟨k128.1,(gM (bW (f := (ab 48 aa)) hy15) k128.2)⟩ (gC ho0 (bW (f := (ab 48 aa)) hy15) k128.2) ?_
    obtain ⟨y16,hy16,H⟩ := letE H
    refine cL tk rfl rfl rfl rfl rfl rfl rfl rfl rfl (by rw [zl]; exact (zg.1 k128.2).1) (PLe.refl _ _) rfl rfl rfl rfl (by decide) (cK (fun _=>rfl) k128.2 rfl hy16) ?_
    refine ct (bv (bJ 3 tk rfl ?_))
    obtain rfl := aq H
    refine bp (y16,(IntKind.i64.wrap (s10.2 - (1 : Int)))) () hg10 (Gh.le (bA (PLe.of2 (PLe2.of_eq (congrArg (PV.own 0 g_data) ((bW (f := (ab 48 aa)) hy15).trans (bW (f := (ab 48 aa)) hy16))))) (ax (ax aY))) aD (aR aB))
   refine cA rfl ?_
   obtain rfl := aq H
   refine br (s10.1,s10.2) () hg10 Gh.d
  have H := bu hn10 Hp10
  obtain rfl := aq H
  refine dl (st' := ⟨220,fun _=>.any,fun _=>none,upd (fun _=>none) 0 (some ⟨g_data,51,(s10.1.map (ab 48 aa)),true⟩)⟩) (Gh.le aY aD (aR aB)) ?_
  refine iw tk rfl (ps := []) rfl (PLe.q rfl) ⟨rfl,rfl⟩
 refine av (ae (ah (al 4 tk rfl (hC (m := 1) rfl rfl rfl rfl (by decide) rfl rfl (al 2 tk rfl (ak (ao 4 tk rfl (ao 2 tk rfl (ae (ao 3 tk rfl ?_))))))))))
 refine fy (γ := Unit) (fun t17 g17=>⟨220,upd (upd (upd (upd (upd (upd (upd (upd (upd (fun _=>.any) 21 (af t17.2.2)) 20 (af t17.2.1)) 19 (af (IntKind.i64.wrap ((IntKind.i64.wrap (Int.fdiv (IntKind.u64.wrap (IntKind.i64.wrap (a + b))) (2 ^ 1))) + m)))) 18 (af (IntKind.i64.wrap (Int.fdiv (IntKind.u64.wrap (IntKind.i64.wrap (a + b))) (2 ^ 1))))) 4 (.fn g_cmp caps_cmp)) 3 (af b)) 2 (af m)) 1 (af a)) 0 (.own 0 g_data (t17.1.map (ab 48 aa)).length),fun _=>none,upd (fun _=>none) 0 (some ⟨g_data,51,(t17.1.map (ab 48 aa)),true⟩)⟩) H (fun _ H=>?_) (fun t17 g17 H=>?_)
 ·refine aU rfl H (fun H=>?_) (fun H=>?_)
  ·refine ao 4 tk rfl (bJ 2 tk rfl ?_)
   refine br _ () H Gh.d
  refine ao 2 tk rfl (bJ 2 tk rfl ?_)
  refine br _ () H Gh.d
 refine ao 3 tk rfl (ae ?_)
 obtain ⟨fl18,H18,Hp18⟩ := ar H
 refine cS (τ := Rz × Int × Int) (γ := Unit) (fun s18 g18=>⟨220,upd (upd (upd (upd (upd (upd (upd (upd (fun _=>.any) 20 (af s18.2.1)) 19 (af (IntKind.i64.wrap ((IntKind.i64.wrap (Int.fdiv (IntKind.u64.wrap (IntKind.i64.wrap (a + b))) (2 ^ 1))) + m)))) 18 (af (IntKind.i64.wrap (Int.fdiv (IntKind.u64.wrap (IntKind.i64.wrap (a + b))) (2 ^ 1))))) 4 (.fn g_cmp caps_cmp)) 3 (af b)) 2 (af m)) 1 (af a)) 0 (.own 0 g_data (s18.1.map (ab 48 aa)).length),fun _=>none,upd (fun _=>none) 0 (some ⟨g_data,51,(s18.1.map (ab 48 aa)),true⟩)⟩) (fun t=>fl18 = .next t) ?_ (fun s18 g18 hn18=>?_)
 ·refine aA ?_
  refine co (fun s18 g18=>⟨220,upd (upd (upd (upd (upd (upd (upd (upd (upd (upd (fun _=>.any) 22 (af (IntKind.i64.wrap ((IntKind.i64.wrap ((IntKind.i64.wrap (Int.fdiv (IntKind.u64.wrap (IntKind.i64.wrap (a + b))) (2 ^ 1))) + m)) - (1 : Int))))) 21 (af s18.2.2)) 20 (af s18.2.1)) 19 (af (IntKind.i64.wrap ((IntKind.i64.wrap (Int.fdiv (IntKind.u64.wrap (IntKind.i64.wrap (a + b))) (2 ^ 1))) + m)))) 18 (af (IntKind.i64.wrap (Int.fdiv (IntKind.u64.wrap (IntKind.i64.wrap (a + b))) (2 ^ 1))))) 4 (.fn g_cmp caps_cmp)) 3 (af b)) 2 (af m)) 1 (af a)) 0 (.own 0 g_data (s18.1.map (ab 48 aa)).length),fun _=>none,upd (fun _=>none) 0 (some ⟨g_data,51,(s18.1.map (ab 48 aa)),true⟩)⟩) () H18 Gh.d (fun m18 s18 g18 hr18=>?_)
  obtain ⟨fb18,H,hg18⟩ := bI hr18
  refine ae (ao 3 tk rfl ?_)
  refine aU rfl H (fun H=>?_) (fun H=>?_)
  ·refine av (aA (ae (ah (al 4 tk rfl (hC (m := 1) rfl rfl rfl rfl (by decide) rfl rfl (al 2 tk rfl (ak (ae ?_))))))))
   refine eE (tag := 0) rfl (fun ho0=>?_)
   refine cP tk mok ⟨false,true,[]⟩ [0,1,2,3,4,5,6,7,8,9,10,11,12,13] rfl (by decide +kernel) rfl (aS 5 rfl ?_)
   obtain ⟨x163,k163,H⟩ := bN H
   refine aQ tk ⟨k163.1,(bE k163.2)⟩ (bL ho0 k163.2) ?_
   refine bw tk rfl rfl rfl rfl rfl rfl rfl rfl rfl (aW (fun _=>rfl) k163.2) rfl rfl ?_
   refine aS 2 rfl ?_
   obtain ⟨x167,k167,H⟩ := bN H
   refine aQ tk ⟨k167.1,(bE k167.2)⟩ (bL ho0 k167.2) ?_
   refine bw tk rfl rfl rfl rfl rfl rfl rfl rfl rfl (aW (fun _=>rfl) k167.2) rfl rfl ?_
   obtain ⟨x169,h169,H⟩ := ar H
   refine cI hg_cmp (cJ.r) (hp_cmp _ _ _ h169) ?_
   refine aS 2 rfl (ct ?_)
   refine aU rfl H (fun H=>?_) (fun H=>?_)
   ·refine bJ 3 tk rfl (bv ?_)
    obtain rfl := aq H
    refine bp (s18.1,(IntKind.i64.wrap ((IntKind.i64.wrap (Int.fdiv (IntKind.u64.wrap (IntKind.i64.wrap (s18.2.1 + s18.2.2))) (2 ^ 1))) + (1 : Int))),s18.2.2) () hg18 Gh.d
   refine bJ 2 tk rfl (bv ?_)
   obtain rfl := aq H
   refine bp (s18.1,s18.2.1,(IntKind.i64.wrap (Int.fdiv (IntKind.u64.wrap (IntKind.i64.wrap (s18.2.1 + s18.2.2))) (2 ^ 1)))) () hg18 Gh.d
  refine cA rfl ?_
  obtain rfl := aq H
  refine br (s18.1,s18.2.1,s18.2.2) () hg18 Gh.d
 have H := bu hn18 Hp18
 refine ao 4 tk rfl (ae (ae ?_))
 refine fy (γ := Unit) (fun t19 g19=>⟨220,upd (upd (upd (upd (upd (upd (upd (upd (upd (fun _=>.any) 185 (bB t19.2)) 24 (af (IntKind.i64.wrap ((IntKind.i64.wrap ((IntKind.i64.wrap (Int.fdiv (IntKind.u64.wrap (IntKind.i64.wrap (a + b))) (2 ^ 1))) + m)) - s18.2.1)))) 20 (af s18.2.1)) 18 (af (IntKind.i64.wrap (Int.fdiv (IntKind.u64.wrap (IntKind.i64.wrap (a + b))) (2 ^ 1))))) 4 (.fn g_cmp caps_cmp)) 3 (af b)) 2 (af m)) 1 (af a)) 0 (.own 0 g_data (t19.1.map (ab 48 aa)).length),fun _=>none,upd (fun _=>none) 0 (some ⟨g_data,51,(t19.1.map (ab 48 aa)),true⟩)⟩) H (fun _ H=>?_) (fun t19 g19 H=>?_)
 ·refine ah (al 4 tk rfl ?_)
  refine dG rfl rfl rfl H (fun H=>?_) (fun H=>?_)
  ·refine al 4 tk rfl (ak ?_)
   refine br _ () H Gh.d
  refine al 4 tk rfl (ak ?_)
  refine br _ () H Gh.d
 refine hP (γ := Unit) (fun t20 g20=>⟨220,upd (upd (upd (upd (upd (upd (upd (fun _=>.any) 24 (af (IntKind.i64.wrap ((IntKind.i64.wrap ((IntKind.i64.wrap (Int.fdiv (IntKind.u64.wrap (IntKind.i64.wrap (a + b))) (2 ^ 1))) + m)) - s18.2.1)))) 20 (af s18.2.1)) 18 (af (IntKind.i64.wrap (Int.fdiv (IntKind.u64.wrap (IntKind.i64.wrap (a + b))) (2 ^ 1))))) 4 (.fn g_cmp caps_cmp)) 3 (af b)) 1 (af a)) 0 (.own 0 g_data (t20.map (ab 48 aa)).length),fun _=>none,upd (fun _=>none) 0 (some ⟨g_data,51,(t20.map (ab 48 aa)),true⟩)⟩) H (fun _ H=>?_) (fun t20 g20 H=>?_)
 ·refine aU rfl H (fun H=>?_) (fun H=>?_)
  ·refine ah (al 5 tk rfl ?_)
   obtain ⟨x191,h191,H⟩ := ar H
   have s191 := dU g_data t19.1 s18.2.1 m (IntKind.i64.wrap ((IntKind.i64.wrap ((IntKind.i64.wrap (Int.fdiv (IntKind.u64.wrap (IntKind.i64.wrap (a + b))) (2 ^ 1))) + m)) - s18.2.1)) cmp hg_cmp hp_cmp _ h191
   obtain ⟨_,q191_0,H⟩ := ar H
   have l191_0 := (bs q191_0).1
   have z191_0 : (List.map (ab 48 aa) t19.1).length = (List.map (ab 48 aa) x191).length := by simpa using (l191_0).symm
   refine cp (g := 92) rfl rfl rfl Tryz.call92 [] [(0,0)] rfl rfl rfl rfl (cJ.of2 (dL.cons (PLe2.own rfl) (dL.cons (PLe2.of_eq rfl) (dL.cons (PLe2.of_eq rfl) (dL.cons (PLe2.of_eq rfl) (dL.cons (PLe2.of_eq rfl) dL.nil)))))) (by rw [bX,bH,bY]; rfl) s191 ?_
   rintro u191 H191h ⟨rfl,rfl⟩
   refine ⟨_,rfl,?_⟩
   refine cW (st' := ⟨_,_,fun _=>none,upd (fun _=>none) 0 (some ⟨g_data,51,(x191.map (ab 48 aa)),true⟩)⟩) (Gh.le (bV _ _) aD (aR aB)) ?_
   refine ak ?_
   refine br _ () (aq H) (Gh.le (bA (PLe.of2 (PLe2.of_eq (congrArg (PV.own 0 g_data) z191_0))) (ax (ax (ax (ax (ax (ax aY))))))) aD (aR aB))
  refine av ?_
  refine br _ () (aq H) Gh.d
 refine ae (ae ?_)
 refine fy (γ := Unit) (fun t21 g21=>⟨220,upd (upd (upd (upd (upd (upd (upd (upd (fun _=>.any) 199 (bB t21.2)) 24 (af (IntKind.i64.wrap ((IntKind.i64.wrap ((IntKind.i64.wrap (Int.fdiv (IntKind.u64.wrap (IntKind.i64.wrap (a + b))) (2 ^ 1))) + m)) - s18.2.1)))) 20 (af s18.2.1)) 18 (af (IntKind.i64.wrap (Int.fdiv (IntKind.u64.wrap (IntKind.i64.wrap (a + b))) (2 ^ 1))))) 4 (.fn g_cmp caps_cmp)) 3 (af b)) 1 (af a)) 0 (.own 0 g_data (t21.1.map (ab 48 aa)).length),fun _=>none,upd (fun _=>none) 0 (some ⟨g_data,51,(t21.1.map (ab 48 aa)),true⟩)⟩) H (fun _ H=>?_) (fun t21 g21 H=>?_)
 ·refine ah (al 4 tk rfl ?_)
  refine dG rfl rfl rfl H (fun H=>?_) (fun H=>?_)
  ·refine al 4 tk rfl (ak ?_)
   refine br _ () H Gh.d
  refine al 4 tk rfl (ak ?_)
  refine br _ () H Gh.d
 refine hP (γ := Unit) (fun t22 g22=>⟨220,upd (upd (upd (upd (upd (fun _=>.any) 24 (af (IntKind.i64.wrap ((IntKind.i64.wrap ((IntKind.i64.wrap (Int.fdiv (IntKind.u64.wrap (IntKind.i64.wrap (a + b))) (2 ^ 1))) + m)) - s18.2.1)))) 18 (af (IntKind.i64.wrap (Int.fdiv (IntKind.u64.wrap (IntKind.i64.wrap (a + b))) (2 ^ 1))))) 4 (.fn g_cmp caps_cmp)) 3 (af b)) 0 (.own 0 g_data (t22.map (ab 48 aa)).length),fun _=>none,upd (fun _=>none) 0 (some ⟨g_data,51,(t22.map (ab 48 aa)),true⟩)⟩) H (fun _ H=>?_) (fun t22 g22 H=>?_)
 ·refine aU rfl H (fun H=>?_) (fun H=>?_)
  ·refine ah (al 5 tk rfl ?_)
   obtain ⟨x205,h205,H⟩ := ar H
   have s205 := hrec59 g_data t21.1 a s18.2.1 (IntKind.i64.wrap (Int.fdiv (IntKind.u64.wrap (IntKind.i64.wrap (a + b))) (2 ^ 1))) _ h205
   obtain ⟨_,q205_0,H⟩ := ar H
   have l205_0 := (bs q205_0).1
   have z205_0 : (List.map (ab 48 aa) t21.1).length = (List.map (ab 48 aa) x205).length := by simpa using (l205_0).symm
   refine cp (g := 59) rfl rfl rfl Tryz.call59 [] [(0,0)] rfl rfl rfl rfl (cJ.of2 (dL.cons (PLe2.own rfl) (dL.cons (PLe2.of_eq rfl) (dL.cons (PLe2.of_eq rfl) (dL.cons (PLe2.of_eq rfl) (dL.cons (PLe2.of_eq rfl) dL.nil)))))) (by rw [bX,bH,bY]; rfl) s205 ?_
   rintro u205 H205h ⟨rfl,rfl⟩
   refine ⟨_,rfl,?_⟩
   refine cW (st' := ⟨_,_,fun _=>none,upd (fun _=>none) 0 (some ⟨g_data,51,(x205.map (ab 48 aa)),true⟩)⟩) (Gh.le (bV _ _) aD (aR aB)) ?_
   refine ak ?_
   refine br _ () (aq H) (Gh.le (bA (PLe.of2 (PLe2.of_eq (congrArg (PV.own 0 g_data) z205_0))) (ax (ax (ax (ax aY))))) aD (aR aB))
  refine av ?_
  refine br _ () (aq H) Gh.d
 refine ae (ah (al 4 tk rfl ?_))
 refine dG rfl rfl rfl H (fun H=>?_) (fun H=>?_)
 ·refine al 4 tk rfl (ak ?_)
  refine aU rfl H (fun H=>?_) (fun H=>?_)
  ·refine ah (al 5 tk rfl ?_)
   obtain ⟨x219,h219,H⟩ := ar H
   have s219 := hrec59 g_data t22 (IntKind.i64.wrap (Int.fdiv (IntKind.u64.wrap (IntKind.i64.wrap (a + b))) (2 ^ 1))) (IntKind.i64.wrap ((IntKind.i64.wrap ((IntKind.i64.wrap (Int.fdiv (IntKind.u64.wrap (IntKind.i64.wrap (a + b))) (2 ^ 1))) + m)) - s18.2.1)) b _ h219
   obtain ⟨_,q219_0,H⟩ := ar H
   have l219_0 := (bs q219_0).1
   have z219_0 : (List.map (ab 48 aa) t22).length = (List.map (ab 48 aa) x219).length := by simpa using (l219_0).symm
   refine cp (g := 59) rfl rfl rfl Tryz.call59 [] [(0,0)] rfl rfl rfl rfl (cJ.of2 (dL.cons (PLe2.own rfl) (dL.cons (PLe2.of_eq rfl) (dL.cons (PLe2.of_eq rfl) (dL.cons (PLe2.of_eq rfl) (dL.cons (PLe2.of_eq rfl) dL.nil)))))) (by rw [bX,bH,bY]; rfl) s219 ?_
   rintro u219 H219h ⟨rfl,rfl⟩
   refine ⟨_,rfl,?_⟩
   refine cW (st' := ⟨_,_,fun _=>none,upd (fun _=>none) 0 (some ⟨g_data,51,(x219.map (ab 48 aa)),true⟩)⟩) (Gh.le (bV _ _) aD (aR aB)) ?_
   refine ak ?_
   obtain rfl := aq H
   refine dl (st' := ⟨220,fun _=>.any,fun _=>none,upd (fun _=>none) 0 (some ⟨g_data,51,(x219.map (ab 48 aa)),true⟩)⟩) (Gh.le aY aD (aR aB)) ?_
   refine eA rfl (PLe.q rfl) ⟨rfl,rfl⟩
  refine av ?_
  obtain rfl := aq H
  refine dl (st' := ⟨220,fun _=>.any,fun _=>none,upd (fun _=>none) 0 (some ⟨g_data,51,(t22.map (ab 48 aa)),true⟩)⟩) (Gh.le aY aD (aR aB)) ?_
  refine eA rfl (PLe.q rfl) ⟨rfl,rfl⟩
 refine al 4 tk rfl (ak (hX rfl (av ?_)))
 obtain rfl := aq H
 refine dl (st' := ⟨220,fun _=>.any,fun _=>none,upd (fun _=>none) 0 (some ⟨g_data,51,(t22.map (ab 48 aa)),true⟩)⟩) (Gh.le aY aD (aR aB)) ?_
 refine eA rfl (PLe.q rfl) ⟨rfl,rfl⟩
def am : Nat → Rz → Int → Int → Int → (Rq → Rq → Option (Int)) → Option (Rz)
 | 0,_,_,_,_,_=>none
 | n + 1,v0,v1,v2,v3,v4=>aJ (fun b0 b1 b2 b3=>am n b0 b1 b2 b3 v4) v0 v1 v2 v3 v4
theorem dC {g_cmp : FuncId} {caps_cmp : List PV} (cmp : Rq → Rq → Option (Int)) (hg_cmp : ∀ (vs : Array Value) (w : World),(callFunc g_cmp vs).run Tryz.prog w = .ok (.enter g_cmp vs) w) (hp_cmp : ∀ a0 a1 r,cmp a0 a1 = some r → bl Tryz.prog g_cmp ((.list 48 (a0.map aa)) :: (.list 48 (a1.map aa)) :: caps_cmp) (af r)) (n : Nat) : (∀ g0 a0 a1 a2 a3 r,am n a0 a1 a2 a3 cmp = some r → PH Tryz.prog 59 [(.own 0 g0 (a0.map (ab 48 aa)).length),(af a1),(af a2),(af a3),(.fn g_cmp caps_cmp)] ⟨fun _=>none,upd (fun _=>none) 0 (some ⟨g0,51,(a0.map (ab 48 aa)),true⟩)⟩ (fun u H=>u = (.tup []) ∧ H = ⟨fun _=>none,upd (fun _=>none) 0 (some ⟨g0,51,(r.map (ab 48 aa)),true⟩)⟩)) := by
 induction n with
 | zero=>exact (by intros; rename_i h; exact absurd (show (none : Option _) = some _ from h) (by simp))
 | succ n ih =>
  exact (fun g0 v0 v1 v2 v3 r h=>dE g0 (fun b0 b1 b2 b3=>am n b0 b1 b2 b3 cmp) ih v0 v1 v2 v3 cmp hg_cmp hp_cmp r h)
def bk (data : Rz) (a : Int) (m : Int) (b : Int) (cmp : Rq → Rq → Option (Int)) : Option (Rz) := limN fun n=>am n data a m b cmp
theorem cB (g_data : OwnRef) {g_cmp : FuncId} {caps_cmp : List PV} (data : Rz) (a : Int) (m : Int) (b : Int) (cmp : Rq → Rq → Option (Int)) (hg_cmp : ∀ (vs : Array Value) (w : World),(callFunc g_cmp vs).run Tryz.prog w = .ok (.enter g_cmp vs) w) (hp_cmp : ∀ a0 a1 r,cmp a0 a1 = some r → bl Tryz.prog g_cmp ((.list 48 (a0.map aa)) :: (.list 48 (a1.map aa)) :: caps_cmp) (af r)) (r : Rz) (H : bk data a m b cmp = some r) :
  PH Tryz.prog 59 [(.own 0 g_data (data.map (ab 48 aa)).length),(af a),(af m),(af b),(.fn g_cmp caps_cmp)] ⟨fun _=>none,upd (fun _=>none) 0 (some ⟨g_data,51,(data.map (ab 48 aa)),true⟩)⟩ (fun u H=>u = (.tup []) ∧ H = ⟨fun _=>none,upd (fun _=>none) 0 (some ⟨g_data,51,(r.map (ab 48 aa)),true⟩)⟩) := by
 obtain ⟨n,h⟩ := limN_some H
 exact (dC cmp hg_cmp hp_cmp n) g_data data a m b r h
def dh (a : Rq) (b : Rq) (byA : LExtsortOrdering) : Option (Int) :=
 ag (cF a byA) fun x9 =>
 ag (cF b byA) fun x12 =>
 ag (cd x9 x12 byA.descending) fun x15 =>
 some x15
theorem gY (a : Rq) (b : Rq) (byA : LExtsortOrdering) (r : Int) (H : dh a b byA = some r) :
  bl Tryz.prog 27 [(.list 48 (a.map aa)),(.list 48 (b.map aa)),(.agg (az byA))] (af r) := by
 unfold dh at H
 refine PH.aL Tryz.func27 Tryz.ntmps27 ?_
 refine ae (ah (cM ?_))
 refine ay tk rfl (ak (ae (cP tk mok ⟨false,false,[]⟩ [0,1,3,4,6,7,2,5,8,9] rfl (by decide +kernel) rfl (aS 6 rfl ?_))))
 obtain ⟨x9,h9,H⟩ := ar H
 have s9 := fQ a byA _ h9
 refine cI Tryz.call44 (cJ.r) s9 ?_
 obtain ⟨x12,h12,H⟩ := ar H
 have s12 := fQ b byA _ h12
 refine cI Tryz.call44 (cJ.r) s12 ?_
 obtain ⟨x15,h15,H⟩ := ar H
 have s15 := fR x9 x12 byA.descending _ h15
 refine cI Tryz.call43 (cJ.r) s15 ?_
 refine hZ rfl (ct ?_)
 exact cE tk H rfl
def bU (a : Rz) (b : Rz) : Option (Bool) :=
 ag (aG a b (fun a0 a1=>bn a0 a1)) fun x7 =>
 some x7
theorem fI (a : Rz) (b : Rz) (r : Bool) (H : bU a b = some r) :
  bl Tryz.prog 7 [(.list 51 (a.map (ab 48 aa))),(.list 51 (b.map (ab 48 aa)))] (bB r) := by
 unfold bU at H
 refine PH.aL Tryz.func7 Tryz.ntmps7 ?_
 refine ao 1 tk rfl (ae (ah (al 2 tk rfl ?_)))
 obtain ⟨x7,h7,H⟩ := ar H
 have s7 := cq a b (fun a0 a1=>bn a0 a1) Tryz.call17 (fun a0 a1 r h=>fm a0 a1 r h) _ h7
 refine bM Tryz.call16 (cJ.r) s7 ?_
 refine ay tk rfl (ak ?_)
 exact cE tk H rfl
def bc (data : Rz) (n : Int) (cmp : Rq → Rq → Option (Int)) : Option (Rz) :=
 ag (bT (σ := Rz × Int × Int) (ρ := Empty) (fun (s1 : Rz × Int × Int) =>
  cond (decide (s1.2.2 ≤ n))
   (ag (aH s1.1 s1.2.1 s1.2.2 cmp) fun x18 =>
   ag (ce (x18.length = s1.1.length) ()) fun (_ : Unit) =>
   some (.next (x18,s1.2.2,(IntKind.i64.wrap (s1.2.2 + (20 : Int))))))
   (some (.brk (s1.1,s1.2.1,s1.2.2)))) (data,0,20)) fun fl1=>fl1.thenP fun (s1 : Rz × Int × Int) =>
 ag (aH s1.1 s1.2.1 n cmp) fun x27 =>
 ag (ce (x27.length = s1.1.length) ()) fun (_ : Unit) =>
 ag (bT (σ := Rz × Int) (ρ := Empty) (fun (s2 : Rz × Int) =>
  cond (decide (s2.2 < n))
   (ag (bT (σ := Rz × Int × Int) (ρ := Empty) (fun (s5 : Rz × Int × Int) =>
    cond (decide (s5.2.2 ≤ n))
     (ag (bk s5.1 s5.2.1 (IntKind.i64.wrap (s5.2.1 + s2.2)) s5.2.2 cmp) fun x43 =>
     ag (ce (x43.length = s5.1.length) ()) fun (_ : Unit) =>
     some (.next (x43,s5.2.2,(IntKind.i64.wrap (s5.2.2 + (IntKind.i64.wrap ((2 : Int) * s2.2)))))))
     (some (.brk (s5.1,s5.2.1,s5.2.2)))) (s2.1,0,(IntKind.i64.wrap ((2 : Int) * s2.2)))) fun fl5=>fl5.thenP fun (s5 : Rz × Int × Int) =>
   cond (decide ((IntKind.i64.wrap (s5.2.1 + s2.2)) < n))
    (ag (bk s5.1 s5.2.1 (IntKind.i64.wrap (s5.2.1 + s2.2)) n cmp) fun x60 =>
    ag (ce (x60.length = s5.1.length) ()) fun (_ : Unit) =>
    some (.next (x60,(IntKind.i64.wrap (s2.2 * (2 : Int))))))
    (some (.next (s5.1,(IntKind.i64.wrap (s2.2 * (2 : Int)))))))
   (some (.brk (s2.1,s2.2)))) (x27,20)) fun fl2=>fl2.thenP fun (s2 : Rz × Int) =>
 some s2.1
theorem dQ (g_data : OwnRef) {g_cmp : FuncId} {caps_cmp : List PV} (data : Rz) (n : Int) (cmp : Rq → Rq → Option (Int)) (hg_cmp : ∀ (vs : Array Value) (w : World),(callFunc g_cmp vs).run Tryz.prog w = .ok (.enter g_cmp vs) w) (hp_cmp : ∀ a0 a1 r,cmp a0 a1 = some r → bl Tryz.prog g_cmp ((.list 48 (a0.map aa)) :: (.list 48 (a1.map aa)) :: caps_cmp) (af r)) (r : Rz) (H : bc data n cmp = some r) :
  PH Tryz.prog 42 [(.own 0 g_data (data.map (ab 48 aa)).length),(af n),(.fn g_cmp caps_cmp)] ⟨fun _=>none,upd (fun _=>none) 0 (some ⟨g_data,51,(data.map (ab 48 aa)),true⟩)⟩ (fun u H=>u = (.tup []) ∧ H = ⟨fun _=>none,upd (fun _=>none) 0 (some ⟨g_data,51,(r.map (ab 48 aa)),true⟩)⟩) := by
 unfold bc at H
 refine PH.aL Tryz.func42 Tryz.ntmps42 ?_
 refine ao 1 tk rfl (ao 3 tk rfl (ae ?_))
 obtain ⟨fl1,H1,Hp1⟩ := ar H
 refine cS (τ := Rz × Int × Int) (γ := Unit) (fun s1 g1=>⟨63,upd (upd (upd (upd (upd (fun _=>.any) 7 (af s1.2.1)) 6 (af 20)) 2 (.fn g_cmp caps_cmp)) 1 (af n)) 0 (.own 0 g_data (s1.1.map (ab 48 aa)).length),fun _=>none,upd (fun _=>none) 0 (some ⟨g_data,51,(s1.1.map (ab 48 aa)),true⟩)⟩) (fun t=>fl1 = .next t) ?_ (fun s1 g1 hn1=>?_)
 ·refine aA ?_
  refine co (fun s1 g1=>⟨63,upd (upd (upd (upd (upd (upd (fun _=>.any) 8 (af s1.2.2)) 7 (af s1.2.1)) 6 (af 20)) 2 (.fn g_cmp caps_cmp)) 1 (af n)) 0 (.own 0 g_data (s1.1.map (ab 48 aa)).length),fun _=>none,upd (fun _=>none) 0 (some ⟨g_data,51,(s1.1.map (ab 48 aa)),true⟩)⟩) () H1 Gh.d (fun m1 s1 g1 hr1=>?_)
  obtain ⟨fb1,H,hg1⟩ := bI hr1
  refine ae (ao 3 tk rfl ?_)
  refine aU rfl H (fun H=>?_) (fun H=>?_)
  ·refine av (aA (ae (ah (al 4 tk rfl ?_))))
   obtain ⟨x18,h18,H⟩ := ar H
   have s18 := ci g_data s1.1 s1.2.1 s1.2.2 cmp hg_cmp hp_cmp _ h18
   obtain ⟨_,q18_0,H⟩ := ar H
   have l18_0 := (bs q18_0).1
   have z18_0 : (List.map (ab 48 aa) s1.1).length = (List.map (ab 48 aa) x18).length := by simpa using (l18_0).symm
   refine cp (g := 58) rfl rfl rfl Tryz.call58 [] [(0,0)] rfl rfl rfl rfl (cJ.of2 (dL.cons (PLe2.own rfl) (dL.cons (PLe2.of_eq rfl) (dL.cons (PLe2.of_eq rfl) (dL.cons (PLe2.of_eq rfl) dL.nil))))) (by rw [bX,bH,bY]; rfl) s18 ?_
   rintro u18 H18h ⟨rfl,rfl⟩
   refine ⟨_,rfl,?_⟩
   refine cW (st' := ⟨_,_,fun _=>none,upd (fun _=>none) 0 (some ⟨g_data,51,(x18.map (ab 48 aa)),true⟩)⟩) (Gh.le (bV _ _) aD (aR aB)) ?_
   refine ak (ao 2 tk rfl (bJ 4 tk rfl (bv ?_)))
   obtain rfl := aq H
   refine bp (x18,s1.2.2,(IntKind.i64.wrap (s1.2.2 + (20 : Int)))) () hg1 (Gh.le (bA (PLe.of2 (PLe2.of_eq (congrArg (PV.own 0 g_data) z18_0))) (ax (ax (ax (ax (ax aY)))))) aD (aR aB))
  refine cA rfl ?_
  obtain rfl := aq H
  refine br (s1.1,s1.2.1,s1.2.2) () hg1 Gh.d
 have H := bu hn1 Hp1
 refine ae (ah (al 4 tk rfl ?_))
 obtain ⟨x27,h27,H⟩ := ar H
 have s27 := ci g_data s1.1 s1.2.1 n cmp hg_cmp hp_cmp _ h27
 obtain ⟨_,q27_0,H⟩ := ar H
 have l27_0 := (bs q27_0).1
 have z27_0 : (List.map (ab 48 aa) s1.1).length = (List.map (ab 48 aa) x27).length := by simpa using (l27_0).symm
 refine cp (g := 58) rfl rfl rfl Tryz.call58 [] [(0,0)] rfl rfl rfl rfl (cJ.of2 (dL.cons (PLe2.own rfl) (dL.cons (PLe2.of_eq rfl) (dL.cons (PLe2.of_eq rfl) (dL.cons (PLe2.of_eq rfl) dL.nil))))) (by rw [bX,bH,bY]; rfl) s27 ?_
 rintro u27 H27h ⟨rfl,rfl⟩
 refine ⟨_,rfl,?_⟩
 refine cW (st' := ⟨_,_,fun _=>none,upd (fun _=>none) 0 (some ⟨g_data,51,(x27.map (ab 48 aa)),true⟩)⟩) (Gh.le (bV _ _) aD (aR aB)) ?_
 refine ak ?_
 obtain ⟨fl2,H2,Hp2⟩ := ar H
 refine cS (τ := Rz × Int) (γ := Unit) (fun s2 g2=>⟨63,upd (fun _=>.any) 0 (.own 0 g_data (s2.1.map (ab 48 aa)).length),fun _=>none,upd (fun _=>none) 0 (some ⟨g_data,51,(s2.1.map (ab 48 aa)),true⟩)⟩) (fun t=>fl2 = .next t) ?_ (fun s2 g2 hn2=>?_)
 ·refine aA ?_
  refine co (fun s2 g2=>⟨63,upd (upd (upd (upd (fun _=>.any) 6 (af s2.2)) 2 (.fn g_cmp caps_cmp)) 1 (af n)) 0 (.own 0 g_data (s2.1.map (ab 48 aa)).length),fun _=>none,upd (fun _=>none) 0 (some ⟨g_data,51,(s2.1.map (ab 48 aa)),true⟩)⟩) () H2 (Gh.le (bA (PLe.of2 (PLe2.of_eq (congrArg (PV.own 0 g_data) z27_0))) (ax (ax (ax aY)))) aD (aR aB)) (fun m2 s2 g2 hr2=>?_)
  obtain ⟨fb2,H,hg2⟩ := bI hr2
  refine ae (ao 3 tk rfl ?_)
  refine aU rfl H (fun H=>?_) (fun H=>?_)
  ·refine av (aA (ao 4 tk rfl (ae ?_)))
   obtain ⟨fl5,H5,Hp5⟩ := ar H
   refine cS (τ := Rz × Int × Int) (γ := Unit) (fun s5 g5=>⟨63,upd (upd (upd (upd (upd (fun _=>.any) 7 (af s5.2.1)) 6 (af s2.2)) 2 (.fn g_cmp caps_cmp)) 1 (af n)) 0 (.own 0 g_data (s5.1.map (ab 48 aa)).length),fun _=>none,upd (fun _=>none) 0 (some ⟨g_data,51,(s5.1.map (ab 48 aa)),true⟩)⟩) (fun t=>fl5 = .next t) ?_ (fun s5 g5 hn5=>?_)
   ·refine aA ?_
    refine co (fun s5 g5=>⟨63,upd (upd (upd (upd (upd (upd (fun _=>.any) 8 (af s5.2.2)) 7 (af s5.2.1)) 6 (af s2.2)) 2 (.fn g_cmp caps_cmp)) 1 (af n)) 0 (.own 0 g_data (s5.1.map (ab 48 aa)).length),fun _=>none,upd (fun _=>none) 0 (some ⟨g_data,51,(s5.1.map (ab 48 aa)),true⟩)⟩) () H5 Gh.d (fun m5 s5 g5 hr5=>?_)
    obtain ⟨fb5,H,hg5⟩ := bI hr5
    refine ae (ao 3 tk rfl ?_)
    refine aU rfl H (fun H=>?_) (fun H=>?_)
    ·refine av (aA (ae (ah (al 7 tk rfl ?_))))
     obtain ⟨x43,h43,H⟩ := ar H
     have s43 := cB g_data s5.1 s5.2.1 (IntKind.i64.wrap (s5.2.1 + s2.2)) s5.2.2 cmp hg_cmp hp_cmp _ h43
     obtain ⟨_,q43_0,H⟩ := ar H
     have l43_0 := (bs q43_0).1
     have z43_0 : (List.map (ab 48 aa) s5.1).length = (List.map (ab 48 aa) x43).length := by simpa using (l43_0).symm
     refine cp (g := 59) rfl rfl rfl Tryz.call59 [] [(0,0)] rfl rfl rfl rfl (cJ.of2 (dL.cons (PLe2.own rfl) (dL.cons (PLe2.of_eq rfl) (dL.cons (PLe2.of_eq rfl) (dL.cons (PLe2.of_eq rfl) (dL.cons (PLe2.of_eq rfl) dL.nil)))))) (by rw [bX,bH,bY]; rfl) s43 ?_
     rintro u43 H43h ⟨rfl,rfl⟩
     refine ⟨_,rfl,?_⟩
     refine cW (st' := ⟨_,_,fun _=>none,upd (fun _=>none) 0 (some ⟨g_data,51,(x43.map (ab 48 aa)),true⟩)⟩) (Gh.le (bV _ _) aD (aR aB)) ?_
     refine ak (ao 2 tk rfl (bJ 5 tk rfl (bv ?_)))
     obtain rfl := aq H
     refine bp (x43,s5.2.2,(IntKind.i64.wrap (s5.2.2 + (IntKind.i64.wrap ((2 : Int) * s2.2))))) () hg5 (Gh.le (bA (PLe.of2 (PLe2.of_eq (congrArg (PV.own 0 g_data) z43_0))) (ax (ax (ax (ax (ax aY)))))) aD (aR aB))
    refine cA rfl ?_
    obtain rfl := aq H
    refine br (s5.1,s5.2.1,s5.2.2) () hg5 Gh.d
   have H := bu hn5 Hp5
   refine ae (ao 4 tk rfl (ao 3 tk rfl ?_))
   refine aU rfl H (fun H=>?_) (fun H=>?_)
   ·refine ah (al 5 tk rfl ?_)
    obtain ⟨x60,h60,H⟩ := ar H
    have s60 := cB g_data s5.1 s5.2.1 (IntKind.i64.wrap (s5.2.1 + s2.2)) n cmp hg_cmp hp_cmp _ h60
    obtain ⟨_,q60_0,H⟩ := ar H
    have l60_0 := (bs q60_0).1
    have z60_0 : (List.map (ab 48 aa) s5.1).length = (List.map (ab 48 aa) x60).length := by simpa using (l60_0).symm
    refine cp (g := 59) rfl rfl rfl Tryz.call59 [] [(0,0)] rfl rfl rfl rfl (cJ.of2 (dL.cons (PLe2.own rfl) (dL.cons (PLe2.of_eq rfl) (dL.cons (PLe2.of_eq rfl) (dL.cons (PLe2.of_eq rfl) (dL.cons (PLe2.of_eq rfl) dL.nil)))))) (by rw [bX,bH,bY]; rfl) s60 ?_
    rintro u60 H60h ⟨rfl,rfl⟩
    refine ⟨_,rfl,?_⟩
    refine cW (st' := ⟨_,_,fun _=>none,upd (fun _=>none) 0 (some ⟨g_data,51,(x60.map (ab 48 aa)),true⟩)⟩) (Gh.le (bV _ _) aD (aR aB)) ?_
    refine ak (bJ 3 tk rfl (bv ?_))
    obtain rfl := aq H
    refine bp (x60,(IntKind.i64.wrap (s2.2 * (2 : Int)))) () hg2 (Gh.le (bA (PLe.of2 (PLe2.of_eq (congrArg (PV.own 0 g_data) z60_0))) (ax (ax (ax aY)))) aD (aR aB))
   refine av (bJ 3 tk rfl (bv ?_))
   obtain rfl := aq H
   refine bp (s5.1,(IntKind.i64.wrap (s2.2 * (2 : Int)))) () hg2 Gh.d
  refine cA rfl ?_
  obtain rfl := aq H
  refine br (s2.1,s2.2) () hg2 Gh.d
 have H := bu hn2 Hp2
 obtain rfl := aq H
 refine dl (st' := ⟨63,fun _=>.any,fun _=>none,upd (fun _=>none) 0 (some ⟨g_data,51,(s2.1.map (ab 48 aa)),true⟩)⟩) (Gh.le aY aD (aR aB)) ?_
 refine eA rfl (PLe.q rfl) ⟨rfl,rfl⟩
def aX (a : Rq) (b : Rq) (c0 : LExtsortOrdering) : Option (Int) :=
 ag (dh a b c0) fun x9 =>
 some x9
theorem fc (a : Rq) (b : Rq) (c0 : LExtsortOrdering) (r : Int) (H : aX a b c0 = some r) :
  bl Tryz.prog 26 [(.list 48 (a.map aa)),(.list 48 (b.map aa)),(.ptr (az c0))] (af r) := by
 unfold aX at H
 refine PH.aL Tryz.func26 Tryz.ntmps26 ?_
 refine ao 1 tk rfl (ae (ah (al 3 tk rfl ?_)))
 obtain ⟨x9,h9,H⟩ := ar H
 have s9 := gY a b c0 _ h9
 refine bM Tryz.call27 (cJ.r) s9 ?_
 refine ay tk rfl (ak ?_)
 exact cE tk H rfl
def au (x : Rz) (cmp : Rq → Rq → Option (Int)) : Option (Rz) :=
 ag (bc x (x.length : Int) cmp) fun x8 =>
 ag (ce (x8.length = x.length) ()) fun (_ : Unit) =>
 some x8
theorem cT (g_x : OwnRef) {g_cmp : FuncId} {caps_cmp : List PV} (x : Rz) (cmp : Rq → Rq → Option (Int)) (hg_cmp : ∀ (vs : Array Value) (w : World),(callFunc g_cmp vs).run Tryz.prog w = .ok (.enter g_cmp vs) w) (hp_cmp : ∀ a0 a1 r,cmp a0 a1 = some r → bl Tryz.prog g_cmp ((.list 48 (a0.map aa)) :: (.list 48 (a1.map aa)) :: caps_cmp) (af r)) (r : Rz) (H : au x cmp = some r) :
  PH Tryz.prog 25 [(.own 0 g_x (x.map (ab 48 aa)).length),(.fn g_cmp caps_cmp)] ⟨fun _=>none,upd (fun _=>none) 0 (some ⟨g_x,51,(x.map (ab 48 aa)),true⟩)⟩ (fun u H=>u = (.tup []) ∧ H = ⟨fun _=>none,upd (fun _=>none) 0 (some ⟨g_x,51,(r.map (ab 48 aa)),true⟩)⟩) := by
 unfold au at H
 refine PH.aL Tryz.func25 Tryz.ntmps25 ?_
 refine ah (al 2 tk rfl (Ao.lenO tk rfl rfl rfl rfl rfl (zl _) rfl (ay tk rfl ?_)))
 obtain ⟨x8,h8,H⟩ := ar H
 have s8 := dQ g_x x (x.length : Int) cmp hg_cmp hp_cmp _ h8
 obtain ⟨_,q8_0,H⟩ := ar H
 have l8_0 := (bs q8_0).1
 have z8_0 : (List.map (ab 48 aa) x).length = (List.map (ab 48 aa) x8).length := by simpa using (l8_0).symm
 refine cp (g := 42) rfl rfl rfl Tryz.call42 [] [(0,0)] rfl rfl rfl rfl (cJ.of2 (dL.cons (PLe2.own rfl) (dL.cons (PLe2.of_eq rfl) (dL.cons (PLe2.of_eq rfl) dL.nil)))) (by rw [bX,bH,bY]; rfl) s8 ?_
 rintro u8 H8h ⟨rfl,rfl⟩
 refine ⟨_,rfl,?_⟩
 refine cW (st' := ⟨_,_,fun _=>none,upd (fun _=>none) 0 (some ⟨g_x,51,(x8.map (ab 48 aa)),true⟩)⟩) (Gh.le (bV _ _) aD (aR aB)) ?_
 refine ak ?_
 obtain rfl := aq H
 refine dl (st' := ⟨9,fun _=>.any,fun _=>none,upd (fun _=>none) 0 (some ⟨g_x,51,(x8.map (ab 48 aa)),true⟩)⟩) (Gh.le aY aD (aR aB)) ?_
 refine eA rfl (PLe.q rfl) ⟨rfl,rfl⟩
end
end Go.Proofs.YtnnieenoapkefaaGreatDoor
