/- sortMemoryIsIrrelevant_holds, part 2: the layer, the plain functions and what they compute; conditions as in the statement. -/
import Derived.Test.YtnnieenoapkefaaGreatDoorSma
set_option maxHeartbeats 4000000
namespace Go.Ab
noncomputable section
open Go.ChangeShapes
def dZ (W : World) : Mem := fun b o=>W.cell? ⟨b,o,none⟩
def laidFs (P : Program) : Nat → List Field → Bool
 | _,[]=>true
 | o,f :: fs=>Nat.beq f.offset o && laidFs P (o + P.cellsOf f.type) fs
def okT (P : Program) (S : List TypeId) (t : TypeId) : Bool :=
 match P.underlying t with
 | some .bool | some (.int _) | some .string=>true
 | some (.slice e)=>S.contains e && Nat.blt 0 (P.cellsOf e)
 | some (.struct fs)=>laidFs P 0 fs.toList && fs.toList.all (fun f=>S.contains f.type) && Nat.beq (fs.toList.map fun f=>P.cellsOf f.type).sum (P.cellsOf t)
 | _=>false
def fX (Sh : TypeId → List PV → Prop) : List TypeId → List PV → Prop
 | [],pvs=>pvs = []
 | t :: ts,pvs=>∃ a b,pvs = a ++ b ∧ Sh t a ∧ fX Sh ts b
def Sh (P : Program) : Nat → TypeId → List PV → Prop
 | 0,_,_=>False
 | n + 1,t,pvs=>match P.underlying t with
  | some .bool=>∃ b,pvs = [.val (.bool b)]
  | some (.int k)=>∃ m,pvs = [.val (.int k m)] ∧ (Lit.int k m).wf = true
  | some .string=>∃ l,pvs = [.str l] ∧ l.length ≤ 2 ^ 47
  | some (.slice e)=>∃ rows,pvs = [.list e rows] ∧ ∀ r ∈ rows,Sh P n e r
  | some (.struct fs)=>fX (Sh P n) (fs.toList.map (·.type)) pvs
  | _=>False
section
variable {H : Type} {enc : TypeId × Value → H} {P : Program} {W : World} {S : List TypeId}
theorem bn.of_cells {b : Nat} : ∀ {o : Nat} {pvs : List PV} {cs : List Value},ak P (dZ W) false pvs cs → (∀ x ∈ cs,x.oneCell' = true) → (∀ j,j < cs.length → W.cell? ⟨b,o + j,none⟩ = cs[j]?) → bn P (dZ W) b o pvs
 | _,[],_,_,_,_=>by simp [bn]
 | o,p :: ps,cs,h,h1,hm=>by
  simp only [ak] at h
  obtain ⟨x,xs,rfl,h2,h3⟩ := h
  simp only [bn]
  refine ⟨⟨x,?_,h1 x (by simp),h2⟩,bn.of_cells h3 (fun y hy=>h1 y (by simp [hy])) fun j hj=>?_⟩
  ·simpa [dZ] using hm 0 (by simp)
  ·have := hm (j + 1) (by simpa using hj)
   rw [show o + 1 + j = o + (j + 1) from by omega]
   simpa using this
theorem Sh.one : ∀ {n : Nat} {t : TypeId} {pvs : List PV},Sh P n t pvs → pvs.all PV.one = true := by
 intro n
 induction n with
 | zero=>intro t pvs h; simp [Sh] at h
 | succ n ih =>
  intro t pvs h
  simp only [Sh] at h
  split at h
  ·obtain ⟨b,rfl⟩ := h; rfl
  ·obtain ⟨m,rfl,_⟩ := h; rfl
  ·obtain ⟨l,rfl,_⟩ := h; rfl
  ·obtain ⟨rows,rfl,_⟩ := h; rfl
  ·rename_i fs _
   generalize fs.toList.map (·.type) = ts at h
   induction ts generalizing pvs with
   | nil=>simp only [fX] at h; subst h; rfl
   | cons t ts iht =>
    simp only [fX] at h
    obtain ⟨a,b,rfl,h1,h2⟩ := h
    rw [List.all_append,ih h1,iht h2]
    rfl
  ·cases h
theorem abs_struct {n : Nat} (ih : ∀ t ∈ S,∀ (cs : List Value) x,DataW.trod enc P W 0 (fun _=>true) true n t cs = some x → (x.1.weights P t).all (· ≤ reachBytes) = true → ∃ pvs,Sh P n t pvs ∧ ak P (dZ W) false pvs cs) :
  ∀ (fs : List Field) (o : Nat) (cs : List Value) (xs : List (DataW H × List MemPlace)),laidFs P o fs = true → fs.all (fun f=>S.contains f.type) = true → o + (fs.map fun f=>P.cellsOf f.type).sum = cs.length →
   (fs.mapM fun f=>DataW.trod enc P W 0 (fun _=>true) true n f.type ((cs.drop f.offset).take (P.cellsOf f.type))) = some xs →
   (DataW.weightsEach P (fs.map (·.type)) (xs.map (·.1))).all (· ≤ reachBytes) = true → ∃ pvs,fX (Sh P n) (fs.map (·.type)) pvs ∧ ak P (dZ W) false pvs (cs.drop o)
 | [],o,cs,xs,_,_,hlen,_,_=>by
  refine ⟨[],by simp [fX],?_⟩
  simp only [ak]
  exact List.drop_eq_nil_of_le (by simp at hlen; omega)
 | f :: fs,o,cs,xs,hl,hS,hlen,hm,hw=>by
  simp only [laidFs,Bool.and_eq_true] at hl
  simp only [List.all_cons,Bool.and_eq_true] at hS
  simp only [List.map_cons,List.sum_cons] at hlen
  have hoff : f.offset = o := Nat.eq_of_beq_eq_true hl.1
  rw [List.mapM_cons] at hm
  cases hx : DataW.trod enc P W 0 (fun _=>true) true n f.type ((cs.drop f.offset).take (P.cellsOf f.type)) with
  | none=>rw [hx] at hm; cases hm
  | some x =>
   rw [hx] at hm
   cases hr : (fs.mapM fun f=>DataW.trod enc P W 0 (fun _=>true) true n f.type ((cs.drop f.offset).take (P.cellsOf f.type))) with
   | none=>rw [hr] at hm; cases hm
   | some r =>
    rw [hr] at hm
    have hm' : x :: r = xs := Option.some.inj hm
    subst hm'
    simp only [List.map_cons,DataW.weightsEach,List.all_append,Bool.and_eq_true] at hw
    obtain ⟨pa,ha1,ha2⟩ := ih f.type (by simpa using hS.1) _ x hx hw.1
    obtain ⟨pb,hb1,hb2⟩ := abs_struct ih fs (o + P.cellsOf f.type) cs r hl.2 hS.2 (by omega) hr hw.2
    refine ⟨pa ++ pb,⟨pa,pb,rfl,ha1,hb1⟩,?_⟩
    have := ha2.append hb2
    rw [hoff] at this
    have e : (cs.drop o).take (P.cellsOf f.type) ++ cs.drop (o + P.cellsOf f.type) = cs.drop o := by
     rw [← List.drop_drop]; exact List.take_append_drop _ _
    rwa [e] at this
theorem abs_rows {n : Nat} {e : TypeId} (ih : ∀ (cs : List Value) x,DataW.trod enc P W 0 (fun _=>true) true n e cs = some x → (x.1.weights P e).all (· ≤ reachBytes) = true → ∃ pvs,Sh P n e pvs ∧ ak P (dZ W) false pvs cs)
  {b o c : Nat} : ∀ (elems : List (DataW H × List MemPlace)) (k : Nat),(∀ j,j < elems.length → ((W.cells? 0 ((⟨b,o,none⟩ : Addr).add ((k + j) * c)) c).bind (DataW.trod enc P W 0 (fun _=>true) true n e)) = elems[j]?) →
   (DataW.weightsAll P e (elems.map (·.1))).all (· ≤ reachBytes) = true → ∃ rows : List (List PV),rows.length = elems.length ∧ (∀ r ∈ rows,Sh P n e r) ∧ bl P (dZ W) c b (o + k * c) rows
 | [],k,_,_=>⟨[],rfl,by simp,by simp [bl]⟩
 | x :: r,k,hj,hw=>by
  simp only [List.map_cons,DataW.weightsAll,List.all_append,Bool.and_eq_true] at hw
  have h0 := hj 0 (by simp)
  simp only [Nat.add_zero,List.getElem?_cons_zero] at h0
  cases hcs : W.cells? 0 ((⟨b,o,none⟩ : Addr).add (k * c)) c with
  | none=>rw [hcs] at h0; cases h0
  | some cs =>
   rw [hcs] at h0
   simp only [Option.bind_some] at h0
   obtain ⟨pv,hp1,hp2⟩ := ih cs x h0 hw.1
   obtain ⟨_,hlen,hcell⟩ := World.cells?_some hcs
   obtain ⟨rows,hr1,hr2,hr3⟩ := abs_rows ih r (k + 1) (fun j hj'=>by
    have := hj (j + 1) (by simpa using hj')
    rw [show k + (j + 1) = k + 1 + j from by omega] at this
    simpa using this) hw.2
   refine ⟨pv :: rows,by simp [hr1],?_,?_⟩
   ·intro q hq
    rcases List.mem_cons.1 hq with rfl | hq
    ·exact hp1
    ·exact hr2 q hq
   ·simp only [bl]
    have hpl : pv.length = c := by rw [← hlen]; exact (hp2.length).symm
    have hone : ∀ y ∈ cs,y.oneCell' = true := ak.oneCell hp1.one hp2
    refine ⟨hpl,bn.of_cells hp2 hone fun j hj'=>?_,?_⟩
    ·have := hcell j (by omega)
     rw [← this,cx,cx]
    ·rw [show o + (k + 1) * c = o + k * c + c from by rw [Nat.add_mul]; omega] at hr3
     exact hr3
theorem trod_int_some {n : Nat} {t : TypeId} {k : IntKind} {cs : List Value} {x : DataW H × List MemPlace} {sp : Nat → Bool} (hu : P.underlying t = some (.int k)) (h : DataW.trod enc P W 0 sp true (n + 1) t cs = some x) : ∃ m,cs = [.int k m] ∧ (Lit.int k m).wf = true := by
 unfold DataW.trod at h
 rw [hu] at h
 split at h <;> simp_all
theorem trod_bool_some {n : Nat} {t : TypeId} {cs : List Value} {x : DataW H × List MemPlace} {sp : Nat → Bool} (hu : P.underlying t = some .bool) (h : DataW.trod enc P W 0 sp true (n + 1) t cs = some x) : ∃ b,cs = [.bool b] := by
 unfold DataW.trod at h
 rw [hu] at h
 split at h <;> simp_all
theorem trod_str_some {n : Nat} {t : TypeId} {cs : List Value} {x : DataW H × List MemPlace} {sp : Nat → Bool} (hu : P.underlying t = some .string) (h : DataW.trod enc P W 0 sp true (n + 1) t cs = some x) : ∃ s : ByteArray,cs = [.string s] ∧ x.1 = .lit (.string s.data.toList) := by
 unfold DataW.trod at h
 rw [hu] at h
 split at h <;> simp_all
 rw [← h.2]
theorem jZ {n : Nat} {t : TypeId} {fs : Array Field} {cs : List Value} {x : DataW H × List MemPlace} {sp : Nat → Bool} (hu : P.underlying t = some (.struct fs)) (h : DataW.trod enc P W 0 sp true (n + 1) t cs = some x) :
  cs.length = P.cellsOf t ∧ ∃ xs,(fs.toList.mapM fun f=>DataW.trod enc P W 0 sp true n f.type ((cs.drop f.offset).take (P.cellsOf f.type))) = some xs ∧ x = (.agg (xs.map (·.1)),xs.flatMap (·.2)) := by
 unfold DataW.trod at h
 rw [hu] at h
 split at h <;> simp_all
 obtain ⟨_,a,h2,h3⟩ := h
 exact ⟨a,h2,h3.symm⟩
theorem kg {n : Nat} {t e : TypeId} {cs : List Value} {x : DataW H × List MemPlace} (hu : P.underlying t = some (.slice e)) (h : DataW.trod enc P W 0 (fun _=>true) true (n + 1) t cs = some x) :
  (cs = [.slice none 0 0] ∧ x = (.nil,[])) ∨ ∃ a len cap elems rest,cs = [.slice (some a) len cap] ∧ len ≤ cap ∧ cap ≤ maxLen ∧
   ((List.range len).mapM fun i=>(W.cells? 0 (a.add (i * P.cellsOf e)) (P.cellsOf e)).bind (DataW.trod enc P W 0 (fun _=>true) true n e)) = some elems ∧
   ((List.range (cap - len)).mapM fun i=>(W.cells? 0 (a.add ((len + i) * P.cellsOf e)) (P.cellsOf e)).bind (DataW.trod enc P W 0 (fun _=>true) true n e)) = some rest ∧
   x.1 = .slice (elems.map (·.1)) (rest.map (·.1)) := by
 unfold DataW.trod at h
 rw [hu] at h
 split at h <;> simp_all
 rename_i e' a len cap _
 obtain ⟨⟨h1,h2⟩,h3⟩ := h
 cases hel : ((List.range len).mapM fun i=>(W.cells? 0 (a.add (i * P.cellsOf e')) (P.cellsOf e')).bind (DataW.trod enc P W 0 (fun _=>true) true n e')) with
 | none=>rw [hel] at h3; cases h3
 | some elems =>
  rw [hel,Option.bind_some] at h3
  cases hre : ((List.range (cap - len)).mapM fun i=>(W.cells? 0 (a.add ((len + i) * P.cellsOf e')) (P.cellsOf e')).bind (DataW.trod enc P W 0 (fun _=>true) true n e')) with
  | none=>rw [hre] at h3; cases h3
  | some rest =>
   rw [hre,Option.map_some,zo] at h3
   exact ⟨a,len,cap,⟨rfl,rfl,rfl⟩,h1,h2,elems,hel,rest,hre,by rw [← h3]⟩
theorem abs (hS : S.all (okT P S) = true) (hinf : ∀ t ∈ S,∃ i,P.info? t = some i ∧ i.bytes = P.bytesOf t ∧ i.size = P.cellsOf t) : ∀ (n : Nat) (t : TypeId),t ∈ S → ∀ (cs : List Value) x,DataW.trod enc P W 0 (fun _=>true) true n t cs = some x →
  (x.1.weights P t).all (· ≤ reachBytes) = true → ∃ pvs,Sh P n t pvs ∧ ak P (dZ W) false pvs cs := by
 intro n
 induction n with
 | zero=>intro t _ cs x h; simp [DataW.trod] at h
 | succ n ih =>
  intro t ht cs x h hw
  have hok := List.all_eq_true.1 hS t ht
  unfold okT at hok
  simp only [Sh]
  split at hok
  ·rename_i hu
   obtain ⟨b,rfl⟩ := trod_bool_some hu h
   exact ⟨_,⟨b,rfl⟩,by simp [ak,Rep]⟩
  ·rename_i k hu
   obtain ⟨m,rfl,hm⟩ := trod_int_some hu h
   exact ⟨_,⟨m,rfl,hm⟩,by simp [ak,Rep]⟩
  ·rename_i hu
   obtain ⟨s,rfl,hx⟩ := trod_str_some hu h
   rw [hx] at hw
   simp only [DataW.weights,List.all_cons,List.all_nil,Bool.and_true,decide_eq_true_eq] at hw
   have hle : s.data.toList.length ≤ 2 ^ 47 := Nat.le_trans hw (by unfold reachBytes; omega)
   refine ⟨_,⟨s.data.toList,rfl,hle⟩,?_⟩
   simp only [ak,Rep]
   exact ⟨_,[],rfl,⟨by simp,Nat.le_trans hle (by unfold fY; omega)⟩,rfl⟩
  ·rename_i e hu
   simp only [Bool.and_eq_true] at hok
   have he : e ∈ S := by simpa using hok.1
   obtain ⟨i,hi1,hi2,hi3⟩ := hinf e he
   rcases kg hu h with ⟨rfl,rfl⟩ | ⟨a,len,cap,elems,rest,rfl,hlc,hcm,hel,hre,hx⟩
   ·refine ⟨_,⟨[],rfl,by simp⟩,?_⟩
    simp only [ak,Rep]
    exact ⟨_,[],rfl,⟨none,0,i,rfl,by simp,by simp,hi1,by simp,by simp⟩,rfl⟩
   ·have hlen : elems.length = len := by simpa using mapM_some_length hel
    have hrlen : rest.length = cap - len := by simpa using mapM_some_length hre
    rw [hx] at hw
    simp only [DataW.weights,hu,List.all_cons,List.all_append,zl,Bool.and_eq_true,decide_eq_true_eq] at hw
    have hpos : 0 < P.cellsOf e := by simpa [Nat.blt_eq] using hok.2
    have hget : ∀ j,j < elems.length → (W.cells? 0 (a.add (j * P.cellsOf e)) (P.cellsOf e)).bind (DataW.trod enc P W 0 (fun _=>true) true n e) = elems[j]? := fun j hj=>mapM_some_get hel j j (List.getElem?_range (by omega))
    have hsp : elems ≠ [] → a.spot = none := fun hne=>by
     have h0 := hget 0 (List.length_pos_iff.2 hne)
     rw [Nat.zero_mul] at h0
     cases hcs : W.cells? 0 (a.add 0) (P.cellsOf e) with
     | none=>rw [hcs] at h0; cases elems with
      | nil=>exact absurd rfl hne
      | cons _ _=>cases h0
     | some cs =>
      obtain ⟨_,hl,hc⟩ := World.cells?_some hcs
      have := hc 0 hpos
      cases hs : a.spot with
      | none=>rfl
      | some q =>
       have h1 : W.cell? ((a.add 0).add 0) = none := by
        simp only [World.cell?,Addr.add,hs,if_true]
        split <;> simp
       rw [h1] at this
       have := List.getElem?_eq_none_iff.1 this.symm
       omega
    have hby : len * i.bytes ≤ 2 ^ 47 := by
     have h1 := hw.1
     rw [hi2]
     have : len * P.bytesOf e ≤ (elems.length + rest.length) * P.bytesOf e := Nat.mul_le_mul_right _ (by omega)
     unfold reachBytes at h1
     omega
    by_cases hne : elems = []
    ·subst hne
     refine ⟨_,⟨[],rfl,by simp⟩,?_⟩
     simp only [List.length_nil] at hlen
     subst hlen
     simp only [ak,Rep]
     exact ⟨_,[],rfl,⟨some a,cap,i,rfl,by simp,hcm,hi1,by simp,by simp⟩,rfl⟩
    ·obtain ⟨b,o,sp⟩ := a
     have := hsp hne
     simp only at this
     subst this
     obtain ⟨rows,hr1,hr2,hr3⟩ := abs_rows (fun cs x hx hw=>ih e he cs x hx hw) elems 0 (fun j hj=>by rw [Nat.zero_add]; exact hget j hj) hw.2.1
     refine ⟨_,⟨rows,rfl,hr2⟩,?_⟩
     simp only [ak,Rep]
     have hrl : rows.length = len := by omega
     rw [hrl]
     refine ⟨_,[],rfl,⟨some ⟨b,o,none⟩,cap,i,rfl,hlc,hcm,hi1,hby,fun _=>⟨b,o,rfl,?_⟩⟩,rfl⟩
     rw [hi3]
     simpa using hr3
  ·rename_i fs hu
   simp only [Bool.and_eq_true] at hok
   obtain ⟨hl,xs,hm,hx⟩ := jZ hu h
   rw [hx] at hw
   simp only [DataW.weights,hu] at hw
   have hsum := Nat.eq_of_beq_eq_true hok.2
   obtain ⟨pvs,h1,h2⟩ := abs_struct ih fs.toList 0 cs xs hok.1.1 hok.1.2 (by rw [hsum,hl]; omega) hm hw
   exact ⟨pvs,h1,by simpa using h2⟩
  ·cases hok
end
def eV (P : Program) (t : TypeId) (pvs : List PV) : PV :=
 match P.underlying t with
 | some (.struct _)=>.agg pvs
 | _=>pvs.headD .any
def ArgsSh (P : Program) : List TypeId → List PV → Prop
 | [],av0=>av0 = []
 | t :: ts,av0=>∃ n pvs rest,av0 = eV P t pvs :: rest ∧ Sh P n t pvs ∧ ArgsSh P ts rest
section
variable {H : Type} {enc : TypeId × Value → H} {P : Program} {W : World} {S : List TypeId}
theorem abs_val (hS : S.all (okT P S) = true) (hinf : ∀ t ∈ S,∃ i,P.info? t = some i ∧ i.bytes = P.bytesOf t ∧ i.size = P.cellsOf t) {base : Nat} {t : TypeId} (ht : t ∈ S) {v : Value} {d : DataW H} {ps : List MemPlace}
  (hv : Value.okWide P W .any base t v) (h : DataW.Trod enc P W 0 (fun _=>true) true t v d ps) (hw : (d.weights P t).all (· ≤ reachBytes) = true) : ∃ n pvs,Sh P n t pvs ∧ Rep P (dZ W) true (eV P t pvs) v := by
 obtain ⟨n,hn⟩ := h
 obtain ⟨pvs,h1,h2⟩ := abs hS hinf n t ht _ (d,ps) hn hw
 refine ⟨n,pvs,h1,?_⟩
 have h2' := ak.slot h2
 have hok := List.all_eq_true.1 hS t ht
 unfold okT at hok
 unfold eV
 have one : v.cells = #[v] → Rep P (dZ W) true (pvs.headD .any) v := by
  intro e
  rw [e] at h2'
  cases pvs with
  | nil=>simp [ak] at h2'
  | cons p ps =>
   simp only [ak] at h2'
   obtain ⟨x,xs,hx,hp,_⟩ := h2'
   simp only [List.cons.injEq] at hx
   rw [hx.1]
   exact hp
 cases hu : P.underlying t with
 | none=>rw [hu] at hok; cases hok
 | some td =>
  rw [hu] at hok
  cases td <;> first | (simp only [Bool.false_eq_true] at hok; done) | skip
  case bool=>obtain ⟨b,rfl⟩ := WideShapes.okWide_bool hu hv; exact one rfl
  case int k=>obtain ⟨m,rfl⟩ := WideShapes.okWide_int hu hv; exact one rfl
  case string=>obtain ⟨s,rfl⟩ := WideShapes.okWide_string hu hv; exact one rfl
  case slice e=>obtain ⟨a,len,cap,rfl⟩ := WideShapes.okWide_slice hu hv; exact one rfl
  case struct fs =>
   obtain ⟨cs,rfl,_⟩ := WideShapes.okWide_struct hu hv
   simp only [Rep]
   exact ⟨cs,rfl,h2'⟩
theorem abs_args (hS : S.all (okT P S) = true) (hinf : ∀ t ∈ S,∃ i,P.info? t = some i ∧ i.bytes = P.bytesOf t ∧ i.size = P.cellsOf t) {base : Nat} : ∀ {ts : List TypeId} {vs : List Value} {ds : List (DataW H)} {ps : List MemPlace},(∀ t ∈ ts,t ∈ S) →
  (∀ (j : Nat) t v,ts[j]? = some t → vs[j]? = some v → Value.okWide P W .any base t v) → DataW.TrodAll enc P W 0 (fun _=>true) true ts vs ds ps → (DataW.weightsEach P ts ds).all (· ≤ reachBytes) = true →
  ∃ av0,ArgsSh P ts av0 ∧ ak P (dZ W) true av0 vs
 | [],_,_,_,_,_,h,_=>by
  obtain ⟨rfl,rfl,rfl⟩ := trodAll_nil h
  exact ⟨[],rfl,by simp [ak]⟩
 | t :: ts,_,_,_,hm,hv,h,hw=>by
  obtain ⟨v,vs,d,ds,p,q,rfl,rfl,rfl,h1,h2⟩ := trodAll_cons h
  simp only [DataW.weightsEach,List.all_append,Bool.and_eq_true] at hw
  obtain ⟨n,pvs,a1,a2⟩ := abs_val hS hinf (hm t (by simp)) (hv 0 t v rfl rfl) h1 hw.1
  obtain ⟨av0,b1,b2⟩ := abs_args hS hinf (fun t ht=>hm t (by simp [ht])) (fun j t v ht hv'=>hv (j + 1) t v (by simpa using ht) (by simpa using hv')) h2 hw.2
  refine ⟨eV P t pvs :: av0,⟨n,pvs,av0,rfl,a1,b1⟩,?_⟩
  simp only [ak]
  exact ⟨v,vs,rfl,a2,b2⟩
theorem iY (hl : laidOutB P = true) {W' : World} (hb : RowKit.Below W.heap.size W W') {sp : Nat → Bool} : ∀ {ts : List TypeId} {vs : List Value} {ds : List (DataW H)} {ps : List MemPlace},(∀ t ∈ ts,P.readableRec t = true ∧ t < P.types.size) →
  DataW.TrodAll enc P W 0 (fun _=>true) true ts vs ds ps → (∀ x ∈ ps,x.block < W.heap.size) → (∀ x ∈ ps,sp x.block = true) → DataW.TrodAll enc P W' 0 sp true ts vs ds ps
 | [],_,_,_,_,h,_,_=>by
  obtain ⟨rfl,rfl,rfl⟩ := trodAll_nil h
  exact trodAll_mk0
 | t :: ts,_,_,_,hr,h,hlt,hsp=>by
  obtain ⟨v,vs,d,ds,p,q,rfl,rfl,rfl,h1,h2⟩ := trodAll_cons h
  exact ⟨p,q,WideElems.Trod_stays hl (hr t (by simp)).1 (hr t (by simp)).2 h1 (fun x hx=>hb.same (hlt x (by simp [hx]))) (fun x hx=>hsp x (by simp [hx])),
   iY hl hb (fun t ht=>hr t (by simp [ht])) h2 (fun x hx=>hlt x (by simp [hx])) (fun x hx=>hsp x (by simp [hx])),rfl⟩
theorem jS {sp : Nat → Bool} {hd : Bool} : ∀ {ts : List TypeId} {vs : List Value} {ds : List (DataW H)} {ps : List MemPlace},DataW.TrodAll enc P W 0 sp hd ts vs ds ps → ds.length = ts.length
 | [],_,_,_,h=>by
  obtain ⟨_,rfl,_⟩ := trodAll_nil h
  rfl
 | t :: ts,_,_,_,h=>by
  obtain ⟨v,vs,d,ds,p,q,rfl,rfl,rfl,_,h2⟩ := trodAll_cons h
  simp [jS h2]
theorem InvH.start (W : World) (hg : Gl W []) : InvH P ⟨W,[],dZ W,hg,[]⟩ (dZ W) Heap.empty W :=
 ⟨fun _ _ _ h=>h,Mem.le_refl _,fun _ _ _ h=>.inl h,rfl,rfl,rfl,Nat.le_refl _,fun _ _ _=>rfl,fun _ _ h=>by simp [Heap.empty] at h,fun _ _ h=>by simp [Heap.empty] at h,
  fun _ _ _ _ h=>by simp [Heap.empty] at h,fun _ _ _ _ _ h=>by simp [Heap.empty] at h,fun _ _ _ _ h=>by simp [Heap.empty] at h⟩
theorem InvH.below {hg : Gl W []} {M : Mem} {Hp : Heap} {W' : World} (h : InvH P ⟨W,[],dZ W,hg,[]⟩ M Hp W') : RowKit.Below W.heap.size W W' :=
 ⟨h.os,h.tape,h.output,h.size,fun k hk=>h.frame k hk (by simp)⟩
theorem law_calls (hl : laidOutB P = true) {f : FuncId} {fn : Func} {s : ChangeSpec} {fresh handsOn again : Bool} {tb : TypeId} (hvars : s.vars = []) (hr : ∀ t ∈ fn.params.toList,P.readableRec t = true ∧ t < P.types.size) (hres : fn.resultTypes = #[tb]) (htb : P.underlying tb = some .bool)
  (hfn : ∀ ds : List (DataW H),ds.length = fn.params.toList.length → s.fn H ds = { results := [.lit (.bool true)],args := ds })
  (hS : S.all (okT P S) = true) (hinf : ∀ t ∈ S,∃ i,P.info? t = some i ∧ i.bytes = P.bytesOf t ∧ i.size = P.cellsOf t) (hm : ∀ t ∈ fn.params.toList,t ∈ S)
  (hspec : ∀ av0,ArgsSh P fn.params.toList av0 → bJ P f av0 (.val (.bool true)))
  {base : Nat} {args : Array Value} {ds gs : List (DataW H)} {before : List MemPlace} (hval : ∀ (j : Nat) t v,fn.params[j]? = some t → args[j]? = some v → Value.okWide P W .any base t v)
  (hW : DataW.Whole enc P fn.params.toList s.vars false W args.toList ds gs before) (hg : Gl W []) (hsz : (DataW.weightsEach P (fn.params.toList ++ s.plain.varTypes P) (ds ++ gs)).all (· ≤ reachBytes) = true) :
  Calls P f args W fun e W'=>∃ v,e = .returned v ∧ s.post enc P fn false fresh handsOn again W args v W' := by
 have hlt := hW.lt
 have hW' := hW
 obtain ⟨p,q,hA,hV,rfl,hz,hn⟩ := hW
 have hV' := hV
 rw [hvars] at hV
 obtain ⟨rfl,rfl⟩ := trodVars_none hV
 have hvt : s.plain.varTypes P = [] := by simp [DataSpec.varTypes,ChangeSpec.plain,hvars]
 rw [hvt,List.append_nil,List.append_nil] at hsz
 have hlen : ds.length = fn.params.toList.length := jS hA
 obtain ⟨av0,h1,h2⟩ := abs_args hS hinf hm (fun j t v ht hv=>hval j t v (by simpa using ht) (by simpa using hv)) hA hsz
 refine (hspec av0 h1 W (dZ W) [] hg args (InvH.start W hg) h2).mono ?_
 rintro e W' ⟨v,u,H',M',rfl,⟨rfl,rfl⟩,hi,hrep⟩
 simp only [Rep] at hrep
 subst hrep
 have hb := hi.below
 refine ⟨_,rfl,?_⟩
 have hfn' : s.fn H (ds ++ []) = { results := [.lit (.bool true)],args := ds } := by rw [List.append_nil]; exact hfn ds hlen
 have hargs : ∀ sp : Nat → Bool,(∀ x ∈ p ++ [],sp x.block = true) → DataW.TrodAll enc P W' 0 sp true fn.params.toList args.toList ds p := fun sp hsp =>
  iY hl hb hr hA (fun x hx=>hlt x (by simp [hx])) (fun x hx=>hsp x (by simp [hx]))
 have hres' : ∀ (b : Nat) (sp : Nat → Bool) (hd : Bool),DataW.TrodAll enc P W' b sp hd fn.resultTypes.toList ((Value.bool true).resultList fn.resultTypes.size) [.lit (.bool true)] [] := by
  intro b sp hd
  rw [hres]
  refine trodAll_mk1 ⟨1,?_⟩
  show DataW.trod enc P W' b sp hd 1 tb [.bool true] = _
  unfold DataW.trod
  rw [htb]
 have hvs : ∀ sp : Nat → Bool,DataW.TrodVars enc P W' sp s.vars ([] : List (DataW H)) [] := fun sp=>by rw [hvars]; simp [DataW.TrodVars]
 have hold : ∀ x ∈ p ++ [],(fun b=>decide (b < W.heap.size)) x.block = true := fun x hx=>by simpa using hlt x hx
 refine ⟨ds,[],p ++ [],[],p,[],hW',?_,?_,?_,hb.frame _,fun _=>⟨RowKit.ok_one hres rfl (RowKit.okWide_bool_mk htb true),[.lit (.bool true)] ++ ds,[],([] ++ p) ++ [],⟨[] ++ p,[],?_,hvs _,rfl,?_,fun h=>by cases h⟩,?_⟩⟩
 ·rw [hfn']; exact hres' _ _ _
 ·rw [hfn']; exact hargs _ hold
 ·rw [hfn']; exact hvs _
 ·exact trodAll_append (hargs _ fun _ _=>rfl) (hres' _ _ _)
 ·intro b off hx
  have hx' : MemPlace.cell b off ∈ p ++ [] := by simpa using hx
  rw [hb.frozen (hlt _ hx')]
  exact hz b off hx'
 ·intro x hx _
  simpa using hx
end
theorem rowsOf {α : Type} {f : α → List PV} : ∀ {rows : List (List PV)},(∀ r ∈ rows,∃ x,r = f x) → ∃ xs : List α,rows = xs.map f
 | [],_=>⟨[],rfl⟩
 | r :: rs,h=>by
  obtain ⟨x,rfl⟩ := h r (by simp)
  obtain ⟨xs,rfl⟩ := rowsOf (rows := rs) fun q hq=>h q (by simp [hq])
  exact ⟨x :: xs,rfl⟩
def infosB (P : Program) (S : List TypeId) : Bool := S.all fun t=>match P.info? t with
 | some i=>Nat.beq i.bytes (P.bytesOf t) && Nat.beq i.size (P.cellsOf t)
 | none=>false
theorem infos_of {P : Program} {S : List TypeId} (h : infosB P S = true) : ∀ t ∈ S,∃ i,P.info? t = some i ∧ i.bytes = P.bytesOf t ∧ i.size = P.cellsOf t := by
 intro t ht
 have := List.all_eq_true.1 h t ht
 cases hi : P.info? t with
 | none=>rw [hi] at this; cases this
 | some i =>
  rw [hi] at this
  simp only [Bool.and_eq_true] at this
  exact ⟨i,rfl,Nat.eq_of_beq_eq_true this.1,Nat.eq_of_beq_eq_true this.2⟩
section
variable {B : (H : Type) → DataW H → Nat} {H : Type} {enc : TypeId × Value → H} {P : Program} {W : World} {S : List TypeId}
end
end
end Go.Ab

namespace Go.Ab
noncomputable section
open Go
theorem joined_of {P : Program} {f : FuncId} {fn : Func} {s : ChangeSpec} {c : OpenClaim}
  (h_wf : (c.wf (OpenSpec.ofChange s)) = true)
  (h_laid : (laidOutB P) = true)
  (h_mapsRowed : (mapsRowed P) = true)
  (h_rr : (fn.params.all (P.readableRec ·)) = true)
  (h_nt : (namedTie P c.named s.vars) = true)
  (h_st : ((c.stops == []) && (P.stops == []) && (c.knobs == []) && (P.stopKnobs == [])) = true)
  (h_inPlace : (c.inPlace == P.inPlace f) = true)
  (h_unf : (c.unfollowed == P.unfollowed f) = true)
  (h_rec : (c.recurses == P.recurses f) = true)
  (h_named : (c.named == P.varsNamed f) = true)
  (h_maps : ((c.maps == (fn.params.toList ++ s.plain.varTypes P).any (P.mapsRec ·)) && (c.ifaces == (fn.params.toList ++ s.plain.varTypes P).any (P.ifacesRec ·)) && (c.mapsOut == P.mapsAmong fn.resultTypes.toList)) = true)
  (h_loops : ((c.loops == (fn.params.toList ++ s.plain.varTypes P).any (P.loopsFrom ·))) = true)
  (h_wide : ((c.wideKeys == (fn.params.toList ++ s.plain.varTypes P ++ fn.resultTypes.toList).any (P.wideKeysFrom ·))) = true)
  (h_rest1 : (s.vars.all (P.varReadable ·) && fn.resultTypes.all (fun t=>P.readableRec t && decide (t < P.types.size)) && (c.ifacesOut == fn.resultTypes.toList.any (P.ifacesRec ·)) && (c.loopsOut == fn.resultTypes.toList.any (P.loopsFrom ·))) = true)
  (h_plainKeys : (c.plainKeys == P.plainKeys) = true)
  (h_rest2 : (c.shortTexts.isNone && P.stopsHeard && P.mayEnter && (c.lifted == P.liftsFinal) && (P.make == some c.make)) = true)
  (h_kinds : ((c.kinds == (if c.domain.isEmpty then [] else fn.params.toList.map fun t=>match P.underlying t with | some (.int k)=>some k | _=>none)) && (c.pinned == c.pinnedBy)) = true)
  (h_veil : ((c.veiled == (fn.params.toList ++ s.plain.varTypes P ++ fn.resultTypes.toList).any (P.veiledRec ·)) && c.veiledFits P fn.params.toList (fn.params.toList ++ s.plain.varTypes P ++ fn.resultTypes.toList)) = true)
  : joinedFacts P f fn s c = true := by
 simp only [Bool.and_eq_true] at h_st h_maps h_rest1 h_rest2 h_kinds h_veil
 simp only [joinedFacts,Bool.and_eq_true]
 exact ⟨⟨⟨⟨⟨⟨⟨⟨⟨⟨⟨⟨⟨⟨⟨⟨⟨⟨⟨⟨⟨⟨⟨⟨⟨⟨⟨⟨⟨⟨⟨h_wf,h_laid⟩,h_mapsRowed⟩,h_rr⟩,h_nt⟩,h_st.1.1.1⟩,h_st.1.1.2⟩,h_st.1.2⟩,h_st.2⟩,h_inPlace⟩,h_unf⟩,h_rec⟩,h_named⟩,h_maps.1.1⟩,h_maps.1.2⟩,h_maps.2⟩,h_loops⟩,h_wide⟩,h_rest1.1.1.1⟩,h_rest1.1.1.2⟩,h_rest1.1.2⟩,h_rest1.2⟩,h_plainKeys⟩,h_rest2.1.1.1.1⟩,h_rest2.1.1.1.2⟩,h_rest2.1.1.2⟩,h_rest2.1.2⟩,h_rest2.2⟩,h_kinds.1⟩,h_kinds.2⟩,h_veil.1⟩,h_veil.2⟩
end
end Go.Ab

namespace Go.Ab
noncomputable section
def ac {α β : Type} (o : Option α) (k : α → Option β) : Option β := match o with
 | some a=>k a
 | none=>none
def cp {α β : Type} (a : α) (k : α → β) : β := k a
inductive Flow (σ ρ : Type) where
 | next (s : σ)
 | brk (s : σ)
 | ret (r : ρ)
def Flow.thenR {σ ρ : Type} (fl : Flow σ ρ) (k : σ → Option ρ) : Option ρ := match fl with
 | .next s=>k s
 | .brk s=>k s
 | .ret r=>some r
def Flow.thenF {σ τ ρ : Type} (fl : Flow σ ρ) (k : σ → Option (Flow τ ρ)) : Option (Flow τ ρ) := match fl with
 | .next s=>k s
 | .brk s=>k s
 | .ret r=>some (.ret r)
def aX {α σ ρ : Type} (step : Nat → α → σ → Option (Flow σ ρ)) : Nat → List α → σ → Option (Flow σ ρ)
 | _,[],s=>some (.next s)
 | j,x :: xs,s=>match step j x s with
  | none=>none
  | some (.next s')=>aX step (j + 1) xs s'
  | some (.brk s')=>some (.next s')
  | some (.ret r)=>some (.ret r)
def dK {σ ρ : Type} (step : σ → Option (Flow σ ρ)) : Nat → σ → Option (Flow σ ρ)
 | 0,_=>none
 | n + 1,s=>match step s with
  | none=>none
  | some (.next s')=>dK step n s'
  | some (.brk s')=>some (.next s')
  | some (.ret r)=>some (.ret r)
open Classical in
def co {σ ρ : Type} (step : σ → Option (Flow σ ρ)) (s : σ) : Option (Flow σ ρ) :=
 if h : ∃ r,∃ n,dK step n s = some r then some h.choose else none
theorem iterM_le {σ ρ : Type} {step : σ → Option (Flow σ ρ)} : ∀ {n m : Nat} {s : σ} {r : Flow σ ρ},dK step n s = some r → n ≤ m → dK step m s = some r
 | 0,_,_,_,h,_=>by simp [dK] at h
 | n + 1,0,_,_,_,hm=>by omega
 | n + 1,m + 1,s,r,h,hm=>by
  simp only [dK] at h ⊢
  split at h
  ·cases h
  ·exact iterM_le h (by omega)
  ·exact h
  ·exact h
theorem whileM_iff {σ ρ : Type} {step : σ → Option (Flow σ ρ)} {s : σ} {r : Flow σ ρ} : co step s = some r ↔ ∃ n,dK step n s = some r := by
 unfold co
 constructor
 ·intro h
  split at h
  ·rename_i hx
   obtain ⟨n,hn⟩ := hx.choose_spec
   exact ⟨n,by rw [hn]; exact h⟩
  ·cases h
 ·rintro ⟨n,hn⟩
  have hx : ∃ r,∃ n,dK step n s = some r := ⟨r,n,hn⟩
  rw [dif_pos hx]
  obtain ⟨m,hm⟩ := hx.choose_spec
  have h1 := iterM_le hn (Nat.le_max_left n m)
  have h2 := iterM_le hm (Nat.le_max_right n m)
  rw [h1] at h2
  exact h2.symm
theorem gX {σ ρ : Type} {step : σ → Option (Flow σ ρ)} {s : σ} {fl r : Flow σ ρ} (h : step s = some fl) (hr : match fl with | .next s'=>co step s' = some r | .brk s'=>r = .next s' | .ret x=>r = .ret x) : co step s = some r := by
 rw [whileM_iff]
 cases fl with
 | next s' =>
  obtain ⟨n,hn⟩ := whileM_iff.1 hr
  exact ⟨n + 1,by simp only [dK,h,hn]⟩
 | brk s'=>exact ⟨1,by simp only [dK,h,hr]⟩
 | ret x=>exact ⟨1,by simp only [dK,h,hr]⟩
theorem ar {α β : Type} {o : Option α} {k : α → Option β} {r : β} (h : ac o k = some r) : ∃ a,o = some a ∧ k a = some r := by
 cases o with
 | none=>cases h
 | some a=>exact ⟨a,rfl,h⟩
theorem et {α β : Type} {a : α} {k : α → β} {r : β} (h : cp a k = r) : ∃ x,a = x ∧ k x = r := ⟨a,rfl,h⟩
theorem condT {α : Type} {c : Bool} {A B r : α} (h : c = true) (H : cond c A B = r) : A = r := by subst h; exact H
theorem condF {α : Type} {c : Bool} {A B r : α} (h : c = false) (H : cond c A B = r) : B = r := by subst h; exact H
theorem bm {P : Program} {fn : Func} {R : PV → Heap → Prop} {k : List KI} {st : PState} {c : Operand} {x y : Code} {b : Bool} (hc : evS st.s c = .val (.bool b)) {α : Type} {A B r : α} (H : (bif b then A else B) = r) (ht : A = r → V P fn R (.code x :: k) st) (hf : B = r → V P fn R (.code y :: k) st) : V P fn R (.code (.cond c x y) :: k) st := jo hc (fun h=>ht (Go.Ab.condT h H)) (fun h=>hf (Go.Ab.condF h H))
theorem ee {P : Program} {ops : Array Oper} {o : Oper} {rest : List Oper} {n : Nat} {s : Nat → PV} {bx : Nat → Option Box} {ob : Nat → Option Obj} {K : PState → Prop} {j : Nat} {want b : Bool} {d : Nat} (hg : o.guard = some (j,want)) (hd : (ops[j]?).bind (·.dst) = some d) (hs : s d = .val (.bool b)) {α : Type} {A B r : α} (H : cond b A B = r)
  (ht : A = r → Ao P ops (o :: rest) ⟨n,upd s d (.val (.bool true)),bx,ob⟩ K) (hf : B = r → Ao P ops (o :: rest) ⟨n,upd s d (.val (.bool false)),bx,ob⟩ K) : Ao P ops (o :: rest) ⟨n,s,bx,ob⟩ K := kR hg hd hs (fun h=>ht (condT h H)) (fun h=>hf (condF h H))
theorem kw {P : Program} {T : TT} {rb : RB} {ops : Array Oper} {o : Oper} {k : Nat} {L : List Nat} {n : Nat} {s : Nat → PV} {bx : Nat → Option Box} {ob : Nat → Option Obj} {K : PState → Prop} {j : Nat} {want b : Bool} {d : Nat} (ho : ops[k]? = some o) (hg : o.guard = some (j,want)) (hd : (ops[j]?).bind (·.dst) = some d) (hs : s d = .val (.bool b)) {α : Type} {A B r : α} (H : cond b A B = r)
  (ht : A = r → Do P T rb ops (k :: L) ⟨n,upd s d (.val (.bool true)),bx,ob⟩ K) (hf : B = r → Do P T rb ops (k :: L) ⟨n,upd s d (.val (.bool false)),bx,ob⟩ K) : Do P T rb ops (k :: L) ⟨n,s,bx,ob⟩ K := kS ho hg hd hs (fun h=>ht (condT h H)) (fun h=>hf (condF h H))
theorem dc {σ ρ : Type} {r x : ρ} {k : σ → Option ρ} (h : Flow.thenR (.ret r) k = some x) : r = x := Option.some.inj h
theorem ax {α : Type} {a b : α} (h : some a = some b) : a = b := Option.some.inj h
def fD {α σ ρ : Type} (step : Nat → α → σ → Option (Flow σ ρ)) (xs : List α) (j : Nat) (res : Flow σ ρ) : Flow σ ρ → Prop
 | .next s'=>aX step (j + 1) (xs.drop (j + 1)) s' = some res
 | .brk s'=>res = .next s'
 | .ret r=>res = .ret r
theorem rMc {α σ ρ : Type} {step : Nat → α → σ → Option (Flow σ ρ)} {xs : List α} {j : Nat} {s : σ} {res : Flow σ ρ} (hj : j < xs.length) (h : aX step j (xs.drop j) s = some res) :
  ∃ x fl,xs[j]? = some x ∧ step j x s = some fl ∧ fD step xs j res fl := by
 rw [List.drop_eq_getElem_cons hj,aX] at h
 refine ⟨xs[j],?_⟩
 split at h
 ·cases h
 ·rename_i s' hs; exact ⟨_,ze hj,hs,h⟩
 ·rename_i s' hs; exact ⟨_,ze hj,hs,(Option.some.inj h).symm⟩
 ·rename_i s' hs; exact ⟨_,ze hj,hs,(Option.some.inj h).symm⟩
theorem rMd {α σ ρ : Type} {step : Nat → α → σ → Option (Flow σ ρ)} {xs : List α} {j : Nat} {s : σ} {res : Flow σ ρ} (hj : xs.length ≤ j) (h : aX step j (xs.drop j) s = some res) : res = .next s := by
 rw [List.drop_eq_nil_of_le hj,aX] at h
 exact (Option.some.inj h).symm
def iterGo {σ ρ : Type} (step : σ → Option (Flow σ ρ)) (n : Nat) (res : Flow σ ρ) : Flow σ ρ → Prop
 | .next s'=>dK step n s' = some res
 | .brk s'=>res = .next s'
 | .ret r=>res = .ret r
theorem bN {σ ρ : Type} {step : σ → Option (Flow σ ρ)} {n : Nat} {s : σ} {res : Flow σ ρ} (h : dK step (n + 1) s = some res) : ∃ fl,step s = some fl ∧ iterGo step n res fl := by
 rw [dK] at h
 split at h
 ·cases h
 ·rename_i s' hs; exact ⟨_,hs,h⟩
 ·rename_i s' hs; exact ⟨_,hs,(Option.some.inj h).symm⟩
 ·rename_i s' hs; exact ⟨_,hs,(Option.some.inj h).symm⟩
section
variable {P : Program} {fn : Func} {R : PV → Heap → Prop} {k : List KI} {n : Nat} {s : Nat → PV} {bx : Nat → Option Box} {ob : Nat → Option Obj} {T : TT} {st : PState}
theorem dv {τ γ : Type} (J : τ → γ → PState) (Gd : τ → Prop) {c : Code} (h : V P fn R (.code c :: .stop (fun st'=>∃ t g,Gd t ∧ st' = J t g) :: k) st) (hk : ∀ t g,Gd t → V P fn R k (J t g)) :
  V P fn R (.code c :: k) st := by
 intro C M a w hi
 have := h C M a w hi
 simp only [after] at this ⊢
 refine wp_mono this ?_
 intro e a w he
 cases e with
 | normal =>
  obtain ⟨C',st',M',hrb,⟨t,g,hG,rfl⟩,hi'⟩ := he
  exact dy hrb (jr hrb) k _ a w (hk t g hG C' M' a w hi')
 | _=>exact he
theorem bD {τ γ : Type} {J : τ → γ → PState} {Gd : τ → Prop} (t : τ) (g : γ) (hG : Gd t) (h : Gh P st (J t g)) : V P fn R (.stop (fun st'=>∃ t g,Gd t ∧ st' = J t g) :: k) st :=
 cq h (kC ⟨t,g,hG,rfl⟩)
theorem jm {τ γ β : Type} {x : Option τ} {f : τ → Option β} {r : β} (J : τ → γ → PState) {c : Code} (H : ac x f = some r) (h : ∀ u,x = some u → V P fn R (.code c :: .stop (fun st'=>∃ t g,t = u ∧ st' = J t g) :: k) st)
  (hk : ∀ t g,f t = some r → V P fn R k (J t g)) : V P fn R (.code c :: k) st := by
 obtain ⟨u,h1,h2⟩ := ar H
 exact dv J (fun t=>t = u) (h u h1) (fun t g e=>hk t g (e ▸ h2))
theorem fT {τ γ β : Type} {x : τ} {f : τ → β} {r : β} (J : τ → γ → PState) {c : Code} (H : cp x f = r) (h : ∀ u,x = u → V P fn R (.code c :: .stop (fun st'=>∃ t g,t = u ∧ st' = J t g) :: k) st)
  (hk : ∀ t g,f t = r → V P fn R k (J t g)) : V P fn R (.code c :: k) st := by
 obtain ⟨u,h1,h2⟩ := et H
 exact dv J (fun t=>t = u) (h u h1) (fun t g e=>hk t g (e ▸ h2))
theorem kX {α σ ρ γ : Type} {step : Nat → α → σ → Option (Flow σ ρ)} {xs : List α} {res : Flow σ ρ} (F : Nat → σ → γ → PState) {s₀ : σ} (g₀ : γ) {c : Code}
  (hres : aX step 0 xs s₀ = some res) (h₀ : Gh P st (F 0 s₀ g₀))
  (round : ∀ j s g,j ≤ xs.length → aX step j (xs.drop j) s = some res →
   V P fn R (.code c :: .stop (fun st'=>∃ s' g',(j + 1 ≤ xs.length ∧ aX step (j + 1) (xs.drop (j + 1)) s' = some res) ∧ st' = F (j + 1) s' g') :: k) (F j s g)) :
  V P fn R (.code (.loop c) :: k) st := by
 refine kN (X := Nat × σ × γ) (fun X=>F X.1 X.2.1 X.2.2) (fun X=>X.1 ≤ xs.length ∧ aX step X.1 (xs.drop X.1) X.2.1 = some res) (fun X=>xs.length - X.1) (0,s₀,g₀) ⟨Nat.zero_le _,by simpa using hres⟩ h₀ ?_
 rintro ⟨j,s,g⟩ ⟨h1,h2⟩
 refine kG (fun st' ⟨s',g',⟨h4,h5⟩,e⟩=>⟨(j + 1,s',g'),?_,⟨h4,h5⟩,e⟩) (round j s g h1 h2)
 show xs.length - (j + 1) < xs.length - j
 omega
theorem bs {σ γ : Type} {Q : σ → Prop} {F : σ → γ → PState} (s' : σ) (g' : γ) (hQ : Q s') (h : Gh P st (F s' g')) : V P fn R (.stop (fun st'=>∃ s' g',Q s' ∧ st' = F s' g') :: k) st :=
 cq h (kC ⟨s',g',hQ,rfl⟩)
theorem cu {σ ρ γ : Type} {step : σ → Option (Flow σ ρ)} {res : Flow σ ρ} (F : σ → γ → PState) {s₀ : σ} (g₀ : γ) {c : Code}
  (hres : co step s₀ = some res) (h₀ : Gh P st (F s₀ g₀))
  (round : ∀ m s g,dK step (m + 1) s = some res → V P fn R (.code c :: .stop (fun st'=>∃ s' g',dK step m s' = some res ∧ st' = F s' g') :: k) (F s g)) :
  V P fn R (.code (.loop c) :: k) st := by
 obtain ⟨m,hm⟩ := whileM_iff.1 hres
 refine kN (X := Nat × σ × γ) (fun X=>F X.2.1 X.2.2) (fun X=>dK step X.1 X.2.1 = some res) (fun X=>X.1) (m,s₀,g₀) hm h₀ ?_
 rintro ⟨j,s,g⟩ h2
 cases j with
 | zero=>simp [dK] at h2
 | succ j =>
 exact kG (fun st' ⟨s',g',h5,e⟩=>⟨(j,s',g'),Nat.lt_succ_self j,h5,e⟩) (round j s g h2)
theorem Gh.cast (d : Nat) {p q : PV} (hs : s d = p) (h : PLe P p q) : Gh P ⟨n,s,bx,ob⟩ ⟨n,upd s d q,bx,ob⟩ := fun _ M _ _ hi =>
 ⟨M,⟨hi.1.1,hi.1.2.1,fun t=>by
  show Rep P M true (upd s d q t) _
  rw [cF]
  split
  ·rename_i e; subst e; have := hi.1.2.2 t; exact h M _ (hs ▸ this)
  ·exact hi.1.2.2 t⟩,hi.2⟩
end
section
variable {α : Type} {f f' : α → List PV}
theorem dV (hE : ∀ x,f' x = f x) {xs : List α} {j : Nat} {x : α} (h : xs[j]? = some x) : (xs.map f')[((j : Nat) : Int).toNat]? = some (f x) := by
 simp [h,hE]
theorem bg (hE : ∀ x,f' x = f x) {xs : List α} {i : Int} {x : α} (h : xs[i.toNat]? = some x) : (xs.map f')[i.toNat]? = some (f x) := by
 simp [h,hE]
theorem rowsSubE {xs ys : List α} {a b : Nat} (h : ys = (xs.take b).drop a) : ((xs.map f).take b).drop a = ys.map f := by rw [h]; simp
end
def aL {α : Type} (xs : List α) (i : Int) : Option α := if 0 ≤ i then xs[i.toNat]? else none
theorem gIs {α : Type} {xs : List α} {i : Int} {x : α} (h : aL xs i = some x) : 0 ≤ i ∧ xs[i.toNat]? = some x := by
 unfold aL at h
 split at h
 ·rename_i h0; exact ⟨h0,h⟩
 ·cases h
theorem bR {α β : Type} {xs : List α} {i : Int} {k : α → Option β} {r : β} (h : ac (aL xs i) k = some r) : ∃ a,(0 ≤ i ∧ xs[i.toNat]? = some a) ∧ k a = some r := by
 obtain ⟨a,h1,h2⟩ := ar h
 exact ⟨a,gIs h1,h2⟩
def subI {α : Type} (xs : List α) (a b : Int) : Option (List α) := if 0 ≤ a ∧ a ≤ b ∧ b ≤ xs.length then some ((xs.take b.toNat).drop a.toNat) else none
theorem subI_some {α : Type} {xs ys : List α} {a b : Int} (h : subI xs a b = some ys) : (0 ≤ a ∧ a ≤ b ∧ b ≤ xs.length) ∧ ys = (xs.take b.toNat).drop a.toNat := by
 unfold subI at h
 split at h
 ·rename_i h0; exact ⟨h0,(Option.some.inj h).symm⟩
 ·cases h
def eF {α : Type} (bytes : Nat) (xs ys : List α) : Option (List α) := if (xs.length + ys.length) * bytes ≤ 2 ^ 47 ∧ xs.length + ys.length ≤ maxLen then some (xs ++ ys) else none
theorem er {α : Type} {bytes : Nat} {xs ys zs : List α} (h : eF bytes xs ys = some zs) : (xs.length + ys.length) * bytes ≤ 2 ^ 47 ∧ xs.length + ys.length ≤ maxLen ∧ zs = xs ++ ys := by
 unfold eF at h
 split at h
 ·rename_i h0; exact ⟨h0.1,h0.2,(Option.some.inj h).symm⟩
 ·cases h
theorem fH {α β : Type} {f : α → β} {bytes : Nat} {xs ys : List α} (h : (xs.length + ys.length) * bytes ≤ 2 ^ 47) : ((xs.map f).length + (ys.map f).length) * bytes ≤ 2 ^ 47 := by simpa using h
theorem fM {α β : Type} {f : α → β} {xs ys : List α} (h : xs.length + ys.length ≤ maxLen) : (xs.map f).length + (ys.map f).length ≤ maxLen := by simpa using h
theorem fK {α β : Type} {f : α → β} {xs ys zs : List α} (h : zs = xs ++ ys) : xs.map f ++ ys.map f = zs.map f := by rw [h,List.map_append]
def Flow.thenP {σ β : Type} (fl : Flow σ Empty) (k : σ → Option β) : Option β := match fl with
 | .next s=>k s
 | .brk s=>k s
 | .ret r=>r.elim
theorem bB {σ β : Type} {fl : Flow σ Empty} {t : σ} {k : σ → Option β} {r : β} (h : fl = .next t) (H : fl.thenP k = some r) : k t = some r := by subst h; exact H
section
variable {P : Program} {fn : Func} {R : PV → Heap → Prop} {k : List KI} {n : Nat} {s : Nat → PV} {bx : Nat → Option Box} {ob : Nat → Option Obj} {T : TT}
def nB {σ γ : Type} : σ → γ → Nat → Option Box := fun _ _ _=>none
def nO {σ γ : Type} : σ → γ → Nat → Option Obj := fun _ _ _=>none
theorem kA {α σ ρ γ β : Type} {step : Nat → α → σ → Option (Flow σ ρ)} {xs : List α} {s₀ : σ} {th : Flow σ ρ → Option β} {r : β} {rw : α → List PV}
  (hT : T.Ok P) (d : Nat) {e : TypeId} {ei : TInfo} (hei : T.get e = some ei) (hs : s d = .list e (xs.map rw))
  (S : σ → γ → Nat → PV) (B : σ → γ → Nat → Option Box) (O : σ → γ → Nat → Option Obj) (E : (Nat → PV) → Nat → σ → γ → Nat → PV) (g₀ : γ)
  {id rid : Nat} {ops : Array Oper} {o : Oper} {tst : Operand} {rest : Code} {S' : Nat → σ → γ → Nat → PV}
  (H : ac (aX step 0 xs s₀) th = some r)
  (h₀ : Gh P ⟨n,s,bx,ob⟩ ⟨n,E (S s₀ g₀) 0 s₀ g₀,B s₀ g₀,O s₀ g₀⟩)
  (ho : ops.toList = [o])
  (hq : ∀ j s g,gr T ops n (E (S s g) j s g) (B s g) o = some (S' j s g))
  (ht : ∀ j s g,evS (S' j s g) tst = .val (.bool (decide ((j : Int) < ((xs.length : Nat) : Int)))))
  (hx : ∀ j s g,Gh P ⟨n,S' j s g,B s g,O s g⟩ ⟨n,S s g,B s g,O s g⟩)
  (round : ∀ fl,th fl = some r → ∀ j s g,xs.length ≤ maxLen → j < xs.length → ∀ x fb,xs[j]? = some x → step j x s = some fb → fD step xs j fl fb →
   V P fn R (.code rest :: .stop (fun st'=>∃ s' g',(j + 1 ≤ xs.length ∧ aX step (j + 1) (xs.drop (j + 1)) s' = some fl) ∧ st' = ⟨n,E (S s' g') (j + 1) s' g',B s' g',O s' g'⟩) :: .blk id :: .stop (fun st'=>∃ t g,fl = .next t ∧ st' = ⟨n,S t g,B t g,O t g⟩) :: k) ⟨n,S' j s g,B s g,O s g⟩)
  (hk : ∀ t g,th (.next t) = some r → V P fn R k ⟨n,S t g,B t g,O t g⟩) :
  V P fn R (.code (.block id (.loop (.seq (.region rid ops false) (.seq (.cond tst .skip (.exit id)) rest)))) :: k) ⟨n,s,bx,ob⟩ := by
 refine ky hT d hei hs (fun hz _=>?_)
 rw [zl] at hz
 obtain ⟨fl,h1,h2⟩ := ar H
 refine dv (fun t g=>⟨n,S t g,B t g,O t g⟩) (fun t=>fl = .next t) ?_ (fun t g e=>hk t g (by subst e; exact h2))
 refine aF (kX (fun j s g=>⟨n,E (S s g) j s g,B s g,O s g⟩) g₀ h1 h₀ (fun j s g hj hr=>?_))
 refine af (ah ?_)
 rw [ho]
 refine ay hT (hq j s g) (al ?_)
 refine af (jo (ht j s g) (fun h=>?_) (fun h=>?_))
 ·have hl : j < xs.length := by simpa using h
  obtain ⟨x,fb,hx1,H,hg⟩ := rMc hl hr
  exact aH (round fl h2 j s g hz hl x fb hx1 H hg)
 ·have hn := rMd (by simpa using h) hr
  refine cB (k' := .stop (fun st'=>∃ t g,fl = .next t ∧ st' = ⟨n,S t g,B t g,O t g⟩) :: k) ?_ (bD s g hn (hx j s g))
  simp [fN,Nat.beq_refl]
theorem kV {α σ γ β : Type} {step : Nat → α → σ → Option (Flow σ Empty)} {xs : List α} {s₀ : σ} {kk : σ → Option (β)} {r : β} {rw : α → List PV}
  (hT : T.Ok P) (d : Nat) {e : TypeId} {ei : TInfo} (hei : T.get e = some ei) (hs : s d = .list e (xs.map rw))
  (S : σ → γ → Nat → PV) (B : σ → γ → Nat → Option Box) (O : σ → γ → Nat → Option Obj) (E : (Nat → PV) → Nat → σ → γ → Nat → PV) (g₀ : γ)
  {id rid : Nat} {ops : Array Oper} {o : Oper} {tst : Operand} {rest : Code} {S' : Nat → σ → γ → Nat → PV}
  (H : ac (aX step 0 xs s₀) (fun fl=>fl.thenP kk) = some r)
  (ho : ops.toList = [o])
  (h₀ : Gh P ⟨n,s,bx,ob⟩ ⟨n,E (S s₀ g₀) 0 s₀ g₀,B s₀ g₀,O s₀ g₀⟩)
  (hq : ∀ j s g,gr T ops n (E (S s g) j s g) (B s g) o = some (S' j s g))
  (ht : ∀ j s g,evS (S' j s g) tst = .val (.bool (decide ((j : Int) < ((xs.length : Nat) : Int)))))
  (hx : ∀ j s g,Gh P ⟨n,S' j s g,B s g,O s g⟩ ⟨n,S s g,B s g,O s g⟩)
  (round : ∀ fl,fl.thenP kk = some r → ∀ j s g,xs.length ≤ maxLen → j < xs.length → ∀ x fb,xs[j]? = some x → step j x s = some fb → fD step xs j fl fb →
   V P fn R (.code rest :: .stop (fun st'=>∃ s' g',(j + 1 ≤ xs.length ∧ aX step (j + 1) (xs.drop (j + 1)) s' = some fl) ∧ st' = ⟨n,E (S s' g') (j + 1) s' g',B s' g',O s' g'⟩) :: .blk id :: .stop (fun st'=>∃ t g,fl = .next t ∧ st' = ⟨n,S t g,B t g,O t g⟩) :: k) ⟨n,S' j s g,B s g,O s g⟩)
  (hk : ∀ t g,kk t = some r → V P fn R k ⟨n,S t g,B t g,O t g⟩) :
  V P fn R (.code (.block id (.loop (.seq (.region rid ops false) (.seq (.cond tst .skip (.exit id)) rest)))) :: k) ⟨n,s,bx,ob⟩ :=
 kA hT d hei hs S B O E g₀ H h₀ ho hq ht hx round (fun t g e=>hk t g e)
theorem kT {α σ γ β : Type} {step : Nat → α → σ → Option (Flow σ β)} {xs : List α} {s₀ : σ} {kk : σ → Option (β)} {r : β} {rw : α → List PV}
  (hT : T.Ok P) (d : Nat) {e : TypeId} {ei : TInfo} (hei : T.get e = some ei) (hs : s d = .list e (xs.map rw))
  (S : σ → γ → Nat → PV) (B : σ → γ → Nat → Option Box) (O : σ → γ → Nat → Option Obj) (E : (Nat → PV) → Nat → σ → γ → Nat → PV) (g₀ : γ)
  {id rid : Nat} {ops : Array Oper} {o : Oper} {tst : Operand} {rest : Code} {S' : Nat → σ → γ → Nat → PV}
  (H : ac (aX step 0 xs s₀) (fun fl=>fl.thenR kk) = some r)
  (ho : ops.toList = [o])
  (h₀ : Gh P ⟨n,s,bx,ob⟩ ⟨n,E (S s₀ g₀) 0 s₀ g₀,B s₀ g₀,O s₀ g₀⟩)
  (hq : ∀ j s g,gr T ops n (E (S s g) j s g) (B s g) o = some (S' j s g))
  (ht : ∀ j s g,evS (S' j s g) tst = .val (.bool (decide ((j : Int) < ((xs.length : Nat) : Int)))))
  (hx : ∀ j s g,Gh P ⟨n,S' j s g,B s g,O s g⟩ ⟨n,S s g,B s g,O s g⟩)
  (round : ∀ fl,fl.thenR kk = some r → ∀ j s g,xs.length ≤ maxLen → j < xs.length → ∀ x fb,xs[j]? = some x → step j x s = some fb → fD step xs j fl fb →
   V P fn R (.code rest :: .stop (fun st'=>∃ s' g',(j + 1 ≤ xs.length ∧ aX step (j + 1) (xs.drop (j + 1)) s' = some fl) ∧ st' = ⟨n,E (S s' g') (j + 1) s' g',B s' g',O s' g'⟩) :: .blk id :: .stop (fun st'=>∃ t g,fl = .next t ∧ st' = ⟨n,S t g,B t g,O t g⟩) :: k) ⟨n,S' j s g,B s g,O s g⟩)
  (hk : ∀ t g,kk t = some r → V P fn R k ⟨n,S t g,B t g,O t g⟩) :
  V P fn R (.code (.block id (.loop (.seq (.region rid ops false) (.seq (.cond tst .skip (.exit id)) rest)))) :: k) ⟨n,s,bx,ob⟩ :=
 kA hT d hei hs S B O E g₀ H h₀ ho hq ht hx round (fun t g e=>hk t g e)
def eL {α : Type} (i m d : Nat) (ety : TypeId) (xs : List α) (rw : α → List PV) (e : Nat → PV) (j : Nat) : Nat → PV := upd (upd (upd e i (.val (.int .i64 (j : Int)))) m (.val (.int .i64 (xs.length : Int)))) d (.list ety (xs.map rw))
theorem ke {α σ γ β : Type} {step : Nat → α → σ → Option (Flow σ Empty)} {xs : List α} {s₀ : σ} {kk : σ → Option (β)} {r : β} {rw : α → List PV}
  (hT : T.Ok P) (i m d : Nat) {e : TypeId} {ei : TInfo}
  (S : σ → γ → Nat → PV) (B : σ → γ → Nat → Option Box) (O : σ → γ → Nat → Option Obj) (g₀ : γ)
  {id rid : Nat} {ops : Array Oper} {o : Oper} {tst : Operand} {rest : Code} {S' : Nat → σ → γ → Nat → PV}
  (H : ac (aX step 0 xs s₀) (fun fl=>fl.thenP kk) = some r)
  (round : ∀ fl,fl.thenP kk = some r → ∀ j s g,xs.length ≤ maxLen → j < xs.length → ∀ x fb,xs[j]? = some x → step j x s = some fb → fD step xs j fl fb →
   V P fn R (.code rest :: .stop (fun st'=>∃ s' g',(j + 1 ≤ xs.length ∧ aX step (j + 1) (xs.drop (j + 1)) s' = some fl) ∧ st' = ⟨n,eL i m d e xs rw (S s' g') (j + 1),B s' g',O s' g'⟩) :: .blk id :: .stop (fun st'=>∃ t g,fl = .next t ∧ st' = ⟨n,S t g,B t g,O t g⟩) :: k) ⟨n,S' j s g,B s g,O s g⟩)
  (hk : ∀ t g,kk t = some r → V P fn R k ⟨n,S t g,B t g,O t g⟩)
  (hs : s d = .list e (xs.map rw) := by exact rfl) (hei : T.get e = some ei := by exact rfl) (ho : ops.toList = [o] := by exact rfl)
  (h₀ : Gh P ⟨n,s,bx,ob⟩ ⟨n,eL i m d e xs rw (S s₀ g₀) 0,B s₀ g₀,O s₀ g₀⟩ := by exact Gh.d)
  (hq : ∀ j s g,gr T ops n (eL i m d e xs rw (S s g) j) (B s g) o = some (S' j s g) := by exact fun _ _ _=>rfl)
  (ht : ∀ j s g,evS (S' j s g) tst = .val (.bool (decide ((j : Int) < ((xs.length : Nat) : Int)))) := by exact fun _ _ _=>rfl)
  (hx : ∀ j s g,Gh P ⟨n,S' j s g,B s g,O s g⟩ ⟨n,S s g,B s g,O s g⟩ := by exact fun _ _ _=>Gh.d) :
  V P fn R (.code (.block id (.loop (.seq (.region rid ops false) (.seq (.cond tst .skip (.exit id)) rest)))) :: k) ⟨n,s,bx,ob⟩ :=
 kV hT d hei hs S B O (fun e j _ _=>eL i m d _ xs rw e j) g₀ H ho h₀ hq ht hx round hk
theorem kp {α σ γ β : Type} {step : Nat → α → σ → Option (Flow σ β)} {xs : List α} {s₀ : σ} {kk : σ → Option (β)} {r : β} {rw : α → List PV}
  (hT : T.Ok P) (i m d : Nat) {e : TypeId} {ei : TInfo}
  (S : σ → γ → Nat → PV) (B : σ → γ → Nat → Option Box) (O : σ → γ → Nat → Option Obj) (g₀ : γ)
  {id rid : Nat} {ops : Array Oper} {o : Oper} {tst : Operand} {rest : Code} {S' : Nat → σ → γ → Nat → PV}
  (H : ac (aX step 0 xs s₀) (fun fl=>fl.thenR kk) = some r)
  (round : ∀ fl,fl.thenR kk = some r → ∀ j s g,xs.length ≤ maxLen → j < xs.length → ∀ x fb,xs[j]? = some x → step j x s = some fb → fD step xs j fl fb →
   V P fn R (.code rest :: .stop (fun st'=>∃ s' g',(j + 1 ≤ xs.length ∧ aX step (j + 1) (xs.drop (j + 1)) s' = some fl) ∧ st' = ⟨n,eL i m d e xs rw (S s' g') (j + 1),B s' g',O s' g'⟩) :: .blk id :: .stop (fun st'=>∃ t g,fl = .next t ∧ st' = ⟨n,S t g,B t g,O t g⟩) :: k) ⟨n,S' j s g,B s g,O s g⟩)
  (hk : ∀ t g,kk t = some r → V P fn R k ⟨n,S t g,B t g,O t g⟩)
  (hs : s d = .list e (xs.map rw) := by exact rfl) (hei : T.get e = some ei := by exact rfl) (ho : ops.toList = [o] := by exact rfl)
  (h₀ : Gh P ⟨n,s,bx,ob⟩ ⟨n,eL i m d e xs rw (S s₀ g₀) 0,B s₀ g₀,O s₀ g₀⟩ := by exact Gh.d)
  (hq : ∀ j s g,gr T ops n (eL i m d e xs rw (S s g) j) (B s g) o = some (S' j s g) := by exact fun _ _ _=>rfl)
  (ht : ∀ j s g,evS (S' j s g) tst = .val (.bool (decide ((j : Int) < ((xs.length : Nat) : Int)))) := by exact fun _ _ _=>rfl)
  (hx : ∀ j s g,Gh P ⟨n,S' j s g,B s g,O s g⟩ ⟨n,S s g,B s g,O s g⟩ := by exact fun _ _ _=>Gh.d) :
  V P fn R (.code (.block id (.loop (.seq (.region rid ops false) (.seq (.cond tst .skip (.exit id)) rest)))) :: k) ⟨n,s,bx,ob⟩ :=
 kT hT d hei hs S B O (fun e j _ _=>eL i m d _ xs rw e j) g₀ H ho h₀ hq ht hx round hk
end
def resT (s : Nat → PV) : List ResultVar → Option (List PV)
 | []=>some []
 | .tmp t :: l=>match resT s l with | some ps=>some (s t :: ps) | none=>none
 | .cell _ _ :: _=>none
section
variable {P : Program} {fn : Func} {R : PV → Heap → Prop} {k : List KI} {n : Nat} {s : Nat → PV} {bx : Nat → Option Box} {ob : Nat → Option Obj} {T : TT} {st : PState}
theorem resT_all : ∀ {l : List ResultVar} {ps : List PV},resT s l = some ps → fA T ⟨n,s,bx,ob⟩ l ps
 | [],ps,h=>by simp only [resT,zo] at h; exact h.symm
 | .tmp t :: l,ps,h=>by
  simp only [resT] at h
  split at h
  ·rename_i qs hq; cases h; exact ⟨_,_,rfl,rfl,resT_all hq⟩
  ·cases h
 | .cell _ _ :: _,ps,h=>by simp [resT] at h
theorem kE {α : Type} {x y : α} {ps : List PV} {r : PV} (hT : T.Ok P) (H : x = y) (h : resT s fn.results.toList = some ps) (he : x = y → fR ps = r := by intro e; subst e; rfl) :
  V P fn (fun u H=>u = r ∧ H = Heap.empty) (.code .ret :: k) ⟨n,s,bx,ob⟩ := dr hT rfl (resT_all h) (PLe.q (he H))
theorem cI {α : Type} {x y : α} {ps : List PV} {r : PV} (hT : T.Ok P) (H : some x = some y) (h : resT s fn.results.toList = some ps) (he : x = y → fR ps = r := by intro e; subst e; rfl) :
  V P fn (fun u H=>u = r ∧ H = Heap.empty) (.code .ret :: k) ⟨n,s,bx,ob⟩ := kE hT (ax H) h he
theorem eQ {α σ ρ γ : Type} {step : Nat → α → σ → Option (Flow σ ρ)} {xs : List α} {j : Nat} {res fb : Flow σ ρ} {v : σ} {F : σ → γ → PState} (g' : γ) (H : some (Flow.next v) = some fb) (hl : j < xs.length) (hg : fD step xs j res fb) (h : Gh P st (F v g') := by exact Gh.d) :
  V P fn R (.stop (fun st'=>∃ s' g',(j + 1 ≤ xs.length ∧ aX step (j + 1) (xs.drop (j + 1)) s' = some res) ∧ st' = F s' g') :: k) st := by
 cases H
 exact bs v g' ⟨hl,hg⟩ h
end
section
variable {P : Program} {ops : Array Oper} {rest : List Oper} {o : Oper} {n : Nat} {s s' : Nat → PV} {bx : Nat → Option Box} {ob : Nat → Option Obj} {K : PState → Prop} {T : TT} {rb : RB} {k : Nat} {L : List Nat}
theorem Ao.cast (d : Nat) {p q : PV} (hs : s d = p) (h : PLe P p q) (hV : Ao P ops rest ⟨n,upd s d q,bx,ob⟩ K) : Ao P ops rest ⟨n,s,bx,ob⟩ K := bQ (Gh.cast d hs h) hV
theorem Ao.lenL (hT : T.Ok P) (hg : av ops s o = some true) {x : Operand} {t : TypeId} {ts : List TypeId} (ho : o.op = .call { callee := .builtin .len,args := #[x],argTypes := (t :: ts).toArray }) {ti : TInfo} {e' : TypeId} (hti : T.get t = some ti) (hd : ti.desc = .slice e')
  {e : TypeId} {rows : List (List PV)} (hx : evS s x = .list e rows) {m : Nat} (hm : rows.length = m) (hp : putD n s o.dst (.val (.int .i64 m)) = some s') (h : Ao P ops rest ⟨n,s',bx,ob⟩ K) : Ao P ops (o :: rest) ⟨n,s,bx,ob⟩ K := by
 refine jl hT hg (r := .val (.int .i64 m)) ?_ hp h
 rw [ho]
 simp [dP,fU,hti,hd,hx,lenPV,hm]
theorem bh {x : Operand} {t : TypeId} {ts : List TypeId} {ti : TInfo} {e' : TypeId} {e : TypeId} {rows : List (List PV)} {m : Nat} (hT : T.Ok P) (hm : rows.length = m) (h : Ao P ops rest ⟨n,s',bx,ob⟩ K) (hg : av ops s o = some true := by exact rfl) (ho : o.op = .call { callee := .builtin .len,args := #[x],argTypes := (t :: ts).toArray } := by exact rfl) (hti : T.get t = some ti := by exact rfl) (hd : ti.desc = .slice e' := by exact rfl) (hx : evS s x = .list e rows := by exact rfl) (hp : putD n s o.dst (.val (.int .i64 m)) = some s' := by exact rfl) : Ao P ops (o :: rest) ⟨n,s,bx,ob⟩ K := Ao.lenL hT hg ho hti hd hx hm hp h
theorem kM (hT : T.Ok P) (hg : av ops s o = some true) {x : Operand} {t : TypeId} {ts : List TypeId} (ho : o.op = .call { callee := .builtin .len,args := #[x],argTypes := (t :: ts).toArray }) {ti : TInfo} {e' : TypeId} (hti : T.get t = some ti) (hd : ti.desc = .slice e')
  {tg l : Nat} {g : OwnRef} (hx : evS s x = .own tg g l) {m : Nat} (hm : l = m) (hp : putD n s o.dst (.val (.int .i64 m)) = some s') (h : Ao P ops rest ⟨n,s',bx,ob⟩ K) : Ao P ops (o :: rest) ⟨n,s,bx,ob⟩ K := by
 refine jl hT hg (r := .val (.int .i64 m)) ?_ hp h
 rw [ho]
 simp [dP,fU,hti,hd,hx,lenPV,hm]
theorem ku (ho : ops[k]? = some o) (hg : av ops s o = some true) {x : Operand} {t : TypeId} {ts : List TypeId} (hop : o.op = .call { callee := .builtin .len,args := #[x],argTypes := (t :: ts).toArray }) {ti : TInfo} {e' : TypeId} (hti : T.get t = some ti) (hd : ti.desc = .slice e')
  {e : TypeId} {rows : List (List PV)} (hx : evS s x = .list e rows) {m : Nat} (hm : rows.length = m) (hp : putD n s o.dst (.val (.int .i64 m)) = some s') (h : Do P T rb ops L ⟨n,s',bx,ob⟩ K) : Do P T rb ops (k :: L) ⟨n,s,bx,ob⟩ K := by
 refine kq ho hg (by rw [hop]; rfl) (r := .val (.int .i64 m)) ?_ hp h
 rw [hop]
 simp [dh,dP,fU,hti,hd,hx,lenPV,hm]
theorem kI (ho : ops[k]? = some o) (hg : av ops s o = some true) {x : Operand} {t : TypeId} {ts : List TypeId} (hop : o.op = .call { callee := .builtin .len,args := #[x],argTypes := (t :: ts).toArray }) {ti : TInfo} {e' : TypeId} (hti : T.get t = some ti) (hd : ti.desc = .slice e')
  {tg l : Nat} {g : OwnRef} (hx : evS s x = .own tg g l) {m : Nat} (hm : l = m) (hp : putD n s o.dst (.val (.int .i64 m)) = some s') (h : Do P T rb ops L ⟨n,s',bx,ob⟩ K) : Do P T rb ops (k :: L) ⟨n,s,bx,ob⟩ K := by
 refine kq ho hg (by rw [hop]; rfl) (r := .val (.int .i64 m)) ?_ hp h
 rw [hop]
 simp [dh,dP,fU,hti,hd,hx,lenPV,hm]
theorem jF (ho : ops[k]? = some o) (hg : av ops s o = some true) {t : TypeId} {x : Operand} {lo hi : Option Operand} (hop : o.op = .slice t x lo hi none) {ti : TInfo} {e : TypeId} (hti : T.get t = some ti) (hd : ti.desc = .slice e)
  {rows : List (List PV)} (hx : evS s x = .list e rows) {m : Nat} (hm : rows.length = m) {a b : Int} (ha : fv (lo.map (evS s)) 0 = some a) (hb : fv (hi.map (evS s)) m = some b) (hab : 0 ≤ a ∧ a ≤ b ∧ b ≤ m)
  {rows' : List (List PV)} (hr : (rows.take b.toNat).drop a.toNat = rows') (hp : putD n s o.dst (.list e rows') = some s') (h : Do P T rb ops L ⟨n,s',bx,ob⟩ K) : Do P T rb ops (k :: L) ⟨n,s,bx,ob⟩ K := by
 subst hm
 refine kq ho hg (by rw [hop]; rfl) (r := .list e rows') ?_ hp h
 rw [hop]
 simp only [dh,dP,hti,hd,hx,jJ,Nat.beq_refl,zc,ha,hb]
 rw [zp hab,hr]
theorem Rep.rowsLe {M : Mem} {b : Bool} {e : TypeId} {rows rows' : List (List PV)} (h : eW P rows rows') {x : Value} (hx : Rep P M b (.list e rows) x) : Rep P M b (.list e rows') x := PLe2.list h M b x hx
theorem jN (hT : T.Ok P) {o : Oper} {ev : Operand → PV} {H : Heap} {x y : Operand} {t : TypeId} (ho : o.op = .call { callee := .builtin .append,args := #[x,y],argTypes := #[t,t] }) {ti ei : TInfo} {e : TypeId} (hti : T.get t = some ti) (hd : ti.desc = .slice e) (hei : T.get e = some ei)
  (hz : Nat.beq ei.zero.cells.size ei.size = true) (hsz : Nat.blt 0 ei.size = true) {tag : Nat} {g : OwnRef} {len : Nat} {rows rows2 rows2' rows' : List (List PV)} {wr : Bool} (hx : ev x = .own tag g len) (hob : H.ob tag = some ⟨g,e,rows,wr⟩) (hlen : len = rows.length) (hy : ev y = .list e rows2)
  (hle : eW P rows2 rows2') (hby : (rows.length + rows2'.length) * ei.bytes ≤ 2 ^ 47) (hmx : rows.length + rows2'.length ≤ maxLen) (heq : rows ++ rows2' = rows') {K : PV → Heap → Prop} (hk : ∀ g',K (.own tag g' rows'.length) ⟨H.bx,upd H.ob tag (some ⟨g',e,rows',wr⟩)⟩) : Eff P o ev H K := by
 subst heq
 classical
 have hxy : x ≠ y := fun e=>by subst e; rw [hx] at hy; cases hy
 intro C M a w next Q hi he hn
 have key := eff_appendO (P := P) (o := o) (ev := fun z=>if z = y then PV.list e rows2' else ev z) (H := H) hT ho hti hd hei hz hsz (rows2 := rows2') (by simp [hxy,hx]) hob hlen (by simp) hby hmx (K := K) hk
 refine key C M a w next Q hi (fun z hz=>?_) hn
 by_cases hzy : z = y
 ·subst hzy
  simp only [if_true]
  have := he z hz
  rw [hy] at this
  exact Rep.rowsLe hle this
 ·simp only [hzy,if_false]
  exact he z hz
theorem eC (hT : T.Ok P) (hg : av ops s o = some true) {x y : Operand} {t : TypeId} (ho : o.op = .call { callee := .builtin .append,args := #[x,y],argTypes := #[t,t] }) {d : Nat} (hdst : o.dst = some d) (hlt : Nat.blt d n = true) {ti ei : TInfo} {e : TypeId} (hti : T.get t = some ti) (hd : ti.desc = .slice e) (hei : T.get e = some ei)
  (hz : Nat.beq ei.zero.cells.size ei.size = true) (hsz : Nat.blt 0 ei.size = true) {tag : Nat} {g : OwnRef} {len : Nat} {rows rows2 rows2' rows' : List (List PV)} {wr : Bool} (hx : evS s x = .own tag g len) (hob : ob tag = some ⟨g,e,rows,wr⟩) (hlen : len = rows.length) (hy : evS s y = .list e rows2)
  (hle : eW P rows2 rows2') (hby : (rows.length + rows2'.length) * ei.bytes ≤ 2 ^ 47) (hmx : rows.length + rows2'.length ≤ maxLen) (heq : rows ++ rows2' = rows') (h : ∀ g',Ao P ops rest ⟨n,upd s d (.own tag g' rows'.length),bx,upd ob tag (some ⟨g',e,rows',wr⟩)⟩ K) : Ao P ops (o :: rest) ⟨n,s,bx,ob⟩ K :=
 dt hg (jN hT ho hti hd hei hz hsz hx hob hlen hy hle hby hmx heq fun g'=>⟨_,by simp [hdst,putD,hlt],h g'⟩)
theorem iS (hT : T.Ok P) (ho : ops[k]? = some o) (hg : av ops s o = some true) {x y : Operand} {t : TypeId} (hop : o.op = .call { callee := .builtin .append,args := #[x,y],argTypes := #[t,t] }) {d : Nat} (hdst : o.dst = some d) (hlt : Nat.blt d n = true) {ti ei : TInfo} {e : TypeId} (hti : T.get t = some ti) (hd : ti.desc = .slice e) (hei : T.get e = some ei)
  (hz : Nat.beq ei.zero.cells.size ei.size = true) (hsz : Nat.blt 0 ei.size = true) {tag : Nat} {g : OwnRef} {len : Nat} {rows rows2 rows2' rows' : List (List PV)} {wr : Bool} (hx : evS s x = .own tag g len) (hob : ob tag = some ⟨g,e,rows,wr⟩) (hlen : len = rows.length) (hy : evS s y = .list e rows2)
  (hle : eW P rows2 rows2') (hby : (rows.length + rows2'.length) * ei.bytes ≤ 2 ^ 47) (hmx : rows.length + rows2'.length ≤ maxLen) (heq : rows ++ rows2' = rows') (h : ∀ g',Do P T rb ops L ⟨n,upd s d (.own tag g' rows'.length),bx,upd ob tag (some ⟨g',e,rows',wr⟩)⟩ K) : Do P T rb ops (k :: L) ⟨n,s,bx,ob⟩ K := by
 refine ⟨o,ho,true,hg,?_⟩
 simp only [if_true,hop,bu]
 exact .inr fun bx'=>jN hT hop hti hd hei hz hsz hx hob hlen hy hle hby hmx heq fun g'=>⟨rfl,fun hx=>by simp [ie] at hx,_,by simp [hdst,putD,hlt],h g'⟩
theorem ka (hT : T.Ok P) (hg : av ops s o = some true) {t e : TypeId} {m : Nat} {ps : Array (Nat × Operand)} (ho : o.op = .buildSlice t m ps) {ti : TInfo} (hti : T.get t = some ti) (hd : ti.desc = .slice e) {rows rows' : List (List PV)}
  (hr : eH T e m (cV (evS s) ps) = some rows) (hle : eW P rows rows') {d : Nat} (hdst : o.dst = some d) (hlt : Nat.blt d n = true) (h : Ao P ops rest ⟨n,upd s d (.list e rows'),bx,ob⟩ K) : Ao P ops (o :: rest) ⟨n,s,bx,ob⟩ K := by
 refine Ao.bsF hT hg ho hti hd hr (s' := upd s d (.list e rows)) (by simp [hdst,putD,hlt]) (Ao.cast d (dO _ _ _) (PLe.of2 (PLe2.list hle)) ?_)
 have : upd (upd s d (PV.list e rows)) d (.list e rows') = upd s d (.list e rows') := by
  funext t
  simp only [cF]
  split <;> rfl
 rw [this]
 exact h
end
section
variable {P : Program} {fn : Func} {R : PV → Heap → Prop} {ks : List KI} {n : Nat} {s : Nat → PV} {bx : Nat → Option Box} {ob : Nat → Option Obj} {T : TT}
end
section
variable {P : Program} {C : Ctx} {M : Mem} {H : Heap} {w : World}
theorem InvH.reobj (h : InvH P C M H w) {tag : Nat} {g : OwnRef} {e : TypeId} {rows rows' : List (List PV)} {wr : Bool} (hx : H.ob tag = some ⟨g,e,rows,wr⟩) (hl : rows'.map List.length = rows.map List.length) (hle : eZ P rows.flatten rows'.flatten) :
  InvH P C M ⟨H.bx,upd H.ob tag (some ⟨g,e,rows',wr⟩)⟩ w := by
 have hlen : rows'.length = rows.length := by simpa using congrArg List.length hl
 have key : ∀ t y,upd H.ob tag (some ⟨g,e,rows',wr⟩) t = some y → (t = tag ∧ y = ⟨g,e,rows',wr⟩) ∨ H.ob t = some y := by
  intro t y hy
  rw [cF] at hy
  split at hy
  ·rename_i e; exact .inl ⟨e,(Option.some.inj hy).symm⟩
  ·exact .inr hy
 have same : ∀ t y,upd H.ob tag (some ⟨g,e,rows',wr⟩) t = some y → ∃ z,H.ob t = some z ∧ z.g = y.g := by
  intro t y hy
  rcases key t y hy with ⟨rfl,rfl⟩ | hy
  ·exact ⟨_,hx,rfl⟩
  ·exact ⟨y,hy,rfl⟩
 refine ⟨h.mem,h.ext,h.new,h.os,h.tape,h.output,h.size,h.frame,h.boxes,?_,h.dbox,?_,?_⟩
 ·intro t y hy
  rcases key t y hy with ⟨rfl,rfl⟩ | hy
  ·obtain ⟨i,h1,h2,h3,h4⟩ := h.objs _ _ hx
   simp only at h1 h2 h3 h4
   refine ⟨i,h1,?_,?_,?_⟩
   ·simpa only [hlen] using h2
   ·intro r hr
    have : r.length ∈ rows'.map List.length := List.mem_map.2 ⟨r,hr,rfl⟩
    rw [hl] at this
    obtain ⟨q,hq,e1⟩ := List.mem_map.1 this
    rw [← e1]
    exact h3 q hq
   ·rcases h4 with ⟨a,b,c⟩ | ⟨b,cur,h5,h6,h7,h8,h9,h10,h11,h12,h13,h14⟩
    ·refine .inl ⟨a,?_,c⟩
     rw [b] at hlen
     exact List.length_eq_zero_iff.1 hlen
    ·refine .inr ⟨b,cur,h5,h6,h7,h8,?_,h10,?_,?_,h13,?_⟩
     ·simpa only [hlen] using h9
     ·simp only [hlen]; exact hle M false _ h11
     ·simpa only [hlen] using h12
     ·simpa only [hlen] using h14
  ·exact h.objs t y hy
 ·intro t t' y y' b hy hy' hb hb'
  obtain ⟨z,hz,e1⟩ := same t y hy
  obtain ⟨z',hz',e1'⟩ := same t' y' hy'
  exact h.dobj t t' z z' b hz hz' (e1 ▸ hb) (e1' ▸ hb')
 ·intro t t' y y' hy hy' hb
  obtain ⟨z',hz',e1'⟩ := same t' y' hy'
  exact h.dmix t t' y z' hy hz' (e1' ▸ hb)
theorem InvH.cutO (h : InvH P C M H w) {tag : Nat} {g : OwnRef} {e : TypeId} {rows : List (List PV)} (hx : H.ob tag = some ⟨g,e,rows,true⟩) (k : Nat) :
  InvH P C M ⟨H.bx,upd H.ob tag (some ⟨g,e,rows.take k,true⟩)⟩ w := by
 have key : ∀ t y,upd H.ob tag (some ⟨g,e,rows.take k,true⟩) t = some y → (t = tag ∧ y = ⟨g,e,rows.take k,true⟩) ∨ H.ob t = some y := by
  intro t y hy
  rw [cF] at hy
  split at hy
  ·rename_i e; exact .inl ⟨e,(Option.some.inj hy).symm⟩
  ·exact .inr hy
 have same : ∀ t y,upd H.ob tag (some ⟨g,e,rows.take k,true⟩) t = some y → ∃ z,H.ob t = some z ∧ z.g = y.g := by
  intro t y hy
  rcases key t y hy with ⟨rfl,rfl⟩ | hy
  ·exact ⟨_,hx,rfl⟩
  ·exact ⟨y,hy,rfl⟩
 refine ⟨h.mem,h.ext,h.new,h.os,h.tape,h.output,h.size,h.frame,h.boxes,?_,h.dbox,?_,?_⟩
 ·intro t y hy
  rcases key t y hy with ⟨rfl,rfl⟩ | hy
  ·obtain ⟨i,h1,h2,h3,h4⟩ := h.objs _ _ hx
   simp only at h1 h2 h3 h4
   have hle : (rows.take k).length ≤ rows.length := by simp; omega
   refine ⟨i,h1,Nat.le_trans (Nat.mul_le_mul_right _ hle) h2,fun r hr=>h3 r (List.mem_of_mem_take hr),?_⟩
   rcases h4 with ⟨a,b,c⟩ | ⟨b,cur,h5,h6,h7,h8,h9,h10,h11,h12,h13,h14⟩
   ·exact .inl ⟨a,by simp [b],c⟩
   ·refine .inr ⟨b,cur,h5,h6,h7,h8,Nat.le_trans hle h9,h10,?_,?_,fun _=>h13 trivial,?_⟩
    ·have hflat : (rows.take k).flatten = rows.flatten.take ((rows.take k).length * i.size) := by
      have aux : ∀ (l : List (List PV)) (m : Nat),(∀ r ∈ l,r.length = i.size) → (l.take m).flatten = l.flatten.take ((l.take m).length * i.size) := by
       intro l
       induction l with
       | nil=>intro m _; simp
       | cons r l ih =>
        intro m hr
        cases m with
        | zero=>simp
        | succ m =>
         have h1 := hr r (by simp)
         have := ih m fun r hr'=>hr r (by simp [hr'])
         simp only [List.take_succ_cons,List.flatten_cons,List.length_cons]
         have e1 : ((l.take m).length + 1) * i.size = r.length + (l.take m).length * i.size := by rw [Nat.add_mul,h1]; omega
         rw [e1,List.take_length_add_append,this]
      exact aux rows k h3
     rw [hflat]
     have := h11.take ((rows.take k).length * i.size)
     rw [List.take_take,Nat.min_eq_left (Nat.mul_le_mul_right _ hle)] at this
     exact this
    ·intro v hv
     refine h12 v ?_
     have e1 : cur.toList.take ((rows.take k).length * i.size) = (cur.toList.take (rows.length * i.size)).take ((rows.take k).length * i.size) := by
      rw [List.take_take,Nat.min_eq_left (Nat.mul_le_mul_right _ hle)]
     rw [e1] at hv
     exact List.mem_of_mem_take hv
    ·intro o _
     exact h13 trivial o
  ·exact h.objs t y hy
 ·intro t t' y y' b hy hy' hb hb'
  obtain ⟨z,hz,e1⟩ := same t y hy
  obtain ⟨z',hz',e1'⟩ := same t' y' hy'
  exact h.dobj t t' z z' b hz hz' (e1 ▸ hb) (e1' ▸ hb')
 ·intro t t' y y' hy hy' hb
  obtain ⟨z',hz',e1'⟩ := same t' y' hy'
  exact h.dmix t t' y z' hy hz' (e1' ▸ hb)
end
section
variable {P : Program} {ops : Array Oper} {rest : List Oper} {o : Oper} {n : Nat} {s s' : Nat → PV} {bx : Nat → Option Box} {ob : Nat → Option Obj} {K : PState → Prop} {T : TT} {rb : RB} {k : Nat} {L : List Nat}
theorem kD (hT : T.Ok P) (hg : av ops s o = some true) {t t' : TypeId} {x : Operand} (ho : o.op = .binOp .eql t x (.const (.slice none 0 0)) t') {ti : TInfo} {e : TypeId} (hti : T.get t = some ti) (hd : ti.desc = .slice e) {e' : TypeId} {rows : List (List PV)} (hx : evS s x = .list e' rows) {d : Nat} (hdst : o.dst = some d) (hlt : Nat.blt d n = true)
  (h : ∀ b : Bool,(b = true → rows = []) → Ao P ops rest ⟨n,upd s d (.val (.bool b)),bx,ob⟩ K) : Ao P ops (o :: rest) ⟨n,s,bx,ob⟩ K := by
 refine dt hg (fun C M a w next Q hi he hn=>?_)
 have hxr := he x (by rw [ho]; simp [Op.operands])
 rw [show (⟨n,s,bx,ob⟩ : PState).s = s from rfl,hx] at hxr
 simp only [Rep] at hxr
 obtain ⟨ad,c,i,hv,_,_,_,_,hr⟩ := hxr
 have hu := (hT.get hti).und
 rw [hd] at hu
 have hrun : (execOp a.eval o).run P w = .ok (.value (.bool ad.isNone)) w := by
  have h1 := run_equal_slice_nil (P := P) w t e ad rows.length c hu
  have h2 : (eqGuard .eql t x (.const (.slice none 0 0)) (.slice ad rows.length c) (.slice none 0 0)).run P w = .ok () w := by unfold eqGuard; split <;> simp
  simp only [execOp,ho,hv,show a.eval (.const (.slice none 0 0)) = .slice none 0 0 from rfl,Sem.run_bind,h2,Result.andThen_ok,binOp,h1]
  rfl
 unfold Oper.wp
 rw [hrun]
 refine hn _ (.val (.bool ad.isNone)) ⟨bx,ob⟩ M w ⟨_,by simp [hdst,putD,hlt],h ad.isNone fun hb=>?_⟩ (Mem.le_refl M) hi (by simp only [Rep])
 cases rows with
 | nil=>rfl
 | cons r rows =>
  obtain ⟨b,o,e1,_⟩ := hr (by simp)
  rw [e1] at hb
  cases hb
theorem kL (hT : T.Ok P) (hg : av ops s o = some true) {t e : TypeId} {m : Nat} {ps : Array (Nat × Operand)} (ho : o.op = .buildSlice t m ps) {d : Nat} (hdst : o.dst = some d) (hlt : Nat.blt d n = true) {ti : TInfo} (hti : T.get t = some ti) (hd : ti.desc = .slice e) {rows rows' : List (List PV)}
  (hr : eH T e m (cV (evS s) ps) = some rows) (hl : rows'.map List.length = rows.map List.length) (hm : rows.length = m) (hle : eZ P rows.flatten rows'.flatten) (h : ∀ g,Ao P ops rest ⟨n,upd s d (.own d g rows'.length),bx,upd ob d (some ⟨g,e,rows',true⟩)⟩ K) : Ao P ops (o :: rest) ⟨n,s,bx,ob⟩ K := by
 refine Ao.bsO hT hg ho hdst hlt hti hd hr fun g=>?_
 have hlen : rows'.length = m := by rw [← hm]; simpa using congrArg List.length hl
 have h' := h g
 rw [hlen] at h'
 refine bQ (st' := ⟨n,upd s d (.own d g m),bx,upd ob d (some ⟨g,e,rows',true⟩)⟩) ?_ h'
 intro C M a w hi
 refine ⟨M,hi.1,?_⟩
 have := hi.2.reobj (tag := d) (rows' := rows') (dO _ _ _) hl hle
 simp only [PState.heap] at this ⊢
 have e2 : upd (upd ob d (some ⟨g,e,rows,true⟩)) d (some ⟨g,e,rows',true⟩) = upd ob d (some ⟨g,e,rows',true⟩) := by
  funext t
  simp only [cF]
  split <;> rfl
 rwa [e2] at this
end
@[simp] theorem bPs {α β : Type} (a : α) (k : α → Option β) : ac (some a) k = k a := rfl
@[simp] theorem bindP_none {α β : Type} (k : α → Option β) : ac none k = none := rfl
@[simp] theorem bU {α β : Type} (a : α) (k : α → β) : cp a k = k a := rfl
@[simp] theorem dz {σ β : Type} (s : σ) (k : σ → Option β) : Flow.thenP (.next s) k = k s := rfl
@[simp] theorem eM {σ ρ : Type} (s : σ) (k : σ → Option ρ) : Flow.thenR (.next s) k = k s := rfl
@[simp] theorem iO {σ ρ : Type} (r : ρ) (k : σ → Option ρ) : Flow.thenR (.ret r) k = some r := rfl
@[simp] theorem thenF_nextS {σ τ ρ : Type} (s : σ) (k : σ → Option (Flow τ ρ)) : Flow.thenF (.next s) k = k s := rfl
@[simp] theorem thenF_retS {σ τ ρ : Type} (r : ρ) (k : σ → Option (Flow τ ρ)) : Flow.thenF (.ret r) k = some (.ret r) := rfl
theorem fL {α : Type} {bytes : Nat} {xs ys : List α} (h1 : (xs.length + ys.length) * bytes ≤ 2 ^ 47) (h2 : xs.length + ys.length ≤ maxLen) : eF bytes xs ys = some (xs ++ ys) := by
 unfold eF; rw [zp ⟨h1,h2⟩]
theorem jC {α : Type} {xs : List α} {i : Int} {x : α} (h0 : 0 ≤ i) (h : xs[i.toNat]? = some x) : aL xs i = some x := by unfold aL; rw [zp h0,h]
theorem getI_nat {α : Type} {xs : List α} {j : Nat} {x : α} (h : xs[j]? = some x) : aL xs (j : Int) = some x := jC (by omega) (by simpa using h)
theorem subI_ok {α : Type} {xs : List α} {a b : Int} (h : 0 ≤ a ∧ a ≤ b ∧ b ≤ xs.length) : subI xs a b = some ((xs.take b.toNat).drop a.toNat) := by unfold subI; rw [zp h]
theorem eu {α σ ρ : Type} {step : Nat → α → σ → Option (Flow σ ρ)} (I : Nat → σ → Prop) (Q : ρ → Prop) :
  ∀ (xs : List α) (j : Nat) (s : σ),I j s → (∀ k x s,xs[k]? = some x → I (j + k) s → ∃ fl,step (j + k) x s = some fl ∧ (match fl with | .next s'=>I (j + k + 1) s' | .brk _=>False | .ret r=>Q r)) →
   ∃ fl,aX step j xs s = some fl ∧ (match fl with | .next s'=>I (j + xs.length) s' | .brk _=>False | .ret r=>Q r)
 | [],j,s,h,_=>⟨.next s,rfl,by simpa using h⟩
 | x :: xs,j,s,h,hs=>by
  obtain ⟨fl,h1,h2⟩ := hs 0 x s rfl (by simpa using h)
  rw [Nat.add_zero] at h1
  cases fl with
  | next s' =>
   obtain ⟨fl,h3,h4⟩ := eu I Q xs (j + 1) s' (by simpa using h2) (fun k y t hk hI=>by
    obtain ⟨fl,h5,h6⟩ := hs (k + 1) y t (by simpa using hk) (by rw [show j + (k + 1) = j + 1 + k from by omega]; exact hI)
    rw [show j + (k + 1) = j + 1 + k from by omega] at h5 h6
    exact ⟨fl,h5,h6⟩)
   refine ⟨fl,by rw [aX,h1]; exact h3,?_⟩
   rw [show j + (x :: xs).length = j + 1 + xs.length from by simp; omega]
   exact h4
  | brk s'=>exact absurd h2 (by simp)
  | ret r=>exact ⟨.ret r,by rw [aX,h1],h2⟩
theorem rMa {α σ ρ : Type} {step : Nat → α → σ → Option (Flow σ ρ)} {xs : List α} {s : σ} (S : Nat → σ) (h0 : S 0 = s) (hs : ∀ k x,xs[k]? = some x → step k x (S k) = some (.next (S (k + 1)))) : aX step 0 xs s = some (.next (S xs.length)) := by
 subst h0
 obtain ⟨fl,h1,h2⟩ := eu (step := step) (fun j s=>s = S j) (fun _=>False) xs 0 (S 0) rfl (fun k x s hk hI=>by
  simp only [Nat.zero_add] at hI
  subst hI
  exact ⟨_,by rw [Nat.zero_add]; exact hs k x hk,by simp⟩)
 cases fl with
 | next s'=>simp only [Nat.zero_add] at h2; rw [h1,h2]
 | brk s'=>exact absurd h2 (by simp)
 | ret r=>exact absurd h2 (by simp)
theorem gq {α β ρ : Type} {step : Nat → α → List β → Option (Flow (List β) ρ)} {xs : List α} (f : α → β) (hs : ∀ k x,xs[k]? = some x → step k x ((xs.take k).map f) = some (.next ((xs.take k).map f ++ [f x]))) :
  aX step 0 xs [] = some (.next (xs.map f)) := by
 have := rMa (step := step) (xs := xs) (fun k=>(xs.take k).map f) rfl (fun k x hk=>by
  rw [hs k x hk,List.take_add_one,hk]
  simp)
 simpa using this
section
variable {P : Program} {T : TT} {M : Mem}
end
def cG {α : Type} (p : Prop) [Decidable p] (a : α) : Option α := if p then some a else none
theorem bS {α : Type} {p : Prop} [Decidable p] {a b : α} (h : cG p a = some b) : p ∧ a = b := by
 unfold cG at h
 split at h
 ·rename_i hp; exact ⟨hp,Option.some.inj h⟩
 ·cases h
@[simp] theorem bd {α : Type} {p : Prop} [Decidable p] {a : α} (h : p) : cG p a = some a := by unfold cG; rw [zp h]
end
end Go.Ab

namespace Go.Ab
noncomputable section
open Go.Proofs
def tS (d : TypeDesc) : TInfo := ⟨d,1,24,.slice none 0 0,[]⟩
def tP (d : TypeDesc) : TInfo := ⟨d,1,8,.pointer none,[]⟩
def tF (d : TypeDesc) : TInfo := ⟨d,1,8,.nilFunc,[]⟩
theorem tO {P : Program} {k : Nat} {v : TInfo} (i : TypeInfo) (h : P.info? k = some i) (e : (i.size,i.bytes,i.zero,v.eqf) = (v.size,v.bytes,some v.zero,[])) (u : P.underlying k = some v.desc) : v.Ok P k := by
 simp only [Prod.mk.injEq] at e
 exact ⟨⟨i,h,e.1,e.2.1,e.2.2.1⟩,u,fun hn=>absurd e.2.2.2 hn⟩
def ti38 : TInfo := ⟨Tryz.t37.desc,3,32,.agg #[.string ⟨#[]⟩,.int .i64 0,.bool false],[(9,0),(3,1),(4,2)]⟩
def ti48 : TInfo := ⟨Tryz.t47.desc,3,32,.agg #[.int .i64 0,.int .i64 0,.string ⟨#[]⟩],[(3,0),(3,1),(9,2)]⟩
def ti115 : TInfo := ⟨Tryz.t114.desc,1,8,.agg #[.int .i64 0],[(3,0)]⟩
def ti138 : TInfo := ⟨Tryz.t138.desc,4,40,.agg #[.int .i64 0,.string ⟨#[]⟩,.int .i64 0,.int .i64 0],[(3,0),(9,1),(3,2),(3,3)]⟩
def ti139 : TInfo := ⟨Tryz.t138.desc,4,40,.agg #[.int .i64 0,.string ⟨#[]⟩,.int .i64 0,.int .i64 0],[(3,0),(9,1),(3,2),(3,3)]⟩
def ti260 : TInfo := ⟨Tryz.t259.desc,1,16,.agg #[.string ⟨#[]⟩],[(9,0)]⟩
theorem ti38_ok : ti38.Ok Tryz.prog 38 := ⟨⟨Tryz.t38,by kernel_rfl,rfl,rfl,rfl⟩,Tryz.underlying38,fun _=>⟨Tryz.stoodInHeld38,Tryz.eqGuardType38,by simp [bP,Program.fieldsOf,Tryz.underlying38,ti38],by kernel_rfl⟩⟩
theorem ti48_ok : ti48.Ok Tryz.prog 48 := ⟨⟨Tryz.t48,by kernel_rfl,rfl,rfl,rfl⟩,Tryz.underlying48,fun _=>⟨Tryz.stoodInHeld48,Tryz.eqGuardType48,by simp [bP,Program.fieldsOf,Tryz.underlying48,ti48],by kernel_rfl⟩⟩
theorem ti115_ok : ti115.Ok Tryz.prog 115 := ⟨⟨Tryz.t115,by kernel_rfl,rfl,rfl,rfl⟩,Tryz.underlying115,fun _=>⟨Tryz.stoodInHeld115,Tryz.eqGuardType115,by simp [bP,Program.fieldsOf,Tryz.underlying115,ti115],by kernel_rfl⟩⟩
theorem ti138_ok : ti138.Ok Tryz.prog 138 := ⟨⟨Tryz.t138,by kernel_rfl,rfl,rfl,rfl⟩,Tryz.underlying138,fun _=>⟨Tryz.stoodInHeld138,Tryz.eqGuardType138,by simp [bP,Program.fieldsOf,Tryz.underlying138,ti138],by kernel_rfl⟩⟩
theorem ti139_ok : ti139.Ok Tryz.prog 139 := ⟨⟨Tryz.t139,by kernel_rfl,rfl,rfl,rfl⟩,Tryz.underlying139,fun _=>⟨Tryz.stoodInHeld139,Tryz.eqGuardType139,by simp [bP,Program.fieldsOf,Tryz.underlying139,ti139],by kernel_rfl⟩⟩
theorem ti260_ok : ti260.Ok Tryz.prog 260 := ⟨⟨Tryz.t260,by kernel_rfl,rfl,rfl,rfl⟩,Tryz.underlying260,fun _=>⟨Tryz.stoodInHeld260,Tryz.eqGuardType260,by simp [bP,Program.fieldsOf,Tryz.underlying260,ti260],by kernel_rfl⟩⟩
def tt : TT := (.node 104 (tF Tryz.t104.desc) (.node 49 (tF Tryz.t49.desc) (.node 27 (tF Tryz.t27.desc) (.node 20 ⟨Tryz.t20.desc,1,16,.nilIface,[]⟩ (.node 4 ⟨Tryz.t4.desc,1,1,.bool false,[]⟩ (.node 2 ⟨Tryz.t2.desc,1,8,.int .i64 0,[]⟩ (.node 1 (tF Tryz.t1.desc) .leaf .leaf) (.node 3 ⟨Tryz.t3.desc,1,8,.int .i64 0,[]⟩ .leaf .leaf)) (.node 9 ⟨Tryz.t9.desc,1,16,.string ⟨#[]⟩,[]⟩ (.node 5 ⟨Tryz.t5.desc,1,1,.int .u8 0,[]⟩ .leaf .leaf) .leaf)) (.node 24 (tS Tryz.t24.desc) (.node 22 (tS Tryz.t22.desc) (.node 21 ⟨Tryz.t21.desc,1,4,.int .i32 0,[]⟩ .leaf .leaf) (.node 23 (tS Tryz.t23.desc) .leaf .leaf)) (.node 26 ⟨Tryz.t25.desc,2,48,.agg #[.slice none 0 0,.slice none 0 0],[]⟩ (.node 25 ⟨Tryz.t25.desc,2,48,.agg #[.slice none 0 0,.slice none 0 0],[]⟩ .leaf .leaf) .leaf))) (.node 41 ⟨Tryz.t40.desc,3,64,.agg #[.string ⟨#[]⟩,.slice none 0 0,.slice none 0 0],[]⟩ (.node 38 ti38 (.node 30 (tF Tryz.t30.desc) (.node 28 ⟨Tryz.t3.desc,1,8,.int .i64 0,[]⟩ .leaf .leaf) (.node 33 (tS Tryz.t33.desc) .leaf .leaf)) (.node 40 ⟨Tryz.t40.desc,3,64,.agg #[.string ⟨#[]⟩,.slice none 0 0,.slice none 0 0],[]⟩ (.node 39 (tS Tryz.t39.desc) .leaf .leaf) .leaf)) (.node 44 (tS Tryz.t44.desc) (.node 43 (tS Tryz.t43.desc) (.node 42 (tS Tryz.t42.desc) .leaf .leaf) .leaf) (.node 48 ti48 (.node 46 ⟨Tryz.t45.desc,3,72,.agg #[.slice none 0 0,.slice none 0 0,.slice none 0 0],[]⟩ .leaf .leaf) .leaf)))) (.node 70 (tF Tryz.t70.desc) (.node 58 (tS Tryz.t58.desc) (.node 55 (tS Tryz.t54.desc) (.node 51 (tS Tryz.t50.desc) (.node 50 (tS Tryz.t50.desc) .leaf .leaf) (.node 53 ⟨Tryz.t52.desc,2,40,.agg #[.string ⟨#[]⟩,.slice none 0 0],[]⟩ .leaf .leaf)) (.node 57 (tS Tryz.t57.desc) (.node 56 (tS Tryz.t56.desc) .leaf .leaf) .leaf)) (.node 65 ⟨Tryz.t64.desc,2,48,.agg #[.slice none 0 0,.slice none 0 0],[]⟩ (.node 61 ⟨Tryz.t60.desc,9,160,.agg #[.int .i64 0,.string ⟨#[]⟩,.slice none 0 0,.slice none 0 0,.slice none 0 0,.slice none 0 0,.int .i64 0,.int .i64 0,.slice none 0 0],[]⟩ (.node 59 (tS Tryz.t59.desc) .leaf .leaf) .leaf) (.node 69 (tF Tryz.t68.desc) (.node 68 (tF Tryz.t68.desc) .leaf .leaf) .leaf))) (.node 86 (tP Tryz.t86.desc) (.node 79 (tF Tryz.t79.desc) (.node 75 (tF Tryz.t75.desc) (.node 74 (tF Tryz.t74.desc) .leaf .leaf) (.node 77 (tF Tryz.t77.desc) .leaf .leaf)) (.node 85 (tF Tryz.t85.desc) (.node 80 (tF Tryz.t79.desc) .leaf .leaf) .leaf)) (.node 95 (tS Tryz.t95.desc) (.node 94 (tP Tryz.t94.desc) (.node 93 (tF Tryz.t93.desc) .leaf .leaf) .leaf) (.node 99 ⟨Tryz.t98.desc,3,56,.agg #[.slice none 0 0,.int .i64 0,.slice none 0 0],[]⟩ (.node 97 ⟨Tryz.t96.desc,3,72,.agg #[.slice none 0 0,.slice none 0 0,.slice none 0 0],[]⟩ .leaf .leaf) .leaf))))) (.node 182 (tF Tryz.t182.desc) (.node 138 ti138 (.node 117 (tF Tryz.t117.desc) (.node 111 (tF Tryz.t111.desc) (.node 107 (tF Tryz.t107.desc) (.node 105 (tF Tryz.t105.desc) .leaf .leaf) (.node 109 (tS Tryz.t109.desc) .leaf .leaf)) (.node 115 ti115 (.node 113 ⟨Tryz.t112.desc,3,40,.agg #[.slice none 0 0,.int .i64 0,.int .i64 0],[]⟩ .leaf .leaf) .leaf)) (.node 126 ⟨Tryz.t125.desc,8,192,.agg #[.slice none 0 0,.slice none 0 0,.slice none 0 0,.slice none 0 0,.slice none 0 0,.slice none 0 0,.slice none 0 0,.slice none 0 0],[]⟩ (.node 123 (tF Tryz.t123.desc) (.node 120 (tF Tryz.t120.desc) .leaf .leaf) (.node 125 ⟨Tryz.t125.desc,8,192,.agg #[.slice none 0 0,.slice none 0 0,.slice none 0 0,.slice none 0 0,.slice none 0 0,.slice none 0 0,.slice none 0 0,.slice none 0 0],[]⟩ .leaf .leaf)) (.node 135 (tF Tryz.t135.desc) (.node 129 ⟨Tryz.t128.desc,1,16,.nilIface,[]⟩ .leaf .leaf) .leaf))) (.node 166 (tF Tryz.t166.desc) (.node 154 ⟨Tryz.t153.desc,4,96,.agg #[.slice none 0 0,.slice none 0 0,.slice none 0 0,.slice none 0 0],[]⟩ (.node 144 ⟨Tryz.t143.desc,7,88,.agg #[.int .i64 0,.string ⟨#[]⟩,.int .i64 0,.int .i64 0,.int .i64 0,.string ⟨#[]⟩,.slice none 0 0],[]⟩ (.node 139 ti139 .leaf .leaf) (.node 148 (tP Tryz.t148.desc) .leaf .leaf)) (.node 164 ⟨Tryz.t163.desc,5,120,.agg #[.slice none 0 0,.slice none 0 0,.slice none 0 0,.slice none 0 0,.slice none 0 0],[]⟩ (.node 156 (tF Tryz.t156.desc) .leaf .leaf) .leaf)) (.node 169 ⟨Tryz.t169.desc,1,8,.int .u64 0,[]⟩ (.node 168 (tF Tryz.t168.desc) (.node 167 (tF Tryz.t167.desc) .leaf .leaf) .leaf) (.node 181 ⟨Tryz.t181.desc,8,8,.agg #[.bool false,.bool false,.bool false,.bool false,.bool false,.bool false,.bool false,.bool false],[]⟩ (.node 178 ⟨Tryz.t177.desc,3,56,.agg #[.string ⟨#[]⟩,.string ⟨#[]⟩,.slice none 0 0],[]⟩ .leaf .leaf) .leaf)))) (.node 233 (tP Tryz.t233.desc) (.node 206 (tF Tryz.t206.desc) (.node 190 (tF Tryz.t190.desc) (.node 187 (tF Tryz.t187.desc) (.node 184 (tS Tryz.t184.desc) .leaf .leaf) (.node 188 (tF Tryz.t188.desc) .leaf .leaf)) (.node 203 (tF Tryz.t203.desc) (.node 198 ⟨Tryz.t197.desc,1,16,.nilIface,[]⟩ .leaf .leaf) .leaf)) (.node 227 (tF Tryz.t227.desc) (.node 225 (tF Tryz.t225.desc) (.node 208 (tF Tryz.t208.desc) .leaf .leaf) .leaf) (.node 230 (tS Tryz.t230.desc) (.node 229 ⟨Tryz.t3.desc,1,8,.int .i64 0,[]⟩ .leaf .leaf) .leaf))) (.node 260 ti260 (.node 249 ⟨Tryz.t249.desc,24,24,.agg #[.int .u8 0,.int .u8 0,.int .u8 0,.int .u8 0,.int .u8 0,.int .u8 0,.int .u8 0,.int .u8 0,.int .u8 0,.int .u8 0,.int .u8 0,.int .u8 0,.int .u8 0,.int .u8 0,.int .u8 0,.int .u8 0,.int .u8 0,.int .u8 0,.int .u8 0,.int .u8 0,.int .u8 0,.int .u8 0,.int .u8 0,.int .u8 0],[]⟩ (.node 242 ⟨Tryz.t242.desc,1,8,.int .u64 0,[]⟩ (.node 237 ⟨Tryz.t237.desc,1,4,.int .u32 0,[]⟩ .leaf .leaf) (.node 247 ⟨Tryz.t246.desc,3,48,.agg #[.string ⟨#[]⟩,.string ⟨#[]⟩,.nilIface],[]⟩ .leaf .leaf)) (.node 258 (tP Tryz.t258.desc) (.node 257 (tP Tryz.t257.desc) .leaf .leaf) .leaf)) (.node 268 ⟨Tryz.t268.desc,64,64,.agg #[.int .u8 0,.int .u8 0,.int .u8 0,.int .u8 0,.int .u8 0,.int .u8 0,.int .u8 0,.int .u8 0,.int .u8 0,.int .u8 0,.int .u8 0,.int .u8 0,.int .u8 0,.int .u8 0,.int .u8 0,.int .u8 0,.int .u8 0,.int .u8 0,.int .u8 0,.int .u8 0,.int .u8 0,.int .u8 0,.int .u8 0,.int .u8 0,.int .u8 0,.int .u8 0,.int .u8 0,.int .u8 0,.int .u8 0,.int .u8 0,.int .u8 0,.int .u8 0,.int .u8 0,.int .u8 0,.int .u8 0,.int .u8 0,.int .u8 0,.int .u8 0,.int .u8 0,.int .u8 0,.int .u8 0,.int .u8 0,.int .u8 0,.int .u8 0,.int .u8 0,.int .u8 0,.int .u8 0,.int .u8 0,.int .u8 0,.int .u8 0,.int .u8 0,.int .u8 0,.int .u8 0,.int .u8 0,.int .u8 0,.int .u8 0,.int .u8 0,.int .u8 0,.int .u8 0,.int .u8 0,.int .u8 0,.int .u8 0,.int .u8 0,.int .u8 0],[]⟩ (.node 267 ⟨Tryz.t267.desc,32,32,.agg #[.int .u8 0,.int .u8 0,.int .u8 0,.int .u8 0,.int .u8 0,.int .u8 0,.int .u8 0,.int .u8 0,.int .u8 0,.int .u8 0,.int .u8 0,.int .u8 0,.int .u8 0,.int .u8 0,.int .u8 0,.int .u8 0,.int .u8 0,.int .u8 0,.int .u8 0,.int .u8 0,.int .u8 0,.int .u8 0,.int .u8 0,.int .u8 0,.int .u8 0,.int .u8 0,.int .u8 0,.int .u8 0,.int .u8 0,.int .u8 0,.int .u8 0,.int .u8 0],[]⟩ (.node 262 ⟨Tryz.t262.desc,20,160,.agg #[.int .u64 0,.int .u64 0,.int .u64 0,.int .u64 0,.int .u64 0,.int .u64 0,.int .u64 0,.int .u64 0,.int .u64 0,.int .u64 0,.int .u64 0,.int .u64 0,.int .u64 0,.int .u64 0,.int .u64 0,.int .u64 0,.int .u64 0,.int .u64 0,.int .u64 0,.int .u64 0],[]⟩ .leaf .leaf) .leaf) (.node 284 ⟨Tryz.t283.desc,7,80,.agg #[.string ⟨#[]⟩,.int .i64 0,.string ⟨#[]⟩,.int .i64 0,.int .i64 0,.int .i64 0,.string ⟨#[]⟩],[]⟩ (.node 282 ⟨Tryz.t281.desc,3,56,.agg #[.string ⟨#[]⟩,.slice none 0 0,.string ⟨#[]⟩],[]⟩ .leaf .leaf) .leaf))))))
theorem tk : tt.Ok Tryz.prog := ⟨tO Tryz.t104 (by kernel_rfl) rfl Tryz.underlying104,⟨tO Tryz.t49 (by kernel_rfl) rfl Tryz.underlying49,⟨tO Tryz.t27 (by kernel_rfl) rfl Tryz.underlying27,⟨tO Tryz.t20 (by kernel_rfl) rfl Tryz.underlying20,⟨tO Tryz.t4 (by kernel_rfl) rfl Tryz.underlying4,⟨tO Tryz.t2 (by kernel_rfl) rfl Tryz.underlying2,⟨tO Tryz.t1 (by kernel_rfl) rfl Tryz.underlying1,trivial,trivial⟩,⟨tO Tryz.t3 (by kernel_rfl) rfl Tryz.underlying3,trivial,trivial⟩⟩,⟨tO Tryz.t9 (by kernel_rfl) rfl Tryz.underlying9,⟨tO Tryz.t5 (by kernel_rfl) rfl Tryz.underlying5,trivial,trivial⟩,trivial⟩⟩,⟨tO Tryz.t24 (by kernel_rfl) rfl Tryz.underlying24,⟨tO Tryz.t22 (by kernel_rfl) rfl Tryz.underlying22,⟨tO Tryz.t21 (by kernel_rfl) rfl Tryz.underlying21,trivial,trivial⟩,⟨tO Tryz.t23 (by kernel_rfl) rfl Tryz.underlying23,trivial,trivial⟩⟩,⟨tO Tryz.t26 (by kernel_rfl) rfl Tryz.underlying26,⟨tO Tryz.t25 (by kernel_rfl) rfl Tryz.underlying25,trivial,trivial⟩,trivial⟩⟩⟩,⟨tO Tryz.t41 (by kernel_rfl) rfl Tryz.underlying41,⟨ti38_ok,⟨tO Tryz.t30 (by kernel_rfl) rfl Tryz.underlying30,⟨tO Tryz.t28 (by kernel_rfl) rfl Tryz.underlying28,trivial,trivial⟩,⟨tO Tryz.t33 (by kernel_rfl) rfl Tryz.underlying33,trivial,trivial⟩⟩,⟨tO Tryz.t40 (by kernel_rfl) rfl Tryz.underlying40,⟨tO Tryz.t39 (by kernel_rfl) rfl Tryz.underlying39,trivial,trivial⟩,trivial⟩⟩,⟨tO Tryz.t44 (by kernel_rfl) rfl Tryz.underlying44,⟨tO Tryz.t43 (by kernel_rfl) rfl Tryz.underlying43,⟨tO Tryz.t42 (by kernel_rfl) rfl Tryz.underlying42,trivial,trivial⟩,trivial⟩,⟨ti48_ok,⟨tO Tryz.t46 (by kernel_rfl) rfl Tryz.underlying46,trivial,trivial⟩,trivial⟩⟩⟩⟩,⟨tO Tryz.t70 (by kernel_rfl) rfl Tryz.underlying70,⟨tO Tryz.t58 (by kernel_rfl) rfl Tryz.underlying58,⟨tO Tryz.t55 (by kernel_rfl) rfl Tryz.underlying55,⟨tO Tryz.t51 (by kernel_rfl) rfl Tryz.underlying51,⟨tO Tryz.t50 (by kernel_rfl) rfl Tryz.underlying50,trivial,trivial⟩,⟨tO Tryz.t53 (by kernel_rfl) rfl Tryz.underlying53,trivial,trivial⟩⟩,⟨tO Tryz.t57 (by kernel_rfl) rfl Tryz.underlying57,⟨tO Tryz.t56 (by kernel_rfl) rfl Tryz.underlying56,trivial,trivial⟩,trivial⟩⟩,⟨tO Tryz.t65 (by kernel_rfl) rfl Tryz.underlying65,⟨tO Tryz.t61 (by kernel_rfl) rfl Tryz.underlying61,⟨tO Tryz.t59 (by kernel_rfl) rfl Tryz.underlying59,trivial,trivial⟩,trivial⟩,⟨tO Tryz.t69 (by kernel_rfl) rfl Tryz.underlying69,⟨tO Tryz.t68 (by kernel_rfl) rfl Tryz.underlying68,trivial,trivial⟩,trivial⟩⟩⟩,⟨tO Tryz.t86 (by kernel_rfl) rfl Tryz.underlying86,⟨tO Tryz.t79 (by kernel_rfl) rfl Tryz.underlying79,⟨tO Tryz.t75 (by kernel_rfl) rfl Tryz.underlying75,⟨tO Tryz.t74 (by kernel_rfl) rfl Tryz.underlying74,trivial,trivial⟩,⟨tO Tryz.t77 (by kernel_rfl) rfl Tryz.underlying77,trivial,trivial⟩⟩,⟨tO Tryz.t85 (by kernel_rfl) rfl Tryz.underlying85,⟨tO Tryz.t80 (by kernel_rfl) rfl Tryz.underlying80,trivial,trivial⟩,trivial⟩⟩,⟨tO Tryz.t95 (by kernel_rfl) rfl Tryz.underlying95,⟨tO Tryz.t94 (by kernel_rfl) rfl Tryz.underlying94,⟨tO Tryz.t93 (by kernel_rfl) rfl Tryz.underlying93,trivial,trivial⟩,trivial⟩,⟨tO Tryz.t99 (by kernel_rfl) rfl Tryz.underlying99,⟨tO Tryz.t97 (by kernel_rfl) rfl Tryz.underlying97,trivial,trivial⟩,trivial⟩⟩⟩⟩⟩,⟨tO Tryz.t182 (by kernel_rfl) rfl Tryz.underlying182,⟨ti138_ok,⟨tO Tryz.t117 (by kernel_rfl) rfl Tryz.underlying117,⟨tO Tryz.t111 (by kernel_rfl) rfl Tryz.underlying111,⟨tO Tryz.t107 (by kernel_rfl) rfl Tryz.underlying107,⟨tO Tryz.t105 (by kernel_rfl) rfl Tryz.underlying105,trivial,trivial⟩,⟨tO Tryz.t109 (by kernel_rfl) rfl Tryz.underlying109,trivial,trivial⟩⟩,⟨ti115_ok,⟨tO Tryz.t113 (by kernel_rfl) rfl Tryz.underlying113,trivial,trivial⟩,trivial⟩⟩,⟨tO Tryz.t126 (by kernel_rfl) rfl Tryz.underlying126,⟨tO Tryz.t123 (by kernel_rfl) rfl Tryz.underlying123,⟨tO Tryz.t120 (by kernel_rfl) rfl Tryz.underlying120,trivial,trivial⟩,⟨tO Tryz.t125 (by kernel_rfl) rfl Tryz.underlying125,trivial,trivial⟩⟩,⟨tO Tryz.t135 (by kernel_rfl) rfl Tryz.underlying135,⟨tO Tryz.t129 (by kernel_rfl) rfl Tryz.underlying129,trivial,trivial⟩,trivial⟩⟩⟩,⟨tO Tryz.t166 (by kernel_rfl) rfl Tryz.underlying166,⟨tO Tryz.t154 (by kernel_rfl) rfl Tryz.underlying154,⟨tO Tryz.t144 (by kernel_rfl) rfl Tryz.underlying144,⟨ti139_ok,trivial,trivial⟩,⟨tO Tryz.t148 (by kernel_rfl) rfl Tryz.underlying148,trivial,trivial⟩⟩,⟨tO Tryz.t164 (by kernel_rfl) rfl Tryz.underlying164,⟨tO Tryz.t156 (by kernel_rfl) rfl Tryz.underlying156,trivial,trivial⟩,trivial⟩⟩,⟨tO Tryz.t169 (by kernel_rfl) rfl Tryz.underlying169,⟨tO Tryz.t168 (by kernel_rfl) rfl Tryz.underlying168,⟨tO Tryz.t167 (by kernel_rfl) rfl Tryz.underlying167,trivial,trivial⟩,trivial⟩,⟨tO Tryz.t181 (by kernel_rfl) rfl Tryz.underlying181,⟨tO Tryz.t178 (by kernel_rfl) rfl Tryz.underlying178,trivial,trivial⟩,trivial⟩⟩⟩⟩,⟨tO Tryz.t233 (by kernel_rfl) rfl Tryz.underlying233,⟨tO Tryz.t206 (by kernel_rfl) rfl Tryz.underlying206,⟨tO Tryz.t190 (by kernel_rfl) rfl Tryz.underlying190,⟨tO Tryz.t187 (by kernel_rfl) rfl Tryz.underlying187,⟨tO Tryz.t184 (by kernel_rfl) rfl Tryz.underlying184,trivial,trivial⟩,⟨tO Tryz.t188 (by kernel_rfl) rfl Tryz.underlying188,trivial,trivial⟩⟩,⟨tO Tryz.t203 (by kernel_rfl) rfl Tryz.underlying203,⟨tO Tryz.t198 (by kernel_rfl) rfl Tryz.underlying198,trivial,trivial⟩,trivial⟩⟩,⟨tO Tryz.t227 (by kernel_rfl) rfl Tryz.underlying227,⟨tO Tryz.t225 (by kernel_rfl) rfl Tryz.underlying225,⟨tO Tryz.t208 (by kernel_rfl) rfl Tryz.underlying208,trivial,trivial⟩,trivial⟩,⟨tO Tryz.t230 (by kernel_rfl) rfl Tryz.underlying230,⟨tO Tryz.t229 (by kernel_rfl) rfl Tryz.underlying229,trivial,trivial⟩,trivial⟩⟩⟩,⟨ti260_ok,⟨tO Tryz.t249 (by kernel_rfl) rfl Tryz.underlying249,⟨tO Tryz.t242 (by kernel_rfl) rfl Tryz.underlying242,⟨tO Tryz.t237 (by kernel_rfl) rfl Tryz.underlying237,trivial,trivial⟩,⟨tO Tryz.t247 (by kernel_rfl) rfl Tryz.underlying247,trivial,trivial⟩⟩,⟨tO Tryz.t258 (by kernel_rfl) rfl Tryz.underlying258,⟨tO Tryz.t257 (by kernel_rfl) rfl Tryz.underlying257,trivial,trivial⟩,trivial⟩⟩,⟨tO Tryz.t268 (by kernel_rfl) rfl Tryz.underlying268,⟨tO Tryz.t267 (by kernel_rfl) rfl Tryz.underlying267,⟨tO Tryz.t262 (by kernel_rfl) rfl Tryz.underlying262,trivial,trivial⟩,trivial⟩,⟨tO Tryz.t284 (by kernel_rfl) rfl Tryz.underlying284,⟨tO Tryz.t282 (by kernel_rfl) rfl Tryz.underlying282,trivial,trivial⟩,trivial⟩⟩⟩⟩⟩⟩
end
end Go.Ab


namespace Go.Proofs.YtnnieenoapkefaaGreatDoor
noncomputable section
open Go Go.Ab
theorem mok : Tryz.prog.follows .mixedOrders = true := by kernel_rfl
abbrev ag (n : Int) : PV := .val (.int .i64 n)
abbrev bw (b : Bool) : PV := .val (.bool b)
structure LVal where
 kind : Int
 int : Int
 text : List UInt8
 deriving DecidableEq
structure LCol where
 name : List UInt8
 kind : Int
 nullable : Bool
 deriving DecidableEq
structure LEnv where
 cols : List LCol
 row : List LVal
 params : List LVal
 vnames : List (List UInt8)
 vvals : List LVal
@[simp] def ab (v : LVal) : List PV := [ag v.kind,ag v.int,.str v.text]
@[simp] def encCol (c : LCol) : List PV := [.str c.name,ag c.kind,bw c.nullable]
abbrev pvals (l : List LVal) : PV := .list 48 (l.map ab)
abbrev pcols (l : List LCol) : PV := .list 38 (l.map encCol)
abbrev pstrs (l : List (List UInt8)) : PV := .list 9 (l.map fun s=>[.str s])
@[simp] def encEnv (v : LEnv) : List PV := [pcols v.cols,pvals v.row,pvals v.params,pstrs v.vnames,pvals v.vvals]
theorem aB {n : Int} (h1 : -9223372036854775808 ≤ n) (h2 : n ≤ 9223372036854775807) : IntKind.i64.wrap n = n := by
 simp only [IntKind.wrap,IntKind.bits,IntKind.signed]
 simp
 omega
theorem pint_succ {j : Nat} (h : j < maxLen) : ag (IntKind.i64.wrap ((j : Int) + 1)) = ag ((j + 1 : Nat) : Int) := by
 rw [aB (by omega) (by simp [maxLen] at h; omega)]
 simp
abbrev Rq := List LVal
abbrev Rz := List (List LVal)
abbrev ba : Int → List PV := fun n=>[ag n]
abbrev aE : Bool → List PV := fun b=>[bw b]
abbrev ae {α : Type} (e : TypeId) (f : α → List PV) : List α → List PV := fun l=>[.list e (l.map f)]
structure LExtsortOrdering where
 columns : List Int
 descending : List Bool
 deriving DecidableEq
@[simp] def aN (x : LExtsortOrdering) : List PV := [(.list 3 (x.columns.map ba)),(.list 4 (x.descending.map aE))]
structure LExtsortHead where
 row : Rq
 runF : Int
 rest : Rz
 deriving DecidableEq
@[simp] def aa (x : LExtsortHead) : List PV := [(.list 48 (x.row.map ab)),(ag x.runF),(.list 51 (x.rest.map (ae 48 ab)))]
structure LExtsortHeads where
 byF : LExtsortOrdering
 l : List LExtsortHead
 deriving DecidableEq
@[simp] def encExtsortHeads (x : LExtsortHeads) : List PV := [(.list 3 (x.byF.columns.map ba)),(.list 4 (x.byF.descending.map aE)),(.list 99 (x.l.map aa))]
end
end Go.Proofs.YtnnieenoapkefaaGreatDoor

namespace Go.Ab
noncomputable section
section
variable {P : Program} {T : TT}
theorem detS_idxO (hT : T.Ok P) {o : Oper} {ev : Operand → PV} {H : Heap} {t : TypeId} {x i : Operand} (ho : o.op = .indexAddr t x i) {ti ei : TInfo} {e : TypeId} (hti : T.get t = some ti) (hd : ti.desc = .slice e) (hei : T.get e = some ei)
  {tag : Nat} {g : OwnRef} {len : Nat} (hx : ev x = .own tag g len) {k : IntKind} {j : Int} (hi : ev i = .val (.int k j)) (hj : 0 ≤ j ∧ j.toNat < len) (hb : ∃ b,g.blk = some b) : DetS P o ev H (.optr tag g ei.size j.toNat 0) := by
 intro C M a w _ he
 have hxr := he x (by rw [ho]; simp [Op.operands])
 have hir := he i (by rw [ho]; simp [Op.operands])
 rw [hx] at hxr
 rw [hi] at hir
 simp only [Rep] at hxr hir
 obtain ⟨b,hb⟩ := hb
 have hu := (hT.get hti).rund w
 rw [hd] at hu
 have hsz := (hT.get hei).rsize w
 have h2 : j < (len : Int) := by omega
 refine ⟨.pointer (some ⟨b,j.toNat * ei.size,none⟩),?_,?_⟩
 ·simp [execOp,ho,Instr.indexAt,hir,hxr.2,OwnRef.val,hb,asIntOf,hu,hj.1,h2,hsz,cx]
 ·simp only [Rep]
  exact ⟨trivial,b,hb,by simp⟩
theorem gd {k : Nat} : ∀ {rows : List (List PV)} {j : Nat} {r : List PV},(∀ q ∈ rows,q.length = k) → rows[j]? = some r → ∀ i p,r[i]? = some p → rows.flatten[j * k + i]? = some p
 | [],j,r,_,h,_,_,_=>by simp at h
 | q :: rows,0,r,hl,h,i,p,hp=>by
  simp only [List.getElem?_cons_zero,zo] at h
  subst h
  simp only [List.flatten_cons,Nat.zero_mul,Nat.zero_add]
  rw [List.getElem?_append_left (zg.1 hp).1]
  exact hp
 | q :: rows,j + 1,r,hl,h,i,p,hp=>by
  have hq := hl q (by simp)
  have := gd (rows := rows) (j := j) (fun q hq=>hl q (by simp [hq])) (by simpa using h) i p hp
  simp only [List.flatten_cons]
  rw [List.getElem?_append_right (by rw [hq,Nat.add_mul]; omega),hq,show (j + 1) * k + i - k = j * k + i from by rw [Nat.add_mul]; omega]
  exact this
theorem detS_loadO (hT : T.Ok P) {o : Oper} {ev : Operand → PV} {H : Heap} {t : TypeId} {x : Operand} (ho : o.op = .load t x) {ti : TInfo} (hti : T.get t = some ti) {tag : Nat} {g : OwnRef} {k row off : Nat} (hx : ev x = .optr tag g k row off)
  {e : TypeId} {rows : List (List PV)} {wr : Bool} (hob : H.ob tag = some ⟨g,e,rows,wr⟩) {ei : TInfo} (hei : T.get e = some ei) (hk : k = ei.size) {cells : List PV} (hr : rows[row]? = some cells) {r : PV} (hc : dA ti off cells = some r) : DetS P o ev H r := by
 intro C M a w hi he
 have hxr := he x (by rw [ho]; simp [Op.operands])
 rw [hx] at hxr
 simp only [Rep] at hxr
 obtain ⟨_,b,hb,hv⟩ := hxr
 obtain ⟨i,h1,h2,h3,h4⟩ := hi.objs tag _ hob
 obtain ⟨i',h5,h6,_,_⟩ := (hT.get hei).info
 simp only at h1 h3 h4
 rw [h1] at h5
 cases h5
 rcases h4 with ⟨hn,_⟩ | ⟨b',cur,hb',hm,hcur,hcs,hlc,hcm,hcr,h1c,_,_⟩
 ·rw [hb] at hn; cases hn
 ·rw [hb] at hb'
  cases hb'
  have hlt : row < rows.length := (zg.1 hr).1
  have hcl : cells.length = i.size := h3 cells (List.mem_of_getElem? hr)
  have hks : k = i.size := by rw [hk,h6]
  subst hks
  -- the cells of that row
  have hflat : rows.flatten.length = rows.length * i.size := by
   have : ∀ l : List (List PV),(∀ q ∈ l,q.length = i.size) → l.flatten.length = l.length * i.size := by
    intro l
    induction l with
    | nil=>simp
    | cons q l ih=>intro hl; simp [ih fun q hq=>hl q (by simp [hq]),hl q (by simp),Nat.add_mul]; omega
   exact this rows h3
  have hseg : ak P M false cells ((cur.toList.take (rows.length * i.size)).drop (row * i.size) |>.take i.size) := by
   have h7 := (hcr.drop (row * i.size)).take i.size
   have e1 : (rows.flatten.drop (row * i.size)).take i.size = cells := by
    apply List.ext_getElem?
    intro m
    rw [List.getElem?_take]
    split
    ·rename_i hm
     rw [List.getElem?_drop]
     have hcm : cells[m]? = some cells[m] := ze (by omega)
     rw [hcm]
     exact gd h3 hr m _ hcm
    ·rw [List.getElem?_eq_none (by omega)]
   rwa [e1] at h7
  obtain ⟨v,h8,h9⟩ := fF (hT.get hti) w b (row * i.size) off cells _ hseg (fun j y hj=>by
   rw [cell_of_row w b (row * i.size + j) cur e (0,0) hcur]
   rw [List.getElem?_take] at hj
   split at hj
   ·rw [List.getElem?_drop,List.getElem?_take] at hj
    split at hj
    ·simpa using hj
    ·cases hj
   ·cases hj) hc
  refine ⟨v,?_,h9.slot⟩
  simp [execOp,ho,hv,Instr.loadAt,Instr.sureAddr,h8]
theorem splice_seg {α : Type} (X Y Z cs : List α) (off : Nat) (h : off + cs.length ≤ Y.length) :
  X ++ (Y.take off ++ cs ++ Y.drop (off + cs.length)) ++ Z = (X ++ (Y ++ Z)).take (X.length + off) ++ cs ++ (X ++ (Y ++ Z)).drop (X.length + off + cs.length) := by
 rw [List.take_length_add_append,List.take_append_of_le_length (by omega),show X.length + off + cs.length = X.length + (off + cs.length) from by omega,List.drop_length_add_append,List.drop_append_of_le_length h]
 simp
theorem splice_take {α : Type} (l cs : List α) (p N : Nat) (h : p + cs.length ≤ N) (hN : N ≤ l.length) :
  (l.take p ++ cs ++ l.drop (p + cs.length)).take N = (l.take N).take p ++ cs ++ (l.take N).drop (p + cs.length) := by
 obtain ⟨U,hU⟩ : ∃ U,U = l.take N := ⟨_,rfl⟩
 obtain ⟨W,hW⟩ : ∃ W,W = l.drop N := ⟨_,rfl⟩
 have hl : l = U ++ W := by rw [hU,hW,List.take_append_drop]
 have hUl : U.length = N := by rw [hU]; simp; omega
 rw [← hU,hl,List.take_append_of_le_length (l₁ := U) (i := p) (by omega),List.drop_append_of_le_length (l₁ := U) (i := p + cs.length) (by omega)]
 rw [← List.append_assoc]
 have e : (U.take p ++ cs ++ U.drop (p + cs.length)).length = N := by simp; omega
 rw [← e,List.take_left]
def setRow (rows : List (List PV)) (row off : Nat) (cs : List PV) : List (List PV) := rows.set row (splice (rows.getD row []) off cs)
theorem set_flat {k : Nat} : ∀ {rows : List (List PV)} {j : Nat} {q : List PV},(∀ r ∈ rows,r.length = k) → q.length = k → j < rows.length → (rows.set j q).flatten = rows.flatten.take (j * k) ++ q ++ rows.flatten.drop (j * k + k)
 | [],j,q,_,_,h=>by simp at h
 | r :: rows,0,q,hl,hq,_=>by
  have hr := hl r (by simp)
  simp only [List.set_cons_zero,List.flatten_cons,Nat.zero_mul,List.take_zero,List.nil_append,Nat.zero_add]
  rw [← hr,List.drop_left]
 | r :: rows,j + 1,q,hl,hq,h=>by
  have hr := hl r (by simp)
  have ih := set_flat (rows := rows) (j := j) (q := q) (fun r hr=>hl r (by simp [hr])) hq (by simpa using h)
  simp only [List.set_cons_succ,List.flatten_cons,ih]
  have e1 : (j + 1) * k = r.length + j * k := by rw [Nat.add_mul,hr]; omega
  have e2 : r.length + j * k + k = r.length + (j * k + k) := by omega
  rw [e1,List.take_length_add_append,e2,List.drop_length_add_append]
  simp
theorem eff_storeO (hT : T.Ok P) {o : Oper} {ev : Operand → PV} {H : Heap} {t : TypeId} {x y : Operand} (ho : o.op = .store t x y) {ti : TInfo} (hti : T.get t = some ti) {tag : Nat} {g : OwnRef} {k row off : Nat} (hx : ev x = .optr tag g k row off)
  {e : TypeId} {rows : List (List PV)} (hob : H.ob tag = some ⟨g,e,rows,true⟩) {ei : TInfo} (hei : T.get e = some ei) (hk : k = ei.size) (hrow : row < rows.length) {py : PV} (hy : PLe P (ev y) py) {cs : List PV} (hc : bE py = some cs) (hf : PV.frozL cs = true) (h1 : cs.all PV.one = true) (hl : cs.length = ti.size) (hle : off + ti.size ≤ ei.size)
  {K : PV → Heap → Prop} (hK : K .any ⟨H.bx,upd H.ob tag (some ⟨g,e,setRow rows row off cs,true⟩)⟩) : Eff P o ev H K := by
 intro C M a w next Q hi he hn
 have hxr := he x (by rw [ho]; simp [Op.operands])
 have hyr := he y (by rw [ho]; simp [Op.operands])
 rw [hx] at hxr
 simp only [Rep] at hxr
 obtain ⟨_,b,hb,hv⟩ := hxr
 have hr := ek hc (hy M _ hyr)
 have hone := ak.oneCell h1 hr
 have hrf := ak.unslot hf hr
 have hvs : (a.eval y).cells.size = ti.size := by have := hr.length; simp at this; omega
 obtain ⟨i,g1,g2,g3,g4⟩ := hi.objs tag _ hob
 obtain ⟨i',g5,g6,_,_⟩ := (hT.get hei).info
 simp only at g1 g2 g3 g4
 rw [g1] at g5
 cases g5
 rcases g4 with ⟨hn',_⟩ | ⟨b',cur,hb',hm,hcur,hcs,hlc,hcm,hcr,h1c,hw1,hw2⟩
 ·rw [hb] at hn'; cases hn'
 rw [hb] at hb'
 cases hb'
 have hks : k = i.size := by rw [hk,g6]
 subst hks
 rw [← g6] at hle
 have hfit : row * i.size + i.size ≤ rows.length * i.size := by
  have := Nat.mul_le_mul_right i.size (show row + 1 ≤ rows.length from hrow)
  rw [Nat.add_mul] at this
  omega
 have hcap : rows.length * i.size ≤ cur.size := by rw [hcs]; exact Nat.mul_le_mul_right _ hlc
 have hvl : (a.eval y).cells.toList.length = ti.size := by simpa using hvs
 have hst := run_storeCells_at P b (row * i.size + off) e (a.eval y).cells.toList 0 cur w hcur (by rw [hvl]; omega) hone
 simp only [Nat.add_zero] at hst
 have hrun : (execOp a.eval o).run P w = .ok .skip (w.setRow b (cur.toList.take (row * i.size + off) ++ (a.eval y).cells.toList ++ cur.toList.drop (row * i.size + off + (a.eval y).cells.toList.length)).toArray) := by
  simp only [execOp,ho,Instr.storeAt,hv,Instr.sureAddr,Sem.run_bind,Sem.run_pure,Result.andThen_ok,storeVar,(hT.get hti).rsize w,hvs]
  simp only [ne_eq,not_true_eq_false,if_false]
  rw [hst]
  rfl
 unfold Oper.wp
 rw [hrun]
 have hgetD : rows.getD row [] = rows[row] := by simp [hrow]
 have hrl : (rows.getD row []).length = i.size := by rw [hgetD]; exact g3 _ (List.getElem_mem hrow)
 have hspl : (splice (rows.getD row []) off cs).length = i.size := by
  unfold splice
  rw [List.length_append,List.length_append,List.length_take,List.length_drop,hrl,hl]
  omega
 have hlens : ∀ r ∈ setRow rows row off cs,r.length = i.size := by
  intro r hr'
  rcases List.mem_or_eq_of_mem_set hr' with h | h
  ·exact g3 r h
  ·rw [h]; exact hspl
 have hlen : (setRow rows row off cs).length = rows.length := by simp [setRow]
 have hflat : rows.flatten.length = rows.length * i.size := by
  have : ∀ l : List (List PV),(∀ q ∈ l,q.length = i.size) → l.flatten.length = l.length * i.size := by
   intro l
   induction l with
   | nil=>simp
   | cons q l ih=>intro hl; simp [ih fun q hq=>hl q (by simp [hq]),hl q (by simp),Nat.add_mul]; omega
  exact this rows g3
 have hrl2 : rows[row].length = i.size := g3 _ (List.getElem_mem hrow)
 have hrowcells : (rows.flatten.drop (row * i.size)).take i.size = rows.getD row [] := by
  rw [hgetD]
  apply List.ext_getElem?
  intro m
  rw [List.getElem?_take]
  split
  ·rename_i hm'
   rw [List.getElem?_drop]
   have hml : m < rows[row].length := by rw [hrl2]; exact hm'
   have hcm' : rows[row][m]? = some (rows[row][m]'hml) := ze hml
   rw [hcm']
   exact gd g3 (ze hrow) m _ hcm'
  ·rw [List.getElem?_eq_none (by rw [hrl2]; omega)]
 have hpv : (setRow rows row off cs).flatten = splice rows.flatten (row * i.size + off) cs := by
  unfold setRow
  rw [set_flat g3 hspl hrow,← hrowcells]
  have hA : (rows.flatten.take (row * i.size)).length = row * i.size := by rw [List.length_take,hflat]; omega
  have hY : ((rows.flatten.drop (row * i.size)).take i.size).length = i.size := by rw [List.length_take,List.length_drop,hflat]; omega
  have hdec : rows.flatten = rows.flatten.take (row * i.size) ++ ((rows.flatten.drop (row * i.size)).take i.size ++ rows.flatten.drop (row * i.size + i.size)) := by
   rw [← List.drop_drop,List.take_append_drop,List.take_append_drop]
  have key := splice_seg (rows.flatten.take (row * i.size)) ((rows.flatten.drop (row * i.size)).take i.size) (rows.flatten.drop (row * i.size + i.size)) cs off (by rw [hY,hl]; omega)
  rw [← hdec,hA] at key
  exact key
 have hvlist : (cur.toList.take (row * i.size + off) ++ (a.eval y).cells.toList ++ cur.toList.drop (row * i.size + off + (a.eval y).cells.toList.length)).take (rows.length * i.size) =
   (cur.toList.take (rows.length * i.size)).take (row * i.size + off) ++ (a.eval y).cells.toList ++ (cur.toList.take (rows.length * i.size)).drop (row * i.size + off + (a.eval y).cells.toList.length) := by
  exact splice_take cur.toList (a.eval y).cells.toList (row * i.size + off) (rows.length * i.size) (by rw [hvl]; omega) (by simpa using hcap)
 refine hn undef _ _ M _ hK (Mem.le_refl M) (hi.set_obj tag _ hob b hb (setRow rows row off cs) true _ i g1 ?_ hlens ?_ ?_ hcm ?_ ?_ ?_ (fun _=>hw1 trivial) ?_) (by simp [Rep])
 ·rw [hlen]; exact g2
 ·simp only [List.size_toArray,List.length_append,List.length_take,List.length_drop,Array.length_toList,hvl]
  omega
 ·rw [hlen]; exact hlc
 ·rw [hlen,hpv]
  simp only
  rw [hvlist]
  exact iH hcr hrf (row * i.size + off)
 ·rw [hlen]
  simp only
  rw [hvlist]
  intro v hv'
  simp only [List.mem_append] at hv'
  rcases hv' with (h | h) | h
  ·exact h1c v (List.mem_of_mem_take h)
  ·exact hone v h
  ·exact h1c v (List.mem_of_mem_drop h)
 ·intro o' v' hm'
  rw [hw1 trivial o'] at hm'
  cases hm'
 ·intro o' _
  exact hw1 trivial o'
end
section
variable {P : Program} {ops : Array Oper} {rest : List Oper} {o : Oper} {n : Nat} {s s' : Nat → PV} {bx : Nat → Option Box} {ob : Nat → Option Obj} {K : PState → Prop} {T : TT} {rb : RB} {k : Nat} {L : List Nat}
theorem kH (hg : av ops s o = some true) {r : PV} (hd : DetS P o (evS s) ⟨bx,ob⟩ r) (hp : putD n s o.dst r = some s') (h : Ao P ops rest ⟨n,s',bx,ob⟩ K) : Ao P ops (o :: rest) ⟨n,s,bx,ob⟩ K :=
 dt hg (fun C M a w next Q hi he hn=>by
  obtain ⟨v,hrun,hr⟩ := hd C M a w hi he
  unfold Oper.wp
  rw [hrun]
  exact hn v r ⟨bx,ob⟩ M w ⟨s',hp,h⟩ (Mem.le_refl M) hi hr)
theorem iw (ho : ops[k]? = some o) (hg : av ops s o = some true) (hc : bu o.op = .det) {r : PV} (hd : ∀ bx',DetS P o (evS s) ⟨bx',if rb.o o && cy o.op then eS ob else fun _=>none⟩ r) (hp : putD n s o.dst r = some s')
  (h : Do P T rb ops L ⟨n,s',bx,ob⟩ K) : Do P T rb ops (k :: L) ⟨n,s,bx,ob⟩ K := by
 refine ⟨o,ho,true,hg,?_⟩
 simp only [if_true,hc]
 exact ⟨r,s',.inr hd,hp,h⟩
theorem Do.idxO (hT : T.Ok P) (ho : ops[k]? = some o) (hg : av ops s o = some true) {t : TypeId} {x i : Operand} (hop : o.op = .indexAddr t x i) {ti ei : TInfo} {e : TypeId} (hti : T.get t = some ti) (hd : ti.desc = .slice e) (hei : T.get e = some ei)
  {tag : Nat} {g : OwnRef} {len : Nat} (hx : evS s x = .own tag g len) {kk : IntKind} {j : Int} (hi : evS s i = .val (.int kk j)) (hj : 0 ≤ j ∧ j.toNat < len) (hb : ∃ b,g.blk = some b) (hp : putD n s o.dst (.optr tag g ei.size j.toNat 0) = some s') (h : Do P T rb ops L ⟨n,s',bx,ob⟩ K) :
  Do P T rb ops (k :: L) ⟨n,s,bx,ob⟩ K := iw ho hg (by rw [hop]; rfl) (fun _=>detS_idxO hT hop hti hd hei hx hi hj hb) hp h
theorem aY {t : TypeId} {x i : Operand} {ti ei : TInfo} {e : TypeId} {tag : Nat} {g : OwnRef} {len : Nat} {kk : IntKind} {j : Int} (hT : T.Ok P) (hj : 0 ≤ j ∧ j.toNat < len) (hb : ∃ b,g.blk = some b) (h : Do P T rb ops L ⟨n,s',bx,ob⟩ K) (ho : ops[k]? = some o := by exact rfl) (hg : av ops s o = some true := by exact rfl) (hop : o.op = .indexAddr t x i := by exact rfl) (hti : T.get t = some ti := by exact rfl) (hd : ti.desc = .slice e := by exact rfl) (hei : T.get e = some ei := by exact rfl) (hx : evS s x = .own tag g len := by exact rfl) (hi : evS s i = .val (.int kk j) := by exact rfl) (hp : putD n s o.dst (.optr tag g ei.size j.toNat 0) = some s' := by exact rfl) : Do P T rb ops (k :: L) ⟨n,s,bx,ob⟩ K := Do.idxO hT ho hg hop hti hd hei hx hi hj hb hp h
theorem bt (hT : T.Ok P) (ho : ops[k]? = some o) (hro : rb.o o = true) (hg : av ops s o = some true) {t : TypeId} {x : Operand} (hop : o.op = .load t x) {ti : TInfo} (hti : T.get t = some ti) {tag : Nat} {g : OwnRef} {kz row off : Nat} (hx : evS s x = .optr tag g kz row off)
  {e : TypeId} {rows : List (List PV)} {wr : Bool} (hob : ob tag = some ⟨g,e,rows,wr⟩) {ei : TInfo} (hei : T.get e = some ei) (hk : kz = ei.size) {cells : List PV} (hr : rows[row]? = some cells) {r : PV} (hc : dA ti off cells = some r) (hp : putD n s o.dst r = some s') (h : Do P T rb ops L ⟨n,s',bx,ob⟩ K) (hst : Nat.ble 1000000000000000 tag = false := by rfl) :
  Do P T rb ops (k :: L) ⟨n,s,bx,ob⟩ K := by
 refine iw ho hg (by rw [hop]; rfl) (fun bx'=>?_) hp h
 have : (rb.o o && cy o.op) = true := by rw [hro,hop]; rfl
 rw [this]
 exact detS_loadO hT hop hti hx ((statO_of hst).trans hob) hei hk hr hc
theorem dg (hT : T.Ok P) (ho : ops[k]? = some o) (hg : av ops s o = some true) {t : TypeId} {x y : Operand} (hop : o.op = .store t x y) (hdst : o.dst = none) {ti : TInfo} (hti : T.get t = some ti) {tag : Nat} {g : OwnRef} {kz row off : Nat} (hx : evS s x = .optr tag g kz row off)
  {e : TypeId} {rows rows' : List (List PV)} (hob : ob tag = some ⟨g,e,rows,true⟩) {ei : TInfo} (hei : T.get e = some ei) (hk : kz = ei.size) (hrow : row < rows.length) {py : PV} (hy : PLe P (evS s y) py) {cs : List PV} (hc : bE py = some cs) (hf : PV.frozL cs = true) (h1 : cs.all PV.one = true) (hl : cs.length = ti.size) (hle : off + ti.size ≤ ei.size)
  (hr : setRow rows row off cs = rows') (h : Do P T rb ops L ⟨n,s,bx,upd ob tag (some ⟨g,e,rows',true⟩)⟩ K) : Do P T rb ops (k :: L) ⟨n,s,bx,ob⟩ K := by
 subst hr
 refine ⟨o,ho,true,hg,?_⟩
 simp only [if_true,hop,bu]
 exact ⟨hdst,.inr fun bx'=>eff_storeO hT hop hti hx hob hei hk hrow hy hc hf h1 hl hle ⟨rfl,h⟩⟩
theorem Do.storeOQ {t : TypeId} {x y : Operand} {ti : TInfo} {tag : Nat} {g : OwnRef} {kz row off : Nat} {e : TypeId} {rows rows' : List (List PV)} {ei : TInfo} {py : PV} {cs : List PV} (hT : T.Ok P) (hrow : row < rows.length) (hy : PLe P (evS s y) py) (hle : off + ti.size ≤ ei.size) (hr : setRow rows row off cs = rows') (h : Do P T rb ops L ⟨n,s,bx,upd ob tag (some ⟨g,e,rows',true⟩)⟩ K) (ho : ops[k]? = some o := by exact rfl) (hg : av ops s o = some true := by exact rfl) (hop : o.op = .store t x y := by exact rfl) (hdst : o.dst = none := by exact rfl) (hti : T.get t = some ti := by exact rfl) (hx : evS s x = .optr tag g kz row off := by exact rfl) (hob : ob tag = some ⟨g,e,rows,true⟩ := by exact rfl) (hei : T.get e = some ei := by exact rfl) (hk : kz = ei.size := by exact rfl) (hc : bE py = some cs := by exact rfl) (hf : PV.frozL cs = true := by exact rfl) (h1 : cs.all PV.one = true := by exact rfl) (hl : cs.length = ti.size := by exact rfl) : Do P T rb ops (k :: L) ⟨n,s,bx,ob⟩ K := dg hT ho hg hop hdst hti hx hob hei hk hrow hy hc hf h1 hl hle hr h
theorem bF {α β : Type} {f : α → β} {xs : List α} {j : Nat} {x : α} (h : xs[j]? = some x) : j < (xs.map f).length := by
 have := (zg.1 h).1
 simpa using this
theorem il {α β : Type} {f : α → β} {xs : List α} {j : Nat} {x : α} {l : Nat} (hl : l = (xs.map f).length) (h : xs[j]? = some x) : j < l := hl ▸ bF h
theorem bL {α : Type} {f : α → List PV} {xs : List α} {j : Nat} {x : α} {g : OwnRef} (ho : xs.map f ≠ [] → ∃ b,g.blk = some b) (h : xs[j]? = some x) : ∃ b,g.blk = some b := by
 refine ho fun e=>?_
 have := (zg.1 h).1
 rw [List.map_eq_nil_iff] at e
 rw [e] at this
 simp at this
theorem da {α : Type} {f f' : α → List PV} (hE : ∀ x,f' x = f x) {xs ys : List α} {j off : Nat} {x v : α} {cs : List PV} (h : xs[j]? = some x) (hs : splice (f x) off cs = f v) (hy : xs.set j v = ys) : setRow (xs.map f') j off cs = ys.map f' := by
 subst hy
 have hlt := (zg.1 h).1
 unfold setRow
 have e : (xs.map f').getD j [] = f x := by simp [h,hE]
 rw [e,hs,← hE v,List.map_set]
theorem cn {α β : Type} {f : α → β} {xs ys : List α} {j : Nat} {v : α} (hy : xs.set j v = ys) : (xs.map f).length = (ys.map f).length := by subst hy; simp
theorem eh {fn : Func} {R : PV → Heap → Prop} {ks : List KI} {tag : Nat} {g : OwnRef} {e : TypeId} {rows : List (List PV)} {wr : Bool} (hob : ob tag = some ⟨g,e,rows,wr⟩) (h : (rows ≠ [] → ∃ b,g.blk = some b) → V P fn R ks ⟨n,s,bx,ob⟩) : V P fn R ks ⟨n,s,bx,ob⟩ := fun C M a w hi=>by
 refine h (fun hne=>?_) C M a w hi
 obtain ⟨_,_,_,_,h4⟩ := hi.2.objs tag _ hob
 rcases h4 with ⟨_,h5,_⟩ | ⟨b,_,h5,_⟩
 ·exact absurd h5 hne
 ·exact ⟨b,h5⟩
end
def eU (bx : Nat → Option Box) (m : List (Nat × Nat)) : Nat → Option Box := fun t=>match m.find? (fun p=>Nat.beq p.2 t) with
 | some p=>bx p.1
 | none=>none
def eT (ob : Nat → Option Obj) (m : List (Nat × Nat)) : Nat → Option Obj := fun t=>match m.find? (fun p=>Nat.beq p.2 t) with
 | some p=>ob p.1
 | none=>none
theorem beqC (a b : Nat) : Nat.beq a b = Nat.beq b a := by
 cases h : Nat.beq a b with
 | true=>rw [Nat.eq_of_beq_eq_true h]; exact (Nat.beq_refl b).symm
 | false =>
  cases h' : Nat.beq b a with
  | true=>rw [Nat.eq_of_beq_eq_true h'] at h; rw [show Nat.beq a a = true from Nat.beq_refl a] at h; cases h
  | false=>rfl
theorem aW (bx : Nat → Option Box) : eU bx [] = fun _=>none := rfl
theorem aV (ob : Nat → Option Obj) : eT ob [] = fun _=>none := rfl
theorem bv (bx : Nat → Option Box) (c k : Nat) (m : List (Nat × Nat)) : eU bx ((c,k) :: m) = upd (eU bx m) k (bx c) := by
 funext t
 simp only [eU,upd,List.find?_cons]
 rw [beqC t k]
 cases Nat.beq k t <;> rfl
theorem aM (ob : Nat → Option Obj) (c k : Nat) (m : List (Nat × Nat)) : eT ob ((c,k) :: m) = upd (eT ob m) k (ob c) := by
 funext t
 simp only [eT,upd,List.find?_cons]
 rw [beqC t k]
 cases Nat.beq k t <;> rfl
def gN (bx : Nat → Option Box) (m : List (Nat × Nat)) (bx' : Nat → Option Box) : Nat → Option Box := fun t=>match m.find? (fun p=>Nat.beq p.1 t) with
 | some p=>bx' p.2
 | none=>bx t
def gO (ob : Nat → Option Obj) (m : List (Nat × Nat)) (ob' : Nat → Option Obj) : Nat → Option Obj := fun t=>match m.find? (fun p=>Nat.beq p.1 t) with
 | some p=>ob' p.2
 | none=>ob t
def aR : List Nat → Bool
 | []=>true
 | a :: l=>l.all (fun b=>!Nat.beq a b) && aR l
theorem dG {f : Nat × Nat → Nat} : ∀ {m : List (Nat × Nat)} {p : Nat × Nat},aR (m.map f) = true → p ∈ m → m.find? (fun q=>Nat.beq (f q) (f p)) = some p
 | [],_,_,h=>by simp at h
 | q :: m,p,hd,h=>by
  simp only [List.map_cons,aR,Bool.and_eq_true] at hd
  rw [List.find?_cons]
  rcases List.mem_cons.1 h with rfl | h
  ·rw [show Nat.beq (f p) (f p) = true from Nat.beq_refl _]
  ·have hne : Nat.beq (f q) (f p) = false := by
    have := (List.all_eq_true.1 hd.1) (f p) (List.mem_map.2 ⟨p,h,rfl⟩)
    simpa using this
   rw [hne]
   exact dG hd.2 h
theorem iF {f : Nat × Nat → Nat} {m : List (Nat × Nat)} {t : Nat} {p : Nat × Nat} (h : m.find? (fun q=>Nat.beq (f q) t) = some p) : p ∈ m ∧ f p = t :=
 ⟨List.mem_of_find?_eq_some h,by
  have := List.find?_some h
  exact Nat.eq_of_beq_eq_true this⟩
def dl (H : Heap) (mb mo : List (Nat × Nat)) : List Nat := mb.filterMap (fun p=>(H.bx p.1).map Box.b) ++ mo.filterMap (fun p=>(H.ob p.1).bind fun x=>x.g.blk)
theorem gT {H : Heap} {mb mo : List (Nat × Nat)} {b : Nat} (h : b ∈ dl H mb mo) : (∃ p x,p ∈ mb ∧ H.bx p.1 = some x ∧ x.b = b) ∨ ∃ p x,p ∈ mo ∧ H.ob p.1 = some x ∧ x.g.blk = some b := by
 simp only [dl,List.mem_append,List.mem_filterMap] at h
 rcases h with ⟨p,hp,h⟩ | ⟨p,hp,h⟩
 ·rw [Option.map_eq_some_iff] at h
  obtain ⟨x,hx,rfl⟩ := h
  exact .inl ⟨p,x,hp,hx,rfl⟩
 ·rw [Option.bind_eq_some_iff] at h
  obtain ⟨x,hx,h⟩ := h
  exact .inr ⟨p,x,hp,hx,h⟩
theorem ownOf_box {H : Heap} {mb mo : List (Nat × Nat)} {p : Nat × Nat} {x : Box} (hp : p ∈ mb) (hx : H.bx p.1 = some x) : x.b ∈ dl H mb mo := by
 simp only [dl,List.mem_append,List.mem_filterMap]
 exact .inl ⟨p,hp,by rw [hx]; rfl⟩
theorem ownOf_obj {H : Heap} {mb mo : List (Nat × Nat)} {p : Nat × Nat} {x : Obj} {b : Nat} (hp : p ∈ mo) (hx : H.ob p.1 = some x) (hb : x.g.blk = some b) : b ∈ dl H mb mo := by
 simp only [dl,List.mem_append,List.mem_filterMap]
 exact .inr ⟨p,hp,by rw [hx]; exact hb⟩
section
variable {P : Program} {C : Ctx} {M : Mem} {H : Heap} {w : World} {mb mo : List (Nat × Nat)}
theorem gv {bx : Nat → Option Box} {m : List (Nat × Nat)} {t : Nat} {x : Box} (h : eU bx m t = some x) : ∃ p,p ∈ m ∧ p.2 = t ∧ bx p.1 = some x := by
 unfold eU at h
 split at h
 ·rename_i p hp
  obtain ⟨h1,h2⟩ := iF (f := Prod.snd) hp
  exact ⟨p,h1,h2,h⟩
 ·cases h
theorem gw {ob : Nat → Option Obj} {m : List (Nat × Nat)} {t : Nat} {x : Obj} (h : eT ob m t = some x) : ∃ p,p ∈ m ∧ p.2 = t ∧ ob p.1 = some x := by
 unfold eT at h
 split at h
 ·rename_i p hp
  obtain ⟨h1,h2⟩ := iF (f := Prod.snd) hp
  exact ⟨p,h1,h2,h⟩
 ·cases h
theorem fst_inj {m : List (Nat × Nat)} (hd : aR (m.map Prod.fst) = true) {p q : Nat × Nat} (hp : p ∈ m) (hq : q ∈ m) (h : p.1 = q.1) : p = q := by
 have h1 := dG (f := Prod.fst) hd hp
 have h2 := dG (f := Prod.fst) hd hq
 rw [h] at h1
 rw [h1] at h2
 exact Option.some.inj h2
theorem InvH.ownMine (h : InvH P C M H w) : ∀ b ∈ dl H mb mo,C.mine b := by
 intro b hb
 rcases gT hb with ⟨p,x,_,hx,rfl⟩ | ⟨p,x,_,hx,hb⟩
 ·exact (h.boxes _ _ hx).1
 ·obtain ⟨_,_,_,_,h4⟩ := h.objs _ _ hx
  rcases h4 with ⟨h5,_⟩ | ⟨b',_,h5,h6,_⟩
  ·rw [h5] at hb; cases hb
  ·rw [h5] at hb; cases hb; exact h6
theorem InvH.enterH (h : InvH P C M H w) (hb1 : aR (mb.map Prod.fst) = true) (ho1 : aR (mo.map Prod.fst) = true) : InvH P ⟨w,dl H mb mo,M,h.gl h.ownMine,[]⟩ M ⟨eU H.bx mb,eT H.ob mo⟩ w := by
 refine ⟨h.mem,Mem.le_refl M,fun _ _ _ hm=>.inl hm,rfl,rfl,rfl,Nat.le_refl _,fun _ _ _=>rfl,?_,?_,?_,?_,?_⟩
 ·intro t x hx
  obtain ⟨p,hp,_,hx⟩ := gv hx
  obtain ⟨_,h2,h3⟩ := h.boxes _ _ hx
  exact ⟨.inr (ownOf_box hp hx),h2,h3⟩
 ·intro t x hx
  obtain ⟨p,hp,_,hx⟩ := gw hx
  obtain ⟨i,h1,h2,h3,h4⟩ := h.objs _ _ hx
  refine ⟨i,h1,h2,h3,?_⟩
  rcases h4 with h4 | ⟨b,cur,hb,_,h5⟩
  ·exact .inl h4
  ·exact .inr ⟨b,cur,hb,.inr (ownOf_obj hp hx hb),h5⟩
 ·intro t t' x x' hx hx' hb
  obtain ⟨p,hp,e1,hy⟩ := gv hx
  obtain ⟨q,hq,e2,hy'⟩ := gv hx'
  rw [← e1,← e2,fst_inj hb1 hp hq (h.dbox _ _ x x' hy hy' hb)]
 ·intro t t' x x' b hx hx' hb hb'
  obtain ⟨p,hp,e1,hy⟩ := gw hx
  obtain ⟨q,hq,e2,hy'⟩ := gw hx'
  rw [← e1,← e2,fst_inj ho1 hp hq (h.dobj _ _ x x' b hy hy' hb hb')]
 ·intro t t' x x' hx hx' hb
  obtain ⟨p,hp,_,hy⟩ := gv hx
  obtain ⟨q,hq,_,hy'⟩ := gw hx'
  exact h.dmix _ _ x x' hy hy' hb
theorem InvH.afterH {M' : Mem} {H' : Heap} {w' : World} (h : InvH P C M H w) (_hb1 : aR (mb.map Prod.fst) = true) (hb2 : aR (mb.map Prod.snd) = true) (_ho1 : aR (mo.map Prod.fst) = true) (ho2 : aR (mo.map Prod.snd) = true)
  {hg : Gl w (dl H mb mo)} (h' : InvH P ⟨w,dl H mb mo,M,hg,[]⟩ M' H' w') : InvH P C M' ⟨gN H.bx mb H'.bx,gO H.ob mo H'.ob⟩ w' := by
 have hown : ∀ b,b ∈ dl H mb mo → C.mine b := by
  intro b hb
  rcases gT hb with ⟨p,x,_,hx,rfl⟩ | ⟨p,x,_,hx,hb⟩
  ·exact (h.boxes _ _ hx).1
  ·obtain ⟨_,_,_,_,h4⟩ := h.objs _ _ hx
   rcases h4 with ⟨h5,_⟩ | ⟨b',_,h5,h6,_⟩
   ·rw [h5] at hb; cases hb
   ·rw [h5] at hb; cases hb; exact h6
 have hup : ∀ b,(⟨w,dl H mb mo,M,hg,[]⟩ : Ctx).mine b → C.mine b := fun b hb=>by
  rcases hb with hb | hb
  ·exact .inl (Nat.le_trans h.size hb)
  ·exact hown b hb
 have hnone : ∀ b o,b < w.heap.size → b ∉ dl H mb mo → M b o = none → M' b o = none := by
  intro b o hb hno hn
  cases hm : M' b o with
  | none=>rfl
  | some v =>
   rcases h'.new b o v hm with h1 | h1 | h1
   ·rw [show M b o = some v from h1] at hn; cases hn
   ·exact absurd hb (Nat.not_lt.2 h1)
   ·exact absurd h1 hno
 have kb : ∀ t x,gN H.bx mb H'.bx t = some x → (∃ p,p ∈ mb ∧ p.1 = t ∧ H'.bx p.2 = some x) ∨ ((∀ p ∈ mb,p.1 ≠ t) ∧ H.bx t = some x) := by
  intro t x hx
  unfold gN at hx
  split at hx
  ·rename_i p hp
   obtain ⟨h1,h2⟩ := iF (f := Prod.fst) hp
   exact .inl ⟨p,h1,h2,hx⟩
  ·rename_i hp
   rw [List.find?_eq_none] at hp
   exact .inr ⟨fun p hp' e=>hp p hp' (by rw [e]; exact Nat.beq_refl _),hx⟩
 have ko : ∀ t x,gO H.ob mo H'.ob t = some x → (∃ p,p ∈ mo ∧ p.1 = t ∧ H'.ob p.2 = some x) ∨ ((∀ p ∈ mo,p.1 ≠ t) ∧ H.ob t = some x) := by
  intro t x hx
  unfold gO at hx
  split at hx
  ·rename_i p hp
   obtain ⟨h1,h2⟩ := iF (f := Prod.fst) hp
   exact .inl ⟨p,h1,h2,hx⟩
  ·rename_i hp
   rw [List.find?_eq_none] at hp
   exact .inr ⟨fun p hp' e=>hp p hp' (by rw [e]; exact Nat.beq_refl _),hx⟩
 -- what was kept is not among what was handed over
 have nb : ∀ t x,(∀ p ∈ mb,p.1 ≠ t) → H.bx t = some x → x.b ∉ dl H mb mo := by
  intro t x hn hx hm
  rcases gT hm with ⟨p,y,hp,hy,e⟩ | ⟨p,y,hp,hy,e⟩
  ·exact hn p hp (h.dbox _ _ y x hy hx e)
  ·exact h.dmix _ _ x y hx hy e
 have no : ∀ t x b,(∀ p ∈ mo,p.1 ≠ t) → H.ob t = some x → x.g.blk = some b → b ∉ dl H mb mo := by
  intro t x b hn hx hb hm
  rcases gT hm with ⟨p,y,hp,hy,e⟩ | ⟨p,y,hp,hy,e⟩
  ·exact h.dmix _ _ y x hy hx (by rw [hb,e])
  ·exact hn p hp (h.dobj _ _ y x b hy hx e hb)
 have mb' : ∀ t x,H'.bx t = some x → w.heap.size ≤ x.b ∨ x.b ∈ dl H mb mo := fun t x hx=>(h'.boxes t x hx).1
 have mo' : ∀ t x b,H'.ob t = some x → x.g.blk = some b → w.heap.size ≤ b ∨ b ∈ dl H mb mo := by
  intro t x b hx hb
  obtain ⟨_,_,_,_,h4⟩ := h'.objs t x hx
  rcases h4 with ⟨h5,_⟩ | ⟨b',_,h5,h6,_⟩
  ·rw [h5] at hb; cases hb
  ·rw [h5] at hb; cases hb; exact h6
 have bz : ∀ t x b,H.ob t = some x → x.g.blk = some b → b < w.heap.size := fun t x b hx hb=>h.obj_lt hx hb
 have snd_eq : ∀ {m : List (Nat × Nat)},aR (m.map Prod.snd) = true → ∀ {p q : Nat × Nat},p ∈ m → q ∈ m → p.2 = q.2 → p = q := by
  intro m hd p q hp hq e
  have h1 := dG (f := Prod.snd) hd hp
  have h2 := dG (f := Prod.snd) hd hq
  rw [e] at h1
  rw [h1] at h2
  exact Option.some.inj h2
 refine ⟨h'.mem,Mem.le_trans h.ext h'.ext,?_,h'.os.trans h.os,h'.tape.trans h.tape,h'.output.trans h.output,Nat.le_trans h.size h'.size,?_,?_,?_,?_,?_,?_⟩
 ·intro b o v hm
  rcases h'.new b o v hm with h1 | h1
  ·exact h.new b o v h1
  ·exact .inr (hup b h1)
 ·intro b hb hn
  have hno : b ∉ dl H mb mo := fun hm=>by
   rcases hown b hm with h1 | h1
   ·omega
   ·exact hn h1
  exact (h'.frame b (Nat.lt_of_lt_of_le hb h.size) hno).trans (h.frame b hb hn)
 ·intro t x hx
  rcases kb t x hx with ⟨p,hp,_,hx⟩ | ⟨hn,hx⟩
  ·obtain ⟨h1,h2,h3⟩ := h'.boxes _ _ hx
   exact ⟨hup _ h1,h2,h3⟩
  ·have hno := nb t x hn hx
   exact (h.boxes t x hx).keep h'.ext (fun o ho=>hnone _ o (h.box_lt hx) hno ho) (h'.frame _ (h.box_lt hx) hno)
 ·intro t x hx
  rcases ko t x hx with ⟨p,hp,_,hx⟩ | ⟨hn,hx⟩
  ·obtain ⟨i,h1,h2,h3,h4⟩ := h'.objs _ _ hx
   refine ⟨i,h1,h2,h3,?_⟩
   rcases h4 with h4 | ⟨b,cur,h5,h6,h7⟩
   ·exact .inl h4
   ·exact .inr ⟨b,cur,h5,hup _ h6,h7⟩
  ·exact (h.objs t x hx).keep h'.ext (fun b o hb ho=>hnone _ o (h.obj_lt hx hb) (no t x b hn hx hb) ho) (fun b hb=>h'.frame _ (h.obj_lt hx hb) (no t x b hn hx hb))
 ·intro t t' x x' hx hx' hb
  rcases kb t x hx with ⟨p,hp,e,hx⟩ | ⟨hn,hx⟩ <;> rcases kb t' x' hx' with ⟨q,hq,e',hx'⟩ | ⟨hn',hx'⟩
  ·have := snd_eq hb2 hp hq (h'.dbox _ _ x x' hx hx' hb)
   rw [← e,← e',this]
  ·rcases mb' _ _ hx with h1 | h1
   ·have := h.box_lt hx'; omega
   ·exact absurd (hb ▸ h1) (nb t' x' hn' hx')
  ·rcases mb' _ _ hx' with h1 | h1
   ·have := h.box_lt hx; omega
   ·exact absurd (hb ▸ h1) (nb t x hn hx)
  ·exact h.dbox t t' x x' hx hx' hb
 ·intro t t' x x' b hx hx' hb hb'
  rcases ko t x hx with ⟨p,hp,e,hx⟩ | ⟨hn,hx⟩ <;> rcases ko t' x' hx' with ⟨q,hq,e',hx'⟩ | ⟨hn',hx'⟩
  ·have := snd_eq ho2 hp hq (h'.dobj _ _ x x' b hx hx' hb hb')
   rw [← e,← e',this]
  ·rcases mo' _ _ b hx hb with h1 | h1
   ·have := h.obj_lt hx' hb'; omega
   ·exact absurd h1 (no t' x' b hn' hx' hb')
  ·rcases mo' _ _ b hx' hb' with h1 | h1
   ·have := h.obj_lt hx hb; omega
   ·exact absurd h1 (no t x b hn hx hb)
  ·exact h.dobj t t' x x' b hx hx' hb hb'
 ·intro t t' x x' hx hx' hb
  rcases kb t x hx with ⟨p,hp,e,hx⟩ | ⟨hn,hx⟩ <;> rcases ko t' x' hx' with ⟨q,hq,e',hx'⟩ | ⟨hn',hx'⟩
  ·exact h'.dmix _ _ x x' hx hx' hb
  ·rcases mb' _ _ hx with h1 | h1
   ·have := h.obj_lt hx' hb; omega
   ·exact no t' x' _ hn' hx' hb h1
  ·rcases mo' _ _ _ hx' hb with h1 | h1
   ·have := h.box_lt hx; omega
   ·exact nb t x hn hx h1
  ·exact h.dmix t t' x x' hx hx' hb
theorem eff_callH {o : Oper} {ev : Operand → PV} {H : Heap} {fx : Operand} {av0 : Array Operand} {ts : Array TypeId} (ho : o.op = .call { callee := .value fx,args := av0,argTypes := ts }) {g : FuncId} {caps : List PV}
  (hf : ev fx = .fn g caps) (hcall : ∀ vs w,(callFunc g vs).run P w = .ok (.enter g vs) w) (mb mo : List (Nat × Nat)) (hb1 : aR (mb.map Prod.fst) = true) (hb2 : aR (mb.map Prod.snd) = true) (ho1 : aR (mo.map Prod.fst) = true) (ho2 : aR (mo.map Prod.snd) = true)
  {args : List PV} (hle : de P (av0.toList.map ev ++ caps) args) {R : PV → Heap → Prop} (hc : PH P g args ⟨eU H.bx mb,eT H.ob mo⟩ R)
  {K : PV → Heap → Prop} (hk : ∀ u H',R u H' → K u ⟨gN H.bx mb H'.bx,gO H.ob mo H'.ob⟩) : Eff P o ev H K := by
 intro C M a w next Q hi he hn
 have hfr := he fx (by rw [ho]; simp [Op.operands,Call.operands])
 rw [hf] at hfr
 simp only [Rep] at hfr
 obtain ⟨cs,hv,hcaps⟩ := hfr
 have hargs : ak P M true (av0.toList.map ev) (av0.map a.eval).toList := by
  simpa using gA av0.toList fun x hx=>he x (by rw [ho]; simp_all [Op.operands,Call.operands])
 have hrep := hle M _ (hargs.append hcaps)
 have hrun : (execOp a.eval o).run P w = .ok (.enter g (av0.map a.eval ++ cs)) w := by
  simp [execOp,ho,resolve,hv,Deferred.ofValue,invoke,hcall]
 unfold Oper.wp
 rw [hrun]
 simp only [Oper.upon]
 refine (hc w M (dl H mb mo) (hi.gl hi.ownMine) _ (hi.enterH hb1 ho1) (by simpa using hrep)).mono ?_
 rintro e w' ⟨v,u,H',M',rfl,hR,hi',hr⟩
 exact hn v u _ M' w' (hk u H' hR) hi'.ext (hi.afterH hb1 hb2 ho1 ho2 hi') hr
end
section
variable {P : Program} {ops : Array Oper} {rest : List Oper} {o : Oper} {n : Nat} {s s' : Nat → PV} {bx bx1 : Nat → Option Box} {ob ob1 : Nat → Option Obj} {K : PState → Prop} {T : TT} {rb : RB} {k : Nat} {L : List Nat}
theorem ce (hg : av ops s o = some true) {fx : Operand} {av0 : Array Operand} {ts : Array TypeId} (ho : o.op = .call { callee := .value fx,args := av0,argTypes := ts }) {g : FuncId} {caps : List PV}
  (hf : evS s fx = .fn g caps) (hcall : ∀ vs w,(callFunc g vs).run P w = .ok (.enter g vs) w) (mb mo : List (Nat × Nat)) (hb1 : aR (mb.map Prod.fst) = true) (hb2 : aR (mb.map Prod.snd) = true) (ho1 : aR (mo.map Prod.fst) = true) (ho2 : aR (mo.map Prod.snd) = true)
  {args : List PV} (hle : de P (av0.toList.map (evS s) ++ caps) args) {Hin : Heap} (hin : Hin = ⟨eU bx mb,eT ob mo⟩) {R : PV → Heap → Prop} (hc : PH P g args Hin R)
  (h : ∀ u H',R u H' → ∃ s',putD n s o.dst u = some s' ∧ Ao P ops rest ⟨n,s',gN bx mb H'.bx,gO ob mo H'.ob⟩ K) : Ao P ops (o :: rest) ⟨n,s,bx,ob⟩ K :=
 dt hg (eff_callH ho hf hcall mb mo hb1 hb2 ho1 ho2 hle (hin ▸ hc) h)
theorem PLe2.own {t t' : Nat} {g : OwnRef} {l l' : Nat} (h : l = l') : PLe2 P (.own t g l) (.own t' g l') := by
 subst h
 intro M s x hx
 simpa only [Rep] using hx
theorem PLe2.boxT {t t' b o : Nat} : PLe2 P (.box t b o) (.box t' b o) := by
 intro M s x hx
 simpa only [Rep] using hx
theorem fp {fn : Func} {R : PV → Heap → Prop} {ks : List KI} {T : TT} (hT : T.Ok P) {rs : Array ResultVar} (hres : fn.results = rs) {ps : List PV} (h : fA T ⟨n,s,bx,ob⟩ rs.toList ps) {u : PV} (hu : PLe P (fR ps) u) (hR : R u ⟨bx,ob⟩) :
  V P fn R (.code .ret :: ks) ⟨n,s,bx,ob⟩ := V.ret hT hres h hu ⟨fun _ _ hx=>hx,fun _ _ hx=>hx⟩ hR
theorem dU {fn : Func} {R : PV → Heap → Prop} (hres : fn.results = #[]) {u : PV} (hu : PLe P (.tup []) u) (hR : R u ⟨bx,ob⟩) : V P fn R [] ⟨n,s,bx,ob⟩ := by
 intro C M a w hi
 refine retP.ofN hi fun C w hi=>?_
 have hr : (results fn a.tmps).run P w = .ok (.tuple #[]) w := by
  rw [gu hres]
  simp
 exact ⟨.tuple #[],hr,.tuple #[],u,⟨bx,ob⟩,M,rfl,hR,hi.2,hu M _ (by simp [Rep,ak])⟩
end
end
end Go.Ab

namespace Go.Ab
noncomputable section
open Classical in
def limN {β : Type} (F : Nat → Option β) : Option β :=
 if h : ∃ r,∃ n,∀ m,n ≤ m → F m = some r then some h.choose else none
theorem limN_some {β : Type} {F : Nat → Option β} {r : β} (h : limN F = some r) : ∃ n,F n = some r := by
 unfold limN at h
 split at h
 ·next hx =>
  obtain ⟨n,hn⟩ := hx.choose_spec
  exact ⟨n,by rw [hn n (Nat.le_refl n)]; exact h⟩
 ·cases h
theorem limN_eq {β : Type} {F : Nat → Option β} {r : β} (n : Nat) (h : ∀ m,n ≤ m → F m = some r) : limN F = some r := by
 have hx : ∃ r,∃ n,∀ m,n ≤ m → F m = some r := ⟨r,n,h⟩
 unfold limN
 rw [dif_pos hx]
 obtain ⟨k,hk⟩ := hx.choose_spec
 have e1 := hk (max n k) (Nat.le_max_right n k)
 have e2 := h (max n k) (Nat.le_max_left n k)
 rw [← e1,e2]
end
end Go.Ab

namespace Go.Ab
noncomputable section
def cutI {α : Type} (xs : List α) (m : Int) : Option (List α) := if 0 ≤ m ∧ m.toNat ≤ xs.length then some (xs.take m.toNat) else none
theorem cutI_some {α : Type} {xs ys : List α} {m : Int} (h : cutI xs m = some ys) : 0 ≤ m ∧ m.toNat ≤ xs.length ∧ ys = xs.take m.toNat := by
 unfold cutI at h
 split at h
 ·rename_i h0; exact ⟨h0.1,h0.2,(Option.some.inj h).symm⟩
 ·cases h
theorem ic {α : Type} {f : α → List PV} {xs ys : List α} {j : Nat} {x : α} {g : OwnRef} (ho : xs.map f ≠ [] → ∃ b,g.blk = some b) (hl : (xs.map f).length = (ys.map f).length) (h : ys[j]? = some x) : ∃ b,g.blk = some b := by
 refine ho fun e=>?_
 have := (zg.1 h).1
 have h0 : ys.length = 0 := by
  rw [e] at hl
  simpa using hl.symm
 omega
def OwnRef.sub (g : OwnRef) (k lo hi mx : Nat) : Value := .slice (if mx = lo then g.blk.map (fun b=>⟨b,0,none⟩) else (g.blk.map fun b=>(⟨b,0,none⟩ : Addr)).map (·.add (lo * k))) (hi - lo) (mx - lo)
section
variable {P : Program} {T : TT}
def optAt (ev : Operand → PV) (o : Option Operand) (dflt n : Nat) : Prop := match o with
 | none=>n = dflt
 | some x=>∃ kk z,ev x = .val (.int kk z) ∧ z = (n : Int)
theorem detS_subV (hT : T.Ok P) {o : Oper} {ev : Operand → PV} {H : Heap} {t : TypeId} {x : Operand} {lo hi mx : Option Operand} (ho : o.op = .slice t x lo hi mx) {ti ei : TInfo} {e : TypeId} (hti : T.get t = some ti) (hd : ti.desc = .slice e) (hei : T.get e = some ei)
  {tag : Nat} {g : OwnRef} {len : Nat} (hx : ev x = .own tag g len) {l h m : Nat} (hl : optAt ev lo 0 l) (hh : optAt ev hi len h) (hm : optAt ev mx g.cap m) (hs : mx.isSome = true → hi.isSome = true) (h1 : l ≤ h) (h2 : h ≤ m) (h3 : m ≤ g.cap) :
  DetS P o ev H (.val (g.sub ei.size l h m)) := by
 intro C M a w _ he
 have hxr := he x (by rw [ho]; cases lo <;> cases hi <;> cases mx <;> simp [Op.operands])
 rw [hx] at hxr
 simp only [Rep] at hxr
 have hu := (hT.get hti).und
 rw [hd] at hu
 refine ⟨g.sub ei.size l h m,?_,by simp only [Rep]⟩
 have hbnd : ∀ (z y : Nat) (kk : IntKind) (c : BoundsCode),z ≤ y → (Instr.sliceBound (.int kk (z : Int)) y c).run P w = .ok z w := by
  intro z y kk c hzy
  have : (0 : Int) ≤ (z : Int) ∧ (z : Int) ≤ (y : Int) := ⟨by omega,by omega⟩
  simp [Instr.sliceBound,asIntOf,hzy]
 have get : ∀ y,y ∈ lo ∨ y ∈ hi ∨ y ∈ mx → Rep P M true (ev y) (a.eval y) := by
  intro y hy
  refine he y ?_
  rw [ho]
  clear he hl hh hm hs ho
  cases lo <;> cases hi <;> cases mx <;> simp [Op.operands] at hy ⊢ <;> (first | exact .inr (hy.imp Eq.symm Eq.symm) | exact .inr (hy.imp Eq.symm (Or.imp Eq.symm Eq.symm)) | exact .inr hy.symm | (rcases hy with h | h | h <;> simp [h]) | (rcases hy with h | h <;> simp [h]))
 have hsz := (hT.get hei).rsize w
 have key : ∀ (lv hv mv : Option Value),(match lv with | none=>l = 0 | some v=>∃ kk,v = .int kk (l : Int)) → (match hv with | none=>h = len | some v=>∃ kk,v = .int kk (h : Int)) →
   (match mv with | none=>m = g.cap | some v=>∃ kk,v = .int kk (m : Int)) → (mv.isSome = true → hv.isSome = true) → (Instr.slice t (g.val len) lv hv mv).run P w = .ok (g.sub ei.size l h m) w := by
  intro lv hv mv p1 p2 p3 p4
  have b : (Instr.sliceBounds true len g.cap lv hv mv).run P w = .ok (l,h,m) w := by
   cases mv with
   | none =>
    simp only at p3
    subst p3
    cases hv with
    | none =>
     simp only at p2
     subst p2
     cases lv with
     | none=>simp only at p1; subst p1; simp [Instr.sliceBounds]
     | some v=>obtain ⟨kk,rfl⟩ := p1; simp [Instr.sliceBounds,hbnd _ _ _ _ h1]
    | some v' =>
     obtain ⟨kk',rfl⟩ := p2
     cases lv with
     | none=>simp only at p1; subst p1; simp [Instr.sliceBounds,hbnd _ _ _ _ h2]
     | some v=>obtain ⟨kk,rfl⟩ := p1; simp [Instr.sliceBounds,hbnd _ _ _ _ h1,hbnd _ _ _ _ h2]
   | some v2 =>
    obtain ⟨k2,rfl⟩ := p3
    cases hv with
    | none=>exact absurd (p4 rfl) (by simp)
    | some v' =>
     obtain ⟨kk',rfl⟩ := p2
     cases lv with
     | none=>simp only at p1; subst p1; simp [Instr.sliceBounds,hbnd _ _ _ _ h2,hbnd _ _ _ _ h3]
     | some v=>obtain ⟨kk,rfl⟩ := p1; simp [Instr.sliceBounds,hbnd _ _ _ _ h1,hbnd _ _ _ _ h2,hbnd _ _ _ _ h3]
  simp only [Instr.slice,OwnRef.val,run_underlying hu,Sem.run_bind,Result.andThen_ok,b,hsz]
  rfl
 have gl : ∀ (oo : Option Operand) (df n : Nat),(∀ y,y ∈ oo → Rep P M true (ev y) (a.eval y)) → optAt ev oo df n → (match oo.map a.eval with | none=>n = df | some v=>∃ kk,v = .int kk (n : Int)) := by
  intro oo df n hr ha
  cases oo with
  | none=>exact ha
  | some y =>
   obtain ⟨kk,z,e1,rfl⟩ := ha
   have := hr y rfl
   rw [e1] at this
   simp only [Rep] at this
   exact ⟨kk,this⟩
 have := key (lo.map a.eval) (hi.map a.eval) (mx.map a.eval) (gl lo 0 l (fun y hy=>get y (.inl hy)) hl) (gl hi len h (fun y hy=>get y (.inr (.inl hy))) hh) (gl mx g.cap m (fun y hy=>get y (.inr (.inr hy))) hm) (by simpa using hs)
 simp only [execOp,ho,Instr.sliceAt,hxr.2]
 rw [Sem.run_bind,Sem.run_bind,run_underlying hu]
 simp only [Result.andThen_ok]
 rw [this]
 rfl
end
section
variable {P : Program} {ops : Array Oper} {rest : List Oper} {o : Oper} {n : Nat} {s s' : Nat → PV} {bx : Nat → Option Box} {ob : Nat → Option Obj} {K : PState → Prop} {T : TT} {rb : RB} {k : Nat} {L : List Nat}
theorem kt (hg : av ops s o = some true) {t t' : TypeId} {x y : Operand} (ho : o.op = .binOp .shr t x y t') {kk k2 : IntKind} {a b : Int} (hx : evS s x = .val (.int kk a)) (hy : evS s y = .val (.int k2 b)) (hb : 0 ≤ b) {m : Nat} (hm : min b.toNat kk.bits = m)
  (hp : putD n s o.dst (.val (.int kk (a.fdiv (2 ^ m)))) = some s') (h : Ao P ops rest ⟨n,s',bx,ob⟩ K) : Ao P ops (o :: rest) ⟨n,s,bx,ob⟩ K := by
 refine dt hg (fun C M a' w next Q hi he hn=>?_)
 have hxr := he x (by rw [ho]; simp [Op.operands])
 have hyr := he y (by rw [ho]; simp [Op.operands])
 rw [show (⟨n,s,bx,ob⟩ : PState).s = s from rfl,hx] at hxr
 rw [show (⟨n,s,bx,ob⟩ : PState).s = s from rfl,hy] at hyr
 simp only [Rep] at hxr hyr
 subst hm
 have hrun : (execOp a'.eval o).run P w = .ok (.value (.int kk (a.fdiv (2 ^ (min b.toNat kk.bits))))) w := by
  have h2 : (eqGuard .shr t x y (.int kk a) (.int k2 b)).run P w = .ok () w := by simp [eqGuard]
  have hb' : ¬ b < 0 := by omega
  simp only [execOp,ho,hxr,hyr,Sem.run_bind,h2,Result.andThen_ok,binOp,Op.shift,zy hb']
  rfl
 unfold Oper.wp
 rw [hrun]
 exact hn _ _ ⟨bx,ob⟩ M w ⟨s',hp,h⟩ (Mem.le_refl M) hi (by simp only [Rep])
theorem V.ownC {fn : Func} {R : PV → Heap → Prop} {ks : List KI} {tag : Nat} {g : OwnRef} {e : TypeId} {rows : List (List PV)} {wr : Bool} (hob : ob tag = some ⟨g,e,rows,wr⟩) (h : rows.length ≤ g.cap → V P fn R ks ⟨n,s,bx,ob⟩) : V P fn R ks ⟨n,s,bx,ob⟩ := fun C M a w hi=>by
 refine h ?_ C M a w hi
 obtain ⟨_,_,_,_,h4⟩ := hi.2.objs tag _ hob
 rcases h4 with ⟨_,h5,h6⟩ | ⟨b,_,h5,_,_,_,h6,h7,_⟩
 ·simp only at h5; rw [h5]; simp
 ·exact h6
theorem Gh.cutO {st : PState} {tag : Nat} {g : OwnRef} {e : TypeId} {rows rows' : List (List PV)} (hob : st.ob tag = some ⟨g,e,rows,true⟩) (m : Nat) (hr : rows.take m = rows') : Gh P st ⟨st.n,st.s,st.bx,upd st.ob tag (some ⟨g,e,rows',true⟩)⟩ := by
 subst hr
 intro C M a w hi
 exact ⟨M,hi.1,hi.2.cutO hob m⟩
end
section
variable {P : Program} {T : TT}
end
section
variable {P : Program} {ops : Array Oper} {rest : List Oper} {o : Oper} {n : Nat} {s s' : Nat → PV} {bx : Nat → Option Box} {ob : Nat → Option Obj} {K : PState → Prop} {T : TT} {rb : RB} {k : Nat} {L : List Nat}
end
section
variable {P : Program} {C : Ctx} {M : Mem} {H : Heap} {w : World}
theorem freeze_new (w : World) (cs : Array Value) (e : TypeId) (n : Nat) : (w.alloc (.cells cs e)).freeze ⟨w.heap.size,n,none⟩ 1 = w.alloc (.cells cs e (n,n + 1)) := by
 unfold World.freeze World.alloc
 simp only [Nat.one_ne_zero,if_false]
 congr 1
 apply Array.ext
 ·simp
 ·intro i h1 h2
  rw [Array.getElem_modify]
  split
  ·rename_i hi
   subst hi
   simp
  ·rename_i hi
   have : i < w.heap.size := by simp at h2; omega
   simp [Array.getElem_push,this]
end
section
variable {P : Program} {ops : Array Oper} {rest : List Oper} {o : Oper} {n : Nat} {s s' : Nat → PV} {bx : Nat → Option Box} {ob : Nat → Option Obj} {K : PState → Prop} {T : TT} {rb : RB} {k : Nat} {L : List Nat}
end
theorem fP {α β : Type} (f : α → β) (l : List α) : (l.map fun r=>[f r]).flatten = l.map f := by
 induction l with
 | nil=>rfl
 | cons a l ih=>simp [ih]
section
variable {P : Program} {bx bx' : Nat → Option Box} {ob ob' : Nat → Option Obj}
end
section
variable {P : Program} {C : Ctx} {M : Mem} {H : Heap} {w : World}
end
section
variable {P : Program} {T : TT} {w : World} {C : Ctx} {M : Mem}
end
section
variable {P : Program} {T : TT} {ops : Array Oper} {rest : List Oper} {o : Oper} {n : Nat} {s s' : Nat → PV} {bx : Nat → Option Box} {ob : Nat → Option Obj} {K : PState → Prop}
end
section
variable {P : Program} {T : TT} {ops : Array Oper} {rest : List Oper} {o : Oper} {n : Nat} {s : Nat → PV} {bx : Nat → Option Box} {ob : Nat → Option Obj} {K : PState → Prop} {fn : Func} {R : PV → Heap → Prop} {k : List KI} {st : PState} {rb : RB} {L : List Nat} {kk : Nat}
end
section
variable {P : Program} {n : Nat} {s : Nat → PV} {bx : Nat → Option Box} {ob : Nat → Option Obj} {T : TT}
theorem Gh.nilOB (hT : T.Ok P) (tag k otag : Nat) {e : TypeId} {ei : TInfo} (hei : T.get e = some ei) {b : Nat} {cells cells' : List PV} (hb : bx tag = some ⟨b,cells⟩) (hk : cells[k]? = some (.val (.slice none 0 0)))
  (hf : cC (cells.set k (.own otag ⟨none,0⟩ 0)) = some cells') (hok : okS cells = true := by exact rfl) : Gh P ⟨n,s,bx,ob⟩ ⟨n,s,upd bx tag (some ⟨b,cells'⟩),upd ob otag (some ⟨⟨none,0⟩,e,[],true⟩)⟩ := by
 rw [cd,zo] at hf
 subst hf
 intro C M a w hi
 have h1 := hi.2.nilobj hT otag hei
 refine ⟨M,hi.1,?_⟩
 refine h1.recell (tag := tag) hb (fun xs hx=>hx.set hk fun x hx=>?_) hok
 simp only [Rep] at hx ⊢
 exact ⟨trivial,by rw [hx]; rfl⟩
end
section
variable {P : Program} {C : Ctx} {M : Mem} {H : Heap} {w : World}
open Classical in
def ej (H : Heap) (w : World) : List Nat := (List.range w.heap.size).filter fun b=>decide ((∃ t x,H.bx t = some x ∧ x.b = b) ∨ ∃ t x,H.ob t = some x ∧ x.g.blk = some b)
theorem mem_ownAll {b : Nat} : b ∈ ej H w ↔ b < w.heap.size ∧ ((∃ t x,H.bx t = some x ∧ x.b = b) ∨ ∃ t x,H.ob t = some x ∧ x.g.blk = some b) := by
 simp [ej]
theorem InvH.ownAllMine (h : InvH P C M H w) : ∀ b ∈ ej H w,C.mine b := by
 intro b hb
 rcases (mem_ownAll.1 hb).2 with ⟨t,x,hx,e⟩ | ⟨t,x,hx,e⟩
 ·rw [← e]; exact (h.boxes t x hx).1
 ·obtain ⟨i,_,_,_,hn | ⟨b',cur,h1,h2,_⟩⟩ := h.objs t x hx
  ·rw [hn.1] at e; cases e
  ·rw [h1] at e; cases e; exact h2
theorem InvH.rebase (h : InvH P C M H w) (ds : List Deferred) : InvH P ⟨w,ej H w,M,h.gl h.ownAllMine,ds⟩ M H w := by
 refine ⟨h.mem,Mem.le_refl M,fun _ _ _ hm=>.inl hm,rfl,rfl,rfl,Nat.le_refl _,fun _ _ _=>rfl,fun t x hx=>?_,fun t x hx=>?_,h.dbox,h.dobj,h.dmix⟩
 ·obtain ⟨_,h2,h3⟩ := h.boxes t x hx
  exact ⟨.inr (mem_ownAll.2 ⟨h.box_lt hx,.inl ⟨t,x,hx,rfl⟩⟩),h2,h3⟩
 ·obtain ⟨i,h1,h2,h3,h4⟩ := h.objs t x hx
  refine ⟨i,h1,h2,h3,?_⟩
  rcases h4 with h4 | ⟨b,cur,h5,_,h7⟩
  ·exact .inl h4
  ·exact .inr ⟨b,cur,h5,.inr (mem_ownAll.2 ⟨h.obj_lt hx h5,.inr ⟨t,x,hx,h5⟩⟩),h7⟩
theorem InvH.unbase (h : InvH P C M H w) {hg : Gl w (ej H w)} {ds : List Deferred} {M' : Mem} {H' : Heap} {w' : World} (h' : InvH P ⟨w,ej H w,M,hg,ds⟩ M' H' w') : InvH P C M' H' w' := by
 have hup : ∀ b,(⟨w,ej H w,M,hg,ds⟩ : Ctx).mine b → C.mine b := fun b hb=>hb.elim (fun hb=>.inl (Nat.le_trans h.size hb)) (fun hb=>h.ownAllMine b hb)
 refine ⟨h'.mem,Mem.le_trans h.ext h'.ext,fun b o v hm=>?_,h'.os.trans h.os,h'.tape.trans h.tape,h'.output.trans h.output,Nat.le_trans h.size h'.size,fun b hb hn=>?_,fun t x hx=>?_,fun t x hx=>?_,h'.dbox,h'.dobj,h'.dmix⟩
 ·rcases h'.new b o v hm with h1 | h1
  ·exact h.new b o v h1
  ·exact .inr (hup b h1)
 ·have : b ∉ ej H w := fun hm=>by
   rcases h.ownAllMine b hm with h1 | h1
   ·omega
   ·exact hn h1
  exact (h'.frame b (Nat.lt_of_lt_of_le hb h.size) this).trans (h.frame b hb hn)
 ·obtain ⟨h1,h2,h3⟩ := h'.boxes t x hx
  exact ⟨hup _ h1,h2,h3⟩
 ·obtain ⟨i,h1,h2,h3,h4⟩ := h'.objs t x hx
  refine ⟨i,h1,h2,h3,?_⟩
  rcases h4 with h4 | ⟨b,cur,h5,h6,h7⟩
  ·exact .inl h4
  ·exact .inr ⟨b,cur,h5,hup _ h6,h7⟩
theorem InvH.dead_own (h : InvH P C M H w) {b : Nat} {o : Go.Obj} (hb : w.heap[b]? = some o) (ho : Dead o) : b ∉ ej H w := fun hm=>by
 rcases (mem_ownAll.1 hm).2 with ⟨t,x,hx,e⟩ | ⟨t,x,hx,e⟩
 ·exact h.deadBox hb ho hx e
 ·exact h.deadObj hb ho hx e rfl
end
def dE (o : Oper) : Bool := match o.op with | .defer _=>false | _=>true
def Fr (ro : Option Nat) : Fence := { Fence.wide with round := ro }
section
variable {P : Program} {ops : Array Oper} {Q Qx : Exit → Act → World → Prop} {ro : Option Nat}
theorem oper_in {o : Oper} {a : Act} {w : World} {next next' : Act → World → Prop} (hd : dE o = true) (hpan : ∀ c a w,¬ Qx (.panic c) a w) (hQ : ¬ LetsOut Qx) (hn : ∀ a w,next a w → next' a w) (h : o.wp P a w next Qx) : o.wpIn (Fr ro) 0 P a w next' Q := by
 refine ⟨fun _ _=>trivial,?_⟩
 rw [Oper.semAt_eq _ _ _ (fun c hc=>by simp [dE,hc] at hd)]
 unfold Oper.wp at h
 generalize (execOp a.eval o).run P w = r at h
 have hno : (Fr ro).depth.isSome = true → 1 ≤ 0 := fun h=>by simp [Fence.wide,Fr] at h
 cases r with
 | halt s w'=>cases s <;> first | exact absurd h (hpan _ _ _) | exact h.elim
 | ok r w' =>
  cases r with
  | value v=>exact hn _ _ h
  | skip=>exact hn _ _ h
  | defer d=>exact hn _ _ h
  | enter f args =>
   refine ⟨hno,CallsIn.mono (show CallsIn (Fr ro) (0 - 1) P f args w' _ from callsIn_wide.2 h) fun e w'' he=>?_⟩
   cases e with
   | returned v=>exact hn _ _ he
   | panicked chain=>exact absurd he (hpan _ _ _)
   | outgrown=>exact absurd he hQ
  | row row args =>
   refine ⟨hno,fun c cs _=>?_⟩
   obtain ⟨v,w'',h1,h2⟩ := h c cs
   exact ⟨v,w'',hn _ _ h1,stepsIn_wide.2 h2⟩
  | _=>exact h.elim
theorem list_in (hpan : ∀ c a w,¬ Qx (.panic c) a w) (hQ : ¬ LetsOut Qx) {rest : List Oper} (hr : ∀ a w,Qx .normal a w → wpListIn (Fr ro) 0 P ops Q rest a w) :
  ∀ (l : List Oper),l.all dE = true → ∀ (a : Act) (w : World),wpList P ops Qx l a w → wpListIn (Fr ro) 0 P ops Q (l ++ rest) a w
 | [],_,a,w,h=>hr a w h
 | o :: l,hd,a,w,h=>by
  simp only [List.all_cons,Bool.and_eq_true] at hd
  simp only [wpList,wpListIn,List.cons_append] at h ⊢
  split
  ·rename_i hw
   rw [zp hw] at h
   rcases h with h | h
   ·exact oper_in hd.1 hpan hQ (fun a w=>list_in hpan hQ hr l hd.2 a w) h
   ·exact absurd h.2 hQ
  ·rename_i hw
   rw [zy hw] at h
   exact ⟨fun _ _=>trivial,list_in hpan hQ hr l hd.2 _ w h⟩
theorem Ao.inn {st : PState} {K : PState → Prop} {l rest : List Oper} (h : Ao P ops l st K) (hd : l.all dE = true) {C : Ctx} {M : Mem} {a : Act} {w : World} (hi : cP P C M st a w)
  (hr : ∀ st' M' a' w',K st' → cP P C M' st' a' w' → wpListIn (Fr ro) 0 P ops Q rest a' w') : wpListIn (Fr ro) 0 P ops Q (l ++ rest) a w :=
 list_in (Qx := Exit.then (fun a w=>wpListIn (Fr ro) 0 P ops Q rest a w) fun _ _ _=>False) (fun _ _ _ h=>h) (fun ⟨_,_,h⟩=>h) (fun _ _ h=>h) l hd a w (h C M a w _ hi hr)
end
section
variable {P : Program} {ops : Array Oper} {Q Qx : Exit → Act → World → Prop} {ro : Option Nat}
theorem any_in (hpan : ∀ c a w,¬ Qx (.panic c) a w) (hQ : ¬ LetsOut Qx) (hn : ∀ a w,Qx .normal a w → Q .normal a w) (hd : ops.toList.all dE = true) :
  ∀ (f : Nat) (listed : Array Bool) (a : Act) (w : World),wpAny P .any ops Qx f listed a w → wpAnyIn (Fr ro) 0 P .any ops Q f listed a w
 | 0,_,a,w,h=>⟨h.1,hn a w h.2⟩
 | f + 1,listed,a,w,h=>⟨fun h0=>hn a w (h.1 h0),fun i hi=>by
  have h1 := h.2 i hi
  unfold wpOp at h1
  unfold wpOpIn
  split at h1
  ·rename_i ho
   simp only [ho]
   exact any_in hpan hQ hn hd f _ a w h1
  ·rename_i o ho
   simp only [ho]
   have hdo : dE o = true := List.all_eq_true.1 hd o (by rw [← Array.getElem?_toList] at ho; exact List.mem_of_getElem? ho)
   split at h1
   ·rename_i hw
    rw [zp hw]
    rcases h1 with h1 | h1
    ·exact oper_in hdo hpan hQ (fun a w=>any_in hpan hQ hn hd f _ a w) h1
    ·exact absurd h1.2 hQ
   ·rename_i hw
    rw [zy hw]
    exact ⟨fun _ _=>trivial,any_in hpan hQ hn hd f _ _ w h1⟩⟩
end
def VR (P : Program) (lo : Nat) (G : PState → Prop) (c : Code) (st : PState) : Prop :=
 ∀ C M a w,cP P C M st a w → c.wpIn (Fr (some lo)) 0 P (Exit.then (fun a' w'=>∃ st' M',G st' ∧ cP P C M' st' a' w') fun _ _ _=>False) a w
section
variable {P : Program} {lo : Nat} {G : PState → Prop} {st : PState}
theorem VR.seq {x y : Code} (h : VR P lo (fun st'=>VR P lo G y st') x st) : VR P lo G (.seq x y) st := fun C M a w hi=>by
 refine wpIn_seq (wpIn_mono (h C M a w hi) fun e a' w' he=>?_)
 cases e with
 | normal=>obtain ⟨st',M',hG,hi'⟩ := he; exact hG C M' a' w' hi'
 | _=>exact he.elim
theorem VR.block {id : Nat} {c : Code} (h : VR P lo G c st) : VR P lo G (.block id c) st := fun C M a w hi=>by
 refine wpIn_block (wpIn_mono (h C M a w hi) fun e a' w' he=>?_)
 cases e with
 | normal=>exact he
 | _=>exact he.elim
theorem VR.gh {c : Code} {st' : PState} (hg : Gh P st st') (h : VR P lo G c st') : VR P lo G c st := fun C M a w hi =>
 let ⟨M',hi'⟩ := hg C M a w hi
 h C M' a w hi'
theorem VR.region {id : Nat} {ops : Array Oper} (hd : ops.toList.all dE = true) (h : Ao P ops ops.toList st G) : VR P lo G (.region id ops false) st := fun C M a w hi=>by
 have := h.inn (rest := []) (Q := Exit.then (fun a' w'=>∃ st' M',G st' ∧ cP P C M' st' a' w') fun _ _ _=>False) (ro := some lo) hd hi (fun st' M' _ _ hG hi'=>⟨st',M',hG,hi'⟩)
 rw [List.append_nil] at this
 exact wpIn_region_list this
theorem VR.draw {n : Nat} {s : Nat → PV} {bx : Nat → Option Box} {ob : Nat → Option Obj} {T : TT} (hT : T.Ok P) (hmix : P.follows .mixedOrders = true) (rb : RB) (L : List Nat) {id : Nat} {ops : Array Oper} (hd : ops.toList.all dE = true) (hL : L.length = ops.size)
  (hok : iy rb ops L = true) (hal : (ops.toList.all fun o=>match o.op with | .alloc t=>(match o.dst with | some d=>Nat.blt d n && (bx d).isNone && (T.get t).isSome | none=>false) | _=>true) = true)
  (h : Do P T rb ops L ⟨n,s,bx,ob⟩ G) : VR P lo G (.region id ops true) ⟨n,s,bx,ob⟩ := fun C M a w hi=>by
 refine wpIn_region_any hmix (any_in (Qx := Exit.then (fun a' w'=>∃ st' M',G st' ∧ cP P C M' st' a' w') fun _ _ _=>False) (fun _ _ _ h=>h) (fun ⟨_,_,h⟩=>h) (fun _ _ h=>h) hd _ _ _ _ (draw_any hT rb L hL hok hal h hi fun st M' a w hV hi=>⟨st,M',hV,hi⟩))
end
structure JOk (P : Program) (J : Nat → Mem → World → Prop) : Prop where
 gl : ∀ j M w,J j M w → Gl w []
 mem : ∀ j M w,J j M w → ∀ b o v,M b o = some v → w.cell? ⟨b,o,none⟩ = some v
 grow : ∀ j M M' w w' (hg : Gl w []),J j M w → InvH P ⟨w,[],M,hg,[]⟩ M' Heap.empty w' → J j M' w'
def RoundOk (P : Program) (J : Nat → Mem → World → Prop) (l : Nat) (xs : List PV) : Prop :=
 ∀ j x v M W,xs[j]? = some x → Rep P M true x v → J j M W → YieldAt Fence.wide 0 P l #[v] W fun e W'=>e = .returned (.bool true) ∧ ∃ M',M.le M' ∧ J (j + 1) M' W'
def SeqP (P : Program) (gf : FuncId) (caps xs : List PV) : Prop :=
 ∀ (w : World) (M : Mem) (lb : Array Value),ak P M true caps lb.toList → ∀ (l : Nat) (J : Nat → Mem → World → Prop),JOk P J → RoundOk P J l xs → J 0 M w →
  Calls P gf (#[.func (.yield l) #[] #[]] ++ lb) w fun e W'=>(∃ v,e = .returned v) ∧ ∃ M',J xs.length M' W'
theorem kd {P : Program} {fn : Func} {R : PV → Heap → Prop} {k : List KI} {g : Operand} {p : Tmp} {assign body : Code} {n : Nat} {s : Nat → PV} {bx : Nat → Option Box} {ob : Nat → Option Obj} {gf : FuncId} {caps xs : List PV}
  (hg : evS s g = .fn gf caps) (hcall : ∀ vs w,(callFunc gf vs).run P w = .ok (.enter gf vs) w) (hp : Nat.blt p n = true) (hseq : SeqP P gf caps xs)
  (I : Nat → (Nat → Option Box) → (Nat → Option Obj) → Prop) (h0 : I 0 bx ob)
  (hbody : ∀ lo j x bx ob,xs[j]? = some x → I j bx ob → VR P lo (fun st1=>VR P lo (fun st'=>I (j + 1) st'.bx st'.ob) body st1) assign ⟨n,upd s p x,bx,ob⟩)
  (hdone : ∀ bx ob,I xs.length bx ob → V P fn R k ⟨n,s,bx,ob⟩) :
  V P fn R (.code (.rangeFunc g #[p] assign body) :: k) ⟨n,s,bx,ob⟩ := by
 intro C M a w hi
 refine (wpIn_wide (n := 0)).1 (wpIn_rangeFunc ?_)
 intro f _
 have hgv := hi.1.ev g
 rw [hg] at hgv
 simp only [Rep] at hgv
 obtain ⟨lb,hv,hcaps⟩ := hgv
 obtain ⟨rec,hrec⟩ : ∃ rec : Loop,rec = { state := .ready,pending := none,fn := f,tmps := a.tmps,params := #[p],assign := assign,body := body,defers := w.heap.size } := ⟨_,rfl⟩
 obtain ⟨W1,hW1⟩ : ∃ W1,(w.alloc (.deferred (some []))).alloc (.loop rec) = W1 := ⟨_,rfl⟩
 have hi1 : InvH P C M ⟨bx,ob⟩ W1 := by rw [← hW1]; exact (hi.2.alloc_plain _).alloc_plain _
 have hL1 : W1.heap[w.heap.size + 1]? = some (.loop rec) := by
  rw [← hW1]; have := World.alloc_heap_new (w.alloc (.deferred (some []))) (.loop rec); rwa [World.size_alloc] at this
 have hD1 : W1.heap[w.heap.size]? = some (.deferred (some [])) := by
  rw [← hW1,heap_alloc_old (w.alloc (.deferred (some []))) (.loop rec) (by rw [World.size_alloc]; omega)]; exact World.alloc_heap_new w _
 have hsz : C.w0.heap.size ≤ w.heap.size := hi.2.size
 let J : Nat → Mem → World → Prop := fun j M' W=>∃ bx ob,I j bx ob ∧ InvH P C M' ⟨bx,ob⟩ W ∧ M.le M' ∧ W.heap[w.heap.size]? = some (.deferred (some [])) ∧ W.heap[w.heap.size + 1]? = some (.loop rec)
 refine ⟨w.heap.size + 1,[markD w.heap.size],W1,{ target := .fn (.func gf) lb,args := #[.func (.yield (w.heap.size + 1)) #[] #[]] },W1,gf,#[.func (.yield (w.heap.size + 1)) #[] #[]] ++ lb,W1,?_,?_,fun _ _=>trivial,?_,fun h=>by simp [Fence.wide] at h,?_⟩
 ·rw [← hW1,hrec]; exact run_enterLoop_outer _ _ _ _ _
 ·simp only [resolve,hv]
  simp [go_sem]
 ·simp [invoke,go_sem,hcall]
 ·refine (callsIn_wide.2 (hseq W1 M lb hcaps (w.heap.size + 1) J ⟨?_,?_,?_⟩ ?_ ⟨bx,ob,h0,hi1,Mem.le_refl M,hD1,hL1⟩)).mono ?_
  ·rintro j M' W ⟨bx,ob,_,h1,_⟩
   exact h1.gl (by simp)
  ·rintro j M' W ⟨bx,ob,_,h1,_⟩ b o v hm
   exact h1.mem b o v hm
  ·rintro j M1 M2 W W' hgl ⟨bx,ob,h1,h2,h3,h4,h5⟩ h6
   exact ⟨bx,ob,h1,h2.after h6,Mem.le_trans h3 h6.ext,(h6.frame _ (Array.getElem?_eq_some_iff.1 h4).1 (by simp)).trans h4,(h6.frame _ (Array.getElem?_eq_some_iff.1 h5).1 (by simp)).trans h5⟩
  ·-- a round
   rintro j x v M' W hx hr ⟨bx,ob,hI,hinv,hle,hD,hL⟩
   subst hrec
   have hlt : w.heap.size + 1 < W.heap.size := (Array.getElem?_eq_some_iff.1 hL).1
   have hsl : cY P [] M' n (upd s p x) { tmps := a.tmps.setIfInBounds p v,defers := [] } :=
    cY.put (a := { tmps := a.tmps,defers := [] }) ⟨hi.1.1,rfl,fun t=>Rep.mono hle (hi.1.2.2 t)⟩ (by simpa [Nat.blt_eq] using hp) hr
   have hwalk := hbody (w.heap.size + 1) j x bx ob hx hI ⟨W,ej ⟨bx,ob⟩ W,M',hinv.gl hinv.ownAllMine,[]⟩ M' { tmps := a.tmps.setIfInBounds p v,defers := [] } W ⟨hsl,hinv.rebase []⟩
   have e0 : Array.foldl (fun (tmps : Array Value) (x : Tmp × Value)=>match x with | (t,a)=>tmps.setIfInBounds t a) a.tmps (#[p].zip #[v]) = a.tmps.setIfInBounds p v := by simp
   refine ⟨_,_,_,_,run_yield hL rfl,roundIn_of_wpIn trivial ?_⟩
   dsimp only
   rw [e0]
   refine wpIn_mono hwalk fun e a1 w1 he=>?_
   cases e with
   | normal =>
    obtain ⟨st1,M1,hG1,hi1'⟩ := he
    have hLw1 := (hi1'.2.frame _ (show w.heap.size + 1 < W.heap.size from hlt) (hinv.dead_own hL trivial)).trans hL
    have hDw1 := (hi1'.2.frame _ (show w.heap.size < W.heap.size by omega) (hinv.dead_own hD trivial)).trans hD
    have hlt1 : w.heap.size + 1 < w1.heap.size := (Array.getElem?_eq_some_iff.1 hLw1).1
    have hinv1 := hinv.unbase hi1'.2
    refine ⟨_,run_beginRound hLw1 rfl,?_⟩
    obtain ⟨W2,hW2⟩ : ∃ W2,w1.putObj (w.heap.size + 1) (.loop { state := .busy,pending := none,fn := f,tmps := a.tmps,params := #[p],assign := assign,body := body,defers := w.heap.size }) = W2 := ⟨_,rfl⟩
    rw [hW2]
    have hinv2 : InvH P C M1 st1.heap W2 := by rw [← hW2]; exact hinv1.putDead (by omega) hLw1 trivial _
    have hL2 : W2.heap[w.heap.size + 1]? = some (.loop { state := .busy,pending := none,fn := f,tmps := a.tmps,params := #[p],assign := assign,body := body,defers := w.heap.size }) := by rw [← hW2]; exact World.putObj_heap_same hlt1
    have hD2 : W2.heap[w.heap.size]? = some (.deferred (some [])) := by rw [← hW2,World.putObj_heap_other (by omega)]; exact hDw1
    have hwalk2 := hG1 ⟨W2,ej st1.heap W2,M1,hinv2.gl hinv2.ownAllMine,[]⟩ M1 a1 W2 ⟨hi1'.1,hinv2.rebase []⟩
    refine wpIn_mono hwalk2 fun e a' w' he=>?_
    cases e with
    | normal =>
     obtain ⟨st',M'',hI',hi'⟩ := he
     have hl2 : w.heap.size + 1 < W2.heap.size := (Array.getElem?_eq_some_iff.1 hL2).1
     have hLw := (hi'.2.frame _ (show w.heap.size + 1 < W2.heap.size from hl2) (hinv2.dead_own hL2 trivial)).trans hL2
     have hDw := (hi'.2.frame _ (show w.heap.size < W2.heap.size by omega) (hinv2.dead_own hD2 trivial)).trans hD2
     have hlw : w.heap.size + 1 < w'.heap.size := (Array.getElem?_eq_some_iff.1 hLw).1
     have hinv' := hinv2.unbase hi'.2
     have hm1 : M'.le M1 := hi1'.2.ext
     have hm2 : M1.le M'' := hi'.2.ext
     refine ⟨_,_,run_endRound none hLw,rfl,M'',Mem.le_trans hm1 hm2,st'.bx,st'.ob,hI',hinv'.putDead (by omega) hLw trivial _,Mem.le_trans hle (Mem.le_trans hm1 hm2),?_,?_⟩
     ·rw [World.putObj_heap_other (by omega)]; exact hDw
     ·rw [World.putObj_heap_same hlw]; rfl
    | _=>exact he.elim
   | _=>exact he.elim
  ·-- all rounds are done
   rintro e W ⟨⟨v,rfl⟩,M',bx,ob,hI,hinv,hle,hD,hL⟩
   have hlt : w.heap.size + 1 < W.heap.size := (Array.getElem?_eq_some_iff.1 hL).1
   obtain ⟨W2,hW2⟩ : ∃ W2,W.putObj (w.heap.size + 1) (.loop { rec with state := .exhausted }) = W2 := ⟨_,rfl⟩
   refine ⟨none,W2,?_,?_⟩
   ·have := run_endLoop (P := P) hL (by rw [hrec]; simp)
    rw [this,hW2,hrec]
   ·have hinv2 : InvH P C M' ⟨bx,ob⟩ W2 := by rw [← hW2]; exact hinv.putDead (by omega) hL trivial _
    have hD2 : W2.heap[w.heap.size]? = some (.deferred (some [])) := by rw [← hW2,World.putObj_heap_other (by omega)]; exact hD
    have hrb : Reb P C ⟨W2,ej ⟨bx,ob⟩ W2,M',hinv2.gl hinv2.ownAllMine,markD w.heap.size :: C.ds⟩ :=
     ⟨fun _ _ _ h=>hinv2.unbase h,hinv2.size,fun b hb hl=>(hinv2.ownAllMine b hb).elim (fun h=>by omega) id,fun b hb hn=>hinv2.frame b hb hn,[w.heap.size],rfl,by simp,
      fun D hD'=>by
       have : D = w.heap.size := by simpa using hD'
       subst this
       exact ⟨hsz,(Array.getElem?_eq_some_iff.1 hD2).1,hinv2.dead_own hD2 trivial,hD2⟩⟩
    exact dy hrb (jr hrb) k .normal _ _ (hdone bx ob hI _ M' { a with defers := [markD w.heap.size] ++ a.defers } W2 ⟨⟨hi.1.1,by show [markD w.heap.size] ++ a.defers = _; rw [hi.1.2.1]; rfl,fun t=>Rep.mono hle (hi.1.2.2 t)⟩,hinv2.rebase _⟩)
section
variable {P : Program} {C : Ctx} {M : Mem} {w : World}
theorem InvH.base (hm : ∀ b o v,M b o = some v → w.cell? ⟨b,o,none⟩ = some v) (hg : Gl w []) : InvH P ⟨w,[],M,hg,[]⟩ M Heap.empty w :=
 ⟨hm,Mem.le_refl M,fun _ _ _ hm=>.inl hm,rfl,rfl,rfl,Nat.le_refl _,fun _ _ _=>rfl,fun _ _ hx=>by simp [Heap.empty] at hx,fun _ _ hx=>by simp [Heap.empty] at hx,
  fun _ _ _ _ hx=>by simp [Heap.empty] at hx,fun _ _ _ _ _ hx=>by simp [Heap.empty] at hx,fun _ _ _ _ hx=>by simp [Heap.empty] at hx⟩
end
section
variable {P : Program} {ops : Array Oper} {rest : List Oper} {o : Oper} {n : Nat} {s s' : Nat → PV} {bx : Nat → Option Box} {ob : Nat → Option Obj} {K : PState → Prop} {T : TT}
theorem kF (hT : T.Ok P) (hg : av ops s o = some true) {t : TypeId} {x lo hi mx : Operand} (ho : o.op = .slice t x (some lo) (some hi) (some mx)) {ti : TInfo} {e : TypeId} (hti : T.get t = some ti) (hd : ti.desc = .slice e)
  {rows : List (List PV)} (hx : evS s x = .list e rows) {k1 k2 k3 : IntKind} {a b : Int} (ha : evS s lo = .val (.int k1 a)) (hb : evS s hi = .val (.int k2 b)) (hc : evS s mx = .val (.int k3 b)) (hab : 0 ≤ a ∧ a ≤ b ∧ b ≤ rows.length)
  {rows' : List (List PV)} (hr : (rows.take b.toNat).drop a.toNat = rows') (hp : putD n s o.dst (.list e rows') = some s') (h : Ao P ops rest ⟨n,s',bx,ob⟩ K) : Ao P ops (o :: rest) ⟨n,s,bx,ob⟩ K := by
 subst hr
 refine dt hg (fun C M act w next Q hinv he hn=>?_)
 have hxr := he x (by rw [ho]; simp [Op.operands])
 have har := he lo (by rw [ho]; simp [Op.operands])
 have hbr := he hi (by rw [ho]; simp [Op.operands])
 have hcr := he mx (by rw [ho]; simp [Op.operands])
 rw [show (⟨n,s,bx,ob⟩ : PState).s = s from rfl] at hxr har hbr hcr
 rw [hx] at hxr
 rw [ha] at har
 rw [hb] at hbr
 rw [hc] at hcr
 simp only [Rep] at hxr har hbr hcr
 obtain ⟨ad,c,i,hv,hlc,hcm,hinf,hby,hrows⟩ := hxr
 have hu := (hT.get hti).rund w
 rw [hd] at hu
 have sb : ∀ (k : IntKind) (n : Int) (y : Nat) (c : BoundsCode),0 ≤ n → n ≤ y → (Instr.sliceBound (.int k n) y c).run P w = .ok n.toNat w := by
  intro k n y c h0 hy
  simp [Instr.sliceBound,asIntOf,h0,hy]
 have hbs : (Instr.sliceBounds true rows.length c (some (.int k1 a)) (some (.int k2 b)) (some (.int k3 b))).run P w = .ok (a.toNat,b.toNat,b.toNat) w := by
  have b1 := sb k3 b c .slice3Acap (by omega) (by omega)
  have b2 := sb k2 b b.toNat .slice3B (by omega) (by omega)
  have b3 := sb k1 a b.toNat .slice3C hab.1 (by omega)
  simp [Instr.sliceBounds,b1,b2,b3]
 have hsz : (sizeOf e).run P w = .ok i.size w := by simp [sizeOf,typeInfo,hinf]
 have hlen : ((rows.take b.toNat).drop a.toNat).length = b.toNat - a.toNat := by simp; omega
 have hrun : (execOp act.eval o).run P w = .ok (.value (.slice (if b.toNat = a.toNat then ad else ad.map (·.add (a.toNat * i.size))) (b.toNat - a.toNat) (b.toNat - a.toNat))) w := by
  simp [execOp,ho,hv,har,hbr,hcr,Instr.sliceAt,Instr.slice,hu,hbs,hsz]
 unfold Oper.wp
 rw [hrun]
 refine hn _ (.list e ((rows.take b.toNat).drop a.toNat)) ⟨bx,ob⟩ M w ⟨s',hp,h⟩ (Mem.le_refl M) hinv ?_
 simp only [Rep]
 refine ⟨_,_,i,by rw [hlen],by rw [hlen]; omega,by omega,hinf,?_,fun hne=>?_⟩
 ·rw [hlen]
  exact Nat.le_trans (Nat.mul_le_mul_right _ (by omega)) hby
 ·have hr0 : rows ≠ [] := by rintro rfl; simp at hne
  obtain ⟨bb,oo,rfl,hrr⟩ := hrows hr0
  have hlt : a.toNat < b.toNat := by
   rcases Nat.lt_or_ge a.toNat b.toNat with h | h
   ·exact h
   ·exfalso; apply hne; apply List.eq_nil_of_length_eq_zero; omega
  refine ⟨bb,oo + a.toNat * i.size,?_,(hrr.take _).drop _⟩
  rw [zy (by omega)]
  simp [cx]
end
def noB : Nat → Option Box := fun _=>none
def noO : Nat → Option Obj := fun _=>none
def QN (P : Program) (J : Nat → Mem → World → Prop) (n : Nat) (Q : Act → World → Prop) (j : Nat) (s : Nat → PV) : Prop := ∀ M a w,cY P [] M n s a → J j M w → Q a w
def VI (P : Program) (J : Nat → Mem → World → Prop) (n : Nat) (Q : Exit → Act → World → Prop) (c : Code) (j : Nat) (s : Nat → PV) : Prop := QN P J n (c.wpIn Fence.wide 0 P Q) j s
section
variable {P : Program} {J : Nat → Mem → World → Prop} {n j : Nat} {Q : Exit → Act → World → Prop} {s : Nat → PV} {l : Nat} {xs : List PV}
theorem cY.weak {ds : List Deferred} {M : Mem} {s' : Nat → PV} {a : Act} (hs : cY P ds M n s a) (h : SLe P s s') : cY P ds M n s' a := ⟨hs.1,hs.2.1,fun t=>h t M _ (hs.2.2 t)⟩
theorem VI.weak {c : Code} {s' : Nat → PV} (h : SLe P s s') (hv : VI P J n Q c j s') : VI P J n Q c j s := fun M a w hs hj=>hv M a w (hs.weak h) hj
theorem VI.skip (h : QN P J n (Q .normal) j s) : VI P J n Q .skip j s := fun M a w hs hj=>wpIn_skip (h M a w hs hj)
theorem VI.exit {id : Nat} (h : QN P J n (Q (.exit id)) j s) : VI P J n Q (.exit id) j s := fun M a w hs hj=>wpIn_exit (h M a w hs hj)
theorem VI.seq {x y : Code} (h : VI P J n (Exit.then (fun a w=>y.wpIn Fence.wide 0 P Q a w) Q) x j s) : VI P J n Q (.seq x y) j s := fun M a w hs hj=>wpIn_seq (h M a w hs hj)
theorem VI.block {id : Nat} {c : Code} (h : VI P J n (Exit.inBlock id Q) c j s) : VI P J n Q (.block id c) j s := fun M a w hs hj=>wpIn_block (h M a w hs hj)
theorem VI.cond {c : Operand} {x y : Code} {b : Bool} (hc : evS s c = .val (.bool b)) (h : VI P J n Q (if b then x else y) j s) : VI P J n Q (.cond c x y) j s := fun M a w hs hj=>by
 have := hs.ev c
 rw [hc] at this
 simp only [Rep] at this
 exact wpIn_cond this (h M a w hs hj)
theorem VI.region (hJ : JOk P J) {id : Nat} {ops : Array Oper} (hd : ops.toList.all dE = true) (h : Ao P ops ops.toList ⟨n,s,noB,noO⟩ fun st'=>st'.n = n ∧ (st'.bx = noB ∧ st'.ob = noO) ∧ QN P J n (Q .normal) j st'.s) : VI P J n Q (.region id ops false) j s := fun M a w hs hj=>by
 have hg := hJ.gl j M w hj
 have := h.inn (rest := []) (Q := Q) (ro := none) hd (C := ⟨w,[],M,hg,[]⟩) (M := M) (a := a) (w := w) ⟨hs,InvH.base (hJ.mem j M w hj) hg⟩ (fun st' M' a' w' ⟨h1,⟨h2,h3⟩,h4⟩ hi'=>by
  obtain ⟨n',s',bx',ob'⟩ := st'
  simp only at h1 h2 h3 h4
  subst h1 h2 h3
  exact h4 M' a' w' hi'.1 (hJ.grow j M M' w w' hg hj hi'.2))
 rw [List.append_nil] at this
 exact wpIn_region_list this
theorem VI.draw (hJ : JOk P J) {T : TT} (hT : T.Ok P) (hmix : P.follows .mixedOrders = true) (rb : RB) (L : List Nat) {id : Nat} {ops : Array Oper} (hL : L.length = ops.size)
  (hok : iy rb ops L = true) (hal : (ops.toList.all fun o=>match o.op with | .alloc t=>(match o.dst with | some d=>Nat.blt d n && (noB d).isNone && (T.get t).isSome | none=>false) | _=>true) = true)
  (h : Do P T rb ops L ⟨n,s,noB,noO⟩ fun st'=>st'.n = n ∧ (st'.bx = noB ∧ st'.ob = noO) ∧ QN P J n (Q .normal) j st'.s) : VI P J n Q (.region id ops true) j s := fun M a w hs hj=>by
 have hg := hJ.gl j M w hj
 refine wpIn_wide.2 (draw_wp hT hmix rb L hL hok hal h (C := ⟨w,[],M,hg,[]⟩) (M := M) (a := a) (w := w) ⟨hs,InvH.base (hJ.mem j M w hj) hg⟩ fun st' M' a' w' ⟨h1,⟨h2,h3⟩,h4⟩ hi'=>?_)
 obtain ⟨n',s',bx',ob'⟩ := st'
 simp only at h1 h2 h3 h4
 subst h1 h2 h3
 exact h4 M' a' w' hi'.1 (hJ.grow j M M' w w' hg hj hi'.2)
theorem VI.yield (hJ : JOk P J) (hR : RoundOk P J l xs) {id : Nat} {ops : Array Oper} (pre : List Oper) (o : Oper) (post : List Oper) (hl : ops.toList = pre ++ o :: post) (hd : pre.all dE = true) (hd2 : post.all dE = true)
  {fx y : Operand} {ts : Array TypeId} (ho : o.op = .call { callee := .value fx,args := #[y],argTypes := ts }) {x : PV} (hx : xs[j]? = some x)
  (h : Ao P ops pre ⟨n,s,noB,noO⟩ fun st'=>st'.n = n ∧ (st'.bx = noB ∧ st'.ob = noO) ∧ av ops st'.s o = some true ∧ evS st'.s fx = .val (.func (.yield l) #[] #[]) ∧ evS st'.s y = x ∧
   ∃ s',putD n st'.s o.dst (.val (.bool true)) = some s' ∧ Ao P ops post ⟨n,s',noB,noO⟩ fun st'=>st'.n = n ∧ (st'.bx = noB ∧ st'.ob = noO) ∧ QN P J n (Q .normal) (j + 1) st'.s) : VI P J n Q (.region id ops false) j s := fun M a w hs hj=>by
 have hg := hJ.gl j M w hj
 refine wpIn_region_list ?_
 rw [hl]
 refine h.inn (Q := Q) (ro := none) hd (C := ⟨w,[],M,hg,[]⟩) (M := M) (a := a) (w := w) ⟨hs,InvH.base (hJ.mem j M w hj) hg⟩ (fun st' M' a' w' ⟨h1,⟨h2,h3⟩,hgd,hf,hy,s',hp,hpost⟩ hi'=>?_)
 obtain ⟨n',s1,bx',ob'⟩ := st'
 simp only at h1 h2 h3 hgd hf hy hp
 subst h1 h2 h3
 have hj' := hJ.grow j M M' w w' hg hj hi'.2
 have hs1 : cY P [] M' n' s1 a' := hi'.1
 have hfr := hs1.ev fx
 rw [hf] at hfr
 simp only [Rep] at hfr
 have hyr := hs1.ev y
 rw [hy] at hyr
 obtain ⟨fn,tmps,assign,body,hrun,hround⟩ := hR j x (a'.eval y) M' w' hx hyr hj'
 simp only [wpListIn]
 rw [zp (fw hs1 hgd)]
 refine ⟨fun _ _=>trivial,?_⟩
 have hex : (o.semAt (Fr none).round a'.eval).run P w' = .ok (.round l fn tmps assign body) w' := by
  rw [show (Fr none).round = none from rfl,Oper.semAt_none]
  simp [execOp,ho,resolve,hfr,Deferred.ofValue,invoke,hrun]
 rw [hex,Oper.uponIn_round]
 refine ⟨fun h=>by simp [Fence.wide,Fr] at h,RoundIn.mono hround fun e w2 he=>?_⟩
 obtain ⟨rfl,M2,hle,hj2⟩ := he
 have hs2 : cY P [] M2 n' s' (a'.put o.dst (.bool true)) := (hs1.mono hle).putD hp (by simp [Rep])
 have hg2 := hJ.gl _ M2 w2 hj2
 have := hpost.inn (rest := []) (Q := Q) (ro := none) hd2 (C := ⟨w2,[],M2,hg2,[]⟩) (M := M2) (a := a'.put o.dst (.bool true)) (w := w2) ⟨hs2,InvH.base (hJ.mem _ M2 w2 hj2) hg2⟩ (fun st' M' a' w' ⟨h1,⟨h2,h3⟩,h4⟩ hi'=>by
  obtain ⟨n',s',bx',ob'⟩ := st'
  simp only at h1 h2 h3 h4
  subst h1 h2 h3
  exact h4 M' a' w' hi'.1 (hJ.grow _ M2 M' w2 w' hg2 hj2 hi'.2))
 rw [List.append_nil] at this
 exact this
theorem VI.loop {c : Code} (I : Nat → Nat → (Nat → PV) → Prop) {m : Nat} (h0 : I m j s) (round : ∀ m j s,I m j s → VI P J n (Exit.then (fun a w=>∃ m',m' < m ∧ ∃ j s M,I m' j s ∧ cY P [] M n s a ∧ J j M w) Q) c j s) : VI P J n Q (.loop c) j s := fun M a w hs hj=>by
 refine wpIn_wide.2 (wp_loop_by (fun m a w=>∃ j s M,I m j s ∧ cY P [] M n s a ∧ J j M w) ⟨j,s,M,h0,hs,hj⟩ ?_)
 rintro m a w ⟨j,s,M,hI,hs,hj⟩
 exact wpIn_wide.1 (round m j s hI M a w hs hj)
theorem SeqP.of {P : Program} {gf : FuncId} {fn : Func} {c : Code} (hf : P.funcs[gf]? = some fn) (hb : fn.body = some c) (hres : fn.results = #[]) {nt : Nat} (hn : fn.ntmps = nt) {caps xs : List PV} (hargs : Nat.ble (caps.length + 1) nt = true)
  (h : ∀ l J,JOk P J → RoundOk P J l xs → VI P J nt (fun e a w=>(e = .normal ∨ e = .ret) ∧ a.defers = [] ∧ ∃ M',J xs.length M' w) c 0 (initS (.val (.func (.yield l) #[] #[]) :: caps))) : SeqP P gf caps xs := by
 intro w M lb hlb l J hJ hR h0
 have hle := Nat.le_of_ble_eq_true hargs
 have hl := hlb.length
 obtain ⟨vs,hvs⟩ : ∃ vs : Array Value,vs = (#[Value.func (.yield l) #[] #[]] : Array Value) ++ lb := ⟨_,rfl⟩
 have hall : ak P M true (.val (.func (.yield l) #[] #[]) :: caps) vs.toList := by
  rw [hvs]
  simp only [ak]
  exact ⟨.func (.yield l) #[] #[],lb.toList,by simp,by simp [Rep],hlb⟩
 rw [← hvs]
 refine calls_of_wp hf hb (wp_mono (wpIn_wide.1 (h l J hJ hR M _ w ⟨?_,rfl,fun t=>?_⟩ h0)) fun e a w he=>?_)
 ·have := hall.length
  simp at this ⊢
  omega
 ·simp only [initS]
  cases hp : (PV.val (.func (.yield l) #[] #[]) :: caps)[t]? with
  | none=>simp [Rep]
  | some p =>
   obtain ⟨x,hx,hr⟩ := hall.get t p hp
   have hlt : t < vs.size := by
    have := (zg.1 hx).1
    simpa using this
   have : (vs ++ Array.replicate (fn.ntmps - vs.size) undef)[t]? = some x := by
    rw [Array.getElem?_append_left hlt,← Array.getElem?_toList]
    exact hx
   simpa [this] using hr
 ·obtain ⟨he1,hd,M',hj⟩ := he
  have hr : (results fn a.tmps).run P w = .ok (.tuple #[]) w := by
   rw [gu hres]
   simp
  rcases he1 with rfl | rfl
  ·exact ⟨hd,_,hr,⟨_,rfl⟩,M',hj⟩
  ·exact ⟨hd,_,hr,⟨_,rfl⟩,M',hj⟩
end
section
variable {P : Program}
theorem run_method {t e : TypeId} {name : String} {g : FuncId} {i : TypeInfo} {m : Method} (hi : P.info? t = some i) (hm : i.methods.find? (·.name == name) = some m) (hp : m.path = #[]) (hf : m.func = some (g,true)) (hu : P.underlying t = some (.pointer e)) (n : Nat) (v : Value) (w : World) : (method (n + 1) t v name).run P w = .ok (g,v) w := by
 simp [method,typeInfo,hi,hm,hp,hf,follow,receiverAt,run_underlying hu,Place.get]
def fj (P : Program) (t : TypeId) (name : String) (g : FuncId) : Prop := ∀ (v : Value) (args : Array Value) (w : World),(callMethod (.iface t v) name args).run P w = .ok (.enter g (#[v] ++ args)) w
theorem fj.of {t e : TypeId} {name : String} {g : FuncId} {i : TypeInfo} {m : Method} (hi : P.info? t = some i) (hm : i.methods.find? (·.name == name) = some m) (hp : m.path = #[]) (hf : m.func = some (g,true)) (hu : P.underlying t = some (.pointer e)) (hcall : ∀ vs w,(callFunc g vs).run P w = .ok (.enter g vs) w) : fj P t name g := by
 intro v args w
 have h : ((method (P.types.size + Made.depth) t v name).run P w) = .ok (g,v) w := run_method hi hm hp hf hu _ v w
 simp only [callMethod,Sem.run_bind,run_program,Result.andThen_ok,h,hcall]
def methIs (P : Program) (t : TypeId) (name : String) (g : FuncId) : Bool := match P.info? t with
 | some i=>match i.methods.find? (·.name == name) with
  | some m=>m.path.size == 0 && (match m.func with | some (f,true)=>Nat.beq f g | _=>false)
  | none=>false
 | none=>false
theorem fj.is {t e : TypeId} {name : String} {g : FuncId} (h : methIs P t name g = true) (hu : P.underlying t = some (.pointer e)) (hcall : ∀ vs w,(callFunc g vs).run P w = .ok (.enter g vs) w) : fj P t name g := by
 unfold methIs at h
 split at h
 ·rename_i i hi
  split at h
  ·rename_i m hm
   simp only [Bool.and_eq_true,beq_iff_eq] at h
   obtain ⟨h1,h2⟩ := h
   split at h2
   ·rename_i f hf
    have := Nat.eq_of_beq_eq_true h2
    subst this
    exact fj.of hi hm (Array.eq_empty_of_size_eq_zero h1) hf hu hcall
   ·cases h2
  ·cases h
 ·cases h
theorem eff_invH {o : Oper} {ev : Operand → PV} {H : Heap} {rx : Operand} {name : String} {av0 : Array Operand} {ts : Array TypeId} (ho : o.op = .call { callee := .invoke rx name,args := av0,argTypes := ts }) {g : FuncId} {t : TypeId} {p : PV}
  (hf : ev rx = .ifc t p) (hcall : fj P t name g) (mb mo : List (Nat × Nat)) (hb1 : aR (mb.map Prod.fst) = true) (hb2 : aR (mb.map Prod.snd) = true) (ho1 : aR (mo.map Prod.fst) = true) (ho2 : aR (mo.map Prod.snd) = true)
  {args : List PV} (hle : de P (p :: av0.toList.map ev) args) {R : PV → Heap → Prop} (hc : PH P g args ⟨eU H.bx mb,eT H.ob mo⟩ R)
  {K : PV → Heap → Prop} (hk : ∀ u H',R u H' → K u ⟨gN H.bx mb H'.bx,gO H.ob mo H'.ob⟩) : Eff P o ev H K := by
 intro C M a w next Q hi he hn
 have hfr := he rx (by rw [ho]; simp [Op.operands,Call.operands])
 rw [hf] at hfr
 simp only [Rep] at hfr
 obtain ⟨v,hv,hvr⟩ := hfr
 have hargs : ak P M true (av0.toList.map ev) (av0.map a.eval).toList := by
  simpa using gA av0.toList fun x hx=>he x (by rw [ho]; simp_all [Op.operands,Call.operands])
 have hrep := hle M (v :: (av0.map a.eval).toList) (by simp only [ak]; exact ⟨v,_,rfl,hvr,hargs⟩)
 have hrun : (execOp a.eval o).run P w = .ok (.enter g (#[v] ++ av0.map a.eval)) w := by
  have hx : (#[Value.iface t v] ++ av0.map a.eval).extract 1 (#[Value.iface t v] ++ av0.map a.eval).size = av0.map a.eval := by
   apply Array.ext'
   simp only [Array.toList_extract,Array.toList_append,List.extract_eq_take_drop,List.cons_append,List.nil_append,List.drop_succ_cons,List.drop_zero]
   rw [List.take_of_length_le]
   simp
  have h0 : (#[Value.iface t v] ++ av0.map a.eval)[0]? = some (.iface t v) := by rw [Array.getElem?_append_left (Nat.zero_lt_one)]; rfl
  have hi : (invoke (.fn (.method name) #[]) (#[Value.iface t v] ++ av0.map a.eval)).run P w = .ok (.enter g (#[v] ++ av0.map a.eval)) w := by
   unfold invoke
   simp only [h0,hx]
   exact hcall v _ w
  simp only [execOp,ho,resolve,hv,Sem.run_bind,Sem.run_pure,Result.andThen_ok]
  exact hi
 unfold Oper.wp
 rw [hrun]
 simp only [Oper.upon]
 refine (hc w M (dl H mb mo) (hi.gl hi.ownMine) _ (hi.enterH hb1 ho1) (by simpa using hrep)).mono ?_
 rintro e w' ⟨v,u,H',M',rfl,hR,hi',hr⟩
 exact hn v u _ M' w' (hk u H' hR) hi'.ext (hi.afterH hb1 hb2 ho1 ho2 hi') hr
end
section
variable {P : Program} {ops : Array Oper} {rest : List Oper} {o : Oper} {n : Nat} {s s' : Nat → PV} {bx : Nat → Option Box} {ob : Nat → Option Obj} {K : PState → Prop} {T : TT} {rb : RB} {k : Nat} {L : List Nat}
theorem dT (hg : av ops s o = some true) {rx : Operand} {name : String} {av0 : Array Operand} {ts : Array TypeId} (ho : o.op = .call { callee := .invoke rx name,args := av0,argTypes := ts }) {g : FuncId} {t : TypeId} {p : PV}
  (hf : evS s rx = .ifc t p) (hcall : fj P t name g) (mb mo : List (Nat × Nat)) (hb1 : aR (mb.map Prod.fst) = true) (hb2 : aR (mb.map Prod.snd) = true) (ho1 : aR (mo.map Prod.fst) = true) (ho2 : aR (mo.map Prod.snd) = true)
  {args : List PV} (hle : de P (p :: av0.toList.map (evS s)) args) {Hin : Heap} (hin : Hin = ⟨eU bx mb,eT ob mo⟩) {R : PV → Heap → Prop} (hc : PH P g args Hin R)
  (h : ∀ u H',R u H' → ∃ s',putD n s o.dst u = some s' ∧ Ao P ops rest ⟨n,s',gN bx mb H'.bx,gO ob mo H'.ob⟩ K) : Ao P ops (o :: rest) ⟨n,s,bx,ob⟩ K :=
 dt hg (eff_invH ho hf hcall mb mo hb1 hb2 ho1 ho2 hle (hin ▸ hc) h)
theorem PLe2.ifc {t : TypeId} {p q : PV} (h : PLe2 P p q) : PLe2 P (.ifc t p) (.ifc t q) := by
 intro M s x hx
 simp only [Rep] at hx ⊢
 obtain ⟨v,h1,h2⟩ := hx
 exact ⟨v,h1,h M s v h2⟩
theorem detS_mkI (hT : T.Ok P) {t : TypeId} {x : Operand} (ho : o.op = .makeInterface t x) {ti : TInfo} (hti : T.get t = some ti) (hd : (match ti.desc with | .interface _=>true | _=>false) = false) {ev : Operand → PV} {H : Heap} : DetS P o ev H (.ifc t (ev x)) := by
 intro C M a w _ he
 have hxr := he x (by rw [ho]; simp [Op.operands])
 refine ⟨.iface t (a.eval x),?_,by simp only [Rep]; exact ⟨_,rfl,hxr⟩⟩
 have hm : (Instr.makeInterface t (a.eval x)).run P w = .ok (.iface t (a.eval x)) w := by
  simp only [Instr.makeInterface,Sem.run_bind,(hT.get hti).rund w,Result.andThen_ok]
  cases hq : ti.desc <;> rw [hq] at hd <;> first | rfl | cases hd
 simp only [execOp,ho,Sem.run_bind,hm,Result.andThen_ok]
 rfl
theorem kB (hT : T.Ok P) (hg : av ops s o = some true) {t : TypeId} {x : Operand} (ho : o.op = .makeInterface t x) {ti : TInfo} (hti : T.get t = some ti) (hd : (match ti.desc with | .interface _=>true | _=>false) = false)
  (hp : putD n s o.dst (.ifc t (evS s x)) = some s') (h : Ao P ops rest ⟨n,s',bx,ob⟩ K) : Ao P ops (o :: rest) ⟨n,s,bx,ob⟩ K := kH hg (detS_mkI hT ho hti hd) hp h
theorem detS_asI (hT : T.Ok P) {t t' : TypeId} {x : Operand} (ho : o.op = .typeAssert x t t' false) {ti : TInfo} (hti : T.get t' = some ti) (hd : (match ti.desc with | .interface _=>true | _=>false) = false) {p : PV} {ev : Operand → PV} {H : Heap} (hx : ev x = .ifc t' p) : DetS P o ev H p := by
 intro C M a w _ he
 have hxr := he x (by rw [ho]; simp [Op.operands])
 rw [hx] at hxr
 simp only [Rep] at hxr
 obtain ⟨v,hv,hr⟩ := hxr
 refine ⟨v,?_,hr⟩
 have hm : (Instr.typeAssert (a.eval x) t t' false).run P w = .ok v w := by
  rw [hv]
  simp only [Instr.typeAssert,Sem.run_bind,(hT.get hti).rund w,Result.andThen_ok]
  cases hq : ti.desc <;> rw [hq] at hd <;> first | (simp; done) | cases hd
 simp only [execOp,ho,Sem.run_bind,hm,Result.andThen_ok]
 rfl
theorem Ao.asI (hT : T.Ok P) (hg : av ops s o = some true) {t t' : TypeId} {x : Operand} (ho : o.op = .typeAssert x t t' false) {ti : TInfo} (hti : T.get t' = some ti) (hd : (match ti.desc with | .interface _=>true | _=>false) = false) {p : PV} (hx : evS s x = .ifc t' p)
  (hp : putD n s o.dst p = some s') (h : Ao P ops rest ⟨n,s',bx,ob⟩ K) : Ao P ops (o :: rest) ⟨n,s,bx,ob⟩ K := kH hg (detS_asI hT ho hti hd hx) hp h
theorem Do.asI (hT : T.Ok P) (hop : ops[k]? = some o) (hg : av ops s o = some true) {t t' : TypeId} {x : Operand} (ho : o.op = .typeAssert x t t' false) {ti : TInfo} (hti : T.get t' = some ti) (hd : (match ti.desc with | .interface _=>true | _=>false) = false) {p : PV} (hx : evS s x = .ifc t' p)
  (hp : putD n s o.dst p = some s') (h : Do P T rb ops L ⟨n,s',bx,ob⟩ K) : Do P T rb ops (k :: L) ⟨n,s,bx,ob⟩ K := iw hop hg (by rw [ho]; rfl) (fun _=>detS_asI hT ho hti hd hx) hp h
theorem kP (hT : T.Ok P) (hop : ops[k]? = some o) (hg : av ops s o = some true) {t : TypeId} {x : Operand} (ho : o.op = .makeInterface t x) {ti : TInfo} (hti : T.get t = some ti) (hd : (match ti.desc with | .interface _=>true | _=>false) = false)
  (hp : putD n s o.dst (.ifc t (evS s x)) = some s') (h : Do P T rb ops L ⟨n,s',bx,ob⟩ K) : Do P T rb ops (k :: L) ⟨n,s,bx,ob⟩ K := iw hop hg (by rw [ho]; rfl) (fun _=>detS_mkI hT ho hti hd) hp h
theorem OwnRef.sub_zero (g : OwnRef) (z h : Nat) : g.sub z 0 h g.cap = g.val h := by
 cases hb : g.blk <;> simp [OwnRef.sub,OwnRef.val,hb,Addr.add]
theorem cutLen {α β : Type} {f : α → β} {X y : List α} {m : Int} (h : 0 ≤ m ∧ m.toNat ≤ X.length ∧ y = X.take m.toNat) : m.toNat = (List.map f y).length := by
 rw [zl,h.2.2,List.length_take,Nat.min_eq_left h.2.1]
theorem Do.cutV (hT : T.Ok P) (hop : ops[k]? = some o) (hg : av ops s o = some true) {t : TypeId} {x y : Operand} (ho : o.op = .slice t x none (some y) none) {ti ei : TInfo} {e : TypeId} (hti : T.get t = some ti) (hd : ti.desc = .slice e) (hei : T.get e = some ei)
  {tag : Nat} {g : OwnRef} {len : Nat} (hx : evS s x = .own tag g len) {kk : IntKind} {m : Int} (hy : evS s y = .val (.int kk m)) (h0 : 0 ≤ m) (hc : m.toNat ≤ g.cap)
  (hp : putD n s o.dst (.own tag g m.toNat) = some s') (h : Do P T rb ops L ⟨n,s',bx,ob⟩ K) : Do P T rb ops (k :: L) ⟨n,s,bx,ob⟩ K := by
 refine iw hop hg (by rw [ho]; rfl) (fun bx'=>?_) hp h
 intro C M a w hi he
 obtain ⟨v,h1,h2⟩ := detS_subV (H := ⟨bx',if rb.o o && cy o.op then eS ob else fun _=>none⟩) hT ho hti hd hei hx (lo := none) (hi := some y) (mx := none) (l := 0) (h := m.toNat) (m := g.cap) rfl ⟨_,_,hy,(Int.toNat_of_nonneg h0).symm⟩ rfl (fun h=>by cases h) (Nat.zero_le _) hc (Nat.le_refl _) C M a w hi he
 refine ⟨v,h1,?_⟩
 simp only [Rep,OwnRef.sub_zero] at h2 ⊢
 exact ⟨trivial,h2⟩
theorem kO (hop : ops[k]? = some o) (hg : av ops s o = some true) {fx : Operand} {av0 : Array Operand} {ts : Array TypeId} (ho : o.op = .call { callee := .value fx,args := av0,argTypes := ts }) {g : FuncId} {caps : List PV}
  (hf : evS s fx = .fn g caps) (hcall : ∀ vs w,(callFunc g vs).run P w = .ok (.enter g vs) w) (hsx : rb.sx = true) (hna : noAlloc ops = true) (mb mo : List (Nat × Nat)) (hb1 : aR (mb.map Prod.fst) = true) (hb2 : aR (mb.map Prod.snd) = true) (ho1 : aR (mo.map Prod.fst) = true) (ho2 : aR (mo.map Prod.snd) = true)
  {args : List PV} (hle : de P (av0.toList.map (evS s) ++ caps) args) {Hin : Heap} (hin : Hin = ⟨eU bx mb,eT ob mo⟩) {R : PV → Heap → Prop} (hc : PH P g args Hin R)
  (h : ∀ u H',R u H' → ∃ s',putD n s o.dst u = some s' ∧ Do P T rb ops L ⟨n,s',gN bx mb H'.bx,gO ob mo H'.ob⟩ K) : Do P T rb ops (k :: L) ⟨n,s,bx,ob⟩ K := by
 refine ⟨o,hop,true,hg,?_⟩
 simp only [if_true,ho,bu]
 exact .inl ⟨hsx,hna,eff_callH ho hf hcall mb mo hb1 hb2 ho1 ho2 hle (hin ▸ hc) h⟩
end
end
end Go.Ab

namespace Go.Proofs.YtnnieenoapkefaaGreatDoor
noncomputable section
open Go Go.Ab
theorem meth36 : fj Tryz.prog 94 "Len" 36 := fj.is (by kernel_rfl) Tryz.underlying94 Tryz.call36
theorem meth219 : fj Tryz.prog 94 "Less" 219 := fj.is (by kernel_rfl) Tryz.underlying94 Tryz.call219
theorem meth222 : fj Tryz.prog 94 "Swap" 222 := fj.is (by kernel_rfl) Tryz.underlying94 Tryz.call222
theorem meth221 : fj Tryz.prog 94 "Push" 221 := fj.is (by kernel_rfl) Tryz.underlying94 Tryz.call221
theorem meth220 : fj Tryz.prog 94 "Pop" 220 := fj.is (by kernel_rfl) Tryz.underlying94 Tryz.call220
end
end Go.Proofs.YtnnieenoapkefaaGreatDoor

namespace Go.Proofs.YtnnieenoapkefaaGreatDoor
noncomputable section
open Go Go.Ab
attribute [local irreducible] V Ao Do Gh Eff PH IntKind.wrap
set_option maxRecDepth 4000
def bp (rA : Rq) (c0 : Int) : Bool :=
 (decide (c0 ≥ (rA.length : Int)))
theorem iD (rA : Rq) (c0 : Int) :
  bJ Tryz.prog 40 [(.list 48 (rA.map ab)),(.ptr [(ag c0)])] (bw (bp rA c0)) := by
 obtain ⟨r,H⟩ : ∃ r,bp rA c0 = r := ⟨_,rfl⟩
 rw [H]
 unfold bp at H
 refine PH.aD Tryz.func40 Tryz.ntmps40 ?_
 refine au 1 tk rfl (af (ah (am 2 tk rfl (bh tk (zl _) ?_))))
 refine am 2 tk rfl (al ?_)
 exact kE tk H rfl
def bK (sA : Rz) (f : Rq → Option (Bool)) : Option (Int) :=
 ac (aX (σ := Unit) (ρ := (Int)) (fun (j1 : Nat) (x1 : Rq) (_ : Unit) =>
  ac (f x1) fun x16 =>
  cond x16
   (some (.ret (j1 : Int)))
   (some (.next ()))) 0 sA ()) fun fl1=>fl1.thenR fun (_ : Unit) =>
 some (-1)
theorem eB {g_f : FuncId} {caps_f : List PV} (sA : Rz) (f : Rq → Option (Bool)) (hg_f : ∀ (vs : Array Value) (w : World),(callFunc g_f vs).run Tryz.prog w = .ok (.enter g_f vs) w) (hp_f : ∀ a0 r,f a0 = some r → bJ Tryz.prog g_f ((.list 48 (a0.map ab)) :: caps_f) (bw r)) (r : Int) (H : bK sA f = some r) :
  bJ Tryz.prog 39 [(.list 51 (sA.map (ae 48 ab))),(.fn g_f caps_f)] (ag r) := by
 unfold bK at H
 refine PH.aD Tryz.func39 Tryz.ntmps39 ?_
 refine au 1 tk rfl (af (af (ah (ay tk rfl (bh tk (zl _) ?_)))))
 refine ay tk rfl (al ?_)
 refine kp tk 8 7 0 (fun s1 g1=>upd (fun _=>.any) 1 (.fn g_f caps_f)) nB nO () H (fun fl1 Hp1 j1 s1 g1 hz1 hl1 x1 fb1 hx1 H hg1=>?_) (fun s1 g1 H=>?_)
 ·refine af (aF (au 2 tk rfl (af (ah (am 3 tk rfl ?_)))))
  refine dQ tk (zn j1) (dV (fun _=>rfl) hx1) ?_
  refine ay tk rfl ?_
  obtain ⟨x16,h16,H⟩ := ar H
  refine bT hg_f (de.r) (hp_f _ _ h16) ?_
  refine al ?_
  refine bm rfl H (fun H=>?_) (fun H=>?_)
  ·refine au 2 tk rfl ?_
   obtain rfl := ax H
   have e1 : fl1 = .ret _ := hg1
   subst e1
   obtain rfl := dc Hp1
   refine dr tk rfl (ps := [(ag (j1 : Int))]) ⟨_,_,rfl,rfl,rfl⟩ (PLe.q rfl)
  refine aH (bA (bW 2 tk rfl ?_))
  exact eQ () H hl1 hg1
 refine au 1 tk rfl ?_
 exact cI tk H rfl
theorem clone_24 {m : Nat} (xs : Rz) : ir Tryz.prog 24 [.list 51 (xs.map (ae 48 ab))] (OwnR m 51 (xs.map (ae 48 ab))) := by
 refine PH.aD Tryz.func24 Tryz.ntmps24 ?_
 refine ky tk 0 rfl rfl (fun hz hb=>?_)
 refine au 1 tk rfl (af (af (ah (ay tk rfl ?_))))
 refine kD tk rfl rfl rfl rfl rfl rfl rfl (fun b hn=>?_)
 refine al ?_
 refine jo rfl (fun h=>?_) (fun h=>?_)
 ·refine au 1 tk rfl (js tk 2 902 (e := 51) rfl rfl ?_)
  refine kn tk rfl rfl rfl rfl (hn h).symm
 ·refine aH (af (ah ?_))
  refine kL (rows' := []) tk rfl rfl rfl rfl rfl rfl rfl rfl rfl (eZ.refl _) fun g=>?_
  refine ay tk rfl ?_
  refine eC (rows2' := xs.map (ae 48 ab)) (rows' := xs.map (ae 48 ab)) tk rfl rfl rfl rfl rfl rfl rfl rfl rfl rfl rfl rfl rfl (eW.refl _) (by simpa using hb) (by simpa using hz) rfl fun g'=>?_
  refine ay tk rfl (al ?_)
  refine kn tk rfl rfl rfl rfl rfl
def aI (data : Rz) (a : Int) (b : Int) (cmp : Rq → Rq → Option (Int)) : Option (Rz) :=
 ac (co (σ := Rz × Int) (ρ := Empty) (fun (s1 : Rz × Int) =>
  cond (decide (s1.2 < b))
   (ac (co (σ := Rz × Int) (ρ := Empty) (fun (s22 : Rz × Int) =>
    ac (
     cond (decide (s22.2 > a))
      (ac (aL s22.1 s22.2) fun (x25 : Rq) =>
      ac (aL s22.1 (IntKind.i64.wrap (s22.2 - (1 : Int)))) fun (x30 : Rq) =>
      ac (cmp x25 x30) fun x32 =>
      some (s22.1,(decide (x32 < (0 : Int)))))
      (some (s22.1,false))) fun (t29 : Rz × Bool) =>
    cond t29.2
     (ac (aL t29.1 (IntKind.i64.wrap (s22.2 - (1 : Int)))) fun (x45 : Rq) =>
     ac (aL t29.1 s22.2) fun (x49 : Rq) =>
     ac (aL t29.1 s22.2) fun (_ : Rq) =>
     cp (t29.1.set s22.2.toNat x45) fun (y30 : Rz) =>
     ac (aL y30 (IntKind.i64.wrap (s22.2 - (1 : Int)))) fun (_ : Rq) =>
     cp (y30.set ((IntKind.i64.wrap (s22.2 - (1 : Int))).toNat) x49) fun (y31 : Rz) =>
     some (.next (y31,(IntKind.i64.wrap (s22.2 - (1 : Int))))))
     (some (.brk (t29.1,s22.2)))) (s1.1,s1.2)) fun fl22=>fl22.thenP fun (s22 : Rz × Int) =>
   some (.next (s22.1,(IntKind.i64.wrap (s1.2 + (1 : Int))))))
   (some (.brk (s1.1,s1.2)))) (data,(IntKind.i64.wrap (a + (1 : Int))))) fun fl1=>fl1.thenP fun (s1 : Rz × Int) =>
 some s1.1
theorem cX (g_data : OwnRef) {g_cmp : FuncId} {caps_cmp : List PV} (data : Rz) (a : Int) (b : Int) (cmp : Rq → Rq → Option (Int)) (hg_cmp : ∀ (vs : Array Value) (w : World),(callFunc g_cmp vs).run Tryz.prog w = .ok (.enter g_cmp vs) w) (hp_cmp : ∀ a0 a1 r,cmp a0 a1 = some r → bJ Tryz.prog g_cmp ((.list 48 (a0.map ab)) :: (.list 48 (a1.map ab)) :: caps_cmp) (ag r)) (r : Rz) (H : aI data a b cmp = some r) :
  PH Tryz.prog 58 [(.own 0 g_data (data.map (ae 48 ab)).length),(ag a),(ag b),(.fn g_cmp caps_cmp)] ⟨fun _=>none,upd (fun _=>none) 0 (some ⟨g_data,51,(data.map (ae 48 ab)),true⟩)⟩ (fun u H=>u = (.tup []) ∧ H = ⟨fun _=>none,upd (fun _=>none) 0 (some ⟨g_data,51,(r.map (ae 48 ab)),true⟩)⟩) := by
 unfold aI at H
 refine PH.aD Tryz.func58 Tryz.ntmps58 ?_
 refine au 3 tk rfl ?_
 obtain ⟨fl1,H1,Hp1⟩ := ar H
 refine dv (τ := Rz × Int) (γ := Unit) (fun s1 g1=>⟨53,upd (fun _=>.any) 0 (.own 0 g_data (s1.1.map (ae 48 ab)).length),fun _=>none,upd (fun _=>none) 0 (some ⟨g_data,51,(s1.1.map (ae 48 ab)),true⟩)⟩) (fun t=>fl1 = .next t) ?_ (fun s1 g1 hn1=>?_)
 ·refine aF ?_
  refine cu (fun s1 g1=>⟨53,upd (upd (upd (upd (upd (fun _=>.any) 8 (ag s1.2)) 3 (.fn g_cmp caps_cmp)) 2 (ag b)) 1 (ag a)) 0 (.own 0 g_data (s1.1.map (ae 48 ab)).length),fun _=>none,upd (fun _=>none) 0 (some ⟨g_data,51,(s1.1.map (ae 48 ab)),true⟩)⟩) () H1 Gh.d (fun m1 s1 g1 hr1=>?_)
  obtain ⟨fb1,H,hg1⟩ := bN hr1
  refine af (au 3 tk rfl ?_)
  refine bm rfl H (fun H=>?_) (fun H=>?_)
  ·refine aH (af (aF (au 2 tk rfl ?_)))
   obtain ⟨fl22,H22,Hp22⟩ := ar H
   refine dv (τ := Rz × Int) (γ := Unit) (fun s22 g22=>⟨53,upd (upd (upd (upd (upd (fun _=>.any) 8 (ag s1.2)) 3 (.fn g_cmp caps_cmp)) 2 (ag b)) 1 (ag a)) 0 (.own 0 g_data (s22.1.map (ae 48 ab)).length),fun _=>none,upd (fun _=>none) 0 (some ⟨g_data,51,(s22.1.map (ae 48 ab)),true⟩)⟩) (fun t=>fl22 = .next t) ?_ (fun s22 g22 hn22=>?_)
   ·refine aF ?_
    refine cu (fun s22 g22=>⟨53,upd (upd (upd (upd (upd (upd (fun _=>.any) 9 (ag s22.2)) 8 (ag s1.2)) 3 (.fn g_cmp caps_cmp)) 2 (ag b)) 1 (ag a)) 0 (.own 0 g_data (s22.1.map (ae 48 ab)).length),fun _=>none,upd (fun _=>none) 0 (some ⟨g_data,51,(s22.1.map (ae 48 ab)),true⟩)⟩) () H22 Gh.d (fun m22 s22 g22 hr22=>?_)
    obtain ⟨fb22,H,hg22⟩ := bN hr22
    refine af (af ?_)
    refine jm (γ := Unit) (fun t29 g29=>⟨53,upd (upd (upd (upd (upd (upd (upd (fun _=>.any) 34 (bw t29.2)) 9 (ag s22.2)) 8 (ag s1.2)) 3 (.fn g_cmp caps_cmp)) 2 (ag b)) 1 (ag a)) 0 (.own 0 g_data (t29.1.map (ae 48 ab)).length),fun _=>none,upd (fun _=>none) 0 (some ⟨g_data,51,(t29.1.map (ae 48 ab)),true⟩)⟩) H (fun _ H=>?_) (fun t29 g29 H=>?_)
    ·refine eh (tag := 0) rfl (fun ho0=>?_)
     refine cA tk mok ⟨false,true,[]⟩ [0,1,2,3,4,5,6,7,8,9,10,11,12,13,14,15,16] rfl (by decide +kernel) rfl (aG 4 rfl ?_)
     refine kw rfl rfl rfl rfl H (fun H=>?_) (fun H=>?_)
     ·refine aG 3 rfl ?_
      obtain ⟨x25,k25,H⟩ := bR H
      refine aY tk ⟨k25.1,(bF k25.2)⟩ (bL ho0 k25.2) ?_
      refine bt tk rfl rfl rfl rfl rfl rfl rfl rfl rfl (bg (fun _=>rfl) k25.2) rfl rfl ?_
      refine aG 3 rfl ?_
      obtain ⟨x30,k30,H⟩ := bR H
      refine aY tk ⟨k30.1,(bF k30.2)⟩ (bL ho0 k30.2) ?_
      refine bt tk rfl rfl rfl rfl rfl rfl rfl rfl rfl (bg (fun _=>rfl) k30.2) rfl rfl ?_
      obtain ⟨x32,h32,H⟩ := ar H
      refine cQ hg_cmp (de.r) (hp_cmp _ _ _ h32) ?_
      refine aG 2 rfl (bM ?_)
      refine bD _ () (ax H) Gh.d
     refine aG 13 rfl (bM ?_)
     refine bD _ () (ax H) Gh.d
    refine bm rfl H (fun H=>?_) (fun H=>?_)
    ·refine aH (af (aF ?_))
     refine eh (tag := 0) rfl (fun ho0=>?_)
     refine cA tk mok ⟨false,true,[]⟩ [0,1,2,3,4,5,6,7,8,9,10,11,12,13,14,15,16,17] rfl (by decide +kernel) rfl (aG 8 rfl ?_)
     obtain ⟨x45,k45,H⟩ := bR H
     refine aY tk ⟨k45.1,(bF k45.2)⟩ (bL ho0 k45.2) ?_
     refine bt tk rfl rfl rfl rfl rfl rfl rfl rfl rfl (bg (fun _=>rfl) k45.2) rfl rfl ?_
     refine aG 2 rfl ?_
     obtain ⟨x49,k49,H⟩ := bR H
     refine aY tk ⟨k49.1,(bF k49.2)⟩ (bL ho0 k49.2) ?_
     refine bt tk rfl rfl rfl rfl rfl rfl rfl rfl rfl (bg (fun _=>rfl) k49.2) rfl rfl ?_
     obtain ⟨x51,k51,H⟩ := bR H
     refine aY tk ⟨k51.1,(bF k51.2)⟩ (bL ho0 k51.2) ?_
     obtain ⟨y30,hy30,H⟩ := et H
     refine dg tk rfl rfl rfl rfl rfl rfl rfl rfl rfl (by rw [zl]; exact (zg.1 k51.2).1) (PLe.refl _ _) rfl rfl rfl rfl (by decide) (da (fun _=>rfl) k51.2 rfl hy30) ?_
     obtain ⟨x52,k52,H⟩ := bR H
     refine aY tk ⟨k52.1,(il (cn (f := (ae 48 ab)) hy30) k52.2)⟩ (ic ho0 (cn (f := (ae 48 ab)) hy30) k52.2) ?_
     obtain ⟨y31,hy31,H⟩ := et H
     refine dg tk rfl rfl rfl rfl rfl rfl rfl rfl rfl (by rw [zl]; exact (zg.1 k52.2).1) (PLe.refl _ _) rfl rfl rfl rfl (by decide) (da (fun _=>rfl) k52.2 rfl hy31) ?_
     refine bM (bA (bW 3 tk rfl ?_))
     obtain rfl := ax H
     refine bs (y31,(IntKind.i64.wrap (s22.2 - (1 : Int)))) () hg22 (Gh.le (cf (PLe.of2 (PLe2.of_eq (congrArg (PV.own 0 g_data) ((cn (f := (ae 48 ab)) hy30).trans (cn (f := (ae 48 ab)) hy31))))) (aA (aA (aA (aA (aA aQ)))))) ap (aC aq))
    refine cB rfl ?_
    obtain rfl := ax H
    refine bD (t29.1,s22.2) () hg22 Gh.d
   have H := bB hn22 Hp22
   refine bA (bW 3 tk rfl ?_)
   obtain rfl := ax H
   refine bs (s22.1,(IntKind.i64.wrap (s1.2 + (1 : Int)))) () hg1 Gh.d
  refine cB rfl ?_
  obtain rfl := ax H
  refine bD (s1.1,s1.2) () hg1 Gh.d
 have H := bB hn1 Hp1
 obtain rfl := ax H
 refine cq (st' := ⟨53,fun _=>.any,fun _=>none,upd (fun _=>none) 0 (some ⟨g_data,51,(s1.1.map (ae 48 ab)),true⟩)⟩) (Gh.le aQ ap (aC aq)) ?_
 refine dU rfl (PLe.q rfl) ⟨rfl,rfl⟩
def aJ (data : Rz) (a : Int) (b : Int) (n : Int) (_cmp : Rq → Rq → Option (Int)) : Option (Rz) :=
 ac (co (σ := Rz × Int) (ρ := Empty) (fun (s1 : Rz × Int) =>
  cond (decide (s1.2 < n))
   (ac (aL s1.1 (IntKind.i64.wrap (b + s1.2))) fun (x28 : Rq) =>
   ac (aL s1.1 (IntKind.i64.wrap (a + s1.2))) fun (x34 : Rq) =>
   ac (aL s1.1 (IntKind.i64.wrap (a + s1.2))) fun (_ : Rq) =>
   cp (s1.1.set ((IntKind.i64.wrap (a + s1.2)).toNat) x28) fun (y6 : Rz) =>
   ac (aL y6 (IntKind.i64.wrap (b + s1.2))) fun (_ : Rq) =>
   cp (y6.set ((IntKind.i64.wrap (b + s1.2)).toNat) x34) fun (y7 : Rz) =>
   some (.next (y7,(IntKind.i64.wrap (s1.2 + (1 : Int))))))
   (some (.brk (s1.1,s1.2)))) (data,0)) fun fl1=>fl1.thenP fun (s1 : Rz × Int) =>
 some s1.1
theorem cz (g_data : OwnRef) {g_cmp : FuncId} {caps_cmp : List PV} (data : Rz) (a : Int) (b : Int) (n : Int) (cmp : Rq → Rq → Option (Int)) (_hg_cmp : ∀ (vs : Array Value) (w : World),(callFunc g_cmp vs).run Tryz.prog w = .ok (.enter g_cmp vs) w) (_hp_cmp : ∀ a0 a1 r,cmp a0 a1 = some r → bJ Tryz.prog g_cmp ((.list 48 (a0.map ab)) :: (.list 48 (a1.map ab)) :: caps_cmp) (ag r)) (r : Rz) (H : aJ data a b n cmp = some r) :
  PH Tryz.prog 126 [(.own 0 g_data (data.map (ae 48 ab)).length),(ag a),(ag b),(ag n),(.fn g_cmp caps_cmp)] ⟨fun _=>none,upd (fun _=>none) 0 (some ⟨g_data,51,(data.map (ae 48 ab)),true⟩)⟩ (fun u H=>u = (.tup []) ∧ H = ⟨fun _=>none,upd (fun _=>none) 0 (some ⟨g_data,51,(r.map (ae 48 ab)),true⟩)⟩) := by
 unfold aJ at H
 refine PH.aD Tryz.func126 Tryz.ntmps126 ?_
 refine au 1 tk rfl ?_
 obtain ⟨fl1,H1,Hp1⟩ := ar H
 refine dv (τ := Rz × Int) (γ := Unit) (fun s1 g1=>⟨38,upd (fun _=>.any) 0 (.own 0 g_data (s1.1.map (ae 48 ab)).length),fun _=>none,upd (fun _=>none) 0 (some ⟨g_data,51,(s1.1.map (ae 48 ab)),true⟩)⟩) (fun t=>fl1 = .next t) ?_ (fun s1 g1 hn1=>?_)
 ·refine aF ?_
  refine cu (fun s1 g1=>⟨38,upd (upd (upd (upd (upd (fun _=>.any) 10 (ag s1.2)) 3 (ag n)) 2 (ag b)) 1 (ag a)) 0 (.own 0 g_data (s1.1.map (ae 48 ab)).length),fun _=>none,upd (fun _=>none) 0 (some ⟨g_data,51,(s1.1.map (ae 48 ab)),true⟩)⟩) () H1 Gh.d (fun m1 s1 g1 hr1=>?_)
  obtain ⟨fb1,H,hg1⟩ := bN hr1
  refine af (au 3 tk rfl ?_)
  refine bm rfl H (fun H=>?_) (fun H=>?_)
  ·refine aH (af (aF ?_))
   refine eh (tag := 0) rfl (fun ho0=>?_)
   refine cA tk mok ⟨false,true,[]⟩ [0,1,2,3,4,5,6,7,8,9,10,11,12,13,14,15,16,17,18,19,20,21,22,23] rfl (by decide +kernel) rfl (aG 12 rfl ?_)
   obtain ⟨x28,k28,H⟩ := bR H
   refine aY tk ⟨k28.1,(bF k28.2)⟩ (bL ho0 k28.2) ?_
   refine bt tk rfl rfl rfl rfl rfl rfl rfl rfl rfl (bg (fun _=>rfl) k28.2) rfl rfl ?_
   refine aG 4 rfl ?_
   obtain ⟨x34,k34,H⟩ := bR H
   refine aY tk ⟨k34.1,(bF k34.2)⟩ (bL ho0 k34.2) ?_
   refine bt tk rfl rfl rfl rfl rfl rfl rfl rfl rfl (bg (fun _=>rfl) k34.2) rfl rfl ?_
   obtain ⟨x36,k36,H⟩ := bR H
   refine aY tk ⟨k36.1,(bF k36.2)⟩ (bL ho0 k36.2) ?_
   obtain ⟨y6,hy6,H⟩ := et H
   refine dg tk rfl rfl rfl rfl rfl rfl rfl rfl rfl (by rw [zl]; exact (zg.1 k36.2).1) (PLe.refl _ _) rfl rfl rfl rfl (by decide) (da (fun _=>rfl) k36.2 rfl hy6) ?_
   obtain ⟨x37,k37,H⟩ := bR H
   refine aY tk ⟨k37.1,(il (cn (f := (ae 48 ab)) hy6) k37.2)⟩ (ic ho0 (cn (f := (ae 48 ab)) hy6) k37.2) ?_
   obtain ⟨y7,hy7,H⟩ := et H
   refine dg tk rfl rfl rfl rfl rfl rfl rfl rfl rfl (by rw [zl]; exact (zg.1 k37.2).1) (PLe.refl _ _) rfl rfl rfl rfl (by decide) (da (fun _=>rfl) k37.2 rfl hy7) ?_
   refine bM (bA (bW 3 tk rfl ?_))
   obtain rfl := ax H
   refine bs (y7,(IntKind.i64.wrap (s1.2 + (1 : Int)))) () hg1 (Gh.le (cf (PLe.of2 (PLe2.of_eq (congrArg (PV.own 0 g_data) ((cn (f := (ae 48 ab)) hy6).trans (cn (f := (ae 48 ab)) hy7))))) (aA (aA (aA (aA aQ))))) ap (aC aq))
  refine cB rfl ?_
  obtain rfl := ax H
  refine bD (s1.1,s1.2) () hg1 Gh.d
 have H := bB hn1 Hp1
 obtain rfl := ax H
 refine cq (st' := ⟨38,fun _=>.any,fun _=>none,upd (fun _=>none) 0 (some ⟨g_data,51,(s1.1.map (ae 48 ab)),true⟩)⟩) (Gh.le aQ ap (aC aq)) ?_
 refine dU rfl (PLe.q rfl) ⟨rfl,rfl⟩
def dL (rA : Rq) (byA : LExtsortOrdering) : Option (Rq) :=
 ac (aX (σ := Rq) (ρ := Empty) (fun (_ : Nat) (x1 : Int) (s1 : Rq) =>
  ac (aL rA x1) fun (x18 : LVal) =>
  ac (eF 32 s1 ([x18] : Rq)) fun (x21 : Rq) =>
  some (.next x21)) 0 byA.columns []) fun fl1=>fl1.thenP fun (s1 : Rq) =>
 some s1
theorem iZ (rA : Rq) (byA : LExtsortOrdering) (r : Rq) (H : dL rA byA = some r) :
  bJ Tryz.prog 44 [(.list 48 (rA.map ab)),(.agg (aN byA))] (.list 48 (r.map ab)) := by
 unfold dL at H
 refine PH.aD Tryz.func44 Tryz.ntmps44 ?_
 refine af (ah (cD ?_))
 refine ay tk rfl (al (au 1 tk rfl (af (af (ah (am 2 tk rfl (bh tk (zl _) ?_)))))))
 refine ay tk rfl (al (js tk 5 21 (e := 48) rfl rfl ?_))
 refine ke (γ := OwnRef) tk 11 10 9 (fun s1 g1=>upd (upd (fun _=>.any) 5 (.own 21 g1 (s1.map ab).length)) 0 (.list 48 (rA.map ab))) nB (fun s1 g1=>upd (fun _=>none) 21 (some ⟨g1,48,(s1.map ab),true⟩)) (⟨none,0⟩) H (fun fl1 Hp1 j1 s1 g1 hz1 hl1 x1 fb1 hx1 H hg1=>?_) (fun s1 g1 H=>?_)
 ·refine af (aF (af (ah ?_)))
  refine dQ tk (zn j1) (dV (fun _=>rfl) hx1) ?_
  refine am 2 tk rfl (al (ah (am 3 tk rfl ?_)))
  obtain ⟨x18,k18,H⟩ := bR H
  refine dQ tk k18.1 (bg (fun _=>rfl) k18.2) ?_
  refine ay tk rfl (ka tk rfl rfl rfl rfl (rows' := List.map ab ([x18] : Rq)) rfl (eW.refl _) rfl rfl ?_)
  obtain ⟨x21,h21,H⟩ := ar H
  have k21 := er h21
  refine eC (rows2' := List.map ab ([x18] : Rq)) (rows' := List.map ab x21) tk rfl rfl rfl rfl rfl rfl rfl rfl rfl rfl rfl rfl rfl (eW.refl _) (fH k21.1) (fM k21.2.1) (fK k21.2.2) fun g21=>?_
  refine ay tk rfl (al (bA (bW 2 tk rfl ?_)))
  exact eQ g21 H hl1 hg1
 refine au 2 tk rfl (fS 4 rfl rfl rfl ?_)
 exact cI tk H rfl
def em (a : LVal) (b : LVal) : Bool :=
 cond (a.kind != b.kind)
  ((decide (a.kind < b.kind)))
  (cond (a.int != b.int)
   ((decide (a.int < b.int)))
   ((Op.bytesLess a.text b.text)))
theorem W_expr_Less (a : LVal) (b : LVal) :
  bJ Tryz.prog 60 [(.agg (ab a)),(.agg (ab b))] (bw (em a b)) := by
 obtain ⟨r,H⟩ : ∃ r,em a b = r := ⟨_,rfl⟩
 rw [H]
 unfold em at H
 refine PH.aD Tryz.func60 Tryz.ntmps60 ?_
 refine af (ah (cD ?_))
 refine cD ?_
 refine ay tk rfl (al (af (aF (au 6 tk rfl ?_))))
 refine bm rfl H (fun H=>?_) (fun H=>?_)
 ·refine au 6 tk rfl ?_
  exact kE tk H rfl
 refine au 6 tk rfl ?_
 refine bm rfl H (fun H=>?_) (fun H=>?_)
 ·refine au 6 tk rfl ?_
  exact kE tk H rfl
 refine aH (bA (au 6 tk rfl ?_))
 exact kE tk H rfl
def bf (s1A : Rz) (s2A : Rz) (eq : Rq → Rq → Option (Bool)) : Option (Bool) :=
 cond ((s1A.length : Int) != (s2A.length : Int))
  (some false)
  (ac (aX (σ := Unit) (ρ := (Bool)) (fun (j1 : Nat) (x1 : Rq) (_ : Unit) =>
   ac (aL s2A (j1 : Int)) fun (x24 : Rq) =>
   ac (eq x1 x24) fun x29 =>
   cond (!x29)
    (some (.ret false))
    (some (.next ()))) 0 s1A ()) fun fl1=>fl1.thenR fun (_ : Unit) =>
  some true)
theorem dq {g_eq : FuncId} {caps_eq : List PV} (s1A : Rz) (s2A : Rz) (eq : Rq → Rq → Option (Bool)) (hg_eq : ∀ (vs : Array Value) (w : World),(callFunc g_eq vs).run Tryz.prog w = .ok (.enter g_eq vs) w) (hp_eq : ∀ a0 a1 r,eq a0 a1 = some r → bJ Tryz.prog g_eq ((.list 48 (a0.map ab)) :: (.list 48 (a1.map ab)) :: caps_eq) (bw r)) (r : Bool) (H : bf s1A s2A eq = some r) :
  bJ Tryz.prog 16 [(.list 51 (s1A.map (ae 48 ab))),(.list 51 (s2A.map (ae 48 ab))),(.fn g_eq caps_eq)] (bw r) := by
 unfold bf at H
 refine PH.aD Tryz.func16 Tryz.ntmps16 ?_
 refine au 1 tk rfl (af (af (ah (ay tk rfl (bh tk (zl _) ?_)))))
 refine ay tk rfl (bh tk (zl _) ?_)
 refine ay tk rfl (al ?_)
 refine bm rfl H (fun H=>?_) (fun H=>?_)
 ·refine au 1 tk rfl ?_
  exact cI tk H rfl
 refine aH (af (af (ah (ay tk rfl (bh tk (zl _) ?_)))))
 refine ay tk rfl (al ?_)
 refine kp tk 17 16 15 (fun s1 g1=>upd (upd (fun _=>.any) 2 (.fn g_eq caps_eq)) 1 (.list 51 (s2A.map (ae 48 ab)))) nB nO () H (fun fl1 Hp1 j1 s1 g1 hz1 hl1 x1 fb1 hx1 H hg1=>?_) (fun s1 g1 H=>?_)
 ·refine af (aF (af (ah (ay tk rfl ?_))))
  refine dQ tk (zn j1) (dV (fun _=>rfl) hx1) ?_
  refine am 3 tk rfl (al (af (ah (am 2 tk rfl ?_))))
  obtain ⟨x24,k24,H⟩ := bR H
  refine dQ tk k24.1 (bg (fun _=>rfl) k24.2) ?_
  refine am 2 tk rfl (al (af (ah (am 3 tk rfl ?_))))
  obtain ⟨x29,h29,H⟩ := ar H
  refine bT hg_eq (de.r) (hp_eq _ _ _ h29) ?_
  refine ay tk rfl (al ?_)
  refine bm rfl H (fun H=>?_) (fun H=>?_)
  ·refine au 1 tk rfl ?_
   obtain rfl := ax H
   have e1 : fl1 = .ret _ := hg1
   subst e1
   obtain rfl := dc Hp1
   refine dr tk rfl (ps := [(bw false)]) ⟨_,_,rfl,rfl,rfl⟩ (PLe.q rfl)
  refine aH (bA (bW 2 tk rfl ?_))
  exact eQ () H hl1 hg1
 refine au 1 tk rfl ?_
 exact cI tk H rfl
def aS (s1A : Rq) (s2A : Rq) : Option (Bool) :=
 cond ((s1A.length : Int) != (s2A.length : Int))
  (some false)
  (ac (aX (σ := Unit) (ρ := (Bool)) (fun (j1 : Nat) (x1 : LVal) (_ : Unit) =>
   ac (aL s2A (j1 : Int)) fun (x22 : LVal) =>
   cond (!(x1.kind == x22.kind && (x1.int == x22.int && (x1.text == x22.text && true))))
    (some (.ret false))
    (some (.next ()))) 0 s1A ()) fun fl1=>fl1.thenR fun (_ : Unit) =>
  some true)
theorem dF (s1A : Rq) (s2A : Rq) (r : Bool) (H : aS s1A s2A = some r) :
  bJ Tryz.prog 18 [(.list 48 (s1A.map ab)),(.list 48 (s2A.map ab))] (bw r) := by
 unfold aS at H
 refine PH.aD Tryz.func18 Tryz.ntmps18 ?_
 refine au 1 tk rfl (af (af (ah (ay tk rfl (bh tk (zl _) ?_)))))
 refine ay tk rfl (bh tk (zl _) ?_)
 refine ay tk rfl (al ?_)
 refine bm rfl H (fun H=>?_) (fun H=>?_)
 ·refine au 1 tk rfl ?_
  exact cI tk H rfl
 refine aH (af (af (ah (ay tk rfl (bh tk (zl _) ?_)))))
 refine ay tk rfl (al ?_)
 refine kp tk 13 12 0 (fun s1 g1=>upd (fun _=>.any) 1 (.list 48 (s2A.map ab))) nB nO () H (fun fl1 Hp1 j1 s1 g1 hz1 hl1 x1 fb1 hx1 H hg1=>?_) (fun s1 g1 H=>?_)
 ·refine af (aF (au 2 tk rfl (af (cA tk mok ⟨false,false,[]⟩ [0,1,2,3,4,5,6,7,8] rfl (by decide +kernel) rfl (aG 2 rfl ?_)))))
  refine eY (zn j1) (dV (fun _=>rfl) hx1) ?_
  refine aG 3 rfl ?_
  obtain ⟨x22,k22,H⟩ := bR H
  refine eY k22.1 (bg (fun _=>rfl) k22.2) ?_
  refine aG 2 rfl (bM ?_)
  refine bm rfl H (fun H=>?_) (fun H=>?_)
  ·refine au 1 tk rfl ?_
   obtain rfl := ax H
   have e1 : fl1 = .ret _ := hg1
   subst e1
   obtain rfl := dc Hp1
   refine dr tk rfl (ps := [(bw false)]) ⟨_,_,rfl,rfl,rfl⟩ (PLe.q rfl)
  refine aH (bA (bW 2 tk rfl ?_))
  exact eQ () H hl1 hg1
 refine au 1 tk rfl ?_
 exact cI tk H rfl
theorem clone_15 {m : Nat} (xs : Rq) : ir Tryz.prog 15 [.list 48 (xs.map ab)] (OwnR m 48 (xs.map ab)) := by
 refine PH.aD Tryz.func15 Tryz.ntmps15 ?_
 refine ky tk 0 rfl rfl (fun hz hb=>?_)
 refine au 1 tk rfl (af (af (ah (ay tk rfl ?_))))
 refine kD tk rfl rfl rfl rfl rfl rfl rfl (fun b hn=>?_)
 refine al ?_
 refine jo rfl (fun h=>?_) (fun h=>?_)
 ·refine au 1 tk rfl (js tk 2 902 (e := 48) rfl rfl ?_)
  refine kn tk rfl rfl rfl rfl (hn h).symm
 ·refine aH (af (ah ?_))
  refine kL (rows' := []) tk rfl rfl rfl rfl rfl rfl rfl rfl rfl (eZ.refl _) fun g=>?_
  refine ay tk rfl ?_
  refine eC (rows2' := xs.map ab) (rows' := xs.map ab) tk rfl rfl rfl rfl rfl rfl rfl rfl rfl rfl rfl rfl rfl (eW.refl _) (by simpa using hb) (by simpa using hz) rfl fun g'=>?_
  refine ay tk rfl (al ?_)
  refine kn tk rfl rfl rfl rfl rfl
def az (hA : LExtsortHeads) : Int × LExtsortHeads :=
 ((hA.l.length : Int),hA)
theorem dH (b_hA : Nat) (g_hA_2 : OwnRef) (hA : LExtsortHeads) :
  PH Tryz.prog 36 [(.box 1500 b_hA 0)] ⟨upd (fun _=>none) 1500 (some ⟨b_hA,[(.list 3 (hA.byF.columns.map ba)),(.list 4 (hA.byF.descending.map aE)),(.own 1602 g_hA_2 (hA.l.map aa).length)]⟩),upd (fun _=>none) 1602 (some ⟨g_hA_2,99,(hA.l.map aa),true⟩)⟩ (fun u H=>∃ gz0_2,u = (ag ((az hA).1)) ∧ H = ⟨upd (fun _=>none) 1500 (some ⟨b_hA,[(.list 3 (((((az hA).2).byF).columns).map ba)),(.list 4 (((((az hA).2).byF).descending).map aE)),(.own 1602 gz0_2 ((((az hA).2).l).map aa).length)]⟩),upd (fun _=>none) 1602 (some ⟨gz0_2,99,((((az hA).2).l).map aa),true⟩)⟩) := by
 obtain ⟨r,H⟩ : ∃ r,az hA = r := ⟨_,rfl⟩
 rw [H]
 unfold az at H
 refine PH.aD Tryz.func36 Tryz.ntmps36 ?_
 refine au 1 tk rfl (af (ah (am 3 tk rfl (iN tk rfl rfl rfl rfl rfl rfl rfl (kM tk rfl rfl rfl rfl rfl (zl _) rfl (ay tk rfl (al ?_)))))))
 subst H
 refine cq (st' := ⟨8,upd (fun _=>.any) 2 (ag (hA.l.length : Int)),upd (fun _=>none) 1500 (some ⟨b_hA,[(.list 3 (hA.byF.columns.map ba)),(.list 4 (hA.byF.descending.map aE)),(.own 1602 g_hA_2 (hA.l.map aa).length)]⟩),upd (fun _=>none) 1602 (some ⟨g_hA_2,99,(hA.l.map aa),true⟩)⟩) (Gh.le (aA aQ) (aP rfl (de.r) ap) (aC aq)) ?_
 refine fp tk rfl (ps := [(ag (hA.l.length : Int))]) ⟨_,_,rfl,rfl,rfl⟩ (PLe.q rfl) ⟨_,rfl,rfl⟩
def bq (hA : LExtsortHeads) (i : Int) (jA : Int) : Option (LExtsortHeads) :=
 ac (aL hA.l jA) fun (x21 : LExtsortHead) =>
 ac (aL hA.l i) fun (x28 : LExtsortHead) =>
 ac (aL hA.l i) fun (_ : LExtsortHead) =>
 cp (hA.l.set i.toNat x21) fun (y1 : List LExtsortHead) =>
 ac (aL y1 jA) fun (_ : LExtsortHead) =>
 cp (y1.set jA.toNat x28) fun (y2 : List LExtsortHead) =>
 some (LExtsortHeads.mk hA.byF y2)
theorem dX (b_hA : Nat) (g_hA_2 : OwnRef) (hA : LExtsortHeads) (i : Int) (jA : Int) (r : LExtsortHeads) (H : bq hA i jA = some r) :
  PH Tryz.prog 222 [(.box 1500 b_hA 0),(ag i),(ag jA)] ⟨upd (fun _=>none) 1500 (some ⟨b_hA,[(.list 3 (hA.byF.columns.map ba)),(.list 4 (hA.byF.descending.map aE)),(.own 1602 g_hA_2 (hA.l.map aa).length)]⟩),upd (fun _=>none) 1602 (some ⟨g_hA_2,99,(hA.l.map aa),true⟩)⟩ (fun u H=>∃ gz0_2,u = (.tup []) ∧ H = ⟨upd (fun _=>none) 1500 (some ⟨b_hA,[(.list 3 (r.byF.columns.map ba)),(.list 4 (r.byF.descending.map aE)),(.own 1602 gz0_2 (r.l.map aa).length)]⟩),upd (fun _=>none) 1602 (some ⟨gz0_2,99,(r.l.map aa),true⟩)⟩) := by
 unfold bq at H
 refine PH.aD Tryz.func222 Tryz.ntmps222 ?_
 refine eh (tag := 1602) rfl (fun ho1602=>?_)
 refine cA tk mok ⟨true,true,[]⟩ [0,1,2,3,4,5,6,7,8,9,10,11,12,13,14,15,16,17,18,19,20,21,22,23,24,25,26,27] rfl (by decide +kernel) rfl (aG 3 rfl (bk ?_))
 refine aG 4 rfl (bk ?_)
 refine aG 4 rfl (bk ?_)
 refine db rfl ?_
 obtain ⟨x21,k21,H⟩ := bR H
 refine aY tk ⟨k21.1,(bF k21.2)⟩ (bL ho1602 k21.2) ?_
 refine bt tk rfl rfl rfl rfl rfl rfl rfl rfl rfl (bg (fun _=>rfl) k21.2) rfl rfl ?_
 refine aG 3 rfl (bk ?_)
 refine db rfl ?_
 obtain ⟨x28,k28,H⟩ := bR H
 refine aY tk ⟨k28.1,(bF k28.2)⟩ (bL ho1602 k28.2) ?_
 refine bt tk rfl rfl rfl rfl rfl rfl rfl rfl rfl (bg (fun _=>rfl) k28.2) rfl rfl ?_
 obtain ⟨x30,k30,H⟩ := bR H
 refine aY tk ⟨k30.1,(bF k30.2)⟩ (bL ho1602 k30.2) ?_
 obtain ⟨y1,hy1,H⟩ := et H
 refine dg tk rfl rfl rfl rfl rfl rfl rfl rfl rfl (by rw [zl]; exact (zg.1 k30.2).1) (PLe.refl _ _) rfl rfl rfl rfl (by decide) (da (fun _=>rfl) k30.2 rfl hy1) ?_
 obtain ⟨x31,k31,H⟩ := bR H
 refine aY tk ⟨k31.1,(il (cn (f := aa) hy1) k31.2)⟩ (ic ho1602 (cn (f := aa) hy1) k31.2) ?_
 obtain ⟨y2,hy2,H⟩ := et H
 refine dg tk rfl rfl rfl rfl rfl rfl rfl rfl rfl (by rw [zl]; exact (zg.1 k31.2).1) (PLe.refl _ _) rfl rfl rfl rfl (by decide) (da (fun _=>rfl) k31.2 rfl hy2) ?_
 refine bM ?_
 obtain rfl := ax H
 refine cq (st' := ⟨32,fun _=>.any,upd (fun _=>none) 1500 (some ⟨b_hA,[(.list 3 ((((LExtsortHeads.mk hA.byF y2).byF).columns).map ba)),(.list 4 ((((LExtsortHeads.mk hA.byF y2).byF).descending).map aE)),(.own 1602 g_hA_2 (y2.map aa).length)]⟩),upd (fun _=>none) 1602 (some ⟨g_hA_2,99,(y2.map aa),true⟩)⟩) (Gh.le aQ (aP rfl (de.of2 (eZ.cons (PLe2.of_eq rfl) (eZ.cons (PLe2.of_eq rfl) (eZ.cons (PLe2.own ((cn (f := aa) hy1).trans (cn (f := aa) hy2))) eZ.nil)))) ap) (aC aq)) ?_
 refine dU rfl (PLe.q rfl) ⟨_,rfl,rfl⟩
def dI (hA : LExtsortHeads) : Option (LExtsortHead × LExtsortHeads) :=
 ac (aL hA.l (IntKind.i64.wrap ((hA.l.length : Int) - (1 : Int)))) fun (x14 : LExtsortHead) =>
 ac (cutI hA.l (IntKind.i64.wrap ((hA.l.length : Int) - (1 : Int)))) fun (y1 : List LExtsortHead) =>
 some (x14,(LExtsortHeads.mk hA.byF y1))
theorem jd (b_hA : Nat) (g_hA_2 : OwnRef) (hA : LExtsortHeads) (r : LExtsortHead × LExtsortHeads) (H : dI hA = some r) :
  PH Tryz.prog 220 [(.box 1500 b_hA 0)] ⟨upd (fun _=>none) 1500 (some ⟨b_hA,[(.list 3 (hA.byF.columns.map ba)),(.list 4 (hA.byF.descending.map aE)),(.own 1602 g_hA_2 (hA.l.map aa).length)]⟩),upd (fun _=>none) 1602 (some ⟨g_hA_2,99,(hA.l.map aa),true⟩)⟩ (fun u H=>∃ gz0_2,u = (.ifc 99 (.agg (aa r.1))) ∧ H = ⟨upd (fun _=>none) 1500 (some ⟨b_hA,[(.list 3 (r.2.byF.columns.map ba)),(.list 4 (r.2.byF.descending.map aE)),(.own 1602 gz0_2 (r.2.l.map aa).length)]⟩),upd (fun _=>none) 1602 (some ⟨gz0_2,99,(r.2.l.map aa),true⟩)⟩) := by
 unfold dI at H
 refine PH.aD Tryz.func220 Tryz.ntmps220 ?_
 refine au 1 tk rfl (af ?_)
 refine eh (tag := 1602) rfl (fun ho1602=>?_)
 refine cA tk mok ⟨true,true,[]⟩ [0,1,2,3,4,5,6,7,8,9,10,11,12,13] rfl (by decide +kernel) rfl (aG 3 rfl (bk ?_))
 refine aG 3 rfl (bk ?_)
 refine kI rfl rfl rfl rfl rfl rfl (zl _) rfl (db rfl ?_)
 obtain ⟨x14,k14,H⟩ := bR H
 refine aY tk ⟨k14.1,(bF k14.2)⟩ (bL ho1602 k14.2) ?_
 refine bt tk rfl rfl rfl rfl rfl rfl rfl rfl rfl (bg (fun _=>rfl) k14.2) rfl rfl ?_
 refine kU rfl rfl rfl rfl rfl rfl rfl rfl fun b3=>?_
 refine kl rfl rfl rfl rfl rfl rfl rfl rfl rfl rfl rfl rfl (bM (af ?_))
 refine V.ownC (tag := 1602) rfl (fun hc1602=>?_)
 refine cA tk mok ⟨true,false,[]⟩ [0,1,2,3,4,5,6,7,8,9,10,11,12,13,14] rfl (by decide +kernel) rfl (aG 4 rfl (bk ?_))
 refine aG 3 rfl (bk ?_)
 refine kI rfl rfl rfl rfl rfl rfl (zl _) rfl (db rfl ?_)
 obtain ⟨y1,hy1,H⟩ := ar H
 have ky1 := cutI_some hy1
 refine Do.cutV tk rfl rfl rfl rfl rfl rfl rfl rfl ky1.1 (Nat.le_trans (by rw [zl]; exact ky1.2.1) hc1602) rfl ?_
 refine aG 2 rfl (kl rfl rfl rfl rfl rfl rfl rfl rfl rfl rfl rfl rfl (bM (cq (Gh.cutO (tag := 1602) (rows' := List.map aa y1) rfl (IntKind.i64.wrap ((hA.l.length : Int) - (1 : Int))).toNat (by rw [← List.map_take,ky1.2.2])) (af (ah (iN tk rfl rfl rfl rfl rfl rfl rfl (kB tk rfl rfl rfl rfl rfl (ay tk rfl (al ?_)))))))))
 obtain rfl := ax H
 refine cq (st' := ⟨32,upd (fun _=>.any) 2 (.ifc 99 (.agg (aa x14))),upd (fun _=>none) 1500 (some ⟨b_hA,[(.list 3 ((((LExtsortHeads.mk hA.byF y1).byF).columns).map ba)),(.list 4 ((((LExtsortHeads.mk hA.byF y1).byF).descending).map aE)),(.own 1602 g_hA_2 (y1.map aa).length)]⟩),upd (fun _=>none) 1602 (some ⟨g_hA_2,99,(y1.map aa),true⟩)⟩) (Gh.le (aA aQ) (aP rfl (de.of2 (eZ.cons (PLe2.of_eq rfl) (eZ.cons (PLe2.of_eq rfl) (eZ.cons (PLe2.own (cutLen (f := aa) ky1)) eZ.nil)))) ap) (aC aq)) ?_
 refine fp tk rfl (ps := [(.ifc 99 (.agg (aa x14)))]) ⟨_,_,rfl,rfl,rfl⟩ (PLe.q rfl) ⟨_,rfl,rfl⟩
def du (hA : LExtsortHeads) (x : LExtsortHead) : Option (LExtsortHeads) :=
 ac (eF 56 hA.l ([x] : List LExtsortHead)) fun (x12 : List LExtsortHead) =>
 some (LExtsortHeads.mk hA.byF x12)
theorem iJ (b_hA : Nat) (g_hA_2 : OwnRef) (hA : LExtsortHeads) (x : LExtsortHead) (r : LExtsortHeads) (H : du hA x = some r) :
  PH Tryz.prog 221 [(.box 1500 b_hA 0),(.ifc 99 (.agg (aa x)))] ⟨upd (fun _=>none) 1500 (some ⟨b_hA,[(.list 3 (hA.byF.columns.map ba)),(.list 4 (hA.byF.descending.map aE)),(.own 1602 g_hA_2 (hA.l.map aa).length)]⟩),upd (fun _=>none) 1602 (some ⟨g_hA_2,99,(hA.l.map aa),true⟩)⟩ (fun u H=>∃ gz0_2,u = (.tup []) ∧ H = ⟨upd (fun _=>none) 1500 (some ⟨b_hA,[(.list 3 (r.byF.columns.map ba)),(.list 4 (r.byF.descending.map aE)),(.own 1602 gz0_2 (r.l.map aa).length)]⟩),upd (fun _=>none) 1602 (some ⟨gz0_2,99,(r.l.map aa),true⟩)⟩) := by
 unfold du at H
 refine PH.aD Tryz.func221 Tryz.ntmps221 ?_
 refine cA tk mok ⟨true,false,[]⟩ [0,1,2,3,4,5,6,7,8,9,10,11] rfl (by decide +kernel) rfl (aG 4 rfl (bk ?_))
 refine db rfl (Do.asI tk rfl rfl rfl rfl rfl rfl rfl (db rfl ?_))
 obtain ⟨x12,h12,H⟩ := ar H
 have k12 := er h12
 refine iS (rows2' := List.map aa ([x] : List LExtsortHead)) (rows' := List.map aa x12) tk rfl rfl rfl rfl rfl rfl rfl rfl rfl rfl rfl rfl rfl rfl (eW.refl _) (fH k12.1) (fM k12.2.1) (fK k12.2.2) fun g12=>?_
 refine aG 2 rfl (kl rfl rfl rfl rfl rfl rfl rfl rfl rfl rfl rfl rfl (bM ?_))
 obtain rfl := ax H
 refine cq (st' := ⟨15,fun _=>.any,upd (fun _=>none) 1500 (some ⟨b_hA,[(.list 3 ((((LExtsortHeads.mk hA.byF x12).byF).columns).map ba)),(.list 4 ((((LExtsortHeads.mk hA.byF x12).byF).descending).map aE)),(.own 1602 g12 (x12.map aa).length)]⟩),upd (fun _=>none) 1602 (some ⟨g12,99,(x12.map aa),true⟩)⟩) (Gh.le aQ (aP rfl (de.r) ap) (aC aq)) ?_
 refine dU rfl (PLe.q rfl) ⟨_,rfl,rfl⟩
def aO (sA : Rz) (f : Rq → Option (Bool)) : Option (Bool) :=
 ac (bK sA f) fun x7 =>
 some (decide (x7 ≥ (0 : Int)))
theorem cT {g_f : FuncId} {caps_f : List PV} (sA : Rz) (f : Rq → Option (Bool)) (hg_f : ∀ (vs : Array Value) (w : World),(callFunc g_f vs).run Tryz.prog w = .ok (.enter g_f vs) w) (hp_f : ∀ a0 r,f a0 = some r → bJ Tryz.prog g_f ((.list 48 (a0.map ab)) :: caps_f) (bw r)) (r : Bool) (H : aO sA f = some r) :
  bJ Tryz.prog 20 [(.list 51 (sA.map (ae 48 ab))),(.fn g_f caps_f)] (bw r) := by
 unfold aO at H
 refine PH.aD Tryz.func20 Tryz.ntmps20 ?_
 refine au 1 tk rfl (af (ah (am 2 tk rfl ?_)))
 obtain ⟨x7,h7,H⟩ := ar H
 have s7 := eB sA f hg_f hp_f _ h7
 refine bT Tryz.call39 (de.r) s7 ?_
 refine am 2 tk rfl (al ?_)
 exact cI tk H rfl
def aZ (data : Rz) (a : Int) (m : Int) (b : Int) (cmp : Rq → Rq → Option (Int)) : Option (Rz) :=
 ac (co (σ := Rz × Int × Int) (ρ := Empty) (fun (s1 : Rz × Int × Int) =>
  cond (s1.2.1 != s1.2.2)
   (cond (decide (s1.2.1 > s1.2.2))
    (ac (aJ s1.1 (IntKind.i64.wrap (m - s1.2.1)) m s1.2.2 cmp) fun x31 =>
    ac (cG (x31.length = s1.1.length) ()) fun (_ : Unit) =>
    some (.next (x31,(IntKind.i64.wrap (s1.2.1 - s1.2.2)),s1.2.2)))
    (ac (aJ s1.1 (IntKind.i64.wrap (m - s1.2.1)) (IntKind.i64.wrap ((IntKind.i64.wrap (m + s1.2.2)) - s1.2.1)) s1.2.1 cmp) fun x46 =>
    ac (cG (x46.length = s1.1.length) ()) fun (_ : Unit) =>
    some (.next (x46,s1.2.1,(IntKind.i64.wrap (s1.2.2 - s1.2.1))))))
   (some (.brk (s1.1,s1.2.1,s1.2.2)))) (data,(IntKind.i64.wrap (m - a)),(IntKind.i64.wrap (b - m)))) fun fl1=>fl1.thenP fun (s1 : Rz × Int × Int) =>
 ac (aJ s1.1 (IntKind.i64.wrap (m - s1.2.1)) m s1.2.1 cmp) fun x57 =>
 ac (cG (x57.length = s1.1.length) ()) fun (_ : Unit) =>
 some x57
theorem fu (g_data : OwnRef) {g_cmp : FuncId} {caps_cmp : List PV} (data : Rz) (a : Int) (m : Int) (b : Int) (cmp : Rq → Rq → Option (Int)) (hg_cmp : ∀ (vs : Array Value) (w : World),(callFunc g_cmp vs).run Tryz.prog w = .ok (.enter g_cmp vs) w) (hp_cmp : ∀ a0 a1 r,cmp a0 a1 = some r → bJ Tryz.prog g_cmp ((.list 48 (a0.map ab)) :: (.list 48 (a1.map ab)) :: caps_cmp) (ag r)) (r : Rz) (H : aZ data a m b cmp = some r) :
  PH Tryz.prog 92 [(.own 0 g_data (data.map (ae 48 ab)).length),(ag a),(ag m),(ag b),(.fn g_cmp caps_cmp)] ⟨fun _=>none,upd (fun _=>none) 0 (some ⟨g_data,51,(data.map (ae 48 ab)),true⟩)⟩ (fun u H=>u = (.tup []) ∧ H = ⟨fun _=>none,upd (fun _=>none) 0 (some ⟨g_data,51,(r.map (ae 48 ab)),true⟩)⟩) := by
 unfold aZ at H
 refine PH.aD Tryz.func92 Tryz.ntmps92 ?_
 refine au 4 tk rfl (au 4 tk rfl (af ?_))
 obtain ⟨fl1,H1,Hp1⟩ := ar H
 refine dv (τ := Rz × Int × Int) (γ := Unit) (fun s1 g1=>⟨58,upd (upd (upd (upd (fun _=>.any) 10 (ag s1.2.1)) 4 (.fn g_cmp caps_cmp)) 2 (ag m)) 0 (.own 0 g_data (s1.1.map (ae 48 ab)).length),fun _=>none,upd (fun _=>none) 0 (some ⟨g_data,51,(s1.1.map (ae 48 ab)),true⟩)⟩) (fun t=>fl1 = .next t) ?_ (fun s1 g1 hn1=>?_)
 ·refine aF ?_
  refine cu (fun s1 g1=>⟨58,upd (upd (upd (upd (upd (fun _=>.any) 11 (ag s1.2.2)) 10 (ag s1.2.1)) 4 (.fn g_cmp caps_cmp)) 2 (ag m)) 0 (.own 0 g_data (s1.1.map (ae 48 ab)).length),fun _=>none,upd (fun _=>none) 0 (some ⟨g_data,51,(s1.1.map (ae 48 ab)),true⟩)⟩) () H1 Gh.d (fun m1 s1 g1 hr1=>?_)
  obtain ⟨fb1,H,hg1⟩ := bN hr1
  refine af (au 3 tk rfl ?_)
  refine bm rfl H (fun H=>?_) (fun H=>?_)
  ·refine aH (aF (au 3 tk rfl ?_))
   refine bm rfl H (fun H=>?_) (fun H=>?_)
   ·refine af (ah (am 7 tk rfl ?_))
    obtain ⟨x31,h31,H⟩ := ar H
    have s31 := cz g_data s1.1 (IntKind.i64.wrap (m - s1.2.1)) m s1.2.2 cmp hg_cmp hp_cmp _ h31
    obtain ⟨_,q31_0,H⟩ := ar H
    have l31_0 := (bS q31_0).1
    have z31_0 : (List.map (ae 48 ab) s1.1).length = (List.map (ae 48 ab) x31).length := by simpa using (l31_0).symm
    refine ce (g := 126) rfl rfl rfl Tryz.call126 [] [(0,0)] rfl rfl rfl rfl (de.of2 (eZ.cons (PLe2.own rfl) (eZ.cons (PLe2.of_eq rfl) (eZ.cons (PLe2.of_eq rfl) (eZ.cons (PLe2.of_eq rfl) (eZ.cons (PLe2.of_eq rfl) eZ.nil)))))) (by rw [aW,aM,aV]; rfl) s31 ?_
    rintro u31 H31h ⟨rfl,rfl⟩
    refine ⟨_,rfl,?_⟩
    refine bQ (st' := ⟨_,_,fun _=>none,upd (fun _=>none) 0 (some ⟨g_data,51,(x31.map (ae 48 ab)),true⟩)⟩) (Gh.le (aU _ _) ap (aC aq)) ?_
    refine al (bW 4 tk rfl (bA ?_))
    obtain rfl := ax H
    refine bs (x31,(IntKind.i64.wrap (s1.2.1 - s1.2.2)),s1.2.2) () hg1 (Gh.le (cf (PLe.of2 (PLe2.of_eq (congrArg (PV.own 0 g_data) z31_0))) (aA (aA (aA (aA aQ))))) ap (aC aq))
   refine af (ah (am 11 tk rfl ?_))
   obtain ⟨x46,h46,H⟩ := ar H
   have s46 := cz g_data s1.1 (IntKind.i64.wrap (m - s1.2.1)) (IntKind.i64.wrap ((IntKind.i64.wrap (m + s1.2.2)) - s1.2.1)) s1.2.1 cmp hg_cmp hp_cmp _ h46
   obtain ⟨_,q46_0,H⟩ := ar H
   have l46_0 := (bS q46_0).1
   have z46_0 : (List.map (ae 48 ab) s1.1).length = (List.map (ae 48 ab) x46).length := by simpa using (l46_0).symm
   refine ce (g := 126) rfl rfl rfl Tryz.call126 [] [(0,0)] rfl rfl rfl rfl (de.of2 (eZ.cons (PLe2.own rfl) (eZ.cons (PLe2.of_eq rfl) (eZ.cons (PLe2.of_eq rfl) (eZ.cons (PLe2.of_eq rfl) (eZ.cons (PLe2.of_eq rfl) eZ.nil)))))) (by rw [aW,aM,aV]; rfl) s46 ?_
   rintro u46 H46h ⟨rfl,rfl⟩
   refine ⟨_,rfl,?_⟩
   refine bQ (st' := ⟨_,_,fun _=>none,upd (fun _=>none) 0 (some ⟨g_data,51,(x46.map (ae 48 ab)),true⟩)⟩) (Gh.le (aU _ _) ap (aC aq)) ?_
   refine al (bW 4 tk rfl (bA ?_))
   obtain rfl := ax H
   refine bs (x46,s1.2.1,(IntKind.i64.wrap (s1.2.2 - s1.2.1))) () hg1 (Gh.le (cf (PLe.of2 (PLe2.of_eq (congrArg (PV.own 0 g_data) z46_0))) (aA (aA (aA (aA aQ))))) ap (aC aq))
  refine cB rfl ?_
  obtain rfl := ax H
  refine bD (s1.1,s1.2.1,s1.2.2) () hg1 Gh.d
 have H := bB hn1 Hp1
 refine ah (am 7 tk rfl ?_)
 obtain ⟨x57,h57,H⟩ := ar H
 have s57 := cz g_data s1.1 (IntKind.i64.wrap (m - s1.2.1)) m s1.2.1 cmp hg_cmp hp_cmp _ h57
 obtain ⟨_,q57_0,H⟩ := ar H
 have l57_0 := (bS q57_0).1
 have z57_0 : (List.map (ae 48 ab) s1.1).length = (List.map (ae 48 ab) x57).length := by simpa using (l57_0).symm
 refine ce (g := 126) rfl rfl rfl Tryz.call126 [] [(0,0)] rfl rfl rfl rfl (de.of2 (eZ.cons (PLe2.own rfl) (eZ.cons (PLe2.of_eq rfl) (eZ.cons (PLe2.of_eq rfl) (eZ.cons (PLe2.of_eq rfl) (eZ.cons (PLe2.of_eq rfl) eZ.nil)))))) (by rw [aW,aM,aV]; rfl) s57 ?_
 rintro u57 H57h ⟨rfl,rfl⟩
 refine ⟨_,rfl,?_⟩
 refine bQ (st' := ⟨_,_,fun _=>none,upd (fun _=>none) 0 (some ⟨g_data,51,(x57.map (ae 48 ab)),true⟩)⟩) (Gh.le (aU _ _) ap (aC aq)) ?_
 refine al ?_
 obtain rfl := ax H
 refine cq (st' := ⟨58,fun _=>.any,fun _=>none,upd (fun _=>none) 0 (some ⟨g_data,51,(x57.map (ae 48 ab)),true⟩)⟩) (Gh.le aQ ap (aC aq)) ?_
 refine dU rfl (PLe.q rfl) ⟨rfl,rfl⟩
def cU (a : Rq) (b : Rq) (downs : List Bool) : Option (Int) :=
 ac (aX (σ := Unit) (ρ := (Int)) (fun (j1 : Nat) (x1 : LVal) (_ : Unit) =>
  ac (
   cond (decide ((j1 : Int) ≥ (b.length : Int)))
    (some true)
    (ac (aL b (j1 : Int)) fun (x25 : LVal) =>
    some (x1.kind == x25.kind && (x1.int == x25.int && (x1.text == x25.text && true))))) fun (t3 : Bool) =>
  cond t3
   (some (.next ()))
   (ac (aL b (j1 : Int)) fun (x35 : LVal) =>
   cp (em x1 x35) fun x37 =>
   cond (decide ((j1 : Int) < (downs.length : Int)))
    (ac (aL downs (j1 : Int)) fun (x45 : Bool) =>
    cond x45
     (cond (!x37)
      (some (.ret (-1)))
      (some (.ret 1)))
     (cond x37
      (some (.ret (-1)))
      (some (.ret 1))))
    (cond x37
     (some (.ret (-1)))
     (some (.ret 1))))) 0 a ()) fun fl1=>fl1.thenR fun (_ : Unit) =>
 some 0
theorem jb (a : Rq) (b : Rq) (downs : List Bool) (r : Int) (H : cU a b downs = some r) :
  bJ Tryz.prog 43 [(.list 48 (a.map ab)),(.list 48 (b.map ab)),(.list 4 (downs.map aE))] (ag r) := by
 unfold cU at H
 refine PH.aD Tryz.func43 Tryz.ntmps43 ?_
 refine au 1 tk rfl (af (af (ah (ay tk rfl (bh tk (zl _) ?_)))))
 refine ay tk rfl (al ?_)
 refine kp tk 11 10 0 (fun s1 g1=>upd (upd (fun _=>.any) 2 (.list 4 (downs.map aE))) 1 (.list 48 (b.map ab))) nB nO () H (fun fl1 Hp1 j1 s1 g1 hz1 hl1 x1 fb1 hx1 H hg1=>?_) (fun s1 g1 H=>?_)
 ·refine af (aF (au 2 tk rfl (af (af ?_))))
  refine jm (γ := Unit) (fun t3 g3=>⟨52,upd (upd (upd (upd (upd (upd (upd (fun _=>.any) 28 (bw t3)) 11 (ag (j1 : Int))) 10 (ag (a.length : Int))) 7 (ag (j1 : Int))) 2 (.list 4 (downs.map aE))) 1 (.list 48 (b.map ab))) 0 (.list 48 (a.map ab)),fun _=>none,fun _=>none⟩) H (fun _ H=>?_) (fun t3 g3 H=>?_)
  ·refine cA tk mok ⟨false,false,[]⟩ [0,1,2,3,4,5,6,7,8,9,10,11,12,13,14] rfl (by decide +kernel) rfl (aG 2 rfl (ku rfl rfl rfl rfl rfl rfl (zl _) rfl (aG 2 rfl ?_)))
   refine kw rfl rfl rfl rfl H (fun H=>?_) (fun H=>?_)
   ·refine aG 10 rfl (bM ?_)
    refine bD _ () (ax H) Gh.d
   refine aG 2 rfl ?_
   refine eY (zn j1) (dV (fun _=>rfl) hx1) ?_
   refine aG 3 rfl ?_
   obtain ⟨x25,k25,H⟩ := bR H
   refine eY k25.1 (bg (fun _=>rfl) k25.2) ?_
   refine aG 3 rfl (bM ?_)
   refine bD _ () (ax H) Gh.d
  refine bm rfl H (fun H=>?_) (fun H=>?_)
  ·refine cB rfl (bW 2 tk rfl ?_)
   exact eQ () H hl1 hg1
  refine aH (af (cA tk mok ⟨false,false,[]⟩ [0,1,2,3,4,5,6,7,8,9] rfl (by decide +kernel) rfl (aG 2 rfl ?_)))
  refine eY (zn j1) (dV (fun _=>rfl) hx1) ?_
  refine aG 3 rfl ?_
  obtain ⟨x35,k35,H⟩ := bR H
  refine eY k35.1 (bg (fun _=>rfl) k35.2) ?_
  refine db rfl ?_
  obtain ⟨x37,h37,H⟩ := et H
  have s37 := W_expr_Less x1 x35
  rw [h37] at s37
  refine cQ Tryz.call60 (de.r) s37 ?_
  refine db rfl (bM (af (af (ah (am 2 tk rfl (bh tk (zl _) ?_))))))
  refine am 2 tk rfl ?_
  refine ee rfl rfl rfl H (fun H=>?_) (fun H=>?_)
  ·refine am 2 tk rfl ?_
   obtain ⟨x45,k45,H⟩ := bR H
   refine dQ tk k45.1 (bg (fun _=>rfl) k45.2) ?_
   refine am 2 tk rfl (al ?_)
   refine bm rfl H (fun H=>?_) (fun H=>?_)
   ·refine bW 3 tk rfl (af (au 1 tk rfl ?_))
    refine bm rfl H (fun H=>?_) (fun H=>?_)
    ·refine au 1 tk rfl ?_
     obtain rfl := ax H
     have e1 : fl1 = .ret _ := hg1
     subst e1
     obtain rfl := dc Hp1
     refine dr tk rfl (ps := [(ag (-1))]) ⟨_,_,rfl,rfl,rfl⟩ (PLe.q rfl)
    refine aH (au 1 tk rfl ?_)
    obtain rfl := ax H
    have e1 : fl1 = .ret _ := hg1
    subst e1
    obtain rfl := dc Hp1
    refine dr tk rfl (ps := [(ag 1)]) ⟨_,_,rfl,rfl,rfl⟩ (PLe.q rfl)
   refine aH (af (au 1 tk rfl ?_))
   refine bm rfl H (fun H=>?_) (fun H=>?_)
   ·refine au 1 tk rfl ?_
    obtain rfl := ax H
    have e1 : fl1 = .ret _ := hg1
    subst e1
    obtain rfl := dc Hp1
    refine dr tk rfl (ps := [(ag (-1))]) ⟨_,_,rfl,rfl,rfl⟩ (PLe.q rfl)
   refine aH (au 1 tk rfl ?_)
   obtain rfl := ax H
   have e1 : fl1 = .ret _ := hg1
   subst e1
   obtain rfl := dc Hp1
   refine dr tk rfl (ps := [(ag 1)]) ⟨_,_,rfl,rfl,rfl⟩ (PLe.q rfl)
  refine am 5 tk rfl (al (jL rfl (aH (af (au 1 tk rfl ?_)))))
  refine bm rfl H (fun H=>?_) (fun H=>?_)
  ·refine au 1 tk rfl ?_
   obtain rfl := ax H
   have e1 : fl1 = .ret _ := hg1
   subst e1
   obtain rfl := dc Hp1
   refine dr tk rfl (ps := [(ag (-1))]) ⟨_,_,rfl,rfl,rfl⟩ (PLe.q rfl)
  refine aH (au 1 tk rfl ?_)
  obtain rfl := ax H
  have e1 : fl1 = .ret _ := hg1
  subst e1
  obtain rfl := dc Hp1
  refine dr tk rfl (ps := [(ag 1)]) ⟨_,_,rfl,rfl,rfl⟩ (PLe.q rfl)
 refine au 1 tk rfl ?_
 exact cI tk H rfl
def ca (x : Rq) (y : Rq) : Option (Bool) :=
 ac (aS x y) fun x7 =>
 some x7
theorem ib (x : Rq) (y : Rq) (r : Bool) (H : ca x y = some r) :
  bJ Tryz.prog 17 [(.list 48 (x.map ab)),(.list 48 (y.map ab))] (bw r) := by
 unfold ca at H
 refine PH.aD Tryz.func17 Tryz.ntmps17 ?_
 refine au 1 tk rfl (af (ah (am 2 tk rfl ?_)))
 obtain ⟨x7,h7,H⟩ := ar H
 have s7 := dF x y _ h7
 refine bT Tryz.call18 (de.r) s7 ?_
 refine ay tk rfl (al ?_)
 exact cI tk H rfl
def cb (l : Rz) (x : Rq) : Option (Int) :=
 ac (aX (σ := Int) (ρ := Empty) (fun (_ : Nat) (x1 : Rq) (s1 : Int) =>
  ac (aS x1 x) fun x16 =>
  cond x16
   (some (.next (IntKind.i64.wrap (s1 + (1 : Int)))))
   (some (.next s1))) 0 l 0) fun fl1=>fl1.thenP fun (s1 : Int) =>
 some s1
theorem eJ (l : Rz) (x : Rq) (r : Int) (H : cb l x = some r) :
  bJ Tryz.prog 19 [(.list 51 (l.map (ae 48 ab))),(.list 48 (x.map ab))] (ag r) := by
 unfold cb at H
 refine PH.aD Tryz.func19 Tryz.ntmps19 ?_
 refine au 1 tk rfl (au 1 tk rfl (af (af (ah (ay tk rfl (bh tk (zl _) ?_))))))
 refine ay tk rfl (al ?_)
 refine ke tk 10 9 8 (fun s1 g1=>upd (upd (fun _=>.any) 5 (ag s1)) 1 (.list 48 (x.map ab))) nB nO () H (fun fl1 Hp1 j1 s1 g1 hz1 hl1 x1 fb1 hx1 H hg1=>?_) (fun s1 g1 H=>?_)
 ·refine af (aF (af (ah ?_)))
  refine dQ tk (zn j1) (dV (fun _=>rfl) hx1) ?_
  refine am 2 tk rfl (al (af (ah (am 2 tk rfl ?_))))
  obtain ⟨x16,h16,H⟩ := ar H
  have s16 := dF x1 x _ h16
  refine bT Tryz.call18 (de.r) s16 ?_
  refine al ?_
  refine bm rfl H (fun H=>?_) (fun H=>?_)
  ·refine bW 3 tk rfl (bA (bW 2 tk rfl ?_))
   exact eQ () H hl1 hg1
  refine aH (bA (bW 2 tk rfl ?_))
  exact eQ () H hl1 hg1
 refine au 2 tk rfl ?_
 exact cI tk H rfl
def bI (l : Rz) (byA : LExtsortOrdering) (memory : Int) : Option (Int) :=
 cond (decide ((l.length : Int) > (600 : Int)))
  (some 2)
  (cp (
   cond (decide (memory < (2 : Int)))
    (true)
    ((decide (memory > (64 : Int))))) fun (t1 : Bool) =>
  cond t1
   (some 1)
   (cond (decide ((byA.descending.length : Int) > (byA.columns.length : Int)))
    (some 3)
    (ac (aX (σ := Unit) (ρ := (Int)) (fun (_ : Nat) (x2 : Int) (_ : Unit) =>
     cond (decide (x2 < (0 : Int)))
      (some (.ret 3))
      (ac (aO l (fun a0=>some (bp a0 x2))) fun x37 =>
      cond x37
       (some (.ret 3))
       (some (.next ())))) 0 byA.columns ()) fun fl2=>fl2.thenR fun (_ : Unit) =>
    some 0)))
theorem jp (l : Rz) (byA : LExtsortOrdering) (memory : Int) (r : Int) (H : bI l byA memory = some r) :
  bJ Tryz.prog 22 [(.list 51 (l.map (ae 48 ab))),(.agg (aN byA)),(ag memory)] (ag r) := by
 unfold bI at H
 refine PH.aD Tryz.func22 Tryz.ntmps22 ?_
 refine af (ah (cD ?_))
 refine ay tk rfl (al (af (af (ah (ay tk rfl (bh tk (zl _) ?_))))))
 refine ay tk rfl (al ?_)
 refine bm rfl H (fun H=>?_) (fun H=>?_)
 ·refine au 1 tk rfl ?_
  exact cI tk H rfl
 refine aH (af (af ?_))
 refine fT (γ := Unit) (fun t1 g1=>⟨40,upd (upd (upd (fun _=>.any) 17 (bw t1)) 4 (.ptr (aN byA))) 0 (.list 51 (l.map (ae 48 ab))),fun _=>none,fun _=>none⟩) H (fun _ H=>?_) (fun t1 g1 H=>?_)
 ·refine ah (am 3 tk rfl ?_)
  refine ee rfl rfl rfl H (fun H=>?_) (fun H=>?_)
  ·refine am 3 tk rfl (al ?_)
   refine bD _ () H Gh.d
  refine am 3 tk rfl (al ?_)
  refine bD _ () H Gh.d
 refine bm rfl H (fun H=>?_) (fun H=>?_)
 ·refine au 1 tk rfl ?_
  exact cI tk H rfl
 refine aH (af (af (ah (am 2 tk rfl (bh tk (zl _) ?_)))))
 refine am 2 tk rfl (bh tk (zl _) ?_)
 refine ay tk rfl (al ?_)
 refine bm rfl H (fun H=>?_) (fun H=>?_)
 ·refine au 1 tk rfl ?_
  exact cI tk H rfl
 refine aH (af (af (ah (am 2 tk rfl (bh tk (zl _) ?_)))))
 refine ay tk rfl (al ?_)
 refine kp tk 28 27 26 (fun s2 g2=>upd (fun _=>.any) 0 (.list 51 (l.map (ae 48 ab)))) nB nO () H (fun fl2 Hp2 j2 s2 g2 hz2 hl2 x2 fb2 hx2 H hg2=>?_) (fun s2 g2 H=>?_)
 ·refine af (aF (af (ah ?_)))
  refine dQ tk (zn j2) (dV (fun _=>rfl) hx2) ?_
  refine ay tk rfl ?_
  refine gG tk rfl rfl rfl rfl rfl rfl fun b8=>?_
  refine kx tk rfl rfl rfl rfl rfl rfl rfl rfl rfl rfl rfl (al (af (kv 8 rfl rfl rfl rfl (ah (am 3 tk rfl ?_)))))
  refine ee rfl rfl rfl H (fun H=>?_) (fun H=>?_)
  ·refine am 4 tk rfl (al (kK rfl (au 1 tk rfl ?_)))
   obtain rfl := ax H
   have e2 : fl2 = .ret _ := hg2
   subst e2
   obtain rfl := dc Hp2
   refine dr tk rfl (ps := [(ag 3)]) ⟨_,_,rfl,rfl,rfl⟩ (PLe.q rfl)
  refine am 2 tk rfl ?_
  obtain ⟨x37,h37,H⟩ := ar H
  have s37 := cT l (fun a0=>some (bp a0 x2)) Tryz.call40 (fun a0 r h=>(ax h) ▸ iD a0 x2) _ h37
  refine bT Tryz.call20 (de.r) s37 ?_
  refine ay tk rfl (al ?_)
  refine bm rfl H (fun H=>?_) (fun H=>?_)
  ·refine au 1 tk rfl ?_
   obtain rfl := ax H
   have e2 : fl2 = .ret _ := hg2
   subst e2
   obtain rfl := dc Hp2
   refine dr tk rfl (ps := [(ag 3)]) ⟨_,_,rfl,rfl,rfl⟩ (PLe.q rfl)
  refine aH (bA (bW 2 tk rfl ?_))
  exact eQ () H hl2 hg2
 refine au 1 tk rfl ?_
 exact cI tk H rfl
end
end Go.Proofs.YtnnieenoapkefaaGreatDoor
