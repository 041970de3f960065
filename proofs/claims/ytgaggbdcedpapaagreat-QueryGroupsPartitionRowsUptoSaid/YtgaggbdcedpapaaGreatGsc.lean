/- queryGroupsPartitionRowsUpto_holds, part 3: the layer, the plain functions and what they compute; conditions as in the statement. -/
import Derived.Test.YtgaggbdcedpapaaGreatGsb
namespace Go.Proofs.YtgaggbdcedpapaaGreat
noncomputable section
open Go Go.Ab
set_option maxRecDepth 4000
def dZ (x : LVal) (k : Int) (nl : Bool) : Prop := dA x = true ∧ (x.kind = k ∨ x.kind = 0) ∧ (x.kind = 0 → nl = true)
theorem valid_kind {x : LVal} (h : dA x = true) : x.kind = 0 ∨ x.kind = 1 ∨ x.kind = 2 ∨ x.kind = 3 := by
 unfold dA at h
 by_cases h0 : x.kind = 0
 ·exact .inl h0
 ·by_cases h1 : x.kind = 1
  ·exact .inr (.inl h1)
  ·by_cases h2 : x.kind = 2
   ·exact .inr (.inr (.inl h2))
   ·by_cases h3 : x.kind = 3
    ·exact .inr (.inr (.inr h3))
    ·simp [h0,h1,h2,h3] at h
theorem fF {k : Int} {nl : Bool} (h : nl = true) : dZ .nul k nl := ⟨rfl,.inr rfl,fun _=>h⟩
theorem kO (b : Bool) (nl : Bool) : dZ (jX b) 2 nl := by
 cases b <;> exact ⟨rfl,.inl rfl,fun h=>by simp [jX] at h⟩
theorem fits_int (n : Int) : dZ (intV n) 1 true := by
 unfold intV
 split
 ·exact fF rfl
 ·refine ⟨?_,.inl rfl,fun _=>rfl⟩
  simp [dA]
  omega
theorem fits_number (op : List UInt8) (a b : Int) : dZ (lw op a b) 1 true := by
 unfold lw
 repeat' split
 all_goals first | exact fits_int _ | exact fF rfl
structure EnvOk (cols vars : List LCol) (v : LEnv) : Prop where
 hcols : v.cols = cols
 len : v.row.length = cols.length
 row : ∀ (i : Nat) (c : LCol) (x : LVal),cols[i]? = some c → v.row[i]? = some x → dZ x c.kind c.nullable
 params : ∀ x ∈ v.params,dA x = true
 names : v.vnames = vars.map LCol.name
 vlen : v.vvals.length = vars.length
 vals : ∀ (i : Nat) (c : LCol) (x : LVal),vars[i]? = some c → v.vvals[i]? = some x → dZ x c.kind c.nullable
theorem idxOf_map {α β : Type} (g : α → β) (p : β → Bool) (q : α → Bool) (h : ∀ a,p (g a) = q a) (l : List α) : aK p (l.map g) = aK q l := by
 have : (l.map g).findIdx? p = l.findIdx? q := by
  induction l with
  | nil=>rfl
  | cons a l ih=>simp [List.findIdx?_cons,h,ih]
 simp [aK,this]
theorem lC {α : Type} {p : α → Bool} {l : List α} (h : 0 ≤ aK p l) : (aK p l).toNat < l.length := by
 have := idxOf_lt (p := p) (l := l)
 omega
theorem find_some {l : List LCol} {name : List UInt8} (h : (iG l name).2 = true) : 0 ≤ aK (fun c : LCol=>c.name == name) l ∧ l[(aK (fun c : LCol=>c.name == name) l).toNat]? = some (iG l name).1 := by
 unfold iG at h ⊢
 by_cases hi : aK (fun c : LCol=>c.name == name) l < 0
 ·simp [hi] at h
 ·have hlt := lC (p := fun c : LCol=>c.name == name) (l := l) (by omega)
  simp only [hi,if_false]
  refine ⟨by omega,?_⟩
  simp [hlt]
theorem oH {l : List LCol} {vals : List LVal} {name : List UInt8} (hlen : vals.length = l.length) (hv : ∀ (i : Nat) (c : LCol) (x : LVal),l[i]? = some c → vals[i]? = some x → dZ x c.kind c.nullable) (h : (iG l name).2 = true) :
  0 ≤ aK (fun c : LCol=>c.name == name) l ∧ aK (fun c : LCol=>c.name == name) l < vals.length ∧ dZ (vals.getD (aK (fun c : LCol=>c.name == name) l).toNat .nul) (iG l name).1.kind (iG l name).1.nullable := by
 obtain ⟨h0,h1⟩ := find_some h
 have hlt := lC h0
 have hlt' : (aK (fun c : LCol=>c.name == name) l).toNat < vals.length := by omega
 refine ⟨h0,by omega,?_⟩
 have := hv _ _ vals[(aK (fun c : LCol=>c.name == name) l).toNat] h1 (List.getElem?_eq_getElem hlt')
 simpa [hlt'] using this
theorem arity_name {name : List UInt8} {a : Nat} (h : bs name = some a) : name ∈ cp := by
 unfold bs at h
 simp only [cp,List.mem_cons,List.mem_nil_iff,or_false]
 split at h
 ·rename_i h1
  simp only [Bool.or_eq_true,beq_iff_eq] at h1
  rcases h1 with (((((((h1 | h1) | h1) | h1) | h1) | h1) | h1) | h1) | h1 <;> simp [h1]
 ·split at h
  ·rename_i h1
   simp only [Bool.or_eq_true,beq_iff_eq] at h1
   rcases h1 with (h1 | h1) | h1 <;> simp [h1]
  ·split at h
   ·rename_i h1
    simp only [beq_iff_eq] at h1
    simp [h1]
   ·cases h
theorem fits_both {a b : LVal} {ka kb : Int} {na nb : Bool} (d : Int) (hd : d = 0 ∨ d = 1) (ha : dZ a ka na) (hb : dZ b kb nb) (h1 : ka = 2 ∨ ka = 0) (h2 : kb = 2 ∨ kb = 0) : dZ (bothV a b d) 2 (na || nb) := by
 obtain ⟨va,ka',na'⟩ := ha
 obtain ⟨vb,kb',nb'⟩ := hb
 have bool2 : ∀ {x : LVal},dA x = true → x.kind = 2 → x.int = 0 ∨ x.int = 1 := by
  intro x hx hk
  simp [dA,hk] at hx
  exact hx.2
 have w1 : wr (1 - d) = 1 - d := by rcases hd with rfl | rfl <;> rfl
 unfold bothV
 split
 ·exact kO _ _
 ·rename_i hn
  split
  ·exact kO _ _
  ·rename_i hm
   apply fF
   by_cases ha0 : a.kind = 0
   ·simp [na' ha0]
   ·by_cases hb0 : b.kind = 0
    ·simp [nb' hb0]
    ·exfalso
     have a2 : a.kind = 2 := by omega
     have b2 : b.kind = 2 := by omega
     have ia := bool2 va a2
     have ib := bool2 vb b2
     simp [a2,b2,w1] at hn hm
     omega
theorem op_sound {name : List UInt8} {xs : List LVal} {ks : List KR} (hlen : xs.length = ks.length) (hok : ∀ (i : Nat) (x : LVal) (r : KR),xs[i]? = some x → ks[i]? = some r → dZ x r.1 r.2.1) (har : bs name = some ks.length)
  (ht : (cV name (ks.map (·.1)) (ks.any (·.2.1))).2.2 = 0) : dZ (bh name xs) (cV name (ks.map (·.1)) (ks.any (·.2.1))).1 (cV name (ks.map (·.1)) (ks.any (·.2.1))).2.1 := by
 have hn := arity_name har
 have ty0 : ∀ {k : Int} {nl ok : Bool},(iN k nl ok).2.2 = 0 → ok = true ∧ iN k nl ok = (k,nl,0) := by
  intro k nl ok h
  cases ok
  ·simp [iN] at h
  ·exact ⟨rfl,rfl⟩
 have all2 : ∀ {w : Int} {a b : Int},lb w [a,b] = true → (a = w ∨ a = 0) ∧ (b = w ∨ b = 0) := by
  intro w a b h
  simp [lb] at h
  omega
 have all1 : ∀ {w : Int} {a : Int},lb w [a] = true → (a = w ∨ a = 0) := by
  intro w a h
  simp [lb] at h
  omega
 simp only [cp,List.mem_cons,List.mem_nil_iff,or_false] at hn
 rcases hn with rfl | rfl | rfl | rfl | rfl | rfl | rfl | rfl | rfl | rfl | rfl | rfl | rfl
 case inl | inr.inl | inr.inr.inl =>
  all_goals
   have h2 : ks.length = 2 := (Option.some.inj har).symm
   obtain ⟨r,s,rfl⟩ := fK h2
   obtain ⟨a,b,rfl⟩ := fK (hlen.trans h2)
   simp [cV] at ht ⊢
   obtain ⟨_,e⟩ := ty0 ht
   rw [e]
   simp [bh,bs,gF]
   repeat' split
   all_goals first | exact fits_number _ _ _ | exact fF rfl
 case inr.inr.inr.inl | inr.inr.inr.inr.inl | inr.inr.inr.inr.inr.inl =>
  all_goals
   have h2 : ks.length = 2 := (Option.some.inj har).symm
   obtain ⟨r,s,rfl⟩ := fK h2
   obtain ⟨a,b,rfl⟩ := fK (hlen.trans h2)
   have fa := hok 0 a r rfl rfl
   have fb := hok 1 b s rfl rfl
   simp [cV] at ht ⊢
   obtain ⟨_,e⟩ := ty0 ht
   rw [e]
   simp [bh,bs,gF]
   split
   ·rename_i h0
    apply fF
    rcases h0 with h0 | h0
    ·simp [fa.2.2 h0]
    ·simp [fb.2.2 h0]
   ·exact kO _ _
 case inr.inr.inr.inr.inr.inr.inl | inr.inr.inr.inr.inr.inr.inr.inl =>
  all_goals
   have h2 : ks.length = 2 := (Option.some.inj har).symm
   obtain ⟨r,s,rfl⟩ := fK h2
   obtain ⟨a,b,rfl⟩ := fK (hlen.trans h2)
   have fa := hok 0 a r rfl rfl
   have fb := hok 1 b s rfl rfl
   simp [cV] at ht ⊢
   obtain ⟨hal,e⟩ := ty0 ht
   rw [e]
   obtain ⟨h3,h4⟩ := all2 hal
   simp [bh,bs]
   exact fits_both _ (by omega) fa fb h3 h4
 case inr.inr.inr.inr.inr.inr.inr.inr.inl =>
  have h2 : ks.length = 1 := (Option.some.inj har).symm
  obtain ⟨r,rfl⟩ := List.length_eq_one_iff.1 h2
  obtain ⟨a,rfl⟩ := List.length_eq_one_iff.1 (hlen.trans h2)
  have fa := hok 0 a r rfl rfl
  simp [cV] at ht ⊢
  obtain ⟨hal,e⟩ := ty0 ht
  rw [e]
  have h3 := all1 hal
  simp [bh,bs,gF,gp]
  split
  ·rename_i h0; exact fF (fa.2.2 h0)
  ·rename_i h0
   have : a.kind = 2 := by have := fa.2.1; omega
   rw [if_pos this]
   exact kO _ _
 case inr.inr.inr.inr.inr.inr.inr.inr.inr.inl =>
  have h2 : ks.length = 2 := (Option.some.inj har).symm
  obtain ⟨r,s,rfl⟩ := fK h2
  obtain ⟨a,b,rfl⟩ := fK (hlen.trans h2)
  simp [cV] at ht ⊢
  obtain ⟨_,e⟩ := ty0 ht
  rw [e]
  simp [bh,bs,gF]
  repeat' split
  all_goals first | exact fF rfl | skip
  rename_i h3
  refine ⟨?_,.inl rfl,fun h=>by simp at h⟩
  simp [dA]
  omega
 case inr.inr.inr.inr.inr.inr.inr.inr.inr.inr.inl =>
  have h2 : ks.length = 1 := (Option.some.inj har).symm
  obtain ⟨r,rfl⟩ := List.length_eq_one_iff.1 h2
  obtain ⟨a,rfl⟩ := List.length_eq_one_iff.1 (hlen.trans h2)
  simp [cV,bh,bs]
  exact kO _ _
 case inr.inr.inr.inr.inr.inr.inr.inr.inr.inr.inr.inl =>
  have h2 : ks.length = 1 := (Option.some.inj har).symm
  obtain ⟨r,rfl⟩ := List.length_eq_one_iff.1 h2
  obtain ⟨a,rfl⟩ := List.length_eq_one_iff.1 (hlen.trans h2)
  have fa := hok 0 a r rfl rfl
  simp [cV] at ht ⊢
  obtain ⟨hal,e⟩ := ty0 ht
  rw [e]
  have h3 := all1 hal
  simp [bh,bs,gF,gp]
  split
  ·rename_i h0; exact fF (fa.2.2 h0)
  ·rename_i h0
   have hk : a.kind = 3 := by have := fa.2.1; omega
   rw [if_pos hk]
   have hv := fa.1
   simp [dA,hk] at hv
   have hi : intV (a.text.length : Int) = ⟨1,a.text.length,[]⟩ := by unfold intV; rw [if_neg (by omega)]
   rw [hi]
   refine ⟨?_,.inl rfl,fun h=>by simp at h⟩
   simp [dA]
   omega
 case inr.inr.inr.inr.inr.inr.inr.inr.inr.inr.inr.inr =>
  have h2 : ks.length = 3 := (Option.some.inj har).symm
  obtain ⟨r,s,t,rfl⟩ := len3 h2
  obtain ⟨a,b,c,rfl⟩ := len3 (hlen.trans h2)
  have fb := hok 1 b s rfl rfl
  have fc := hok 2 c t rfl rfl
  simp [cV] at ht ⊢
  obtain ⟨hal,e⟩ := ty0 ht
  rw [e]
  simp [mN] at hal
  have kb := valid_kind fb.1
  have kc := valid_kind fc.1
  have ob := fb.2.1
  have oc := fc.2.1
  simp [bh,bs]
  split
  ·refine ⟨fb.1,?_,fun h=>by simp [fb.2.2 h]⟩
   by_cases hb0 : b.kind = 0
   ·exact .inr hb0
   ·left
    split <;> omega
  ·refine ⟨fc.1,?_,fun h=>by simp [fc.2.2 h]⟩
   by_cases hc0 : c.kind = 0
   ·exact .inr hc0
   ·left
    split <;> omega
theorem kind_sound {cols vars : List LCol} {v : LEnv} (hv : EnvOk cols vars v) : ∀ e : LExpr,(cw cols vars e).2.2 = 0 → dZ (bT v e) (cw cols vars e).1 (cw cols vars e).2.1 := by
 intro e
 generalize hk : SizeOf.sizeOf e = k
 induction k using Nat.strongRecOn generalizing e with
 | _ k ih =>
  intro h0
  have harg : ∀ a ∈ e.args,(cw cols vars a).2.2 = 0 → dZ (bT v a) (cw cols vars a).1 (cw cols vars a).2.1 := by
   intro a ha
   refine ih (SizeOf.sizeOf a) ?_ a rfl
   rw [← hk]
   cases e
   have := List.sizeOf_lt_of_mem (show a ∈ _ from ha)
   simp only [LExpr.mk.sizeOf_spec,LExpr.args] at *
   omega
  have hK := mY cols vars e
  have hE := mT v e
  by_cases c0 : e.kind ≠ 5 ∧ 0 < e.args.length
  ·rw [if_pos c0] at hK; rw [hK] at h0; simp [eM] at h0
  rw [if_neg c0] at hK
  by_cases c1 : e.kind == 1
  ·rw [if_pos c1] at hK hE
   by_cases hc : (dA e.value && e.name == [] && e.index == 0) = true
   ·rw [if_pos hc] at hK
    rw [hK,hE]
    simp only [Bool.and_eq_true] at hc
    exact ⟨hc.1.1,.inl rfl,fun h=>by simp [h]⟩
   ·rw [if_neg hc] at hK; rw [hK] at h0; simp [eM] at h0
  rw [if_neg c1] at hK hE
  by_cases c3 : e.kind == 3
  ·have c2 : ¬ (e.kind == 2) = true := by simp at c3 ⊢; omega
   rw [if_pos c3] at hK
   rw [if_neg c2,if_pos c3] at hE
   split at hK
   ·rw [hK] at h0; simp [eM] at h0
   ·rw [hK,hE]
    split
    ·rename_i hp
     have hlt : e.index.toNat < v.params.length := by omega
     have hm : v.params.getD e.index.toNat .nul ∈ v.params := by
      simp [hlt]
     exact ⟨hv.params _ hm,.inl hp.2.2,fun _=>rfl⟩
    ·exact fF rfl
  rw [if_neg c3] at hK
  by_cases c24 : (e.kind == 2 || e.kind == 4) = true
  ·rw [if_pos c24] at hK
   by_cases hs : (cy e.name && e.index == 0 && decide (e.value = .nul)) = true
   ·rw [if_pos hs] at hK
    by_cases hf : (iG (if e.kind == 4 then vars else cols) e.name).2 = true
    ·rw [if_pos hf] at hK
     rw [hK,hE]
     by_cases c2 : e.kind == 2
     ·have c4 : ¬ (e.kind == 4) = true := by simp at c2 ⊢; omega
      rw [if_pos c2]
      rw [if_neg c4] at hf ⊢
      obtain ⟨f1,f2,f3⟩ := oH hv.len hv.row hf
      rw [hv.hcols,if_pos ⟨f1,f2⟩]
      exact f3
     ·have c4 : (e.kind == 4) = true := by simpa [c2] using c24
      rw [if_neg c2,if_neg c3,if_pos c4]
      rw [if_pos c4] at hf ⊢
      obtain ⟨f1,f2,f3⟩ := oH hv.vlen hv.vals hf
      have e1 : aK (fun s : List UInt8=>e.name == s) v.vnames = aK (fun c : LCol=>c.name == e.name) vars := by
       rw [hv.names]
       exact idxOf_map LCol.name _ _ (fun c=>by rw [Bool.eq_iff_iff]; simp; exact eq_comm) vars
      rw [e1,if_pos ⟨f1,f2⟩]
      exact f3
    ·rw [if_neg hf] at hK; rw [hK] at h0; simp [eM] at h0
   ·rw [if_neg hs] at hK; rw [hK] at h0; simp [eM] at h0
  rw [if_neg c24] at hK
  have c2 : ¬ (e.kind == 2) = true := fun h=>c24 (by simp [h])
  have c4 : ¬ (e.kind == 4) = true := fun h=>c24 (by simp [h])
  rw [if_neg c2,if_neg c3,if_neg c4] at hE
  by_cases c5 : e.kind == 5
  ·rw [if_pos c5] at hK hE
   unfold gL at hK
   split at hK
   ·rw [hK] at h0; simp [eM] at h0
   ·rename_i hop
    split at hK
    ·rename_i r hr
     have := List.find?_some hr
     rw [hK] at h0
     simp [eM] at h0
     simp [h0] at this
    ·rename_i hr
     have hnone := List.find?_eq_none.1 hr
     rw [hK] at h0
     rw [hK,hE]
     refine op_sound (by simp) ?_ ?_ h0
     ·intro i x r hx hr'
      simp only [List.getElem?_map,Option.map_eq_some_iff] at hx hr'
      obtain ⟨a,ha,rfl⟩ := hx
      obtain ⟨b,hb,rfl⟩ := hr'
      rw [ha] at hb
      cases hb
      refine harg a (List.mem_of_getElem? ha) ?_
      have := hnone _ (List.mem_map.2 ⟨a,List.mem_of_getElem? ha,rfl⟩)
      simpa using this
     ·exact Classical.byContradiction fun hne=>hop (.inl hne)
  ·rw [if_neg c5] at hK; rw [hK] at h0; simp [eM] at h0
theorem type_sound {cols vars : List LCol} {v : LEnv} (hv : EnvOk cols vars v) (e : LExpr) (h : (ci cols vars e).2.2 = 0) : dZ (bT v e) (ci cols vars e).1 (ci cols vars e).2.1 := by
 unfold ci at h ⊢
 split at h
 ·simp [eM] at h
 ·rename_i hc
  rw [if_neg hc]
  exact kind_sound hv e h
end
end Go.Proofs.YtgaggbdcedpapaaGreat

namespace Go.Proofs.YtgaggbdcedpapaaGreat
noncomputable section
open Go Go.Ab
structure LTable where
 name : List UInt8
 columns : List LCol
 primaryKey : List Int
 deriving DecidableEq
@[simp] def aO (x : LTable) : List PV := [(.str x.name),(.list 50 (x.columns.map av)),(.list 3 (x.primaryKey.map aV))]
structure LForeignKey where
 table : List UInt8
 columns : List Int
 refTable : List UInt8
 deriving DecidableEq
@[simp] def bC (x : LForeignKey) : List PV := [(.str x.table),(.list 3 (x.columns.map aV)),(.str x.refTable)]
structure LConstraint where
 table : List UInt8
 left : Int
 op : List UInt8
 right : Int
 value : LVal
 deriving DecidableEq
@[simp] def bH (x : LConstraint) : List PV := [(.str x.table),(ac x.left),(.str x.op),(ac x.right),(ac x.value.kind),(ac x.value.int),(.str x.value.text)]
structure LSchema where
 tables : List LTable
 foreignKeys : List LForeignKey
 constraints : List LConstraint
 deriving DecidableEq
@[simp] def db (x : LSchema) : List PV := [(.list 91 (x.tables.map aO)),(.list 142 (x.foreignKeys.map bC)),(.list 148 (x.constraints.map bH))]
structure LAggregateCall where
 name : List UInt8
 function : List UInt8
 args : List LExpr
@[simp] def bl (x : LAggregateCall) : List PV := [(.str x.name),(.str x.function),(.list 56 (x.args.map aI))]
inductive LQuery where
 | mk (kind : Int) (table : List UInt8) (names : List (List UInt8)) (exprs : List LExpr) (aggregates : List LAggregateCall) (descending : List Bool) (count : Int) (offset : Int) (inputs : List LQuery)
def LQuery.kind : LQuery → Int | .mk a _ _ _ _ _ _ _ _=>a
def LQuery.table : LQuery → List UInt8 | .mk _ a _ _ _ _ _ _ _=>a
def LQuery.names : LQuery → List (List UInt8) | .mk _ _ a _ _ _ _ _ _=>a
def LQuery.exprs : LQuery → List LExpr | .mk _ _ _ a _ _ _ _ _=>a
def LQuery.aggregates : LQuery → List LAggregateCall | .mk _ _ _ _ a _ _ _ _=>a
def LQuery.descending : LQuery → List Bool | .mk _ _ _ _ _ a _ _ _=>a
def LQuery.count : LQuery → Int | .mk _ _ _ _ _ _ a _ _=>a
def LQuery.offset : LQuery → Int | .mk _ _ _ _ _ _ _ a _=>a
def LQuery.inputs : LQuery → List LQuery | .mk _ _ _ _ _ _ _ _ a=>a
mutual
def aD : LQuery → List PV
 | .mk f0 f1 f2 f3 f4 f5 f6 f7 f8=>[(ac f0),(.str f1),(.list 9 (f2.map bo)),(.list 56 (f3.map aI)),(.list 66 (f4.map bl)),(.list 4 (f5.map bB)),(ac f6),(ac f7),.list 35 (mc f8)]
def mc : List LQuery → List (List PV)
 | []=>[]
 | e :: r=>aD e :: mc r
end
theorem nw : ∀ l,mc l = l.map aD
 | []=>rfl
 | e :: r=>by simp [mc,nw r]
def aQ (x : LQuery) : List PV := [(ac x.kind),(.str x.table),(.list 9 (x.names.map bo)),(.list 56 (x.exprs.map aI)),(.list 66 (x.aggregates.map bl)),(.list 4 (x.descending.map bB)),(ac x.count),(ac x.offset),(.list 35 (x.inputs.map aD))]
theorem bE (x : LQuery) : aD x = aQ x := by
 cases x
 simp [aD,aQ,nw,LQuery.kind,LQuery.table,LQuery.names,LQuery.exprs,LQuery.aggregates,LQuery.descending,LQuery.count,LQuery.offset,LQuery.inputs]
structure LResult where
 columns : List LCol
 rows : List (List LVal)
 deriving DecidableEq
@[simp] def nV (x : LResult) : List PV := [(.list 50 (x.columns.map av)),(.list 51 (x.rows.map (ag 53 ae)))]
structure LRelation where
 table : List UInt8
 rows : List (List LVal)
 deriving DecidableEq
@[simp] def bg (x : LRelation) : List PV := [(.str x.table),(.list 51 (x.rows.map (ag 53 ae)))]
structure LChecker where
 s : LSchema
 vars : List LCol
 deriving DecidableEq
@[simp] def hJ (x : LChecker) : List PV := [(.list 91 (x.s.tables.map aO)),(.list 142 (x.s.foreignKeys.map bC)),(.list 148 (x.s.constraints.map bH)),(.list 50 (x.vars.map av))]
structure LRun where
 s : LSchema
 st : List LRelation
 args : List LVal
 vars : List LCol
 names : List (List UInt8)
 vals : List LVal
 deriving DecidableEq
@[simp] def fP (x : LRun) : List PV := [(.list 91 (x.s.tables.map aO)),(.list 142 (x.s.foreignKeys.map bC)),(.list 148 (x.s.constraints.map bH)),(.list 87 (x.st.map bg)),(.list 53 (x.args.map ae)),(.list 50 (x.vars.map av)),(.list 9 (x.names.map bo)),(.list 53 (x.vals.map ae))]
end
end Go.Proofs.YtgaggbdcedpapaaGreat

namespace Go.Ab
noncomputable section
section
variable {P : Program} {T : TT}
theorem detS_idxO (hT : T.Ok P) {o : Oper} {ev : Operand → PV} {H : Heap} {t : TypeId} {x i : Operand} (ho : o.op = .indexAddr t x i) {ti ei : TInfo} {e : TypeId} (hti : T.get t = some ti) (hd : ti.desc = .slice e) (hei : T.get e = some ei)
  {tag : Nat} {g : OwnRef} {len : Nat} (hx : ev x = .own tag g len) {k : IntKind} {j : Int} (hi : ev i = .val (.int k j)) (hj : 0 ≤ j ∧ j.toNat < len) (hb : ∃ b,g.blk = some b) : DetS P o ev H (.optr tag g ei.size j.toNat 0) := by
 intro C M a w _ he
 have hxr := he x (by rw [ho]; simp [Op.operands])
 have hir := he i (by rw [ho]; simp [Op.operands])
 rw [hx] at hxr
 rw [hi] at hir
 simp only [Rep] at hxr hir
 obtain ⟨b,hb⟩ := hb
 have hu := (hT.get hti).rund w
 rw [hd] at hu
 have hsz := (hT.get hei).rsize w
 have h2 : j < (len : Int) := by omega
 refine ⟨.pointer (some ⟨b,j.toNat * ei.size,none⟩),?_,?_⟩
 ·simp [execOp,ho,Instr.indexAt,hir,hxr.2,OwnRef.val,hb,asIntOf,hu,hj.1,h2,hsz,eX]
 ·simp only [Rep]
  exact ⟨trivial,b,hb,by simp⟩
theorem kX {k : Nat} : ∀ {rows : List (List PV)} {j : Nat} {r : List PV},(∀ q ∈ rows,q.length = k) → rows[j]? = some r → ∀ i p,r[i]? = some p → rows.flatten[j * k + i]? = some p
 | [],j,r,_,h,_,_,_=>by simp at h
 | q :: rows,0,r,hl,h,i,p,hp=>by
  simp only [List.getElem?_cons_zero,Option.some.injEq] at h
  subst h
  simp only [List.flatten_cons,Nat.zero_mul,Nat.zero_add]
  rw [List.getElem?_append_left (List.getElem?_eq_some_iff.1 hp).1]
  exact hp
 | q :: rows,j + 1,r,hl,h,i,p,hp=>by
  have hq := hl q (by simp)
  have := kX (rows := rows) (j := j) (fun q hq=>hl q (by simp [hq])) (by simpa using h) i p hp
  simp only [List.flatten_cons]
  rw [List.getElem?_append_right (by rw [hq,Nat.add_mul]; omega),hq,show (j + 1) * k + i - k = j * k + i from by rw [Nat.add_mul]; omega]
  exact this
theorem detS_loadO (hT : T.Ok P) {o : Oper} {ev : Operand → PV} {H : Heap} {t : TypeId} {x : Operand} (ho : o.op = .load t x) {ti : TInfo} (hti : T.get t = some ti) {tag : Nat} {g : OwnRef} {k row off : Nat} (hx : ev x = .optr tag g k row off)
  {e : TypeId} {rows : List (List PV)} {wr : Bool} (hob : H.ob tag = some ⟨g,e,rows,wr⟩) {ei : TInfo} (hei : T.get e = some ei) (hk : k = ei.size) {cells : List PV} (hr : rows[row]? = some cells) {r : PV} (hc : bX ti off cells = some r) : DetS P o ev H r := by
 intro C M a w hi he
 have hxr := he x (by rw [ho]; simp [Op.operands])
 rw [hx] at hxr
 simp only [Rep] at hxr
 obtain ⟨_,b,hb,hv⟩ := hxr
 obtain ⟨i,h1,h2,h3,h4⟩ := hi.objs tag _ hob
 obtain ⟨i',h5,h6,_,_⟩ := (hT.get hei).info
 simp only at h1 h3 h4
 rw [h1] at h5
 cases h5
 rcases h4 with ⟨hn,_⟩ | ⟨b',cur,hb',hm,hcur,hcs,hlc,hcm,hcr,h1c,_,_⟩
 ·rw [hb] at hn; cases hn
 ·rw [hb] at hb'
  cases hb'
  have hlt : row < rows.length := (List.getElem?_eq_some_iff.1 hr).1
  have hcl : cells.length = i.size := h3 cells (List.mem_of_getElem? hr)
  have hks : k = i.size := by rw [hk,h6]
  subst hks
  -- the cells of that row
  have hflat : rows.flatten.length = rows.length * i.size := by
   have : ∀ l : List (List PV),(∀ q ∈ l,q.length = i.size) → l.flatten.length = l.length * i.size := by
    intro l
    induction l with
    | nil=>simp
    | cons q l ih=>intro hl; simp [ih fun q hq=>hl q (by simp [hq]),hl q (by simp),Nat.add_mul]; omega
   exact this rows h3
  have hseg : aw P M false cells ((cur.toList.take (rows.length * i.size)).drop (row * i.size) |>.take i.size) := by
   have h7 := (hcr.drop (row * i.size)).take i.size
   have e1 : (rows.flatten.drop (row * i.size)).take i.size = cells := by
    apply List.ext_getElem?
    intro m
    rw [List.getElem?_take]
    split
    ·rename_i hm
     rw [List.getElem?_drop]
     have hcm : cells[m]? = some cells[m] := List.getElem?_eq_getElem (by omega)
     rw [hcm]
     exact kX h3 hr m _ hcm
    ·rw [List.getElem?_eq_none (by omega)]
   rwa [e1] at h7
  obtain ⟨v,h8,h9⟩ := ku (hT.get hti) w b (row * i.size) off cells _ hseg (fun j y hj=>by
   rw [cell_of_row w b (row * i.size + j) cur e (0,0) hcur]
   rw [List.getElem?_take] at hj
   split at hj
   ·rw [List.getElem?_drop,List.getElem?_take] at hj
    split at hj
    ·simpa using hj
    ·cases hj
   ·cases hj) hc
  refine ⟨v,?_,h9.slot⟩
  simp [execOp,ho,hv,Instr.loadAt,Instr.sureAddr,h8]
theorem splice_seg {α : Type} (X Y Z cs : List α) (off : Nat) (h : off + cs.length ≤ Y.length) :
  X ++ (Y.take off ++ cs ++ Y.drop (off + cs.length)) ++ Z = (X ++ (Y ++ Z)).take (X.length + off) ++ cs ++ (X ++ (Y ++ Z)).drop (X.length + off + cs.length) := by
 rw [List.take_length_add_append,List.take_append_of_le_length (by omega),show X.length + off + cs.length = X.length + (off + cs.length) from by omega,List.drop_length_add_append,List.drop_append_of_le_length h]
 simp
theorem splice_take {α : Type} (l cs : List α) (p N : Nat) (h : p + cs.length ≤ N) (hN : N ≤ l.length) :
  (l.take p ++ cs ++ l.drop (p + cs.length)).take N = (l.take N).take p ++ cs ++ (l.take N).drop (p + cs.length) := by
 obtain ⟨U,hU⟩ : ∃ U,U = l.take N := ⟨_,rfl⟩
 obtain ⟨W,hW⟩ : ∃ W,W = l.drop N := ⟨_,rfl⟩
 have hl : l = U ++ W := by rw [hU,hW,List.take_append_drop]
 have hUl : U.length = N := by rw [hU]; simp; omega
 rw [← hU,hl,List.take_append_of_le_length (l₁ := U) (i := p) (by omega),List.drop_append_of_le_length (l₁ := U) (i := p + cs.length) (by omega)]
 rw [← List.append_assoc]
 have e : (U.take p ++ cs ++ U.drop (p + cs.length)).length = N := by simp; omega
 rw [← e,List.take_left]
def setRow (rows : List (List PV)) (row off : Nat) (cs : List PV) : List (List PV) := rows.set row (eA (rows.getD row []) off cs)
theorem set_flat {k : Nat} : ∀ {rows : List (List PV)} {j : Nat} {q : List PV},(∀ r ∈ rows,r.length = k) → q.length = k → j < rows.length → (rows.set j q).flatten = rows.flatten.take (j * k) ++ q ++ rows.flatten.drop (j * k + k)
 | [],j,q,_,_,h=>by simp at h
 | r :: rows,0,q,hl,hq,_=>by
  have hr := hl r (by simp)
  simp only [List.set_cons_zero,List.flatten_cons,Nat.zero_mul,List.take_zero,List.nil_append,Nat.zero_add]
  rw [← hr,List.drop_left]
 | r :: rows,j + 1,q,hl,hq,h=>by
  have hr := hl r (by simp)
  have ih := set_flat (rows := rows) (j := j) (q := q) (fun r hr=>hl r (by simp [hr])) hq (by simpa using h)
  simp only [List.set_cons_succ,List.flatten_cons,ih]
  have e1 : (j + 1) * k = r.length + j * k := by rw [Nat.add_mul,hr]; omega
  have e2 : r.length + j * k + k = r.length + (j * k + k) := by omega
  rw [e1,List.take_length_add_append,e2,List.drop_length_add_append]
  simp
theorem eff_storeO (hT : T.Ok P) {o : Oper} {ev : Operand → PV} {H : Heap} {t : TypeId} {x y : Operand} (ho : o.op = .store t x y) {ti : TInfo} (hti : T.get t = some ti) {tag : Nat} {g : OwnRef} {k row off : Nat} (hx : ev x = .optr tag g k row off)
  {e : TypeId} {rows : List (List PV)} (hob : H.ob tag = some ⟨g,e,rows,true⟩) {ei : TInfo} (hei : T.get e = some ei) (hk : k = ei.size) (hrow : row < rows.length) {py : PV} (hy : PLe P (ev y) py) {cs : List PV} (hc : dS py = some cs) (hf : PV.frozL cs = true) (h1 : cs.all PV.one = true) (hl : cs.length = ti.size) (hle : off + ti.size ≤ ei.size)
  {K : PV → Heap → Prop} (hK : K .any ⟨H.bx,upd H.ob tag (some ⟨g,e,setRow rows row off cs,true⟩)⟩) : Eff P o ev H K := by
 intro C M a w next Q hi he hn
 have hxr := he x (by rw [ho]; simp [Op.operands])
 have hyr := he y (by rw [ho]; simp [Op.operands])
 rw [hx] at hxr
 simp only [Rep] at hxr
 obtain ⟨_,b,hb,hv⟩ := hxr
 have hr := jo hc (hy M _ hyr)
 have hone := aw.oneCell h1 hr
 have hrf := aw.unslot hf hr
 have hvs : (a.eval y).cells.size = ti.size := by have := hr.length; simp at this; omega
 obtain ⟨i,g1,g2,g3,g4⟩ := hi.objs tag _ hob
 obtain ⟨i',g5,g6,_,_⟩ := (hT.get hei).info
 simp only at g1 g2 g3 g4
 rw [g1] at g5
 cases g5
 rcases g4 with ⟨hn',_⟩ | ⟨b',cur,hb',hm,hcur,hcs,hlc,hcm,hcr,h1c,hw1,hw2⟩
 ·rw [hb] at hn'; cases hn'
 rw [hb] at hb'
 cases hb'
 have hks : k = i.size := by rw [hk,g6]
 subst hks
 rw [← g6] at hle
 have hfit : row * i.size + i.size ≤ rows.length * i.size := by
  have := Nat.mul_le_mul_right i.size (show row + 1 ≤ rows.length from hrow)
  rw [Nat.add_mul] at this
  omega
 have hcap : rows.length * i.size ≤ cur.size := by rw [hcs]; exact Nat.mul_le_mul_right _ hlc
 have hvl : (a.eval y).cells.toList.length = ti.size := by simpa using hvs
 have hst := run_storeCells_at P b (row * i.size + off) e (a.eval y).cells.toList 0 cur w hcur (by rw [hvl]; omega) hone
 simp only [Nat.add_zero] at hst
 have hrun : (execOp a.eval o).run P w = .ok .skip (w.setRow b (cur.toList.take (row * i.size + off) ++ (a.eval y).cells.toList ++ cur.toList.drop (row * i.size + off + (a.eval y).cells.toList.length)).toArray) := by
  simp only [execOp,ho,Instr.storeAt,hv,Instr.sureAddr,Sem.run_bind,Sem.run_pure,Result.andThen_ok,storeVar,(hT.get hti).rsize w,hvs]
  simp only [ne_eq,not_true_eq_false,if_false]
  rw [hst]
  rfl
 unfold Oper.wp
 rw [hrun]
 have hgetD : rows.getD row [] = rows[row] := by simp [hrow]
 have hrl : (rows.getD row []).length = i.size := by rw [hgetD]; exact g3 _ (List.getElem_mem hrow)
 have hspl : (eA (rows.getD row []) off cs).length = i.size := by
  unfold eA
  rw [List.length_append,List.length_append,List.length_take,List.length_drop,hrl,hl]
  omega
 have hlens : ∀ r ∈ setRow rows row off cs,r.length = i.size := by
  intro r hr'
  rcases List.mem_or_eq_of_mem_set hr' with h | h
  ·exact g3 r h
  ·rw [h]; exact hspl
 have hlen : (setRow rows row off cs).length = rows.length := by simp [setRow]
 have hflat : rows.flatten.length = rows.length * i.size := by
  have : ∀ l : List (List PV),(∀ q ∈ l,q.length = i.size) → l.flatten.length = l.length * i.size := by
   intro l
   induction l with
   | nil=>simp
   | cons q l ih=>intro hl; simp [ih fun q hq=>hl q (by simp [hq]),hl q (by simp),Nat.add_mul]; omega
  exact this rows g3
 have hrl2 : rows[row].length = i.size := g3 _ (List.getElem_mem hrow)
 have hrowcells : (rows.flatten.drop (row * i.size)).take i.size = rows.getD row [] := by
  rw [hgetD]
  apply List.ext_getElem?
  intro m
  rw [List.getElem?_take]
  split
  ·rename_i hm'
   rw [List.getElem?_drop]
   have hml : m < rows[row].length := by rw [hrl2]; exact hm'
   have hcm' : rows[row][m]? = some (rows[row][m]'hml) := List.getElem?_eq_getElem hml
   rw [hcm']
   exact kX g3 (List.getElem?_eq_getElem hrow) m _ hcm'
  ·rw [List.getElem?_eq_none (by rw [hrl2]; omega)]
 have hpv : (setRow rows row off cs).flatten = eA rows.flatten (row * i.size + off) cs := by
  unfold setRow
  rw [set_flat g3 hspl hrow,← hrowcells]
  have hA : (rows.flatten.take (row * i.size)).length = row * i.size := by rw [List.length_take,hflat]; omega
  have hY : ((rows.flatten.drop (row * i.size)).take i.size).length = i.size := by rw [List.length_take,List.length_drop,hflat]; omega
  have hdec : rows.flatten = rows.flatten.take (row * i.size) ++ ((rows.flatten.drop (row * i.size)).take i.size ++ rows.flatten.drop (row * i.size + i.size)) := by
   rw [← List.drop_drop,List.take_append_drop,List.take_append_drop]
  have key := splice_seg (rows.flatten.take (row * i.size)) ((rows.flatten.drop (row * i.size)).take i.size) (rows.flatten.drop (row * i.size + i.size)) cs off (by rw [hY,hl]; omega)
  rw [← hdec,hA] at key
  exact key
 have hvlist : (cur.toList.take (row * i.size + off) ++ (a.eval y).cells.toList ++ cur.toList.drop (row * i.size + off + (a.eval y).cells.toList.length)).take (rows.length * i.size) =
   (cur.toList.take (rows.length * i.size)).take (row * i.size + off) ++ (a.eval y).cells.toList ++ (cur.toList.take (rows.length * i.size)).drop (row * i.size + off + (a.eval y).cells.toList.length) := by
  exact splice_take cur.toList (a.eval y).cells.toList (row * i.size + off) (rows.length * i.size) (by rw [hvl]; omega) (by simpa using hcap)
 refine hn undef _ _ M _ hK (Mem.le_refl M) (hi.set_obj tag _ hob b hb (setRow rows row off cs) true _ i g1 ?_ hlens ?_ ?_ hcm ?_ ?_ ?_ (fun _=>hw1 trivial) ?_) (by simp [Rep])
 ·rw [hlen]; exact g2
 ·simp only [List.size_toArray,List.length_append,List.length_take,List.length_drop,Array.length_toList,hvl]
  omega
 ·rw [hlen]; exact hlc
 ·rw [hlen,hpv]
  simp only
  rw [hvlist]
  exact nd hcr hrf (row * i.size + off)
 ·rw [hlen]
  simp only
  rw [hvlist]
  intro v hv'
  simp only [List.mem_append] at hv'
  rcases hv' with (h | h) | h
  ·exact h1c v (List.mem_of_mem_take h)
  ·exact hone v h
  ·exact h1c v (List.mem_of_mem_drop h)
 ·intro o' v' hm'
  rw [hw1 trivial o'] at hm'
  cases hm'
 ·intro o' _
  exact hw1 trivial o'
end
section
variable {P : Program} {ops : Array Oper} {rest : List Oper} {o : Oper} {n : Nat} {s s' : Nat → PV} {bx : Nat → Option Box} {ob : Nat → Option Obj} {K : PState → Prop} {T : TT} {rb : RB} {k : Nat} {L : List Nat}
theorem Ao.detS (hg : aM ops s o = some true) {r : PV} (hd : DetS P o (evS s) ⟨bx,ob⟩ r) (hp : putD n s o.dst r = some s') (h : Ao P ops rest ⟨n,s',bx,ob⟩ K) : Ao P ops (o :: rest) ⟨n,s,bx,ob⟩ K :=
 Ao.eff hg (fun C M a w next Q hi he hn=>by
  obtain ⟨v,hrun,hr⟩ := hd C M a w hi he
  unfold Oper.wp
  rw [hrun]
  exact hn v r ⟨bx,ob⟩ M w ⟨s',hp,h⟩ (Mem.le_refl M) hi hr)
theorem Do.detS (ho : ops[k]? = some o) (hg : aM ops s o = some true) (hc : de o.op = .det) {r : PV} (hd : ∀ bx',DetS P o (evS s) ⟨bx',if rb.o o && jj o.op then ob else fun _=>none⟩ r) (hp : putD n s o.dst r = some s')
  (h : Do P T rb ops L ⟨n,s',bx,ob⟩ K) : Do P T rb ops (k :: L) ⟨n,s,bx,ob⟩ K := by
 refine ⟨o,ho,true,hg,?_⟩
 simp only [if_true,hc]
 exact ⟨r,s',.inr hd,hp,h⟩
theorem Ao.idxO (hT : T.Ok P) (hg : aM ops s o = some true) {t : TypeId} {x i : Operand} (ho : o.op = .indexAddr t x i) {ti ei : TInfo} {e : TypeId} (hti : T.get t = some ti) (hd : ti.desc = .slice e) (hei : T.get e = some ei)
  {tag : Nat} {g : OwnRef} {len : Nat} (hx : evS s x = .own tag g len) {kk : IntKind} {j : Int} (hi : evS s i = .val (.int kk j)) (hj : 0 ≤ j ∧ j.toNat < len) (hb : ∃ b,g.blk = some b) (hp : putD n s o.dst (.optr tag g ei.size j.toNat 0) = some s') (h : Ao P ops rest ⟨n,s',bx,ob⟩ K) :
  Ao P ops (o :: rest) ⟨n,s,bx,ob⟩ K := Ao.detS hg (detS_idxO hT ho hti hd hei hx hi hj hb) hp h
theorem Do.cP (hT : T.Ok P) (ho : ops[k]? = some o) (hg : aM ops s o = some true) {t : TypeId} {x i : Operand} (hop : o.op = .indexAddr t x i) {ti ei : TInfo} {e : TypeId} (hti : T.get t = some ti) (hd : ti.desc = .slice e) (hei : T.get e = some ei)
  {tag : Nat} {g : OwnRef} {len : Nat} (hx : evS s x = .own tag g len) {kk : IntKind} {j : Int} (hi : evS s i = .val (.int kk j)) (hj : 0 ≤ j ∧ j.toNat < len) (hb : ∃ b,g.blk = some b) (hp : putD n s o.dst (.optr tag g ei.size j.toNat 0) = some s') (h : Do P T rb ops L ⟨n,s',bx,ob⟩ K) :
  Do P T rb ops (k :: L) ⟨n,s,bx,ob⟩ K := Do.detS ho hg (by rw [hop]; rfl) (fun _=>detS_idxO hT hop hti hd hei hx hi hj hb) hp h
theorem Ao.loadO (hT : T.Ok P) (hg : aM ops s o = some true) {t : TypeId} {x : Operand} (ho : o.op = .load t x) {ti : TInfo} (hti : T.get t = some ti) {tag : Nat} {g : OwnRef} {kz row off : Nat} (hx : evS s x = .optr tag g kz row off)
  {e : TypeId} {rows : List (List PV)} {wr : Bool} (hob : ob tag = some ⟨g,e,rows,wr⟩) {ei : TInfo} (hei : T.get e = some ei) (hk : kz = ei.size) {cells : List PV} (hr : rows[row]? = some cells) {r : PV} (hc : bX ti off cells = some r) (hp : putD n s o.dst r = some s') (h : Ao P ops rest ⟨n,s',bx,ob⟩ K) :
  Ao P ops (o :: rest) ⟨n,s,bx,ob⟩ K := Ao.detS hg (detS_loadO hT ho hti hx hob hei hk hr hc) hp h
theorem Do.ee (hT : T.Ok P) (ho : ops[k]? = some o) (hro : rb.o o = true) (hg : aM ops s o = some true) {t : TypeId} {x : Operand} (hop : o.op = .load t x) {ti : TInfo} (hti : T.get t = some ti) {tag : Nat} {g : OwnRef} {kz row off : Nat} (hx : evS s x = .optr tag g kz row off)
  {e : TypeId} {rows : List (List PV)} {wr : Bool} (hob : ob tag = some ⟨g,e,rows,wr⟩) {ei : TInfo} (hei : T.get e = some ei) (hk : kz = ei.size) {cells : List PV} (hr : rows[row]? = some cells) {r : PV} (hc : bX ti off cells = some r) (hp : putD n s o.dst r = some s') (h : Do P T rb ops L ⟨n,s',bx,ob⟩ K) :
  Do P T rb ops (k :: L) ⟨n,s,bx,ob⟩ K := by
 refine Do.detS ho hg (by rw [hop]; rfl) (fun bx'=>?_) hp h
 have : (rb.o o && jj o.op) = true := by rw [hro,hop]; rfl
 rw [this]
 exact detS_loadO hT hop hti hx hob hei hk hr hc
theorem Ao.storeO (hT : T.Ok P) (hg : aM ops s o = some true) {t : TypeId} {x y : Operand} (ho : o.op = .store t x y) (hdst : o.dst = none) {ti : TInfo} (hti : T.get t = some ti) {tag : Nat} {g : OwnRef} {kz row off : Nat} (hx : evS s x = .optr tag g kz row off)
  {e : TypeId} {rows rows' : List (List PV)} (hob : ob tag = some ⟨g,e,rows,true⟩) {ei : TInfo} (hei : T.get e = some ei) (hk : kz = ei.size) (hrow : row < rows.length) {py : PV} (hy : PLe P (evS s y) py) {cs : List PV} (hc : dS py = some cs) (hf : PV.frozL cs = true) (h1 : cs.all PV.one = true) (hl : cs.length = ti.size) (hle : off + ti.size ≤ ei.size)
  (hr : setRow rows row off cs = rows') (h : Ao P ops rest ⟨n,s,bx,upd ob tag (some ⟨g,e,rows',true⟩)⟩ K) : Ao P ops (o :: rest) ⟨n,s,bx,ob⟩ K := by
 subst hr
 exact Ao.eff hg (eff_storeO hT ho hti hx hob hei hk hrow hy hc hf h1 hl hle ⟨s,by simp [hdst,putD],h⟩)
theorem Do.gT (hT : T.Ok P) (ho : ops[k]? = some o) (hg : aM ops s o = some true) {t : TypeId} {x y : Operand} (hop : o.op = .store t x y) (hdst : o.dst = none) {ti : TInfo} (hti : T.get t = some ti) {tag : Nat} {g : OwnRef} {kz row off : Nat} (hx : evS s x = .optr tag g kz row off)
  {e : TypeId} {rows rows' : List (List PV)} (hob : ob tag = some ⟨g,e,rows,true⟩) {ei : TInfo} (hei : T.get e = some ei) (hk : kz = ei.size) (hrow : row < rows.length) {py : PV} (hy : PLe P (evS s y) py) {cs : List PV} (hc : dS py = some cs) (hf : PV.frozL cs = true) (h1 : cs.all PV.one = true) (hl : cs.length = ti.size) (hle : off + ti.size ≤ ei.size)
  (hr : setRow rows row off cs = rows') (h : Do P T rb ops L ⟨n,s,bx,upd ob tag (some ⟨g,e,rows',true⟩)⟩ K) : Do P T rb ops (k :: L) ⟨n,s,bx,ob⟩ K := by
 subst hr
 refine ⟨o,ho,true,hg,?_⟩
 simp only [if_true,hop,de]
 exact ⟨hdst,.inr fun bx'=>eff_storeO hT hop hti hx hob hei hk hrow hy hc hf h1 hl hle ⟨rfl,h⟩⟩
theorem cS {α β : Type} {f : α → β} {xs : List α} {j : Nat} {x : α} (h : xs[j]? = some x) : j < (xs.map f).length := by
 have := (List.getElem?_eq_some_iff.1 h).1
 simpa using this
theorem og {α β : Type} {f : α → β} {xs : List α} {j : Nat} {x : α} {l : Nat} (hl : l = (xs.map f).length) (h : xs[j]? = some x) : j < l := hl ▸ cS h
theorem cY {α : Type} {f : α → List PV} {xs : List α} {j : Nat} {x : α} {g : OwnRef} (ho : xs.map f ≠ [] → ∃ b,g.blk = some b) (h : xs[j]? = some x) : ∃ b,g.blk = some b := by
 refine ho fun e=>?_
 have := (List.getElem?_eq_some_iff.1 h).1
 rw [List.map_eq_nil_iff] at e
 rw [e] at this
 simp at this
theorem eu {α : Type} {f f' : α → List PV} (hE : ∀ x,f' x = f x) {xs ys : List α} {j off : Nat} {x v : α} {cs : List PV} (h : xs[j]? = some x) (hs : eA (f x) off cs = f v) (hy : xs.set j v = ys) : setRow (xs.map f') j off cs = ys.map f' := by
 subst hy
 have hlt := (List.getElem?_eq_some_iff.1 h).1
 unfold setRow
 have e : (xs.map f').getD j [] = f x := by simp [h,hE]
 rw [e,hs,← hE v,List.map_set]
theorem dR {α β : Type} {f : α → β} {xs ys : List α} {j : Nat} {v : α} (hy : xs.set j v = ys) : (xs.map f).length = (ys.map f).length := by subst hy; simp
theorem V.gR {fn : Func} {R : PV → Heap → Prop} {ks : List KI} {tag : Nat} {g : OwnRef} {e : TypeId} {rows : List (List PV)} {wr : Bool} (hob : ob tag = some ⟨g,e,rows,wr⟩) (h : (rows ≠ [] → ∃ b,g.blk = some b) → V P fn R ks ⟨n,s,bx,ob⟩) : V P fn R ks ⟨n,s,bx,ob⟩ := fun C M a w hi=>by
 refine h (fun hne=>?_) C M a w hi
 obtain ⟨_,_,_,_,h4⟩ := hi.2.objs tag _ hob
 rcases h4 with ⟨_,h5,_⟩ | ⟨b,_,h5,_⟩
 ·exact absurd h5 hne
 ·exact ⟨b,h5⟩
end
end
end Go.Ab

namespace Go.Ab
noncomputable section
def lf (bx : Nat → Option Box) (m : List (Nat × Nat)) : Nat → Option Box := fun t=>match m.find? (fun p=>Nat.beq p.2 t) with
 | some p=>bx p.1
 | none=>none
def la (ob : Nat → Option Obj) (m : List (Nat × Nat)) : Nat → Option Obj := fun t=>match m.find? (fun p=>Nat.beq p.2 t) with
 | some p=>ob p.1
 | none=>none
theorem beqC (a b : Nat) : Nat.beq a b = Nat.beq b a := by
 cases h : Nat.beq a b with
 | true=>rw [Nat.eq_of_beq_eq_true h]; exact (Nat.beq_refl b).symm
 | false =>
  cases h' : Nat.beq b a with
  | true=>rw [Nat.eq_of_beq_eq_true h'] at h; rw [show Nat.beq a a = true from Nat.beq_refl a] at h; cases h
  | false=>rfl
theorem cN (bx : Nat → Option Box) : lf bx [] = fun _=>none := rfl
theorem cO (ob : Nat → Option Obj) : la ob [] = fun _=>none := rfl
theorem eO (bx : Nat → Option Box) (c k : Nat) (m : List (Nat × Nat)) : lf bx ((c,k) :: m) = upd (lf bx m) k (bx c) := by
 funext t
 simp only [lf,upd,List.find?_cons]
 rw [beqC t k]
 cases Nat.beq k t <;> rfl
theorem cx (ob : Nat → Option Obj) (c k : Nat) (m : List (Nat × Nat)) : la ob ((c,k) :: m) = upd (la ob m) k (ob c) := by
 funext t
 simp only [la,upd,List.find?_cons]
 rw [beqC t k]
 cases Nat.beq k t <;> rfl
def backB (bx : Nat → Option Box) (m : List (Nat × Nat)) (bx' : Nat → Option Box) : Nat → Option Box := fun t=>match m.find? (fun p=>Nat.beq p.1 t) with
 | some p=>bx' p.2
 | none=>bx t
def lm (ob : Nat → Option Obj) (m : List (Nat × Nat)) (ob' : Nat → Option Obj) : Nat → Option Obj := fun t=>match m.find? (fun p=>Nat.beq p.1 t) with
 | some p=>ob' p.2
 | none=>ob t
def dd : List Nat → Bool
 | []=>true
 | a :: l=>l.all (fun b=>!Nat.beq a b) && dd l
theorem gH {f : Nat × Nat → Nat} : ∀ {m : List (Nat × Nat)} {p : Nat × Nat},dd (m.map f) = true → p ∈ m → m.find? (fun q=>Nat.beq (f q) (f p)) = some p
 | [],_,_,h=>by simp at h
 | q :: m,p,hd,h=>by
  simp only [List.map_cons,dd,Bool.and_eq_true] at hd
  rw [List.find?_cons]
  rcases List.mem_cons.1 h with rfl | h
  ·rw [show Nat.beq (f p) (f p) = true from Nat.beq_refl _]
  ·have hne : Nat.beq (f q) (f p) = false := by
    have := (List.all_eq_true.1 hd.1) (f p) (List.mem_map.2 ⟨p,h,rfl⟩)
    simpa using this
   rw [hne]
   exact gH hd.2 h
theorem mU {f : Nat × Nat → Nat} {m : List (Nat × Nat)} {t : Nat} {p : Nat × Nat} (h : m.find? (fun q=>Nat.beq (f q) t) = some p) : p ∈ m ∧ f p = t :=
 ⟨List.mem_of_find?_eq_some h,by
  have := List.find?_some h
  exact Nat.eq_of_beq_eq_true this⟩
def gV (H : Heap) (mb mo : List (Nat × Nat)) : List Nat := mb.filterMap (fun p=>(H.bx p.1).map Box.b) ++ mo.filterMap (fun p=>(H.ob p.1).bind fun x=>x.g.blk)
theorem oa {H : Heap} {mb mo : List (Nat × Nat)} {b : Nat} (h : b ∈ gV H mb mo) : (∃ p x,p ∈ mb ∧ H.bx p.1 = some x ∧ x.b = b) ∨ ∃ p x,p ∈ mo ∧ H.ob p.1 = some x ∧ x.g.blk = some b := by
 simp only [gV,List.mem_append,List.mem_filterMap] at h
 rcases h with ⟨p,hp,h⟩ | ⟨p,hp,h⟩
 ·rw [Option.map_eq_some_iff] at h
  obtain ⟨x,hx,rfl⟩ := h
  exact .inl ⟨p,x,hp,hx,rfl⟩
 ·rw [Option.bind_eq_some_iff] at h
  obtain ⟨x,hx,h⟩ := h
  exact .inr ⟨p,x,hp,hx,h⟩
theorem ownOf_box {H : Heap} {mb mo : List (Nat × Nat)} {p : Nat × Nat} {x : Box} (hp : p ∈ mb) (hx : H.bx p.1 = some x) : x.b ∈ gV H mb mo := by
 simp only [gV,List.mem_append,List.mem_filterMap]
 exact .inl ⟨p,hp,by rw [hx]; rfl⟩
theorem ownOf_obj {H : Heap} {mb mo : List (Nat × Nat)} {p : Nat × Nat} {x : Obj} {b : Nat} (hp : p ∈ mo) (hx : H.ob p.1 = some x) (hb : x.g.blk = some b) : b ∈ gV H mb mo := by
 simp only [gV,List.mem_append,List.mem_filterMap]
 exact .inr ⟨p,hp,by rw [hx]; exact hb⟩
section
variable {P : Program} {C : Ctx} {M : Mem} {H : Heap} {w : World} {mb mo : List (Nat × Nat)}
theorem lj {bx : Nat → Option Box} {m : List (Nat × Nat)} {t : Nat} {x : Box} (h : lf bx m t = some x) : ∃ p,p ∈ m ∧ p.2 = t ∧ bx p.1 = some x := by
 unfold lf at h
 split at h
 ·rename_i p hp
  obtain ⟨h1,h2⟩ := mU (f := Prod.snd) hp
  exact ⟨p,h1,h2,h⟩
 ·cases h
theorem lp {ob : Nat → Option Obj} {m : List (Nat × Nat)} {t : Nat} {x : Obj} (h : la ob m t = some x) : ∃ p,p ∈ m ∧ p.2 = t ∧ ob p.1 = some x := by
 unfold la at h
 split at h
 ·rename_i p hp
  obtain ⟨h1,h2⟩ := mU (f := Prod.snd) hp
  exact ⟨p,h1,h2,h⟩
 ·cases h
theorem fst_inj {m : List (Nat × Nat)} (hd : dd (m.map Prod.fst) = true) {p q : Nat × Nat} (hp : p ∈ m) (hq : q ∈ m) (h : p.1 = q.1) : p = q := by
 have h1 := gH (f := Prod.fst) hd hp
 have h2 := gH (f := Prod.fst) hd hq
 rw [h] at h1
 rw [h1] at h2
 exact Option.some.inj h2
theorem InvH.enterH (h : InvH P C M H w) (hb1 : dd (mb.map Prod.fst) = true) (ho1 : dd (mo.map Prod.fst) = true) : InvH P ⟨w,gV H mb mo,M⟩ M ⟨lf H.bx mb,la H.ob mo⟩ w := by
 refine ⟨h.mem,Mem.le_refl M,fun _ _ _ hm=>.inl hm,rfl,rfl,rfl,Nat.le_refl _,fun _ _ _=>rfl,?_,?_,?_,?_,?_⟩
 ·intro t x hx
  obtain ⟨p,hp,_,hx⟩ := lj hx
  obtain ⟨_,h2,h3⟩ := h.boxes _ _ hx
  exact ⟨.inr (ownOf_box hp hx),h2,h3⟩
 ·intro t x hx
  obtain ⟨p,hp,_,hx⟩ := lp hx
  obtain ⟨i,h1,h2,h3,h4⟩ := h.objs _ _ hx
  refine ⟨i,h1,h2,h3,?_⟩
  rcases h4 with h4 | ⟨b,cur,hb,_,h5⟩
  ·exact .inl h4
  ·exact .inr ⟨b,cur,hb,.inr (ownOf_obj hp hx hb),h5⟩
 ·intro t t' x x' hx hx' hb
  obtain ⟨p,hp,e1,hy⟩ := lj hx
  obtain ⟨q,hq,e2,hy'⟩ := lj hx'
  rw [← e1,← e2,fst_inj hb1 hp hq (h.dbox _ _ x x' hy hy' hb)]
 ·intro t t' x x' b hx hx' hb hb'
  obtain ⟨p,hp,e1,hy⟩ := lp hx
  obtain ⟨q,hq,e2,hy'⟩ := lp hx'
  rw [← e1,← e2,fst_inj ho1 hp hq (h.dobj _ _ x x' b hy hy' hb hb')]
 ·intro t t' x x' hx hx' hb
  obtain ⟨p,hp,_,hy⟩ := lj hx
  obtain ⟨q,hq,_,hy'⟩ := lp hx'
  exact h.dmix _ _ x x' hy hy' hb
theorem InvH.afterH {M' : Mem} {H' : Heap} {w' : World} (h : InvH P C M H w) (_hb1 : dd (mb.map Prod.fst) = true) (hb2 : dd (mb.map Prod.snd) = true) (_ho1 : dd (mo.map Prod.fst) = true) (ho2 : dd (mo.map Prod.snd) = true)
  (h' : InvH P ⟨w,gV H mb mo,M⟩ M' H' w') : InvH P C M' ⟨backB H.bx mb H'.bx,lm H.ob mo H'.ob⟩ w' := by
 have hown : ∀ b,b ∈ gV H mb mo → C.mine b := by
  intro b hb
  rcases oa hb with ⟨p,x,_,hx,rfl⟩ | ⟨p,x,_,hx,hb⟩
  ·exact (h.boxes _ _ hx).1
  ·obtain ⟨_,_,_,_,h4⟩ := h.objs _ _ hx
   rcases h4 with ⟨h5,_⟩ | ⟨b',_,h5,h6,_⟩
   ·rw [h5] at hb; cases hb
   ·rw [h5] at hb; cases hb; exact h6
 have hup : ∀ b,(⟨w,gV H mb mo,M⟩ : Ctx).mine b → C.mine b := fun b hb=>by
  rcases hb with hb | hb
  ·exact .inl (Nat.le_trans h.size hb)
  ·exact hown b hb
 have hnone : ∀ b o,b < w.heap.size → b ∉ gV H mb mo → M b o = none → M' b o = none := by
  intro b o hb hno hn
  cases hm : M' b o with
  | none=>rfl
  | some v =>
   rcases h'.new b o v hm with h1 | h1 | h1
   ·rw [show M b o = some v from h1] at hn; cases hn
   ·exact absurd hb (Nat.not_lt.2 h1)
   ·exact absurd h1 hno
 have kb : ∀ t x,backB H.bx mb H'.bx t = some x → (∃ p,p ∈ mb ∧ p.1 = t ∧ H'.bx p.2 = some x) ∨ ((∀ p ∈ mb,p.1 ≠ t) ∧ H.bx t = some x) := by
  intro t x hx
  unfold backB at hx
  split at hx
  ·rename_i p hp
   obtain ⟨h1,h2⟩ := mU (f := Prod.fst) hp
   exact .inl ⟨p,h1,h2,hx⟩
  ·rename_i hp
   rw [List.find?_eq_none] at hp
   exact .inr ⟨fun p hp' e=>hp p hp' (by rw [e]; exact Nat.beq_refl _),hx⟩
 have ko : ∀ t x,lm H.ob mo H'.ob t = some x → (∃ p,p ∈ mo ∧ p.1 = t ∧ H'.ob p.2 = some x) ∨ ((∀ p ∈ mo,p.1 ≠ t) ∧ H.ob t = some x) := by
  intro t x hx
  unfold lm at hx
  split at hx
  ·rename_i p hp
   obtain ⟨h1,h2⟩ := mU (f := Prod.fst) hp
   exact .inl ⟨p,h1,h2,hx⟩
  ·rename_i hp
   rw [List.find?_eq_none] at hp
   exact .inr ⟨fun p hp' e=>hp p hp' (by rw [e]; exact Nat.beq_refl _),hx⟩
 -- what was kept is not among what was handed over
 have nb : ∀ t x,(∀ p ∈ mb,p.1 ≠ t) → H.bx t = some x → x.b ∉ gV H mb mo := by
  intro t x hn hx hm
  rcases oa hm with ⟨p,y,hp,hy,e⟩ | ⟨p,y,hp,hy,e⟩
  ·exact hn p hp (h.dbox _ _ y x hy hx e)
  ·exact h.dmix _ _ x y hx hy e
 have no : ∀ t x b,(∀ p ∈ mo,p.1 ≠ t) → H.ob t = some x → x.g.blk = some b → b ∉ gV H mb mo := by
  intro t x b hn hx hb hm
  rcases oa hm with ⟨p,y,hp,hy,e⟩ | ⟨p,y,hp,hy,e⟩
  ·exact h.dmix _ _ y x hy hx (by rw [hb,e])
  ·exact hn p hp (h.dobj _ _ y x b hy hx e hb)
 have mb' : ∀ t x,H'.bx t = some x → w.heap.size ≤ x.b ∨ x.b ∈ gV H mb mo := fun t x hx=>(h'.boxes t x hx).1
 have mo' : ∀ t x b,H'.ob t = some x → x.g.blk = some b → w.heap.size ≤ b ∨ b ∈ gV H mb mo := by
  intro t x b hx hb
  obtain ⟨_,_,_,_,h4⟩ := h'.objs t x hx
  rcases h4 with ⟨h5,_⟩ | ⟨b',_,h5,h6,_⟩
  ·rw [h5] at hb; cases hb
  ·rw [h5] at hb; cases hb; exact h6
 have bz : ∀ t x b,H.ob t = some x → x.g.blk = some b → b < w.heap.size := fun t x b hx hb=>h.obj_lt hx hb
 have snd_eq : ∀ {m : List (Nat × Nat)},dd (m.map Prod.snd) = true → ∀ {p q : Nat × Nat},p ∈ m → q ∈ m → p.2 = q.2 → p = q := by
  intro m hd p q hp hq e
  have h1 := gH (f := Prod.snd) hd hp
  have h2 := gH (f := Prod.snd) hd hq
  rw [e] at h1
  rw [h1] at h2
  exact Option.some.inj h2
 refine ⟨h'.mem,Mem.le_trans h.ext h'.ext,?_,h'.os.trans h.os,h'.tape.trans h.tape,h'.output.trans h.output,Nat.le_trans h.size h'.size,?_,?_,?_,?_,?_,?_⟩
 ·intro b o v hm
  rcases h'.new b o v hm with h1 | h1
  ·exact h.new b o v h1
  ·exact .inr (hup b h1)
 ·intro b hb hn
  have hno : b ∉ gV H mb mo := fun hm=>by
   rcases hown b hm with h1 | h1
   ·omega
   ·exact hn h1
  exact (h'.frame b (Nat.lt_of_lt_of_le hb h.size) hno).trans (h.frame b hb hn)
 ·intro t x hx
  rcases kb t x hx with ⟨p,hp,_,hx⟩ | ⟨hn,hx⟩
  ·obtain ⟨h1,h2,h3⟩ := h'.boxes _ _ hx
   exact ⟨hup _ h1,h2,h3⟩
  ·have hno := nb t x hn hx
   exact (h.boxes t x hx).keep h'.ext (fun o ho=>hnone _ o (h.box_lt hx) hno ho) (h'.frame _ (h.box_lt hx) hno)
 ·intro t x hx
  rcases ko t x hx with ⟨p,hp,_,hx⟩ | ⟨hn,hx⟩
  ·obtain ⟨i,h1,h2,h3,h4⟩ := h'.objs _ _ hx
   refine ⟨i,h1,h2,h3,?_⟩
   rcases h4 with h4 | ⟨b,cur,h5,h6,h7⟩
   ·exact .inl h4
   ·exact .inr ⟨b,cur,h5,hup _ h6,h7⟩
  ·exact (h.objs t x hx).keep h'.ext (fun b o hb ho=>hnone _ o (h.obj_lt hx hb) (no t x b hn hx hb) ho) (fun b hb=>h'.frame _ (h.obj_lt hx hb) (no t x b hn hx hb))
 ·intro t t' x x' hx hx' hb
  rcases kb t x hx with ⟨p,hp,e,hx⟩ | ⟨hn,hx⟩ <;> rcases kb t' x' hx' with ⟨q,hq,e',hx'⟩ | ⟨hn',hx'⟩
  ·have := snd_eq hb2 hp hq (h'.dbox _ _ x x' hx hx' hb)
   rw [← e,← e',this]
  ·rcases mb' _ _ hx with h1 | h1
   ·have := h.box_lt hx'; omega
   ·exact absurd (hb ▸ h1) (nb t' x' hn' hx')
  ·rcases mb' _ _ hx' with h1 | h1
   ·have := h.box_lt hx; omega
   ·exact absurd (hb ▸ h1) (nb t x hn hx)
  ·exact h.dbox t t' x x' hx hx' hb
 ·intro t t' x x' b hx hx' hb hb'
  rcases ko t x hx with ⟨p,hp,e,hx⟩ | ⟨hn,hx⟩ <;> rcases ko t' x' hx' with ⟨q,hq,e',hx'⟩ | ⟨hn',hx'⟩
  ·have := snd_eq ho2 hp hq (h'.dobj _ _ x x' b hx hx' hb hb')
   rw [← e,← e',this]
  ·rcases mo' _ _ b hx hb with h1 | h1
   ·have := h.obj_lt hx' hb'; omega
   ·exact absurd h1 (no t' x' b hn' hx' hb')
  ·rcases mo' _ _ b hx' hb' with h1 | h1
   ·have := h.obj_lt hx hb; omega
   ·exact absurd h1 (no t x b hn hx hb)
  ·exact h.dobj t t' x x' b hx hx' hb hb'
 ·intro t t' x x' hx hx' hb
  rcases kb t x hx with ⟨p,hp,e,hx⟩ | ⟨hn,hx⟩ <;> rcases ko t' x' hx' with ⟨q,hq,e',hx'⟩ | ⟨hn',hx'⟩
  ·exact h'.dmix _ _ x x' hx hx' hb
  ·rcases mb' _ _ hx with h1 | h1
   ·have := h.obj_lt hx' hb; omega
   ·exact no t' x' _ hn' hx' hb h1
  ·rcases mo' _ _ _ hx' hb with h1 | h1
   ·have := h.box_lt hx; omega
   ·exact nb t x hn hx h1
  ·exact h.dmix t t' x x' hx hx' hb
theorem eff_callH {o : Oper} {ev : Operand → PV} {H : Heap} {fx : Operand} {av0 : Array Operand} {ts : Array TypeId} (ho : o.op = .call { callee := .value fx,args := av0,argTypes := ts }) {g : FuncId} {caps : List PV}
  (hf : ev fx = .fn g caps) (hcall : ∀ vs w,(callFunc g vs).run P w = .ok (.enter g vs) w) (mb mo : List (Nat × Nat)) (hb1 : dd (mb.map Prod.fst) = true) (hb2 : dd (mb.map Prod.snd) = true) (ho1 : dd (mo.map Prod.fst) = true) (ho2 : dd (mo.map Prod.snd) = true)
  {args : List PV} (hle : il P (av0.toList.map ev ++ caps) args) {R : PV → Heap → Prop} (hc : PH P g args ⟨lf H.bx mb,la H.ob mo⟩ R)
  {K : PV → Heap → Prop} (hk : ∀ u H',R u H' → K u ⟨backB H.bx mb H'.bx,lm H.ob mo H'.ob⟩) : Eff P o ev H K := by
 intro C M a w next Q hi he hn
 have hfr := he fx (by rw [ho]; simp [Op.operands,Call.operands])
 rw [hf] at hfr
 simp only [Rep] at hfr
 obtain ⟨cs,hv,hcaps⟩ := hfr
 have hargs : aw P M true (av0.toList.map ev) (av0.map a.eval).toList := by
  simpa using lg av0.toList fun x hx=>he x (by rw [ho]; simp_all [Op.operands,Call.operands])
 have hrep := hle M _ (hargs.append hcaps)
 have hrun : (execOp a.eval o).run P w = .ok (.enter g (av0.map a.eval ++ cs)) w := by
  simp [execOp,ho,resolve,hv,Deferred.ofValue,invoke,hcall]
 unfold Oper.wp
 rw [hrun]
 simp only [Oper.upon]
 refine (hc w M (gV H mb mo) _ (hi.enterH hb1 ho1) (by simpa using hrep)).mono ?_
 rintro e w' ⟨v,u,H',M',rfl,hR,hi',hr⟩
 exact hn v u _ M' w' (hk u H' hR) hi'.ext (hi.afterH hb1 hb2 ho1 ho2 hi') hr
end
section
variable {P : Program} {ops : Array Oper} {rest : List Oper} {o : Oper} {n : Nat} {s s' : Nat → PV} {bx bx1 : Nat → Option Box} {ob ob1 : Nat → Option Obj} {K : PState → Prop} {T : TT} {rb : RB} {k : Nat} {L : List Nat}
theorem Ao.dr (hg : aM ops s o = some true) {fx : Operand} {av0 : Array Operand} {ts : Array TypeId} (ho : o.op = .call { callee := .value fx,args := av0,argTypes := ts }) {g : FuncId} {caps : List PV}
  (hf : evS s fx = .fn g caps) (hcall : ∀ vs w,(callFunc g vs).run P w = .ok (.enter g vs) w) (mb mo : List (Nat × Nat)) (hb1 : dd (mb.map Prod.fst) = true) (hb2 : dd (mb.map Prod.snd) = true) (ho1 : dd (mo.map Prod.fst) = true) (ho2 : dd (mo.map Prod.snd) = true)
  {args : List PV} (hle : il P (av0.toList.map (evS s) ++ caps) args) {Hin : Heap} (hin : Hin = ⟨lf bx mb,la ob mo⟩) {R : PV → Heap → Prop} (hc : PH P g args Hin R)
  (h : ∀ u H',R u H' → ∃ s',putD n s o.dst u = some s' ∧ Ao P ops rest ⟨n,s',backB bx mb H'.bx,lm ob mo H'.ob⟩ K) : Ao P ops (o :: rest) ⟨n,s,bx,ob⟩ K :=
 Ao.eff hg (eff_callH ho hf hcall mb mo hb1 hb2 ho1 ho2 hle (hin ▸ hc) h)
theorem kW.own {t t' : Nat} {g : OwnRef} {l l' : Nat} (h : l = l') : kW P (.own t g l) (.own t' g l') := by
 subst h
 intro M s x hx
 simpa only [Rep] using hx
theorem kW.boxT {t t' b o : Nat} : kW P (.box t b o) (.box t' b o) := by
 intro M s x hx
 simpa only [Rep] using hx
theorem V.retH {fn : Func} {R : PV → Heap → Prop} {ks : List KI} {T : TT} (hT : T.Ok P) {rs : Array ResultVar} (hres : fn.results = rs) {ps : List PV} (h : kH T ⟨n,s,bx,ob⟩ rs.toList ps) {u : PV} (hu : PLe P (mf ps) u) (hR : R u ⟨bx,ob⟩) :
  V P fn R (.code .ret :: ks) ⟨n,s,bx,ob⟩ := V.ret hT hres h hu ⟨fun _ _ hx=>hx,fun _ _ hx=>hx⟩ hR
theorem V.endH {fn : Func} {R : PV → Heap → Prop} (hres : fn.results = #[]) {u : PV} (hu : PLe P (.tup []) u) (hR : R u ⟨bx,ob⟩) : V P fn R [] ⟨n,s,bx,ob⟩ := by
 intro C M a w hi
 have hr : (results fn a.tmps).run P w = .ok (.tuple #[]) w := by
  rw [results_eq hres]
  simp
 exact ⟨hi.1.2.1,.tuple #[],hr,.tuple #[],u,⟨bx,ob⟩,M,rfl,hR,hi.2,hu M _ (by simp [Rep,aw])⟩
end
end
end Go.Ab

namespace Go.Ab
noncomputable section
open Classical in
def gG {β : Type} (F : Nat → Option β) : Option β :=
 if h : ∃ r,∃ n,∀ m,n ≤ m → F m = some r then some h.choose else none
theorem im {β : Type} {F : Nat → Option β} {r : β} (h : gG F = some r) : ∃ n,F n = some r := by
 unfold gG at h
 split at h
 ·next hx =>
  obtain ⟨n,hn⟩ := hx.choose_spec
  exact ⟨n,by rw [hn n (Nat.le_refl n)]; exact h⟩
 ·cases h
theorem mL {β : Type} {F : Nat → Option β} {r : β} (n : Nat) (h : ∀ m,n ≤ m → F m = some r) : gG F = some r := by
 have hx : ∃ r,∃ n,∀ m,n ≤ m → F m = some r := ⟨r,n,h⟩
 unfold gG
 rw [dif_pos hx]
 obtain ⟨k,hk⟩ := hx.choose_spec
 have e1 := hk (max n k) (Nat.le_max_right n k)
 have e2 := h (max n k) (Nat.le_max_left n k)
 rw [← e1,e2]
theorem limN_ev {β : Type} {F : Nat → Option β} {r : β} (h : gG F = some r) : ∃ n,∀ m,n ≤ m → F m = some r := by
 unfold gG at h
 split at h
 ·next hx =>
  obtain ⟨n,hn⟩ := hx.choose_spec
  exact ⟨n,fun m hm=>by rw [hn m hm]; exact h⟩
 ·cases h
end
end Go.Ab

namespace Go.Ab
noncomputable section
def cutI {α : Type} (xs : List α) (m : Int) : Option (List α) := if 0 ≤ m ∧ m.toNat ≤ xs.length then some (xs.take m.toNat) else none
theorem cutI_some {α : Type} {xs ys : List α} {m : Int} (h : cutI xs m = some ys) : 0 ≤ m ∧ m.toNat ≤ xs.length ∧ ys = xs.take m.toNat := by
 unfold cutI at h
 split at h
 ·rename_i h0; exact ⟨h0.1,h0.2,(Option.some.inj h).symm⟩
 ·cases h
theorem ol {α : Type} {f : α → List PV} {xs ys : List α} {j : Nat} {x : α} {g : OwnRef} (ho : xs.map f ≠ [] → ∃ b,g.blk = some b) (hl : (xs.map f).length = (ys.map f).length) (h : ys[j]? = some x) : ∃ b,g.blk = some b := by
 refine ho fun e=>?_
 have := (List.getElem?_eq_some_iff.1 h).1
 have h0 : ys.length = 0 := by
  rw [e] at hl
  simpa using hl.symm
 omega
def delI {α : Type} (xs : List α) (i j : Int) : Option (List α) := if 0 ≤ i ∧ i ≤ j ∧ j.toNat ≤ xs.length then some (xs.take i.toNat ++ xs.drop j.toNat) else none
theorem delI_some {α : Type} {xs ys : List α} {i j : Int} (h : delI xs i j = some ys) : 0 ≤ i ∧ i ≤ j ∧ j.toNat ≤ xs.length ∧ ys = xs.take i.toNat ++ xs.drop j.toNat := by
 unfold delI at h
 split at h
 ·rename_i h0; exact ⟨h0.1,h0.2.1,h0.2.2,(Option.some.inj h).symm⟩
 ·cases h
def OwnRef.sub (g : OwnRef) (k lo hi mx : Nat) : Value := .slice (if mx = lo then g.blk.map (fun b=>⟨b,0,none⟩) else (g.blk.map fun b=>(⟨b,0,none⟩ : Addr)).map (·.add (lo * k))) (hi - lo) (mx - lo)
section
variable {P : Program} {T : TT}
def kB (ev : Operand → PV) (o : Option Operand) (dflt n : Nat) : Prop := match o with
 | none=>n = dflt
 | some x=>∃ kk z,ev x = .val (.int kk z) ∧ z = (n : Int)
theorem detS_subV (hT : T.Ok P) {o : Oper} {ev : Operand → PV} {H : Heap} {t : TypeId} {x : Operand} {lo hi mx : Option Operand} (ho : o.op = .slice t x lo hi mx) {ti ei : TInfo} {e : TypeId} (hti : T.get t = some ti) (hd : ti.desc = .slice e) (hei : T.get e = some ei)
  {tag : Nat} {g : OwnRef} {len : Nat} (hx : ev x = .own tag g len) {l h m : Nat} (hl : kB ev lo 0 l) (hh : kB ev hi len h) (hm : kB ev mx g.cap m) (hs : mx.isSome = true → hi.isSome = true) (h1 : l ≤ h) (h2 : h ≤ m) (h3 : m ≤ g.cap) :
  DetS P o ev H (.val (g.sub ei.size l h m)) := by
 intro C M a w _ he
 have hxr := he x (by rw [ho]; cases lo <;> cases hi <;> cases mx <;> simp [Op.operands])
 rw [hx] at hxr
 simp only [Rep] at hxr
 have hu := (hT.get hti).und
 rw [hd] at hu
 refine ⟨g.sub ei.size l h m,?_,by simp only [Rep]⟩
 have hbnd : ∀ (z y : Nat) (kk : IntKind) (c : BoundsCode),z ≤ y → (Instr.sliceBound (.int kk (z : Int)) y c).run P w = .ok z w := by
  intro z y kk c hzy
  have : (0 : Int) ≤ (z : Int) ∧ (z : Int) ≤ (y : Int) := ⟨by omega,by omega⟩
  simp [Instr.sliceBound,asIntOf,hzy]
 have get : ∀ y,y ∈ lo ∨ y ∈ hi ∨ y ∈ mx → Rep P M true (ev y) (a.eval y) := by
  intro y hy
  refine he y ?_
  rw [ho]
  clear he hl hh hm hs ho
  cases lo <;> cases hi <;> cases mx <;> simp [Op.operands] at hy ⊢ <;> (first | exact .inr (hy.imp Eq.symm Eq.symm) | exact .inr (hy.imp Eq.symm (Or.imp Eq.symm Eq.symm)) | exact .inr hy.symm | (rcases hy with h | h | h <;> simp [h]) | (rcases hy with h | h <;> simp [h]))
 have hsz := (hT.get hei).rsize w
 have key : ∀ (lv hv mv : Option Value),(match lv with | none=>l = 0 | some v=>∃ kk,v = .int kk (l : Int)) → (match hv with | none=>h = len | some v=>∃ kk,v = .int kk (h : Int)) →
   (match mv with | none=>m = g.cap | some v=>∃ kk,v = .int kk (m : Int)) → (mv.isSome = true → hv.isSome = true) → (Instr.slice t (g.val len) lv hv mv).run P w = .ok (g.sub ei.size l h m) w := by
  intro lv hv mv p1 p2 p3 p4
  have b : (Instr.sliceBounds true len g.cap lv hv mv).run P w = .ok (l,h,m) w := by
   cases mv with
   | none =>
    simp only at p3
    subst p3
    cases hv with
    | none =>
     simp only at p2
     subst p2
     cases lv with
     | none=>simp only at p1; subst p1; simp [Instr.sliceBounds]
     | some v=>obtain ⟨kk,rfl⟩ := p1; simp [Instr.sliceBounds,hbnd _ _ _ _ h1]
    | some v' =>
     obtain ⟨kk',rfl⟩ := p2
     cases lv with
     | none=>simp only at p1; subst p1; simp [Instr.sliceBounds,hbnd _ _ _ _ h2]
     | some v=>obtain ⟨kk,rfl⟩ := p1; simp [Instr.sliceBounds,hbnd _ _ _ _ h1,hbnd _ _ _ _ h2]
   | some v2 =>
    obtain ⟨k2,rfl⟩ := p3
    cases hv with
    | none=>exact absurd (p4 rfl) (by simp)
    | some v' =>
     obtain ⟨kk',rfl⟩ := p2
     cases lv with
     | none=>simp only at p1; subst p1; simp [Instr.sliceBounds,hbnd _ _ _ _ h2,hbnd _ _ _ _ h3]
     | some v=>obtain ⟨kk,rfl⟩ := p1; simp [Instr.sliceBounds,hbnd _ _ _ _ h1,hbnd _ _ _ _ h2,hbnd _ _ _ _ h3]
  simp only [Instr.slice,OwnRef.val,run_underlying hu,Sem.run_bind,Result.andThen_ok,b,hsz]
  rfl
 have gl : ∀ (oo : Option Operand) (df n : Nat),(∀ y,y ∈ oo → Rep P M true (ev y) (a.eval y)) → kB ev oo df n → (match oo.map a.eval with | none=>n = df | some v=>∃ kk,v = .int kk (n : Int)) := by
  intro oo df n hr ha
  cases oo with
  | none=>exact ha
  | some y =>
   obtain ⟨kk,z,e1,rfl⟩ := ha
   have := hr y rfl
   rw [e1] at this
   simp only [Rep] at this
   exact ⟨kk,this⟩
 have := key (lo.map a.eval) (hi.map a.eval) (mx.map a.eval) (gl lo 0 l (fun y hy=>get y (.inl hy)) hl) (gl hi len h (fun y hy=>get y (.inr (.inl hy))) hh) (gl mx g.cap m (fun y hy=>get y (.inr (.inr hy))) hm) (by simpa using hs)
 simp only [execOp,ho,Instr.sliceAt,hxr.2]
 rw [Sem.run_bind,Sem.run_bind,run_underlying hu]
 simp only [Result.andThen_ok]
 rw [this]
 rfl
theorem eff_appendIn (hT : T.Ok P) {o : Oper} {ev : Operand → PV} {H : Heap} {x y : Operand} {t : TypeId} (ho : o.op = .call { callee := .builtin .append,args := #[x,y],argTypes := #[t,t] }) {ti ei : TInfo} {e : TypeId} (hti : T.get t = some ti) (hd : ti.desc = .slice e) (hei : T.get e = some ei)
  {tag : Nat} {g : OwnRef} {rows : List (List PV)} (hob : H.ob tag = some ⟨g,e,rows,true⟩) {p q : Nat} (hpq : p ≤ q) (hq : q ≤ rows.length) (hx : ev x = .val (g.sub ei.size 0 p g.cap)) (hy : ev y = .val (g.sub ei.size q rows.length g.cap))
  {K : PV → Heap → Prop} (hk : K (.own tag g (rows.take p ++ rows.drop q).length) ⟨H.bx,upd H.ob tag (some ⟨g,e,rows.take p ++ rows.drop q,true⟩)⟩) : Eff P o ev H K := by
 intro C M a w next Q hi he hn
 have hxr := he x (by rw [ho]; simp [Op.operands,Call.operands])
 have hyr := he y (by rw [ho]; simp [Op.operands,Call.operands])
 rw [hx] at hxr
 rw [hy] at hyr
 simp only [Rep] at hxr hyr
 obtain ⟨i,g1,g2,g3,g4⟩ := hi.objs tag _ hob
 obtain ⟨i',g5,g6,_,_⟩ := (hT.get hei).info
 simp only at g1 g2 g3 g4
 rw [g1] at g5
 cases g5
 have hu := (hT.get hti).und
 rw [hd] at hu
 have hbase : (if g.cap = 0 then g.blk.map (fun b=>(⟨b,0,none⟩ : Addr)) else (g.blk.map fun b=>(⟨b,0,none⟩ : Addr)).map (·.add (0 * ei.size))) = g.blk.map fun b=>⟨b,0,none⟩ := by
  split
  ·rfl
  ·rw [Nat.zero_mul]
   cases g.blk <;> simp [Addr.add]
 have hlen : (rows.take p ++ rows.drop q).length = p + (rows.length - q) := by simp; omega
 have fin : ∀ w',(Builtin.append_ #[t,t] o.type #[g.sub ei.size 0 p g.cap,g.sub ei.size q rows.length g.cap]).run P w = .ok (g.val (p + (rows.length - q))) w' →
   InvH P C M ⟨H.bx,upd H.ob tag (some ⟨g,e,rows.take p ++ rows.drop q,true⟩)⟩ w' → Oper.wp P o a w next Q := by
  intro w' hr hi'
  have hrun' : (execOp a.eval o).run P w = .ok (.value (g.val (rows.take p ++ rows.drop q).length)) w' := by
   rw [hlen]
   simp only [execOp,ho,resolve,Sem.run_bind,Sem.run_pure,Result.andThen_ok,invoke,builtin,List.map_toArray,List.map_cons,List.map_nil,hxr,hyr]
   rw [hr]
   rfl
  unfold Oper.wp
  rw [hrun']
  exact hn _ _ _ M w' hk (Mem.le_refl M) hi' (by simp [Rep])
 have hcap : rows.length ≤ g.cap := by
  rcases g4 with ⟨_,b,_⟩ | ⟨_,_,_,_,_,_,h9,_⟩
  ·rw [b]; simp
  ·exact h9
 by_cases h0 : rows.length - q = 0
 ·refine fin w ?_ ?_
  ·have e1 : g.sub ei.size 0 p g.cap = .slice (g.blk.map fun b=>⟨b,0,none⟩) p g.cap := by unfold OwnRef.sub; rw [hbase]; simp
   have e2 : g.sub ei.size q rows.length g.cap = .slice (if g.cap = q then g.blk.map (fun b=>⟨b,0,none⟩) else (g.blk.map fun b=>(⟨b,0,none⟩ : Addr)).map (·.add (q * ei.size))) 0 (g.cap - q) := by unfold OwnRef.sub; rw [h0]
   rw [e1,e2,mh (w := w) t o.type e i hu g1 _ _ p g.cap _ (by omega),h0]
   rfl
  ·have e1 : rows.take p ++ rows.drop q = rows.take p := by rw [List.drop_of_length_le (by omega)]; simp
   rw [e1]
   exact hi.cutO hob p
 ·rcases g4 with ⟨_,hn',_⟩ | ⟨b,cur,hb,hm,hcur,hcs,hlc,hcm,hcr,h1c,hw1,hw2⟩
  ·rw [hn'] at h0; simp at h0
  ·have hqc : ¬ g.cap = q := by omega
   have hcs2 : cur.toList.length = g.cap * i.size := by rw [Array.length_toList]; exact hcs
   have e1 : g.sub ei.size 0 p g.cap = .slice (some ⟨b,0,none⟩) p g.cap := by unfold OwnRef.sub; rw [hbase,hb]; simp
   have e2 : g.sub ei.size q rows.length g.cap = .slice (some ⟨b,q * i.size,none⟩) (rows.length - q) (g.cap - q) := by unfold OwnRef.sub; rw [if_neg hqc,hb,g6]; simp [eX]
   have hflat : ∀ l : List (List PV),(∀ r ∈ l,r.length = i.size) → l.flatten.length = l.length * i.size := by
    intro l
    induction l with
    | nil=>simp
    | cons r l ih=>intro hl; simp [ih fun r hr=>hl r (by simp [hr]),hl r (by simp),Nat.add_mul]; omega
   have hold : (cur.toList.take (rows.length * i.size)).length = rows.length * i.size := by rw [hcr.length,hflat rows g3]
   have hcl : rows.length * i.size ≤ cur.size := by rw [hcs]; exact Nat.mul_le_mul_right _ hlc
   have hmulq : q * i.size ≤ rows.length * i.size := Nat.mul_le_mul_right _ hq
   have hmulp : p * i.size ≤ q * i.size := Nat.mul_le_mul_right _ hpq
   obtain ⟨news,hnews⟩ : ∃ news,news = (cur.toList.take (rows.length * i.size)).drop (q * i.size) := ⟨_,rfl⟩
   have hnl : news.length = (rows.length - q) * i.size := by rw [hnews,List.length_drop,hold,Nat.sub_mul]
   have hac : ∀ j u,news[j]? = some u → w.cell? ((⟨b,q * i.size,none⟩ : Addr).add j) = some u := by
    intro j u hj
    rw [eX,cell_of_row w b (q * i.size + j) cur e (0,0) hcur]
    rw [hnews,List.getElem?_drop,List.getElem?_take] at hj
    split at hj
    ·simpa using hj
    ·cases hj
   have hone : ∀ u ∈ news,u.oneCell' = true := fun u hu'=>h1c u (by rw [hnews] at hu'; exact List.mem_of_mem_drop hu')
   have hsum : (p + (rows.length - q)) * i.size = p * i.size + (rows.length - q) * i.size := Nat.add_mul _ _ _
   have hsub : (rows.length - q) * i.size = rows.length * i.size - q * i.size := Nat.sub_mul _ _ _
   have hfit : p * i.size + news.length ≤ cur.size := by rw [hnl]; omega
   have hr := run_append_room (P := P) w t o.type e i hu g1 b p g.cap cur hcur ⟨b,q * i.size,none⟩ (rows.length - q) (g.cap - q) news hnl hac hone (by omega) hfit
   have htk : (rows.take p).flatten = rows.flatten.take (p * i.size) := by
    have e3 : rows.flatten = (rows.take p).flatten ++ (rows.drop p).flatten := by rw [← List.flatten_append,List.take_append_drop]
    have e4 : (rows.take p).flatten.length = p * i.size := by rw [hflat _ fun r hr=>g3 r (List.mem_of_mem_take hr),List.length_take,Nat.min_eq_left (by omega)]
    rw [e3,← e4,List.take_left]
   have hdk : (rows.drop q).flatten = rows.flatten.drop (q * i.size) := by
    have e3 : rows.flatten = (rows.take q).flatten ++ (rows.drop q).flatten := by rw [← List.flatten_append,List.take_append_drop]
    have e4 : (rows.take q).flatten.length = q * i.size := by rw [hflat _ fun r hr=>g3 r (List.mem_of_mem_take hr),List.length_take,Nat.min_eq_left (by omega)]
    rw [e3,← e4,List.drop_left]
   have hcp : cur.toList.take (p * i.size) = (cur.toList.take (rows.length * i.size)).take (p * i.size) := by rw [List.take_take,Nat.min_eq_left (by omega)]
   have hlist : (cur.toList.take (p * i.size) ++ news ++ cur.toList.drop (p * i.size + news.length)).take ((p + (rows.length - q)) * i.size) = cur.toList.take (p * i.size) ++ news := by
    rw [show (p + (rows.length - q)) * i.size = (cur.toList.take (p * i.size) ++ news).length from by
     rw [List.length_append,List.length_take,hnl,hsum,Array.length_toList,Nat.min_eq_left (by omega)]]
    exact List.take_left
   refine fin (w.setRow b (cur.toList.take (p * i.size) ++ news ++ cur.toList.drop (p * i.size + news.length)).toArray) (by rw [e1,e2,hr]; simp [OwnRef.val,hb]) (hi.set_obj tag _ hob b hb (rows.take p ++ rows.drop q) true (cur.toList.take (p * i.size) ++ news ++ cur.toList.drop (p * i.size + news.length)).toArray i g1 ?_ ?_ ?_ ?_ hcm ?_ ?_ ?_ (fun _=>hw1 trivial) (fun o' _=>hw1 trivial o'))
   ·rw [hlen]
    exact Nat.le_trans (Nat.mul_le_mul_right _ (by omega)) g2
   ·intro r hr'
    rcases List.mem_append.1 hr' with h | h
    ·exact g3 r (List.mem_of_mem_take h)
    ·exact g3 r (List.mem_of_mem_drop h)
   ·have e9 : (cur.toList.take (p * i.size) ++ news ++ cur.toList.drop (p * i.size + news.length)).length = g.cap * i.size := by
     rw [List.length_append,List.length_append,List.length_take,List.length_drop,hcs2]
     have : p * i.size + news.length ≤ g.cap * i.size := by rw [← hcs]; exact hfit
     omega
    simpa using e9
   ·rw [hlen]; exact (by omega : p + (rows.length - q) ≤ g.cap)
   ·rw [hlen]
    simp only
    rw [hlist,List.flatten_append,htk,hdk,hcp,hnews]
    exact (hcr.take _).append (hcr.drop _)
   ·rw [hlen]
    simp only
    rw [hlist]
    intro v hv
    rcases List.mem_append.1 hv with h | h
    ·rw [hcp] at h; exact h1c v (List.mem_of_mem_take h)
    ·exact hone v h
   ·intro o' v' hm'
    rw [hw1 trivial o'] at hm'
    cases hm'
theorem eff_clearB (hT : T.Ok P) {o : Oper} {ev : Operand → PV} {H : Heap} {x : Operand} {t : TypeId} (ho : o.op = .call { callee := .builtin .clear,args := #[x],argTypes := #[t] }) {ti ei : TInfo} {e : TypeId} (hti : T.get t = some ti) (hd : ti.desc = .slice e) (hei : T.get e = some ei)
  (hz : Nat.beq ei.zero.cells.size ei.size = true) (h1 : (cr ei).all PV.one = true) {tag : Nat} {g : OwnRef} {rows : List (List PV)} (hob : H.ob tag = some ⟨g,e,rows,true⟩) {p q m : Nat} (hp : rows.length ≤ p) (hpq : p ≤ q) (hq : q ≤ m) (hm : m ≤ g.cap)
  (hx : ev x = .val (g.sub ei.size p q m)) {K : PV → Heap → Prop} (hk : K (.tup []) H) : Eff P o ev H K := by
 intro C M a w next Q hi he hn
 have hxr := he x (by rw [ho]; simp [Op.operands,Call.operands])
 rw [hx] at hxr
 simp only [Rep] at hxr
 obtain ⟨i,g1,g2,g3,g4⟩ := hi.objs tag _ hob
 obtain ⟨i',g5,g6,_,hzero⟩ := (hT.get hei).info
 simp only at g1 g2 g3 g4
 rw [g1] at g5
 cases g5
 have hu := (hT.get hti).und
 rw [hd] at hu
 have hself : upd H.ob tag (some ⟨g,e,rows,true⟩) = H.ob := nj _ _ _ hob
 have fin : ∀ w',(Builtin.clear_ #[t] o.type #[g.sub ei.size p q m]).run P w = .ok (.tuple #[]) w' → InvH P C M ⟨H.bx,upd H.ob tag (some ⟨g,e,rows,true⟩)⟩ w' → Oper.wp P o a w next Q := by
  intro w' hr hi'
  have hrun' : (execOp a.eval o).run P w = .ok (.value (.tuple #[])) w' := by
   simp only [execOp,ho,resolve,Sem.run_bind,Sem.run_pure,Result.andThen_ok,invoke,builtin,List.map_toArray,List.map_cons,List.map_nil,hxr]
   rw [hr]
   rfl
  unfold Oper.wp
  rw [hrun']
  rw [hself] at hi'
  exact hn _ _ _ M w' hk (Mem.le_refl M) hi' (by simp [Rep,aw])
 by_cases h0 : q - p = 0
 ·refine fin w ?_ (by rw [hself]; exact hi)
  unfold OwnRef.sub
  rw [h0]
  split <;> (cases g.blk <;> simp [Builtin.clear_,run_underlying hu])
 ·rcases g4 with ⟨_,hn',hc0⟩ | ⟨b,cur,hb,hmn,hcur,hcs,hlc,hcm,hcr,h1c,hw1,hw2⟩
  ·omega
  ·have hz1 := Nat.eq_of_beq_eq_true hz
   have hcs' : cur.size = g.cap * i.size := hcs
   have hcs2 : cur.toList.length = g.cap * i.size := by rw [Array.length_toList]; exact hcs
   have e1 : g.sub ei.size p q m = .slice (some ⟨b,p * i.size,none⟩) (q - p) (m - p) := by unfold OwnRef.sub; rw [if_neg (by omega),hb,g6]; simp [eX]
   have hzl : (cr ei).length = i.size := by simp [cr,hz1,g6]
   have hzc : (Builtin.zeroCells ei.zero.cells (q - p)).toList = (List.replicate (q - p) ei.zero.cells.toList).flatten := by
    unfold Builtin.zeroCells
    exact lE ei.zero.cells (q - p)
   have hzs : (Builtin.zeroCells ei.zero.cells (q - p)).toList.length = (q - p) * i.size := by rw [hzc]; simp [hz1,g6]
   have hrep : aw P M false (List.replicate (q - p) (cr ei)).flatten (List.replicate (q - p) ei.zero.cells.toList).flatten := ji (ja _) (q - p)
   have hone : ∀ v ∈ (Builtin.zeroCells ei.zero.cells (q - p)).toList,v.oneCell' = true := by
    rw [hzc]
    refine aw.oneCell ?_ hrep
    rw [List.all_eq_true]
    intro x hx
    rw [List.mem_flatten] at hx
    obtain ⟨l,hl,hx⟩ := hx
    rw [List.eq_of_mem_replicate hl] at hx
    exact List.all_eq_true.1 h1 x hx
   have hmq : q * i.size ≤ g.cap * i.size := Nat.mul_le_mul_right _ (by omega)
   have hmp : rows.length * i.size ≤ p * i.size := Nat.mul_le_mul_right _ hp
   have hsub : (q - p) * i.size = q * i.size - p * i.size := Nat.sub_mul _ _ _
   have hpq' : p * i.size ≤ q * i.size := Nat.mul_le_mul_right _ hpq
   have hst := run_storeCells_at P b (p * i.size) e (Builtin.zeroCells ei.zero.cells (q - p)).toList 0 cur w hcur (by rw [hzs]; omega) hone
   simp only [Nat.add_zero] at hst
   obtain ⟨k,hk1⟩ : ∃ k,q - p = k + 1 := ⟨q - p - 1,by omega⟩
   have htake : (cur.toList.take (p * i.size) ++ (Builtin.zeroCells ei.zero.cells (q - p)).toList ++ cur.toList.drop (p * i.size + (Builtin.zeroCells ei.zero.cells (q - p)).toList.length)).take (rows.length * i.size) = cur.toList.take (rows.length * i.size) := by
    rw [List.append_assoc,List.take_append_of_le_length (by rw [List.length_take,hcs2]; omega),List.take_take,Nat.min_eq_left hmp]
   refine fin _ ?_ (hi.set_obj tag _ hob b hb rows true (cur.toList.take (p * i.size) ++ (Builtin.zeroCells ei.zero.cells (q - p)).toList ++ cur.toList.drop (p * i.size + (Builtin.zeroCells ei.zero.cells (q - p)).toList.length)).toArray i g1 g2 g3 ?_ hlc hcm ?_ ?_ ?_ (fun _=>hw1 trivial) (fun o' _=>hw1 trivial o'))
   ·rw [e1]
    have hzv : (zeroValue e).run P w = .ok ei.zero w := by simp [zeroValue,typeInfo,g1,hzero]
    rw [hk1] at hst ⊢
    simp [Builtin.clear_,run_underlying hu,hzv]
    rw [hst]
    simp
   ·have e9 : (cur.toList.take (p * i.size) ++ (Builtin.zeroCells ei.zero.cells (q - p)).toList ++ cur.toList.drop (p * i.size + (Builtin.zeroCells ei.zero.cells (q - p)).toList.length)).length = g.cap * i.size := by
     rw [List.length_append,List.length_append,List.length_take,List.length_drop,hcs2,hzs]
     omega
    simpa using e9
   ·simp only
    rw [htake]
    exact hcr
   ·simp only
    rw [htake]
    exact h1c
   ·intro o' v' hm'
    rw [hw1 trivial o'] at hm'
    cases hm'
end
section
variable {P : Program} {ops : Array Oper} {rest : List Oper} {o : Oper} {n : Nat} {s s' : Nat → PV} {bx : Nat → Option Box} {ob : Nat → Option Obj} {K : PState → Prop} {T : TT} {rb : RB} {k : Nat} {L : List Nat}
theorem Ao.subV (hT : T.Ok P) (hg : aM ops s o = some true) {t : TypeId} {x : Operand} {lo hi mx : Option Operand} (ho : o.op = .slice t x lo hi mx) {ti ei : TInfo} {e : TypeId} (hti : T.get t = some ti) (hd : ti.desc = .slice e) (hei : T.get e = some ei)
  {tag : Nat} {g : OwnRef} {len : Nat} (hx : evS s x = .own tag g len) {l h m : Nat} (hl : kB (evS s) lo 0 l) (hh : kB (evS s) hi len h) (hm : kB (evS s) mx g.cap m) (hs : mx.isSome = true → hi.isSome = true) (h1 : l ≤ h) (h2 : h ≤ m) (h3 : m ≤ g.cap)
  (hp : putD n s o.dst (.val (g.sub ei.size l h m)) = some s') (hr : Ao P ops rest ⟨n,s',bx,ob⟩ K) : Ao P ops (o :: rest) ⟨n,s,bx,ob⟩ K :=
 Ao.detS hg (detS_subV hT ho hti hd hei hx hl hh hm hs h1 h2 h3) hp hr
theorem Do.subV (hT : T.Ok P) (ho : ops[k]? = some o) (hg : aM ops s o = some true) {t : TypeId} {x : Operand} {lo hi mx : Option Operand} (hop : o.op = .slice t x lo hi mx) {ti ei : TInfo} {e : TypeId} (hti : T.get t = some ti) (hd : ti.desc = .slice e) (hei : T.get e = some ei)
  {tag : Nat} {g : OwnRef} {len : Nat} (hx : evS s x = .own tag g len) {l h m : Nat} (hl : kB (evS s) lo 0 l) (hh : kB (evS s) hi len h) (hm : kB (evS s) mx g.cap m) (hs : mx.isSome = true → hi.isSome = true) (h1 : l ≤ h) (h2 : h ≤ m) (h3 : m ≤ g.cap)
  (hp : putD n s o.dst (.val (g.sub ei.size l h m)) = some s') (hr : Do P T rb ops L ⟨n,s',bx,ob⟩ K) : Do P T rb ops (k :: L) ⟨n,s,bx,ob⟩ K :=
 Do.detS ho hg (by rw [hop]; rfl) (fun _=>detS_subV hT hop hti hd hei hx hl hh hm hs h1 h2 h3) hp hr
theorem Ao.clearB (hT : T.Ok P) (hg : aM ops s o = some true) {x : Operand} {t : TypeId} (ho : o.op = .call { callee := .builtin .clear,args := #[x],argTypes := #[t] }) (hdst : o.dst = none) {ti ei : TInfo} {e : TypeId} (hti : T.get t = some ti) (hd : ti.desc = .slice e) (hei : T.get e = some ei)
  (hz : Nat.beq ei.zero.cells.size ei.size = true) (h1 : (cr ei).all PV.one = true) {tag : Nat} {g : OwnRef} {rows : List (List PV)} (hob : ob tag = some ⟨g,e,rows,true⟩) {p q m : Nat} (hp : rows.length ≤ p) (hpq : p ≤ q) (hq : q ≤ m) (hm : m ≤ g.cap)
  (hx : evS s x = .val (g.sub ei.size p q m)) (h : Ao P ops rest ⟨n,s,bx,ob⟩ K) : Ao P ops (o :: rest) ⟨n,s,bx,ob⟩ K :=
 Ao.eff hg (eff_clearB hT ho hti hd hei hz h1 hob hp hpq hq hm hx ⟨s,by simp [hdst,putD],h⟩)
theorem Ao.shr (hg : aM ops s o = some true) {t t' : TypeId} {x y : Operand} (ho : o.op = .binOp .shr t x y t') {kk k2 : IntKind} {a b : Int} (hx : evS s x = .val (.int kk a)) (hy : evS s y = .val (.int k2 b)) (hb : 0 ≤ b) {m : Nat} (hm : min b.toNat kk.bits = m)
  (hp : putD n s o.dst (.val (.int kk (a.fdiv (2 ^ m)))) = some s') (h : Ao P ops rest ⟨n,s',bx,ob⟩ K) : Ao P ops (o :: rest) ⟨n,s,bx,ob⟩ K := by
 refine Ao.eff hg (fun C M a' w next Q hi he hn=>?_)
 have hxr := he x (by rw [ho]; simp [Op.operands])
 have hyr := he y (by rw [ho]; simp [Op.operands])
 rw [show (⟨n,s,bx,ob⟩ : PState).s = s from rfl,hx] at hxr
 rw [show (⟨n,s,bx,ob⟩ : PState).s = s from rfl,hy] at hyr
 simp only [Rep] at hxr hyr
 subst hm
 have hrun : (execOp a'.eval o).run P w = .ok (.value (.int kk (a.fdiv (2 ^ (min b.toNat kk.bits))))) w := by
  have h2 : (eqGuard .shr t x y (.int kk a) (.int k2 b)).run P w = .ok () w := by simp [eqGuard]
  have hb' : ¬ b < 0 := by omega
  simp only [execOp,ho,hxr,hyr,Sem.run_bind,h2,Result.andThen_ok,binOp,Op.shift,if_neg hb']
  rfl
 unfold Oper.wp
 rw [hrun]
 exact hn _ _ ⟨bx,ob⟩ M w ⟨s',hp,h⟩ (Mem.le_refl M) hi (by simp only [Rep])
theorem Ao.ownF {tag : Nat} {g : OwnRef} {e : TypeId} {rows : List (List PV)} {wr : Bool} (hob : ob tag = some ⟨g,e,rows,wr⟩) (h : (rows ≠ [] → ∃ b,g.blk = some b) → Ao P ops rest ⟨n,s,bx,ob⟩ K) : Ao P ops rest ⟨n,s,bx,ob⟩ K := fun C M a w Q hi hq=>by
 refine h (fun hne=>?_) C M a w Q hi hq
 obtain ⟨_,_,_,_,h4⟩ := hi.2.objs tag _ hob
 rcases h4 with ⟨_,h5,_⟩ | ⟨b,_,h5,_⟩
 ·exact absurd h5 hne
 ·exact ⟨b,h5⟩
theorem V.ownC {fn : Func} {R : PV → Heap → Prop} {ks : List KI} {tag : Nat} {g : OwnRef} {e : TypeId} {rows : List (List PV)} {wr : Bool} (hob : ob tag = some ⟨g,e,rows,wr⟩) (h : rows.length ≤ g.cap → V P fn R ks ⟨n,s,bx,ob⟩) : V P fn R ks ⟨n,s,bx,ob⟩ := fun C M a w hi=>by
 refine h ?_ C M a w hi
 obtain ⟨_,_,_,_,h4⟩ := hi.2.objs tag _ hob
 rcases h4 with ⟨_,h5,h6⟩ | ⟨b,_,h5,_,_,_,h6,h7,_⟩
 ·simp only at h5; rw [h5]; simp
 ·exact h6
theorem Ao.ownC {tag : Nat} {g : OwnRef} {e : TypeId} {rows : List (List PV)} {wr : Bool} (hob : ob tag = some ⟨g,e,rows,wr⟩) (h : rows.length ≤ g.cap → Ao P ops rest ⟨n,s,bx,ob⟩ K) : Ao P ops rest ⟨n,s,bx,ob⟩ K := fun C M a w Q hi hq=>by
 refine h ?_ C M a w Q hi hq
 obtain ⟨_,_,_,_,h4⟩ := hi.2.objs tag _ hob
 rcases h4 with ⟨_,h5,h6⟩ | ⟨b,_,h5,_,_,_,h6,h7,_⟩
 ·simp only at h5; rw [h5]; simp
 ·exact h6
theorem Gh.cutO {st : PState} {tag : Nat} {g : OwnRef} {e : TypeId} {rows rows' : List (List PV)} (hob : st.ob tag = some ⟨g,e,rows,true⟩) (m : Nat) (hr : rows.take m = rows') : Gh P st ⟨st.n,st.s,st.bx,upd st.ob tag (some ⟨g,e,rows',true⟩)⟩ := by
 subst hr
 intro C M a w hi
 exact ⟨M,hi.1,hi.2.cutO hob m⟩
theorem Do.appendIn (hT : T.Ok P) (ho : ops[k]? = some o) (hg : aM ops s o = some true) {x y : Operand} {t : TypeId} (hop : o.op = .call { callee := .builtin .append,args := #[x,y],argTypes := #[t,t] }) {ti ei : TInfo} {e : TypeId} (hti : T.get t = some ti) (hd : ti.desc = .slice e) (hei : T.get e = some ei)
  {tag : Nat} {g : OwnRef} {rows rows' : List (List PV)} (hob : ob tag = some ⟨g,e,rows,true⟩) {p q : Nat} (hpq : p ≤ q) (hq : q ≤ rows.length) (hx : evS s x = .val (g.sub ei.size 0 p g.cap)) (hy : evS s y = .val (g.sub ei.size q rows.length g.cap)) (hr : rows.take p ++ rows.drop q = rows')
  (hp : putD n s o.dst (.own tag g rows'.length) = some s') (h : Do P T rb ops L ⟨n,s',bx,upd ob tag (some ⟨g,e,rows',true⟩)⟩ K) : Do P T rb ops (k :: L) ⟨n,s,bx,ob⟩ K := by
 subst hr
 refine ⟨o,ho,true,hg,?_⟩
 simp only [if_true,hop,de]
 exact fun bx'=>eff_appendIn hT hop hti hd hei hob hpq hq hx hy ⟨rfl,s',hp,h⟩
theorem Ao.cutP (hT : T.Ok P) (hg : aM ops s o = some true) {t : TypeId} {x y : Operand} (ho : o.op = .slice t x none (some y) none) {ti : TInfo} {e : TypeId} (hti : T.get t = some ti) (hd : ti.desc = .slice e) {ei : TInfo} (hei : T.get e = some ei)
  {tag : Nat} {g : OwnRef} {len : Nat} {rows rows' : List (List PV)} (hx : evS s x = .own tag g len) (hob : ob tag = some ⟨g,e,rows,true⟩) {kk : IntKind} {m : Int} (hy : evS s y = .val (.int kk m)) (hm : 0 ≤ m ∧ m.toNat ≤ rows.length) (hr : rows.take m.toNat = rows') {d : Nat} (hdst : o.dst = some d) (hlt : Nat.blt d n = true)
  (h : Ao P ops rest ⟨n,upd s d (.own tag g rows'.length),bx,upd ob tag (some ⟨g,e,rows',true⟩)⟩ K) : Ao P ops (o :: rest) ⟨n,s,bx,ob⟩ K := by
 subst hr
 refine Ao.eff hg (fun C M a w next Q hi he hn=>?_)
 have hxr := he x (by rw [ho]; simp [Op.operands])
 have hyr := he y (by rw [ho]; simp [Op.operands])
 rw [show (⟨n,s,bx,ob⟩ : PState).s = s from rfl,hx] at hxr
 rw [show (⟨n,s,bx,ob⟩ : PState).s = s from rfl,hy] at hyr
 simp only [Rep] at hxr hyr
 have hu := (hT.get hti).und
 rw [hd] at hu
 have hcap : rows.length ≤ g.cap := by
  obtain ⟨i,_,_,_,h4⟩ := hi.objs tag _ hob
  rcases h4 with ⟨_,b,_⟩ | ⟨_,_,_,_,_,_,h9,_⟩
  ·simp only at b; rw [b]; simp
  ·exact h9
 have hmc : m ≤ (g.cap : Int) := by omega
 have hl2 : (rows.take m.toNat).length = m.toNat := by simp; omega
 have hrun : (execOp a.eval o).run P w = .ok (.value (g.val (rows.take m.toNat).length)) w := by
  rw [hl2]
  simp only [execOp,ho,Sem.run_bind,Sem.run_pure,Option.map_some,Option.map_none,hxr.2,hyr,OwnRef.val]
  cases hb : g.blk with
  | none=>simp [Instr.sliceAt,Instr.slice,run_underlying hu,Instr.sliceBounds,Instr.sliceBound,asIntOf,(hT.get hei).rsize w,hm.1,hmc]
  | some b =>
   have e0 : (⟨b,0,none⟩ : Addr).add 0 = ⟨b,0,none⟩ := by rw [eX]
   simp [Instr.sliceAt,Instr.slice,run_underlying hu,Instr.sliceBounds,Instr.sliceBound,asIntOf,(hT.get hei).rsize w,hm.1,hmc,e0]
 unfold Oper.wp
 rw [hrun]
 exact hn _ (.own tag g (rows.take m.toNat).length) ⟨bx,upd ob tag (some ⟨g,e,rows.take m.toNat,true⟩)⟩ M w ⟨_,by simp [hdst,putD,hlt],h⟩ (Mem.le_refl M) (hi.cutO hob m.toNat) (by simp [Rep])
end
def kl (T : TT) : List (Nat × Nat) → List PV → List PV → Option Bool
 | [],_,_=>some true
 | (t,off) :: r,xs,ys=>match T.get t with
  | some ti=>match (bif ti.eqf.isEmpty then (match xs[off]?,ys[off]? with | some p,some q=>nf ti.desc p q | _,_=>none) else iY T ti.eqf ((xs.drop off).take ti.size) ((ys.drop off).take ti.size)),kl T r xs ys with
   | some b,some c=>some (b && c)
   | _,_=>none
  | none=>none
section
variable {P : Program} {T : TT}
theorem mI (hT : T.Ok P) (w : World) {M : Mem} {d : Nat} {xs ys : List PV} {cs ds : Array Value} (hx : aw P M true xs cs.toList) (hy : aw P M true ys ds.toList) :
  ∀ (fs : List Field) (eqf : List (Nat × Nat)) (b : Bool),dc fs eqf → kl T eqf xs ys = some b → (Op.eqFields (d + 2) cs ds fs).run P w = .ok b w
 | [],[],b,_,h=>by simp only [kl,Option.some.injEq] at h; subst h; simp [Op.eqFields]
 | f :: fs,(t,o) :: r,b,hm,h=>by
  simp only [dc] at hm
  obtain ⟨hn,rfl,rfl,hm⟩ := hm
  simp only [kl] at h
  split at h
  ·rename_i ti hti
   split at h
   ·rename_i b1 b2 h1 h2
    simp only [Option.some.injEq] at h
    subst h
    have ih := mI hT w (d := d) hx hy fs r b2 hm h2
    cases he : ti.eqf.isEmpty with
    | true =>
     simp only [he,cond_true] at h1
     split at h1
     ·rename_i p q hp hq
      obtain ⟨x,hx1,hx2⟩ := hx.get _ _ hp
      obtain ⟨y,hy1,hy2⟩ := hy.get _ _ hq
      obtain ⟨hag,heq⟩ := mG w (d := d + 1) (hT.get hti) hx2 hy2 h1
      have hpx : ∀ (c : Array Value) (z : Value),c.toList[f.offset]? = some z → (part f.type c f.offset).run P w = .ok z w := by
       intro c z hz
       rw [Array.getElem?_toList] at hz
       simp [part,(hT.get hti).ragg w,hag,hz]
      simp only [Op.eqFields, if_pos (show f.name ≠ "_" from hn), Sem.run_bind, hpx _ _ hx1, hpx _ _ hy1, Result.andThen_ok, heq]
      cases b1 <;> simp [ih]
     ·cases h1
    | false =>
     simp only [he,cond_false] at h1
     obtain ⟨k1,k2,k3,k4⟩ := (hT.get hti).eqs (by intro h0; simp [h0] at he)
     have hag : kK ti.desc = true := by
      have hu := (hT.get hti).und
      rw [k4] at hu
      rw [← Option.some.inj hu]
      rfl
     have hpx : ∀ (c : Array Value),(part f.type c f.offset).run P w = .ok (.agg (c.extract f.offset (f.offset + ti.size))) w := by
      intro c
      simp [part,(hT.get hti).ragg w,hag,(hT.get hti).rsize w]
     have hsub : ∀ (zs : List PV) (c : Array Value),aw P M true zs c.toList → aw P M true ((zs.drop f.offset).take ti.size) (c.extract f.offset (f.offset + ti.size)).toList := by
      intro zs c hz
      have e : (c.extract f.offset (f.offset + ti.size)).toList = (c.toList.drop f.offset).take ti.size := by
       rw [Array.toList_extract]
       simp [List.extract_eq_take_drop]
      rw [e]
      exact (hz.drop _).take _
     have heq : (Op.equalIn (d + 2) f.type (.agg (cs.extract f.offset (f.offset + ti.size))) (.agg (ds.extract f.offset (f.offset + ti.size)))).run P w = .ok b1 w := by
      rw [run_equalIn_agg w (d + 1) f.type _ _ k4 k1]
      exact jn hT w (d := d) (hsub _ _ hx) (hsub _ _ hy) _ _ b1 k3 h1
     simp only [Op.eqFields, if_pos (show f.name ≠ "_" from hn), Sem.run_bind, hpx, Result.andThen_ok, heq]
     cases b1 <;> simp [ih]
   ·cases h
  ·cases h
 | [],_ :: _,b,hm,_=>by simp [dc] at hm
 | _ :: _,[],b,hm,_=>by simp [dc] at hm
theorem detS_eqNest (hT : T.Ok P) {o : Oper} {ev : Operand → PV} {H : Heap} {t t' : TypeId} {x y : Operand} (ho : o.op = .binOp .eql t x y t') {xs ys : List PV} (hx : ev x = .agg xs) (hy : ev y = .agg ys) (h1 : P.stoodInHeld t = false) (h2 : P.eqGuardType P.depth t = false)
  {eqf : List (Nat × Nat)} (h3 : dc (P.fieldsOf t).toList eqf) (h4 : P.underlying t = some (.struct (P.fieldsOf t))) {b : Bool} (hb : kl T eqf xs ys = some b) : DetS P o ev H (.val (.bool b)) := by
 intro C M a w _ he
 have hxr := he x (by rw [ho]; simp [Op.operands])
 have hyr := he y (by rw [ho]; simp [Op.operands])
 rw [hx] at hxr
 rw [hy] at hyr
 simp only [Rep] at hxr hyr
 obtain ⟨cs,ex,hc⟩ := hxr
 obtain ⟨ds,ey,hd⟩ := hyr
 refine ⟨.bool b,?_,by simp only [Rep]⟩
 have key : (binOp .eql t (.agg cs) (.agg ds)).run P w = .ok (.bool b) w := by
  rw [run_eql_struct w t cs ds,show (10000 : Nat) = 9997 + 2 + 1 from rfl,run_equalIn_agg w (9997 + 2) t cs ds h4 h1,mI hT w (d := 9997) hc hd _ _ b h3 hb]
  rfl
 have hg := run_eqGuard_agg (P := P) w .eql t x y cs ds h2
 simp only [execOp,ho,ex,ey]
 simp only [Sem.run_bind,hg,Result.andThen_ok,key]
 rfl
end
section
variable {P : Program} {ops : Array Oper} {rest : List Oper} {o : Oper} {n : Nat} {s s' : Nat → PV} {bx : Nat → Option Box} {ob : Nat → Option Obj} {K : PState → Prop} {T : TT} {rb : RB} {k : Nat} {L : List Nat}
theorem Do.eqNest (hT : T.Ok P) (ho : ops[k]? = some o) (hg : aM ops s o = some true) {t t' : TypeId} {x y : Operand} (hop : o.op = .binOp .eql t x y t') {xs ys : List PV} (hx : evS s x = .agg xs) (hy : evS s y = .agg ys) (h1 : P.stoodInHeld t = false) (h2 : P.eqGuardType P.depth t = false)
  {eqf : List (Nat × Nat)} (h3 : dc (P.fieldsOf t).toList eqf) (h4 : P.underlying t = some (.struct (P.fieldsOf t))) {b : Bool} (hb : kl T eqf xs ys = some b) (hp : putD n s o.dst (.val (.bool b)) = some s') (h : Do P T rb ops L ⟨n,s',bx,ob⟩ K) : Do P T rb ops (k :: L) ⟨n,s,bx,ob⟩ K :=
 Do.detS ho hg (by rw [hop]; rfl) (fun _=>detS_eqNest hT hop hx hy h1 h2 h3 h4 hb) hp h
end
end
end Go.Ab

namespace Go.Ab
noncomputable section
section
variable {P : Program} {C : Ctx} {M : Mem} {H : Heap} {w : World}
theorem InvH.alloc_part (h : InvH P C M H w) (pre cs : Array Value) (e : TypeId) (fz : Nat × Nat) (hp : ∀ (o : Nat) (v : Value),pre[o]? = some v → cs[o]? = some v) : InvH P C (M.add w.heap.size pre) H (w.alloc (.cells cs e fz)) := by
 have hle := h.add_le pre
 refine ⟨?_,Mem.le_trans h.ext hle,?_,h.os,h.tape,h.output,?_,?_,?_,?_,h.dbox,h.dobj,h.dmix⟩
 ·intro b o v hm
  by_cases hb : b = w.heap.size
  ·subst hb
   rw [cell_of_row (w.alloc (.cells cs e fz)) w.heap.size o cs e fz (heap_alloc_new w _)]
   exact hp o v (by simpa [Mem.add] using hm)
  ·simp only [Mem.add,hb,if_false] at hm
   rw [kx w _ (h.mem_lt hm)]
   exact h.mem b o v hm
 ·intro b o v hm
  by_cases hb : b = w.heap.size
  ·exact .inr (.inl (hb ▸ h.size))
  ·simp only [Mem.add,hb,if_false] at hm
   exact h.new b o v hm
 ·rw [mQ]; exact Nat.le_succ_of_le h.size
 ·intro b hb hn
  rw [heap_alloc_old w _ (Nat.lt_of_lt_of_le hb h.size)]
  exact h.frame b hb hn
 ·intro t x hx
  have hlt := h.box_lt hx
  exact (h.boxes t x hx).keep hle (fun o ho=>by simp [Mem.add,Nat.ne_of_lt hlt,ho]) (heap_alloc_old w _ hlt)
 ·intro t x hx
  exact (h.objs t x hx).keep hle (fun b o hb ho=>by simp [Mem.add,Nat.ne_of_lt (h.obj_lt hx hb),ho]) (fun b hb=>heap_alloc_old w _ (h.obj_lt hx hb))
theorem freeze_new (w : World) (cs : Array Value) (e : TypeId) (n : Nat) : (w.alloc (.cells cs e)).freeze ⟨w.heap.size,n,none⟩ 1 = w.alloc (.cells cs e (n,n + 1)) := by
 unfold World.freeze World.alloc
 simp only [Nat.one_ne_zero,if_false]
 congr 1
 apply Array.ext
 ·simp
 ·intro i h1 h2
  rw [Array.getElem_modify]
  split
  ·rename_i hi
   subst hi
   simp
  ·rename_i hi
   have : i < w.heap.size := by simp at h2; omega
   simp [Array.getElem_push,this]
end
section
variable {P : Program} {ops : Array Oper} {rest : List Oper} {o : Oper} {n : Nat} {s s' : Nat → PV} {bx : Nat → Option Box} {ob : Nat → Option Obj} {K : PState → Prop} {T : TT} {rb : RB} {k : Nat} {L : List Nat}
theorem byteRows_rep (M : Mem) (xs : List UInt8) : aw P M false (iT xs).flatten (xs.map fun c=>Value.int .u8 c.toNat) := by
 induction xs with
 | nil=>simp [iT,aw]
 | cons c xs ih=>simp only [iT,List.map_cons,List.flatten_cons,List.cons_append,List.nil_append,aw,Rep]; exact ⟨_,_,rfl,rfl,ih⟩
theorem Ao.s2b (hT : T.Ok P) (hg : aM ops s o = some true) {src dst e : TypeId} {x : Operand} (ho : o.op = .convert src dst x) {si di ei : TInfo} (hsi : T.get src = some si) (hsd : si.desc = .string) (hdi : T.get dst = some di) (hdd : di.desc = .slice e) (hei : T.get e = some ei) (hed : ei.desc = .int .u8) (hes : ei.size = 1) (heb : ei.bytes = 1)
  {xs : List UInt8} (hx : evS s x = .str xs) (hl : xs.length ≤ 2 ^ 47) (hp : putD n s o.dst (.list e (iT xs)) = some s') (h : Ao P ops rest ⟨n,s',bx,ob⟩ K) : Ao P ops (o :: rest) ⟨n,s,bx,ob⟩ K := by
 refine Ao.eff hg (fun C M a w next Q hi he hn=>?_)
 have hxr := he x (by rw [ho]; simp [Op.operands])
 rw [show (⟨n,s,bx,ob⟩ : PState).s = s from rfl,hx] at hxr
 simp only [Rep] at hxr
 have hs := (hT.get hsi).und
 have hd := (hT.get hdi).und
 have hee := (hT.get hei).und
 rw [hsd] at hs
 rw [hdd] at hd
 rw [hed] at hee
 obtain ⟨i,hinf,hsz,hby,_⟩ := (hT.get hei).info
 have hge := grownCap_ge w xs.length 0 e
 have hml : xs.length ≤ maxLen := by unfold maxLen; omega
 have hgm : grownCap w xs.length 0 e ≤ maxLen := grownCap_le_maxLen w xs.length 0 e hml
 obtain ⟨pre,hpre⟩ : ∃ pre : Array Value,pre = xs.toArray.map fun b=>Value.int .u8 b.toNat := ⟨_,rfl⟩
 obtain ⟨cs,hcs⟩ : ∃ cs : Array Value,cs = pre ++ Array.replicate (grownCap w xs.length 0 e - xs.length) (.int .u8 0) := ⟨_,rfl⟩
 have hrun : (execOp a.eval o).run P w = .ok (.value (.slice (some ⟨w.heap.size,0,none⟩) xs.length (grownCap w xs.length 0 e))) (w.drew.alloc (.cells cs e (cs.size,cs.size + 1))) := by
  have hz : (ByteArray.mk xs.toArray).size = xs.length := by simp [ByteArray.size]
  have key : (Conv.stringToBytes e ⟨xs.toArray⟩).run P w = .ok (.slice (some ⟨w.heap.size,0,none⟩) xs.length (grownCap w xs.length 0 e)) (w.drew.alloc (.cells cs e (cs.size,cs.size + 1))) := by
   have hmk : ∀ w0 : World,(markStringish ⟨w0.heap.size,0,none⟩).run P (w0.alloc (.cells cs e)) = .ok () (w0.alloc (.cells cs e (cs.size,cs.size + 1))) := by
    intro w0
    have hsh : (w0.alloc (.cells cs e)).shape? w0.heap.size = some (e,cs.size) := by unfold World.shape?; rw [heap_alloc_new]
    unfold markStringish
    simp only [Sem.run_bind,run_shape,Result.andThen_ok,hsh]
    rw [run_freeze,freeze_new]
   have hm0 := hmk w.drew
   subst hcs
   subst hpre
   unfold Conv.stringToBytes
   simp only [Sem.run_bind,hz,run_choose,Question.forced]
   simp [newRow]
   simp [grownCap] at hm0 ⊢
   rw [hm0]
   simp
  simp only [execOp,ho,hxr.1,convert,Sem.run_bind,run_underlying hs,run_underlying hd,run_underlying hee,Result.andThen_ok,key]
  rfl
 unfold Oper.wp
 rw [hrun]
 have hle := (show InvH P C M ⟨bx,ob⟩ w.drew from hi.drew).add_le pre
 have hi' := (show InvH P C M ⟨bx,ob⟩ w.drew from hi.drew).alloc_part pre cs e (cs.size,cs.size + 1) (fun o v hv=>by rw [hcs,Array.getElem?_append_left (Array.getElem?_eq_some_iff.1 hv).1]; exact hv)
 refine hn _ (.list e (iT xs)) ⟨bx,ob⟩ (M.add w.drew.heap.size pre) _ ⟨s',hp,h⟩ hle hi' ?_
 simp only [Rep]
 have hbl : (iT xs).length = xs.length := by simp [iT]
 refine ⟨_,grownCap w xs.length 0 e,i,by rw [hbl],by rw [hbl]; exact hge,hgm,hinf,by rw [hbl,hby,heb]; omega,fun _=>⟨_,_,rfl,?_⟩⟩
 refine ck.of_flat (fun r hr=>?_) (nU (show InvH P C M ⟨bx,ob⟩ w.drew from hi.drew) (iT xs).flatten pre ?_ ?_)
 ·obtain ⟨c,_,rfl⟩ := List.mem_map.1 hr
  rw [hsz,hes]; rfl
 ·rw [hpre]
  intro v hv
  simp at hv
  obtain ⟨c,_,rfl⟩ := hv
  rfl
 ·rw [hpre]
  simpa using byteRows_rep M xs
theorem Ao.makeS (hT : T.Ok P) (hg : aM ops s o = some true) {x : Operand} {t : TypeId} (ho : o.op = .makeSlice t x x) {d : Nat} (hdst : o.dst = some d) (hlt : Nat.blt d n = true) {ti ei : TInfo} {e : TypeId} (hti : T.get t = some ti) (hd : ti.desc = .slice e) (hei : T.get e = some ei)
  (hz : Nat.beq ei.zero.cells.size ei.size = true) (h1 : (cr ei).all PV.one = true) {kk : IntKind} {m : Int} (hx : evS s x = .val (.int kk m)) (hm : 0 ≤ m) (hby : m.toNat * ei.bytes ≤ 2 ^ 47) (hmx : m.toNat ≤ maxLen) {rows : List (List PV)} (hr : List.replicate m.toNat (cr ei) = rows)
  (h : ∀ g,Ao P ops rest ⟨n,upd s d (.own d g rows.length),bx,upd ob d (some ⟨g,e,rows,true⟩)⟩ K) : Ao P ops (o :: rest) ⟨n,s,bx,ob⟩ K := by
 subst hr
 refine Ao.eff hg (fun C M a w next Q hi he hn=>?_)
 have hxr := he x (by rw [ho]; simp [Op.operands])
 rw [show (⟨n,s,bx,ob⟩ : PState).s = s from rfl,hx] at hxr
 simp only [Rep] at hxr
 have hu := (hT.get hti).und
 rw [hd] at hu
 obtain ⟨i,hinf,hs,hbs,hzero⟩ := (hT.get hei).info
 have hz1 := Nat.eq_of_beq_eq_true hz
 obtain ⟨k,hk⟩ : ∃ k : Nat,k = m.toNat := ⟨_,rfl⟩
 rw [← hk] at hby hmx h
 have hkm : m = (k : Int) := by omega
 subst hkm
 have hby2 : k * i.bytes ≤ 2 ^ 47 := by rw [hbs]; exact hby
 have hbi : (i.bytes : Int) * (k : Int) ≤ 281474976710656 := by
  have : ((k * i.bytes : Nat) : Int) ≤ ((2 ^ 47 : Nat) : Int) := Int.ofNat_le.2 hby2
  rw [Int.natCast_mul] at this
  rw [Int.mul_comm]
  omega
 have hrun : (execOp a.eval o).run P w = .ok (.value (.slice (some ⟨w.heap.size,0,none⟩) k k)) (w.alloc (.cells (madeCells ei.zero.cells (k * i.size)) e)) := by
  have := run_make w t e i ei.zero hu hinf hzero kk kk (k : Int) (k : Int) (by omega) (by omega) hbi (by unfold maxLen at hmx; omega)
  simp only [Int.toNat_natCast] at this
  simp only [execOp,ho,hxr,Sem.run_bind,this]
  rfl
 unfold Oper.wp
 rw [hrun]
 have hzl : (cr ei).length = i.size := by simp [cr,hz1,hs]
 have hmc : (madeCells ei.zero.cells (k * i.size)).toList = (List.replicate k ei.zero.cells.toList).flatten := by
  rw [hs,← hz1]
  exact lE ei.zero.cells k
 have hrep : aw P M false (List.replicate k (cr ei)).flatten (List.replicate k ei.zero.cells.toList).flatten := ji (ja _) k
 have htake : (madeCells ei.zero.cells (k * i.size)).toList.take ((List.replicate k (cr ei)).length * i.size) = (List.replicate k ei.zero.cells.toList).flatten := by
  rw [List.length_replicate,List.take_of_length_le (by simp [size_madeCells]),hmc]
 refine hn _ (.own d ⟨some w.heap.size,k⟩ (List.replicate k (cr ei)).length) _ M _ ⟨_,by simp [hdst,putD,hlt],h ⟨some w.heap.size,k⟩⟩ (Mem.le_refl M)
  ((show InvH P C M ⟨bx,ob⟩ w from hi).alloc_obj d e (List.replicate k (cr ei)) true _ _ i hinf ?_ ?_ ?_ ?_ hmx ?_ ?_) ?_
 ·rw [List.length_replicate]; exact hby2
 ·intro r hr
  rw [List.eq_of_mem_replicate hr]
  exact hzl
 ·rw [size_madeCells]
 ·rw [List.length_replicate]; exact Nat.le_refl _
 ·rw [htake]; exact hrep
 ·rw [htake]
  refine aw.oneCell ?_ hrep
  rw [List.all_flatten]
  rw [List.all_eq_true]
  intro r hr
  rw [List.eq_of_mem_replicate hr]
  exact h1
 ·simp [Rep,OwnRef.val]
theorem Ao.ext (hg : aM ops s o = some true) {fx : Operand} {av0 : Array Operand} {ts : Array TypeId} (ho : o.op = .call { callee := .value fx,args := av0,argTypes := ts }) {g : FuncId} (hf : evS s fx = .fn g []) {r : PV}
  (hcall : ∀ (M : Mem) (vs : Array Value) (w : World),aw P M true (av0.toList.map (evS s)) vs.toList → ∃ v,(callFunc g vs).run P w = .ok (.value v) w ∧ Rep P M true r v)
  (hp : putD n s o.dst r = some s') (h : Ao P ops rest ⟨n,s',bx,ob⟩ K) : Ao P ops (o :: rest) ⟨n,s,bx,ob⟩ K := by
 refine Ao.eff hg (fun C M a w next Q hi he hn=>?_)
 have hfr := he fx (by rw [ho]; simp [Op.operands,Call.operands])
 rw [show (⟨n,s,bx,ob⟩ : PState).s = s from rfl,hf] at hfr
 simp only [Rep] at hfr
 obtain ⟨cs,hv,hcaps⟩ := hfr
 have hargs : aw P M true (av0.toList.map (evS s)) (av0.map a.eval).toList := by
  simpa using lg av0.toList fun x hx=>he x (by rw [ho]; simp_all [Op.operands,Call.operands])
 have hc0 : cs = #[] := by
  simp only [aw] at hcaps
  exact Array.toList_eq_nil_iff.1 hcaps
 subst hc0
 obtain ⟨v,hrun,hr⟩ := hcall M (av0.map a.eval) w hargs
 have hrun' : (execOp a.eval o).run P w = .ok (.value v) w := by
  simp [execOp,ho,resolve,hv,Deferred.ofValue,invoke,hrun]
 unfold Oper.wp
 rw [hrun']
 exact hn v r ⟨bx,ob⟩ M w ⟨s',hp,h⟩ (Mem.le_refl M) hi hr
theorem Ao.cmpS (hg : aM ops s o = some true) {fx x y : Operand} {ts : Array TypeId} (ho : o.op = .call { callee := .value fx, args := #[x, y], argTypes := ts }) {g : FuncId} (hf : evS s fx = .fn g []) {fn : Func} (h1 : P.funcs[g]? = some fn) (h2 : (fn.name == "runtime.NumGoroutine") = false) (h3 : fn.body.isNone = true) (h4 : Extern.findNext fn = none) (h5 : Extern.find fn = some Extern.BytealgCompare.compare)
  {a b : List UInt8} (hx : evS s x = .str a) (hy : evS s y = .str b) (hp : putD n s o.dst (.val (.int .i64 (Lib.compareBytes a b))) = some s') (h : Ao P ops rest ⟨n,s',bx,ob⟩ K) : Ao P ops (o :: rest) ⟨n,s,bx,ob⟩ K := by
 refine Ao.ext hg ho hf (fun M vs w hr=>?_) hp h
 simp only [List.map_cons,List.map_nil,hx,hy,aw,Rep] at hr
 obtain ⟨v1,l1,e1,⟨r1,_⟩,v2,l2,e2,⟨r2,_⟩,e3⟩ := hr
 subst e3 e2 r1 r2
 have hvs : vs = #[.string ⟨a.toArray⟩,.string ⟨b.toArray⟩] := by
  apply Array.toList_inj.1
  rw [e1]
 subst hvs
 refine ⟨.int .i64 (Lib.compareBytes a b),?_,by simp only [Rep]⟩
 rw [run_callFunc_extern h1 h2 h3 h4 h5,Lib.run_compareString]
 rfl
end
end
end Go.Ab

namespace Go.Ab
noncomputable section
def arrI {α : Type} (n : Nat) (xs : List α) (i : Int) : Option α := if 0 ≤ i ∧ i < n then xs[i.toNat]? else none
theorem arrI_some {α : Type} {n : Nat} {xs : List α} {i : Int} {x : α} (h : arrI n xs i = some x) : (0 ≤ i ∧ i < n) ∧ xs[i.toNat]? = some x := by
 unfold arrI at h
 split at h
 ·rename_i h0; exact ⟨h0,h⟩
 ·cases h
theorem arrI_eq {α : Type} {n : Nat} {xs : List α} {i : Int} {x : α} (h0 : 0 ≤ i ∧ i < n) (h : xs[i.toNat]? = some x) : arrI n xs i = some x := by
 unfold arrI
 rw [if_pos h0,h]
theorem splice_map {α : Type} (f : α → PV) (xs : List α) (k : Nat) (v : α) {ys : List α} (hk : k < xs.length) (hy : xs.set k v = ys) : eA (xs.map f) k [f v] = ys.map f := by
 subst hy
 unfold eA
 rw [List.map_set,List.length_singleton]
 have hk' : k < (xs.map f).length := by simpa using hk
 rw [List.set_eq_take_append_cons_drop,if_pos hk',List.append_assoc]
 rfl
section
variable {P : Program} {ops : Array Oper} {rest : List Oper} {o : Oper} {n : Nat} {s s' : Nat → PV} {bx : Nat → Option Box} {ob : Nat → Option Obj} {K : PState → Prop} {T : TT} {rb : RB} {k : Nat} {L : List Nat}
theorem Do.idxA (ho : ops[k]? = some o) (hg : aM ops s o = some true) {t : TypeId} {x i : Operand} (hop : o.op = .indexAddr t x i) {ti ei : TInfo} {e : TypeId} {len : Nat} (hti : T.get t = some ti) (hd : ti.desc = .array len e) (hei : T.get e = some ei) (hes : ei.size = 1)
  {tag b : Nat} (hx : evS s x = .box tag b 0) {kk : IntKind} {j : Int} (hi : evS s i = .val (.int kk j)) (hj : 0 ≤ j ∧ j < len) (hp : putD n s o.dst (.box tag b j.toNat) = some s') (h : Do P T rb ops L ⟨n,s',bx,ob⟩ K) : Do P T rb ops (k :: L) ⟨n,s,bx,ob⟩ K := by
 refine Do.by ho hg (by rw [hop]; rfl) (r := .box tag b j.toNat) ?_ hp h
 rw [hop]
 simp [fH,fU,hti,hx,hi,hd,hei,hj,hes]
theorem Ao.loadA (hT : T.Ok P) (hg : aM ops s o = some true) {t : TypeId} {x : Operand} (ho : o.op = .load t x) {ti : TInfo} (hti : T.get t = some ti) (hta : kK ti.desc = false) {tag b off : Nat} {cells : List PV}
  (hx : evS s x = .box tag b off) (hb : bx tag = some ⟨b,cells⟩) {r : PV} (hr : cells[off]? = some r) (hp : putD n s o.dst r = some s') (h : Ao P ops rest ⟨n,s',bx,ob⟩ K) : Ao P ops (o :: rest) ⟨n,s,bx,ob⟩ K :=
 Ao.lB hT hg ho hti hx hb (by simp [bX,hta,hr,fS]) hp h
theorem Do.loadA (ho : ops[k]? = some o) (hrb : rb.b o = true) (hg : aM ops s o = some true) {t : TypeId} {x : Operand} (hop : o.op = .load t x) {ti : TInfo} (hti : T.get t = some ti) (hta : kK ti.desc = false) {tag b off : Nat} {cells : List PV}
  (hx : evS s x = .box tag b off) (hb : bx tag = some ⟨b,cells⟩) {r : PV} (hr : cells[off]? = some r) (hp : putD n s o.dst r = some s') (h : Do P T rb ops L ⟨n,s',bx,ob⟩ K) : Do P T rb ops (k :: L) ⟨n,s,bx,ob⟩ K :=
 Do.lB ho hrb hg hop hti hx hb (by simp [bX,hta,hr,fS]) hp h
theorem Ao.storeA (hT : T.Ok P) (hg : aM ops s o = some true) {t : TypeId} {x y : Operand} (ho : o.op = .store t x y) (hd : o.dst = none) {ti : TInfo} (hti : T.get t = some ti) (hts : ti.size = 1) {tag b off : Nat} {cells cells' : List PV} (hx : evS s x = .box tag b off) (hb : bx tag = some ⟨b,cells⟩)
  {p : PV} (hc : dS (evS s y) = some [p]) (h1 : PV.one p = true) (hk : off < cells.length) (hs : eA cells off [p] = cells') (h : Ao P ops rest ⟨n,s,upd bx tag (some ⟨b,cells'⟩),ob⟩ K) : Ao P ops (o :: rest) ⟨n,s,bx,ob⟩ K :=
 Ao.sB hT hg ho hd hti hx hb (cs := [p]) (by simp [hc,cZ]) (by simp [h1]) (by rw [hts]; rfl) (by rw [hts]; exact Nat.ble_eq.mpr hk) (by rw [cZ,hs]) h
theorem Do.storeA (ho : ops[k]? = some o) (hg : aM ops s o = some true) {t : TypeId} {x y : Operand} (hop : o.op = .store t x y) (hd : o.dst = none) {ti : TInfo} (hti : T.get t = some ti) (hts : ti.size = 1) {tag b off : Nat} {cells cells' : List PV} (hx : evS s x = .box tag b off) (hb : bx tag = some ⟨b,cells⟩)
  {p : PV} (hc : dS (evS s y) = some [p]) (h1 : PV.one p = true) (hk : off < cells.length) (hs : eA cells off [p] = cells') (h : Do P T rb ops L ⟨n,s,upd bx tag (some ⟨b,cells'⟩),ob⟩ K) : Do P T rb ops (k :: L) ⟨n,s,bx,ob⟩ K :=
 Do.sB ho hg hop hd hti hx hb (cs := [p]) (by simp [hc,cZ]) (by simp [h1]) (by rw [hts]; rfl) (by rw [hts]; exact Nat.ble_eq.mpr hk) (by rw [cZ,hs]) h
end
end
end Go.Ab

namespace Go.Ab
noncomputable section
def bd : Nat := 100000
def bP (n c : Nat) : Nat := max n (min c maxLen)
def gg (b n c : Nat) : Value := bif Nat.beq (bP n c) 0 then .slice none 0 0 else .slice (some ⟨b,0,none⟩) n (bP n c)
def eh (gf : Nat → OwnRef) (rss : List (List (List PV))) (c : Nat) : List PV := rss.mapIdx (fun i rs=>PV.own (bd + i) (gf i) rs.length) ++ List.replicate (bP rss.length c - rss.length) (.val (.slice none 0 0))
def fT (b : Nat) (gf : Nat → OwnRef) (rss : List (List (List PV))) (c : Nat) : Option Box := bif Nat.beq (bP rss.length c) 0 then none else some ⟨b,eh gf rss c⟩
def dt (e : TypeId) (gf : Nat → OwnRef) (rss : List (List (List PV))) (ob : Nat → Option Obj) : Nat → Option Obj := fun t =>
 bif Nat.ble bd t then (rss[t - bd]?).map (fun rs=>⟨gf (t - bd),e,rs,true⟩) else ob t
theorem gZ (n c : Nat) : n ≤ bP n c := Nat.le_max_left _ _
theorem famCap_le {n : Nat} (c : Nat) (h : n ≤ maxLen) : bP n c ≤ maxLen := Nat.max_le.2 ⟨h,Nat.min_le_right _ _⟩
theorem io {n c : Nat} (h : n ≤ c) (h' : c ≤ maxLen) : bP n c = c := by unfold bP; rw [Nat.min_eq_left h',Nat.max_eq_right h]
theorem beq_pos {n : Nat} (h : 0 < n) : Nat.beq n 0 = false := by
 cases n with
 | zero=>omega
 | succ n=>rfl
theorem jz {b n c : Nat} (h : 0 < bP n c) : gg b n c = .slice (some ⟨b,0,none⟩) n (bP n c) := by simp [gg,beq_pos h]
theorem famV_zero {b n c : Nat} (h : bP n c = 0) : gg b n c = .slice none 0 0 := by simp [gg,h]
theorem nn {b : Nat} {gf : Nat → OwnRef} {rss : List (List (List PV))} {c : Nat} (h : 0 < bP rss.length c) : fT b gf rss c = some ⟨b,eh gf rss c⟩ := by simp [fT,beq_pos h]
theorem famB_zero {b : Nat} {gf : Nat → OwnRef} {rss : List (List (List PV))} {c : Nat} (h : bP rss.length c = 0) : fT b gf rss c = none := by simp [fT,h]
theorem dk {e : TypeId} {gf : Nat → OwnRef} {rss : List (List (List PV))} {ob : Nat → Option Obj} {i : Nat} {rs : List (List PV)} (h : rss[i]? = some rs) : dt e gf rss ob (bd + i) = some ⟨gf i,e,rs,true⟩ := by
 have : Nat.ble bd (bd + i) = true := by rw [Nat.ble_eq]; exact Nat.le_add_right _ _
 simp [dt,this,h]
theorem nH {b : Nat} {gf : Nat → OwnRef} {rss : List (List (List PV))} {c i : Nat} {rs : List (List PV)} (h : rss[i]? = some rs) : fT b gf rss c = some ⟨b,eh gf rss c⟩ := by
 have hl := (List.getElem?_eq_some_iff.1 h).1
 exact nn (Nat.lt_of_lt_of_le (by omega) (gZ _ _))
theorem famCells_get {gf : Nat → OwnRef} {rss : List (List (List PV))} {c i : Nat} {rs : List (List PV)} (h : rss[i]? = some rs) : (eh gf rss c)[i]? = some (.own (bd + i) (gf i) rs.length) := by
 have hl := (List.getElem?_eq_some_iff.1 h).1
 unfold eh
 rw [List.getElem?_append_left (by simpa using hl)]
 simp [h]
theorem lL {gf : Nat → OwnRef} {rss : List (List (List PV))} {c : Nat} : (eh gf rss c).length = bP rss.length c := by
 have := gZ rss.length c
 simp [eh]; omega
theorem flat_single {α β : Type} (f : α → β) (l : List α) : (l.map fun r=>[f r]).flatten = l.map f := by
 induction l with
 | nil=>rfl
 | cons a l ih=>simp [ih]
theorem splice_one (cells : List PV) (k : Nat) (v : PV) (hk : k < cells.length) : eA cells k [v] = cells.set k v := by
 unfold eA
 rw [List.length_singleton,List.set_eq_take_append_cons_drop,if_pos hk,List.append_assoc]
 rfl
theorem famCells_set {gf : Nat → OwnRef} {rss : List (List (List PV))} {c i : Nat} {rs rs' : List (List PV)} (h : rss[i]? = some rs) (g : OwnRef) :
  eA (eh gf rss c) i [.own (bd + i) g rs'.length] = eh (upd gf i g) (rss.set i rs') c := by
 have hl := (List.getElem?_eq_some_iff.1 h).1
 rw [splice_one _ _ _ (by rw [lL]; exact Nat.lt_of_lt_of_le hl (gZ _ _))]
 unfold eh
 rw [List.set_append_left _ _ (by simpa using hl),List.length_set]
 congr 1
 apply List.ext_getElem?
 intro j
 simp only [List.getElem?_set,List.length_mapIdx,List.getElem?_mapIdx]
 by_cases hj : i = j
 ·subst hj; simp [hl,ep]
 ·have : j ≠ i := fun h=>hj h.symm
  simp [hj,dX _ _ this]
theorem jD {α : Type} {f : Nat → α} {t : Nat} {v : α} {i : Nat} (h : t < 100000) : upd f t v (bd + i) = f (bd + i) := dX _ _ (by unfold bd; omega)
theorem famO_low {e : TypeId} {gf : Nat → OwnRef} {rss : List (List (List PV))} {ob : Nat → Option Obj} {t : Nat} (h : t < bd) : dt e gf rss ob t = ob t := by
 have : Nat.ble bd t = false := by
  cases hb : Nat.ble bd t with
  | false=>rfl
  | true=>have := Nat.le_of_ble_eq_true hb; omega
 simp [dt,this]
theorem famO_set {e : TypeId} {gf : Nat → OwnRef} {rss : List (List (List PV))} {ob : Nat → Option Obj} {i : Nat} {rs' : List (List PV)} {g : OwnRef} (hl : i < rss.length) :
  ∀ j rs,(rss.set i rs')[j]? = some rs → upd (dt e gf rss ob) (bd + i) (some ⟨g,e,rs',true⟩) (bd + j) = some ⟨upd gf i g j,e,rs,true⟩ := by
 intro j rs h
 rw [List.getElem?_set] at h
 by_cases hj : i = j
 ·subst hj
  simp only [if_true,hl] at h
  cases h
  rw [ep,ep]
 ·have h1 : bd + j ≠ bd + i := by omega
  rw [if_neg hj] at h
  rw [dX _ _ h1,dk h,dX _ _ (fun h=>hj h.symm)]
theorem famB_put {b c i : Nat} {gf2 : Nat → OwnRef} {rss rss2 : List (List (List PV))} {rs rs' : List (List PV)} (h : rss[i]? = some rs) (hz : rss2 = rss.set i rs') : (some ⟨b,eh gf2 (rss.set i rs') c⟩ : Option Box) = fT b gf2 rss2 c := by
 subst hz
 exact (nH (i := i) (rs := rs') (by rw [List.getElem?_set]; simp [(List.getElem?_eq_some_iff.1 h).1])).symm
theorem famO_put {e : TypeId} {gf : Nat → OwnRef} {rss rss2 : List (List (List PV))} {ob : Nat → Option Obj} {i : Nat} {rs0 rs' : List (List PV)} {g : OwnRef} (h : rss[i]? = some rs0) (hz : rss2 = rss.set i rs') :
  ∀ j rs,rss2[j]? = some rs → upd (dt e gf rss ob) (bd + i) (some ⟨g,e,rs',true⟩) (bd + j) = some ⟨upd gf i g j,e,rs,true⟩ := by
 subst hz
 exact famO_set (List.getElem?_eq_some_iff.1 h).1
theorem fu (ob ob' : Nat → Option Obj) (t : Nat) : lm ob [] ob' t = ob t := rfl
theorem eV {ob ob' : Nat → Option Obj} {a k i : Nat} {m : List (Nat × Nat)} (h : a < 100000) : lm ob ((a,k) :: m) ob' (bd + i) = lm ob m ob' (bd + i) := by
 unfold lm
 rw [List.find?_cons]
 have : Nat.beq a (bd + i) = false := by
  cases hb : Nat.beq a (bd + i) with
  | false=>rfl
  | true=>have := Nat.eq_of_beq_eq_true hb; unfold bd at this; omega
 simp only [this]
section
variable {P : Program} {bx bx' : Nat → Option Box} {ob ob' : Nat → Option Obj}
theorem OLe.famNil {e : TypeId} {gf : Nat → OwnRef} (h : OLe ob ob') : OLe ob (dt e gf [] ob') := fun t x hx=>by
 unfold dt at hx
 cases hq : Nat.ble bd t with
 | true=>rw [hq] at hx; simp at hx
 | false=>rw [hq] at hx; exact h t x hx
theorem OLe.fam {e : TypeId} {gf : Nat → OwnRef} {rss : List (List (List PV))} (h : ∀ i rs,rss[i]? = some rs → ob (bd + i) = some ⟨gf i,e,rs,true⟩) (h' : OLe ob ob') : OLe ob (dt e gf rss ob') := by
 intro t x hx
 unfold dt at hx
 cases hb : Nat.ble bd t with
 | false=>rw [hb] at hx; exact h' t x hx
 | true =>
  rw [hb] at hx
  have hle := Nat.le_of_ble_eq_true hb
  simp only [cond_true,Option.map_eq_some_iff] at hx
  obtain ⟨rs,h1,rfl⟩ := hx
  have := h _ _ h1
  rwa [show bd + (t - bd) = t from by omega] at this
theorem famNil_le (e : TypeId) (gf : Nat → OwnRef) (ob : Nat → Option Obj) : ∀ t x,dt e gf [] ob t = some x → ob t = some x := OLe.fam (fun i rs h=>by simp at h) (OLe.refl ob)
theorem BLe.fam {t b c : Nat} {gf : Nat → OwnRef} {rss : List (List (List PV))} (h : bx t = fT b gf rss c) (h' : BLe P bx bx') : BLe P bx (upd bx' t (fT b gf rss c)) := fun u x hx=>by
 rw [dy] at hx
 split at hx
 ·rename_i e; subst e; rw [← h] at hx; exact ⟨x,hx,rfl,il.refl P _⟩
 ·exact h' u x hx
theorem BLe.famNil {t b : Nat} {gf : Nat → OwnRef} (h' : BLe P bx bx') : BLe P bx (upd bx' t (fT b gf [] 0)) := fun u x hx=>by
 rw [dy] at hx
 split at hx
 ·rw [famB_zero (by simp [bP])] at hx; cases hx
 ·exact h' u x hx
end
theorem InvH.famNil {P : Program} {C : Ctx} {M : Mem} {w : World} {bx : Nat → Option Box} {ob : Nat → Option Obj} (e : TypeId) (gf : Nat → OwnRef) (h : InvH P C M ⟨bx,ob⟩ w) : InvH P C M ⟨bx,dt e gf [] ob⟩ w :=
 h.less (fun _ _ hx=>hx) (famNil_le e gf ob)
section
variable {P : Program} {C : Ctx} {M : Mem} {H : Heap} {w : World}
theorem InvH.freezeAll {bx : Nat → Option Box} {ob : Nat → Option Obj} {e : TypeId} {gf : Nat → OwnRef} {rss : List (List (List PV))} (h : InvH P C M ⟨bx,dt e gf rss ob⟩ w) : ∀ n,n ≤ rss.length →
  ∃ M' ob',M.le M' ∧ InvH P C M' ⟨bx,ob'⟩ w ∧ (∀ t,t < bd → ob' t = ob t) ∧ (∀ i,n ≤ i → ob' (bd + i) = dt e gf rss ob (bd + i)) ∧
   ∀ i rs,i < n → rss[i]? = some rs → Rep P M' true (.list e rs) ((gf i).val rs.length)
 | 0,_=>⟨M,_,Mem.le_refl M,h,fun t ht=>famO_low ht,fun i _=>rfl,fun i rs hi=>by omega⟩
 | n + 1,hn=>by
  obtain ⟨M1,ob1,hle1,h1,ha,hb,hc⟩ := InvH.freezeAll h n (by omega)
  obtain ⟨rs,hrs⟩ : ∃ rs,rss[n]? = some rs := ⟨rss[n],List.getElem?_eq_getElem (by omega)⟩
  have hx := hb n (Nat.le_refl n)
  rw [dk hrs] at hx
  obtain ⟨M2,hle2,h2,hr⟩ := h1.freezeO (tag := bd + n) (x := ⟨gf n,e,rs,true⟩) hx
  refine ⟨M2,_,Mem.le_trans hle1 hle2,h2,fun t ht=>?_,fun i hi=>?_,fun i rs' hi hrs'=>?_⟩
  ·rw [dX _ _ (by omega)]; exact ha t ht
  ·rw [dX _ _ (by omega)]; exact hb i (by omega)
  ·by_cases hin : i = n
   ·subst hin
    rw [hrs] at hrs'
    cases hrs'
    exact hr
   ·exact Rep.mono hle2 (hc i rs' (by omega) hrs')
theorem InvH.freezeFam {bx : Nat → Option Box} {ob : Nat → Option Obj} {t e e' b c : Nat} {gf : Nat → OwnRef} {rss : List (List (List PV))} (h : InvH P C M ⟨bx,dt e gf rss ob⟩ w) (hb : bx t = fT b gf rss c)
  {T : TT} (hT : T.Ok P) {ei : TInfo} (hei : T.get e' = some ei) (hsz : ei.size = 1) (hby : rss.length * ei.bytes ≤ 2 ^ 47) (hmx : rss.length ≤ maxLen) :
  ∃ M',M.le M' ∧ InvH P C M' ⟨upd bx t none,dt e gf [] ob⟩ w ∧ Rep P M' true (.list e' (rss.map fun rs=>[.list e rs])) (gg b rss.length c) := by
 obtain ⟨M1,ob1,hle1,h1,ha,_,hc⟩ := h.freezeAll rss.length (Nat.le_refl _)
 obtain ⟨i,hi,hs,hbs,_⟩ := (hT.get hei).info
 have hless : ∀ {M : Mem} {bx : Nat → Option Box},InvH P C M ⟨bx,ob1⟩ w → InvH P C M ⟨bx,dt e gf [] ob⟩ w := fun h=>h.less (fun _ _ hx=>hx) (fun u x hx=>by
  have hx : dt e gf [] ob u = some x := hx
  unfold dt at hx
  cases hq : Nat.ble bd u with
  | true=>rw [hq] at hx; simp at hx
  | false =>
   rw [hq] at hx
   have : u < bd := by
    rcases Nat.lt_or_ge u bd with h | h
    ·exact h
    ·rw [show Nat.ble bd u = true from by rw [Nat.ble_eq]; exact h] at hq; cases hq
   show ob1 u = some x
   rw [ha u this]
   exact hx)
 rcases Nat.eq_zero_or_pos (bP rss.length c) with h0 | h0
 ·have hnil : rss = [] := List.length_eq_zero_iff.1 (by have := gZ rss.length c; omega)
  subst hnil
  refine ⟨M1,hle1,(hless h1).less (fun u x hx=>?_) (fun _ _ hx=>hx),?_⟩
  ·simp only [dy] at hx
   split at hx
   ·cases hx
   ·exact hx
  ·rw [famV_zero h0]
   simp only [Rep]
   exact ⟨none,0,i,by simp,by simp,by simp,hi,by simp,by simp⟩
 ·rw [nn h0] at hb
  -- the box,its slices frozen
  obtain ⟨hmine,⟨cs,e0,hcs,hr⟩,hnone⟩ := h1.boxes t _ hb
  let cells' : List PV := rss.map (fun rs=>PV.list e rs) ++ List.replicate (bP rss.length c - rss.length) (.val (.slice none 0 0))
  have hr' : aw P M1 true cells' cs.toList := by
   have key : ∀ (l : List (List (List PV))) (k : Nat) (r : List PV) (xs : List Value),(∀ j rs,l[j]? = some rs → Rep P M1 true (.list e rs) ((gf (k + j)).val rs.length)) →
     aw P M1 true (l.mapIdx (fun j rs=>PV.own (bd + (k + j)) (gf (k + j)) rs.length) ++ r) xs → aw P M1 true (l.map (fun rs=>PV.list e rs) ++ r) xs := by
    intro l
    induction l with
    | nil=>intro k r xs _ h; simpa using h
    | cons a l ih =>
     intro k r xs hl h
     simp only [List.mapIdx_cons,List.cons_append,aw,List.map_cons] at h ⊢
     obtain ⟨x,ys,rfl,hx,hy⟩ := h
     refine ⟨x,ys,rfl,?_,ih (k + 1) r ys (fun j rs hj=>?_) ?_⟩
     ·simp only [Rep,Nat.add_zero] at hx
      rw [hx.2]
      exact hl 0 a rfl
     ·have := hl (j + 1) rs (by simpa using hj)
      rwa [show k + (j + 1) = k + 1 + j from by omega] at this
     ·have e : (fun (j : Nat) (rs : List (List PV))=>PV.own (bd + (k + (j + 1))) (gf (k + (j + 1))) rs.length) = fun j rs=>PV.own (bd + (k + 1 + j)) (gf (k + 1 + j)) rs.length := by
       funext j rs
       rw [show k + (j + 1) = k + 1 + j from by omega]
      rw [← e]
      exact hy
   refine key rss 0 _ _ (fun j rs hj=>?_) ?_
   ·rw [Nat.zero_add]
    exact hc j rs (List.getElem?_eq_some_iff.1 hj).1 hj
   ·simpa [eh] using hr
  have h2 : InvH P C M1 ⟨upd bx t (some ⟨b,cells'⟩),ob1⟩ w := by
   have key : ∀ u x,upd bx t (some ⟨b,cells'⟩) u = some x → (u = t ∧ x = ⟨b,cells'⟩) ∨ (u ≠ t ∧ bx u = some x) := by
    intro u x hx
    rw [dy] at hx
    split at hx
    ·rename_i e; exact .inl ⟨e,(Option.some.inj hx).symm⟩
    ·rename_i e; exact .inr ⟨e,hx⟩
   refine ⟨h1.mem,h1.ext,h1.new,h1.os,h1.tape,h1.output,h1.size,h1.frame,fun u x hx=>?_,h1.objs,fun u u' x x' hx hx' hbb=>?_,h1.dobj,fun u u' x x' hx hx' hbb=>?_⟩
   ·rcases key u x hx with ⟨_,rfl⟩ | ⟨_,hx⟩
    ·exact ⟨hmine,⟨cs,e0,hcs,hr'⟩,hnone⟩
    ·exact h1.boxes u x hx
   ·rcases key u x hx with ⟨q1,q2⟩ | ⟨_,hy⟩ <;> rcases key u' x' hx' with ⟨q3,q4⟩ | ⟨_,hy'⟩
    ·rw [q1,q3]
    ·subst q1; subst q2; exact h1.dbox _ u' _ x' hb hy' hbb
    ·subst q3; subst q4; exact h1.dbox u _ x _ hy hb hbb
    ·exact h1.dbox u u' x x' hy hy' hbb
   ·rcases key u x hx with ⟨q1,q2⟩ | ⟨_,hy⟩
    ·subst q1; subst q2; exact h1.dmix _ u' _ x' hb hx' hbb
    ·exact h1.dmix u u' x x' hy hx' hbb
  have hfl : ∀ l : List PV,(∀ p ∈ l,p.froz = true) → PV.frozL l = true := by
   intro l
   induction l with
   | nil=>intro _; rfl
   | cons a l ih=>intro h; simp [PV.frozL,h a (by simp),ih fun p hp=>h p (by simp [hp])]
  obtain ⟨M2,hle2,h3,hra⟩ := h2.freezeB (tag := t) (x := ⟨b,cells'⟩) (ep _ _ _) (hfl _ (fun p hp=>by
    rcases List.mem_append.1 hp with hp | hp
    ·obtain ⟨rs,_,rfl⟩ := List.mem_map.1 hp; rfl
    ·rw [List.eq_of_mem_replicate hp]; rfl)) (List.all_eq_true.2 fun p hp=>by
    rcases List.mem_append.1 hp with hp | hp
    ·obtain ⟨rs,_,rfl⟩ := List.mem_map.1 hp; rfl
    ·rw [List.eq_of_mem_replicate hp]; rfl)
  refine ⟨M2,Mem.le_trans hle1 hle2,(hless h3).less (fun u x hx=>?_) (fun _ _ hx=>hx),?_⟩
  ·simp only [dy] at hx ⊢
   split at hx
   ·cases hx
   ·rename_i q; simp only [if_neg q]; exact hx
  ·rw [jz h0]
   simp only [Rep]
   refine ⟨some ⟨b,0,none⟩,bP rss.length c,i,by simp,by simpa using gZ _ _,famCap_le _ hmx,hi,by rw [List.length_map,hbs]; exact hby,fun _=>⟨b,0,rfl,?_⟩⟩
   have hs1 : i.size = 1 := by rw [hs]; exact hsz
   rw [hs1]
   refine ck.of_flat (fun r hr=>?_) ?_
   ·obtain ⟨rs,_,rfl⟩ := List.mem_map.1 hr; rfl
   ·rw [flat_single]
    have := bY.take rss.length hra
    have e2 : (cells').take rss.length = rss.map (fun rs=>PV.list e rs) := by
     show (rss.map (fun rs=>PV.list e rs) ++ _).take rss.length = _
     rw [List.take_append_of_le_length (by simp)]
     exact List.take_of_length_le (by simp)
    rw [e2] at this
    exact this
end
section
variable {P : Program} {T : TT} {w : World} {C : Ctx} {M : Mem}
theorem oS (t ty e e0 : TypeId) (i : TypeInfo) (ht : P.underlying t = some (.slice e)) (hi : P.info? e = some i)
  (g sLen sCap : Nat) (cur : Array Value) (hg : w.heap[g]? = some (.cells cur e0 (0,0)))
  (a : Addr) (m c : Nat) (news : List Value) (hl : news.length = m * i.size) (hnews : ∀ j u,news[j]? = some u → w.cell? (a.add j) = some u) (h1 : ∀ u ∈ news,u.oneCell' = true)
  (hroom : sLen + m ≤ sCap) (hfit : sLen * i.size + news.length ≤ cur.size) :
  (Builtin.append_ #[t,t] ty #[.slice (some ⟨g,0,none⟩) sLen sCap,.slice (some a) m c]).run P w =
   .ok (.slice (some ⟨g,0,none⟩) (sLen + m) sCap) (w.setRow g (cur.toList.take (sLen * i.size) ++ news ++ cur.toList.drop (sLen * i.size + news.length)).toArray) := by
 have hf := run_firstCells_some (P := P) w i.size m a m c news hl hnews
 have hst := run_storeCells_at P g (sLen * i.size) e0 news 0 cur w hg (by simpa using hfit) h1
 simp only [Nat.add_zero] at hst
 simp [Builtin.append_,run_underlying ht,sizeOf,typeInfo,hi,Builtin.lenOf,hroom,hf,Addr.add_lit,hst]
theorem repNils {k : Nat} {P : Program} {M : Mem} : aw P M true (List.replicate k (.val (.slice none 0 0))) (List.replicate k (Value.slice none 0 0)) := by
 induction k with
 | zero=>simp [aw]
 | succ k ih=>simp only [List.replicate_succ,aw]; exact ⟨_,_,rfl,by simp [Rep],ih⟩
theorem zeroNils (k : Nat) : (Builtin.zeroCells #[Value.slice none 0 0] k).toList = List.replicate k (Value.slice none 0 0) := by
 unfold Builtin.zeroCells
 rw [lE]
 induction k with
 | zero=>rfl
 | succ k ih=>rw [List.replicate_succ,List.flatten_cons,ih]; rfl
def iO (gf : Nat → OwnRef) (rss : List (List (List PV))) : List PV := rss.mapIdx fun i rs=>PV.own (bd + i) (gf i) rs.length
theorem li {gf : Nat → OwnRef} {rss : List (List (List PV))} : (iO gf rss).length = rss.length := by simp [iO]
theorem mp {gf : Nat → OwnRef} {rss : List (List (List PV))} {c : Nat} : eh gf rss c = iO gf rss ++ List.replicate (bP rss.length c - rss.length) (.val (.slice none 0 0)) := rfl
theorem jN {gf : Nat → OwnRef} {rss : List (List (List PV))} {c : Nat} {g : OwnRef} : eh (upd gf rss.length g) (rss ++ [[]]) c =
  iO gf rss ++ (.own (bd + rss.length) g 0 :: List.replicate (bP (rss.length + 1) c - (rss.length + 1)) (.val (.slice none 0 0))) := by
 have h : iO (upd gf rss.length g) (rss ++ [[]]) = iO gf rss ++ [.own (bd + rss.length) g 0] := by
  unfold iO
  rw [List.mapIdx_append]
  congr 1
  ·apply List.ext_getElem?
   intro j
   simp only [List.getElem?_mapIdx]
   by_cases hj : j < rss.length
   ·rw [dX _ _ (by omega)]
   ·rw [List.getElem?_eq_none (by omega)]; rfl
  ·simp [ep]
 rw [mp,h]
 simp
theorem mR {bx : Nat → Option Box} {ob : Nat → Option Obj} {t0 b e c : Nat} {gf : Nat → OwnRef} {rss : List (List (List PV))} (hT : T.Ok P) {ei2 : TInfo} (hei2 : T.get e = some ei2)
  (h : InvH P C M ⟨upd bx t0 (some ⟨b,eh (upd gf rss.length ⟨none,0⟩) (rss ++ [[]]) c⟩),dt e gf rss ob⟩ w) :
  InvH P C M ⟨upd bx t0 (fT b (upd gf rss.length ⟨none,0⟩) (rss ++ [[]]) c),dt e (upd gf rss.length ⟨none,0⟩) (rss ++ [[]]) ob⟩ w := by
 rw [nn (Nat.lt_of_lt_of_le (by simp) (gZ _ _))]
 refine (h.nilobj hT (bd + rss.length) hei2).less (fun _ _ hx=>hx) (fun t x hx=>?_)
 have hx : dt e (upd gf rss.length ⟨none,0⟩) (rss ++ [[]]) ob t = some x := hx
 unfold dt at hx
 cases hq : Nat.ble bd t with
 | false =>
  rw [hq] at hx
  have ht : t < bd := by
   rcases Nat.lt_or_ge t bd with h | h
   ·exact h
   ·rw [show Nat.ble bd t = true from by rw [Nat.ble_eq]; exact h] at hq; cases hq
  show upd (dt e gf rss ob) _ _ t = some x
  rw [dX _ _ (by omega),famO_low ht]
  exact hx
 | true =>
  rw [hq] at hx
  have hle := Nat.le_of_ble_eq_true hq
  simp only [cond_true,Option.map_eq_some_iff] at hx
  obtain ⟨rs,h1,rfl⟩ := hx
  show upd (dt e gf rss ob) _ _ t = _
  by_cases hj : t = bd + rss.length
  ·subst hj
   rw [ep]
   rw [show bd + rss.length - bd = rss.length from by omega] at h1 ⊢
   simp at h1
   rw [ep,← h1]
  ·rw [dX _ _ hj]
   have h2 := (List.getElem?_eq_some_iff.1 h1).1
   simp at h2
   have h3 : t - bd < rss.length := by omega
   rw [List.getElem?_append_left h3] at h1
   have := dk (e := e) (gf := gf) (ob := ob) h1
   rw [show bd + (t - bd) = t from by omega] at this
   rw [this,dX _ _ (by omega)]
theorem appendFam_core {bx : Nat → Option Box} {ob : Nat → Option Obj} {t0 b e e' c : Nat} {gf : Nat → OwnRef} {rss : List (List (List PV))} (hi : InvH P C M ⟨bx,dt e gf rss ob⟩ w) (hb : bx t0 = fT b gf rss c) (hT : T.Ok P)
  {t ty : TypeId} {ti ei ei2 : TInfo} (hti : T.get t = some ti) (hd : ti.desc = .slice e') (hei : T.get e' = some ei) (hsz : ei.size = 1) (hz : ei.zero.cells = #[.slice none 0 0]) (hei2 : T.get e = some ei2)
  {v : Value} (hv : Rep P M true (.list e' [[.val (.slice none 0 0)]]) v) (hby : (rss.length + 1) * ei.bytes ≤ 2 ^ 47) (hmx : rss.length + 1 ≤ maxLen) :
  ∃ b' c' w',(Builtin.append_ #[t,t] ty #[gg b rss.length c,v]).run P w = .ok (gg b' (rss.length + 1) c') w' ∧
   InvH P C M ⟨upd bx t0 (fT b' (upd gf rss.length ⟨none,0⟩) (rss ++ [[]]) c'),dt e (upd gf rss.length ⟨none,0⟩) (rss ++ [[]]) ob⟩ w' := by
 obtain ⟨i,sa,c0,news,hinf,rfl,_,hnl,_,hcells,hrep,hone⟩ := list_src hi hv
 obtain ⟨i',hinf',hs,hbs,hzero⟩ := (hT.get hei).info
 rw [hinf] at hinf'
 cases hinf'
 have hs1 : i.size = 1 := by rw [hs]; exact hsz
 have hnews : news = [.slice none 0 0] := by
  simp only [List.flatten_cons,List.flatten_nil,List.append_nil,aw,Rep] at hrep
  obtain ⟨x,xs,rfl,rfl,rfl⟩ := hrep
  rfl
 subst hnews
 have hu := (hT.get hti).und
 rw [hd] at hu
 obtain ⟨a,rfl,hac⟩ := hcells (by simp)
 have h63 : ((rss.length + 1 : Nat) : Int) ≤ 9223372036854775807 := by unfold maxLen at hmx; omega
 have hby' : (rss.length + 1) * i.bytes ≤ 140737488355328 := by rw [hbs]; exact hby
 have hcap := gZ rss.length c
 rcases Nat.eq_zero_or_pos (bP rss.length c) with h0 | h0
 ·have hnil : rss = [] := List.length_eq_zero_iff.1 (by omega)
  subst hnil
  have hg := run_append_nil (P := P) w t ty e' i ei.zero hu hinf hzero a 1 c0 [.slice none 0 0] hnl hac (by omega) (by simp) (by simp at hby'; omega)
  have hge := grownCap_ge w 1 0 e'
  have hgm : grownCap w 1 0 e' ≤ maxLen := grownCap_le_maxLen w 1 0 e' (by simpa using hmx)
  refine ⟨w.heap.size,grownCap w 1 0 e',_,?_,mR hT hei2 ((show InvH P C M _ w.drew from hi.drew).alloc_box t0 _ (#[.slice none 0 0] ++ Builtin.zeroCells ei.zero.cells (grownCap w 1 0 e' - 1)) e' ?_)⟩
  ·rw [famV_zero h0]
   simp only [List.length_singleton]
   rw [hg,jz (by show 0 < bP 1 _; rw [io hge hgm]; omega)]
   show _ = Result.ok (Value.slice _ 1 (bP 1 _)) _
   rw [io hge hgm]
  ·rw [jN]
   simp only [List.length_nil,iO,List.mapIdx_nil,List.nil_append,aw]
   refine ⟨.slice none 0 0,(Builtin.zeroCells ei.zero.cells (grownCap w 1 0 e' - 1)).toList,by rw [Array.toList_append]; rfl,by simp [Rep,OwnRef.val],?_⟩
   rw [hz,zeroNils]
   show aw P M true (List.replicate (bP 1 _ - 1) _) _
   rw [io hge hgm]
   exact repNils
 ·rw [nn h0] at hb
  obtain ⟨hmine,⟨cur,e0,hcur,hr⟩,hnone⟩ := hi.boxes t0 _ hb
  have hsize : cur.size = bP rss.length c := by
   have := hr.length
   rw [lL] at this
   simpa using this
  have hl2 : iO gf rss = (eh gf rss c).take rss.length := by
   rw [mp,List.take_append_of_le_length (by rw [li]; exact Nat.le_refl _),← li (gf := gf) (rss := rss),List.take_length]
  have hrt : aw P M true (iO gf rss) (cur.toList.take rss.length) := by rw [hl2]; exact hr.take _
  by_cases hroom : rss.length + 1 ≤ bP rss.length c
  ·have hr2 := oS (P := P) (w := w) t ty e' e0 i hu hinf b rss.length (bP rss.length c) cur hcur a 1 c0 [.slice none 0 0] hnl hac hone hroom (by rw [hs1]; simp; omega)
   have hce : bP (rss.length + 1) (bP rss.length c) = bP rss.length c := io hroom (famCap_le _ (by omega))
   refine ⟨b,bP rss.length c,_,?_,mR hT hei2 (hi.set_box t0 _ hb _ (cur.toList.take (rss.length * i.size) ++ [Value.slice none 0 0] ++ cur.toList.drop (rss.length * i.size + [Value.slice none 0 0].length)).toArray ?_)⟩
   ·rw [jz h0]
    simp only [List.length_singleton]
    rw [hr2,jz (by rw [hce]; exact h0),hce]
    rfl
   ·rw [jN,hce]
    simp only [hs1,Nat.mul_one,List.append_assoc]
    refine hrt.append ?_
    simp only [List.singleton_append,aw,List.length_singleton]
    refine ⟨_,_,rfl,by simp [Rep,OwnRef.val],?_⟩
    have := hr.drop (rss.length + 1)
    rw [mp,List.drop_append,li,List.drop_of_length_le (by rw [li]; omega),List.nil_append,List.drop_replicate] at this
    rwa [show bP rss.length c - rss.length - (rss.length + 1 - rss.length) = bP rss.length c - (rss.length + 1) from by omega] at this
  ·have holdlen : (cur.toList.take rss.length).length = rss.length * i.size := by rw [hs1]; simp; omega
   have holds : ∀ (j : Nat) (v : Value),(cur.toList.take rss.length)[j]? = some v → w.cell? ((⟨b,0,none⟩ : Addr).add j) = some v := by
    intro j v hj
    rw [eX,cell_of_row w b (0 + j) cur e0 (0,0) hcur]
    rw [List.getElem?_take] at hj
    split at hj
    ·simpa using hj
    ·cases hj
   have hr2 := run_append_grow (P := P) w t ty e' i ei.zero hu hinf hzero ⟨b,0,none⟩ rss.length (bP rss.length c) _ holdlen holds a 1 c0 [.slice none 0 0] hnl hac (by omega) h63 (growslice_fits (by omega) hby')
   have hge := grownCap_ge w (rss.length + 1) (bP rss.length c) e'
   have hgm : grownCap w (rss.length + 1) (bP rss.length c) e' ≤ maxLen := grownCap_le_maxLen w _ _ e' hmx
   refine ⟨w.heap.size,grownCap w (rss.length + 1) (bP rss.length c) e',_,?_,mR hT hei2 ((show InvH P C M _ w.drew from hi.drew).alloc_box t0 _ ((cur.toList.take rss.length).toArray ++ #[.slice none 0 0] ++ Builtin.zeroCells ei.zero.cells (grownCap w (rss.length + 1) (bP rss.length c) e' - (rss.length + 1))) e' ?_)⟩
   ·rw [jz h0]
    simp only [List.length_singleton]
    rw [hr2,jz (by rw [io hge hgm]; omega),io hge hgm]
   ·rw [jN]
    simp only [Array.toList_append,List.append_assoc]
    refine hrt.append ?_
    simp only [List.singleton_append,aw]
    refine ⟨_,_,rfl,by simp [Rep,OwnRef.val],?_⟩
    rw [hz,zeroNils,io hge hgm]
    exact repNils
end
section
variable {P : Program} {T : TT} {ops : Array Oper} {rest : List Oper} {o : Oper} {n : Nat} {s s' : Nat → PV} {bx : Nat → Option Box} {ob : Nat → Option Obj} {K : PState → Prop}
theorem Ao.famApp (t0 e : Nat) (hT : T.Ok P) (hg : aM ops s o = some true) {x y : Operand} {t : TypeId} (ho : o.op = .call { callee := .builtin .append,args := #[x,y],argTypes := #[t,t] }) {d : Nat} (hdst : o.dst = some d) (hlt : Nat.blt d n = true) {ti ei ei2 : TInfo} {e' : TypeId}
  (hti : T.get t = some ti) (hd : ti.desc = .slice e') (hei : T.get e' = some ei) (hsz : ei.size = 1) (hz : ei.zero.cells = #[.slice none 0 0]) (hei2 : T.get e = some ei2) {b c m : Nat} {gf : Nat → OwnRef} {rss : List (List (List PV))} (hx : evS s x = .val (gg b m c)) (hm : m = rss.length)
  (hy : evS s y = .list e' [[.val (.slice none 0 0)]]) (hb : bx t0 = fT b gf rss c) (hby : (rss.length + 1) * ei.bytes ≤ 2 ^ 47) (hmx : rss.length + 1 ≤ maxLen)
  (h : ∀ b' c',Ao P ops rest ⟨n,upd s d (.val (gg b' (m + 1) c')),upd bx t0 (fT b' (upd gf m ⟨none,0⟩) (rss ++ [[]]) c'),dt e (upd gf m ⟨none,0⟩) (rss ++ [[]]) ob⟩ K) :
  Ao P ops (o :: rest) ⟨n,s,bx,dt e gf rss ob⟩ K := by
 subst hm
 refine Ao.eff hg (K := K) ?_
 intro C M a w next Q hi he hn
 have hxr := he x (by rw [ho]; simp [Op.operands,Call.operands])
 have hyr := he y (by rw [ho]; simp [Op.operands,Call.operands])
 rw [hx] at hxr
 rw [hy] at hyr
 simp only [Rep] at hxr
 obtain ⟨b',c',w',hrun,hi'⟩ := appendFam_core (ty := o.type) hi hb hT hti hd hei hsz hz hei2 hyr hby hmx
 have hrun' : (execOp a.eval o).run P w = .ok (.value (gg b' (rss.length + 1) c')) w' := by
  simp only [execOp,ho,resolve,Sem.run_bind,Sem.run_pure,Result.andThen_ok,invoke,builtin,List.map_toArray,List.map_cons,List.map_nil,hxr]
  rw [hrun]
  rfl
 unfold Oper.wp
 rw [hrun']
 exact hn _ (.val (gg b' (rss.length + 1) c')) _ M w' ⟨_,by simp [hdst,putD,hlt],h b' c'⟩ (Mem.le_refl M) hi' (by simp [Rep])
theorem Ao.famIdx (t0 : Nat) (hT : T.Ok P) (hg : aM ops s o = some true) {t : TypeId} {x i : Operand} (ho : o.op = .indexAddr t x i) {ti ei : TInfo} {e' : TypeId} (hti : T.get t = some ti) (hd : ti.desc = .slice e') (hei : T.get e' = some ei) (hes : ei.size = 1)
  {b c m : Nat} (hx : evS s x = .val (gg b m c)) {kk : IntKind} {j : Int} (hi : evS s i = .val (.int kk j)) (hj : 0 ≤ j ∧ j.toNat < m) (hp : putD n s o.dst (.box t0 b j.toNat) = some s') (h : Ao P ops rest ⟨n,s',bx,ob⟩ K) : Ao P ops (o :: rest) ⟨n,s,bx,ob⟩ K := by
 have hpos : 0 < bP m c := Nat.lt_of_lt_of_le (by omega) (gZ _ _)
 rw [jz hpos] at hx
 refine Ao.detS hg ?_ hp h
 intro C M a w hiv he
 have hxr := he x (by rw [ho]; simp [Op.operands])
 have hir := he i (by rw [ho]; simp [Op.operands])
 rw [hx] at hxr
 rw [hi] at hir
 simp only [Rep] at hxr hir
 have hu := (hT.get hti).rund w
 rw [hd] at hu
 have hsz := (hT.get hei).rsize w
 refine ⟨.pointer (some ⟨b,j.toNat,none⟩),?_,by simp [Rep]⟩
 have h2 : j < (m : Int) := by omega
 simp [execOp,ho,Instr.indexAt,hir,hxr,asIntOf,hu,hj.1,h2,hsz,hes,eX]
theorem Ao.famLit (t0 e : Nat) (hT : T.Ok P) (hg : aM ops s o = some true) {t e' : TypeId} {ps : Array (Nat × Operand)} (ho : o.op = .buildSlice t 1 ps) {d : Nat} (hdst : o.dst = some d) (hlt : Nat.blt d n = true) {ti ei2 : TInfo} (hti : T.get t = some ti) (hd : ti.desc = .slice e')
  (hr : iM T e' 1 (fq (evS s) ps) = some [[.val (.slice none 0 0)]]) (hei2 : T.get e = some ei2)
  (h : ∀ b' c',Ao P ops rest ⟨n,upd s d (.val (gg b' 1 c')),upd bx t0 (fT b' (fun _=>⟨none,0⟩) [[]] c'),dt e (fun _=>⟨none,0⟩) [[]] ob⟩ K) :
  Ao P ops (o :: rest) ⟨n,s,bx,ob⟩ K := by
 refine Ao.eff hg (K := K) ?_
 intro C M a w next Q hi he hn
 obtain ⟨i,cs,hinf,hrun,hrep,hone,hlen,hrl,hcs,hby,hn16⟩ := bs_run hT hti hd hr w (fun x hx=>he x (by rw [ho]; simpa [Op.operands] using hx))
 unfold Oper.wp
 have hrun' : (execOp a.eval o).run P w = .ok (.value (gg w.heap.size 1 1)) (w.alloc (.cells cs e')) := by
  simp only [execOp,ho,Sem.run_bind,hrun]
  rfl
 rw [hrun']
 simp only [List.flatten_cons,List.flatten_nil,List.append_nil,aw,Rep] at hrep
 obtain ⟨x,xs,hcc,rfl,rfl⟩ := hrep
 have h0 : InvH P C M ⟨bx,dt e (fun _=>⟨none,0⟩) [] ob⟩ w := InvH.famNil e _ hi
 have hg0 : upd (fun _=>(⟨none,0⟩ : OwnRef)) 0 ⟨none,0⟩ = fun _=>⟨none,0⟩ := by funext t; rw [dy]; split <;> rfl
 have hrc : aw P M true (eh (upd (fun _=>(⟨none,0⟩ : OwnRef)) ([] : List (List (List PV))).length ⟨none,0⟩) ([] ++ [[]]) 1) cs.toList := by
  rw [jN,hcc]
  simp only [List.length_nil,iO,List.mapIdx_nil,List.nil_append,aw]
  have e1 : bP (0 + 1) 1 = 1 := io (Nat.le_refl _) (by unfold maxLen; omega)
  rw [e1]
  exact ⟨_,_,rfl,by simp [Rep,OwnRef.val],by simp [aw]⟩
 have h2 := h0.alloc_box t0 _ cs e' hrc
 have h1 := mR (b := w.heap.size) (c := 1) (t0 := t0) (gf := fun _=>(⟨none,0⟩ : OwnRef)) (rss := []) hT hei2 h2
 simp only [List.length_nil,hg0,List.nil_append] at h1
 exact hn _ (.val (gg w.heap.size 1 1)) _ M _ ⟨_,by simp [hdst,putD,hlt],h w.heap.size 1⟩ (Mem.le_refl M) h1 (by simp [Rep])
theorem V.freezeFam {fn : Func} {R : PV → Heap → Prop} {ks : List KI} (d t0 : Nat) (hT : T.Ok P) {e e' b c m : Nat} {ei : TInfo} (hei : T.get e' = some ei) (hes : ei.size = 1) {gf : Nat → OwnRef} {rss : List (List (List PV))} {rows : List (List PV)} (hs : s d = .val (gg b m c)) (hm : m = rss.length)
  (hb : bx t0 = fT b gf rss c) (hby : rss.length * ei.bytes ≤ 2 ^ 47) (hmx : rss.length ≤ maxLen) (hrows : rows = rss.map fun rs=>[.list e rs]) (h : V P fn R ks ⟨n,upd s d (.list e' rows),upd bx t0 none,dt e gf [] ob⟩) : V P fn R ks ⟨n,s,bx,dt e gf rss ob⟩ := by
 subst hm
 subst hrows
 refine V.gh ?_ h
 intro C M a w hi
 obtain ⟨M',hle,hi',hr⟩ := hi.2.freezeFam hb hT hei hes hby hmx
 refine ⟨M',⟨hi.1.1,hi.1.2.1,fun t=>?_⟩,hi'⟩
 have := hi.1.2.2 t
 simp only at this
 simp only [dy]
 split
 ·rename_i e; subst e; rw [hs] at this; simp only [Rep] at this; rw [this]; exact hr
 ·exact Rep.mono hle this
end
end
end Go.Ab

namespace Go.Proofs.YtgaggbdcedpapaaGreat
noncomputable section
open Go Go.Ab
attribute [local irreducible] V Ao Do Gh Eff PH IntKind.wrap
set_option maxRecDepth 4000
def gO (rec76 : LQuery → Option ((List LQuery))) (q : LQuery) : Option ((List LQuery)) :=
 af (aE (σ := List LQuery) (ρ := Empty) (fun (_ : Nat) (x1 : LQuery) (s1 : List LQuery) =>
  af (rec76 x1) fun x17 =>
  af (cI 160 s1 x17) fun (x18 : List LQuery) =>
  some (.next x18)) 0 q.inputs [q]) fun fl1=>fl1.thenP fun (s1 : List LQuery) =>
 some s1
set_option maxHeartbeats 4000000 in
theorem WO_query_Nodes {m : Nat} (rec76 : LQuery → Option ((List LQuery))) (hrec76 : ∀ m a0 r,rec76 a0 = some r → hC Tryz.prog 76 [(.agg (aQ a0))] (km m 35 (r.map aD))) (q : LQuery) (r : (List LQuery)) (H : gO rec76 q = some r) :
  hC Tryz.prog 76 [(.agg (aQ q))] (km m 35 (r.map aD)) := by
 unfold gO at H
 refine PH.intro Tryz.func76 rfl Tryz.ntmps76 rfl ?_
 refine V.seq (V.ab (Ao.aF rfl rfl rfl rfl rfl rfl (Ao.q tk rfl (Ao.nil (V.seq (V.ab (Ao.q tk rfl ?_)))))))
 refine Ao.bsOC (rows' := List.map aD ([q] : List LQuery)) tk rfl rfl rfl rfl rfl rfl rfl (congrArg (List.map List.length) (om bE ([q] : List LQuery))).symm rfl (fQ.trans (b := (List.map aQ ([q] : List LQuery)).flatten) (fQ.refl _) (fQ.of_eq (congrArg List.flatten (om bE ([q] : List LQuery))))) fun g7=>?_
 refine Ao.q tk rfl (Ao.nil (V.seq (V.seq (V.ab (Ao.q tk rfl (Ao.q tk rfl (Ao.ay tk rfl rfl rfl rfl rfl (List.length_map _) rfl (Ao.q tk rfl (Ao.nil ?_)))))))))
 obtain ⟨fl1,H1,Hp1⟩ := aj H
 refine V.aZ tk 9 rfl rfl (fun hz1 _=>?_)
 rw [List.length_map] at hz1
 refine V.cut (τ := List LQuery) (γ := OwnRef) (fun s1 g1=>⟨21,upd (fun _=>.any) 3 (.own 7 g1 (s1.map aD).length),fun _=>none,upd (fun _=>none) 7 (some ⟨g1,35,(s1.map aD),true⟩)⟩) (fun t=>fl1 = .next t) ?_ (fun s1 g1 hn1=>?_)
 ·refine V.ap ?_
  refine V.aP (fun j1 s1 g1=>⟨21,upd (upd (upd (upd (fun _=>.any) 11 (ac (j1 : Int))) 10 (ac (q.inputs.length : Int))) 9 (.list 35 (q.inputs.map aD))) 3 (.own 7 g1 (s1.map aD).length),fun _=>none,upd (fun _=>none) 7 (some ⟨g1,35,(s1.map aD),true⟩)⟩) g7 H1 (Gh.le (SLe.aa (PLe.q rfl) (SLe.aa (PLe.q rfl) (SLe.aa (PLe.q rfl) (SLe.aa (PLe.q rfl) SLe.nil)))) BLe.nil (OLe.am rfl OLe.nil)) (fun j1 s1 g1 hj1 hr1=>?_)
  refine V.seq (V.ab (Ao.q tk rfl (Ao.nil (V.seq ?_))))
  refine V.ak rfl (fun h=>?_) (fun h=>?_)
  ·have hl1 := bn h
   obtain ⟨x1,fb1,hx1,H,hg1⟩ := rMc hl1 hr1
   refine V.al (V.seq (V.ap (V.seq (V.ab (Ao.idx tk rfl rfl rfl rfl rfl rfl (Int.natCast_nonneg j1) (aY bE hx1) rfl (Ao.q tk rfl ?_))))))
   refine Ao.aJ tk rfl rfl rfl rfl rfl rfl fun b5=>?_
   refine Ao.sB tk rfl rfl rfl rfl rfl rfl rfl rfl rfl rfl rfl (Ao.nil (V.ab (Ao.q tk rfl (Ao.lB tk rfl rfl rfl rfl rfl rfl rfl ?_))))
   obtain ⟨x17,h17,H⟩ := aj H
   have s17 := hrec76 17 x1 _ h17
   refine Ao.ah (g := 76) rfl rfl rfl Tryz.call76 (il.r) (PFun.hP s17) rfl ?_
   obtain ⟨x18,h18,H⟩ := aj H
   have k18 := cf h18
   refine Ao.co (rows2' := List.map aD x17) (rows' := List.map aD x18) tk rfl rfl rfl rfl rfl rfl rfl rfl rfl rfl rfl rfl rfl (fj.refl _) (dp k18.1) (dv k18.2.1) (du k18.2.2) fun g18=>?_
   refine Ao.q tk rfl (Ao.nil (V.blk (V.ab (Ao.q tk rfl (Ao.q tk rfl (Ao.nil ?_))))))
   obtain rfl := ai H
   refine V.ax x18 g18 ⟨hl1,hg1⟩ (Gh.le (SLe.aa (PLe.q rfl) (SLe.aa (PLe.q rfl) (SLe.aa (PLe.q rfl) (SLe.aa (PLe.q (az (by omega))) SLe.nil)))) BLe.nil (OLe.am rfl OLe.nil))
  ·have hn1 := rMd (bm h) hr1
   refine V.aB rfl ?_
   refine V.at s1 g1 hn1 (Gh.le (SLe.aa (PLe.q rfl) SLe.nil) BLe.nil (OLe.am rfl OLe.nil))
 ·have H := aW hn1 Hp1
  refine V.seq (V.ab (Ao.q tk rfl (Ao.q tk rfl (Ao.nil ?_))))
  obtain rfl := ai H
  refine V.retO tk rfl rfl rfl rfl rfl
def gK : Nat → LQuery → Option ((List LQuery))
 | 0,_=>none
 | n + 1,v0=>gO (fun b0=>gK n b0) v0
theorem WF_query_Nodes  (n : Nat) : (∀ m a0 r,gK n a0 = some r → hC Tryz.prog 76 [(.agg (aQ a0))] (km m 35 (r.map aD))) := by
 induction n with
 | zero=>exact (by intros; rename_i h; exact absurd (show (none : Option _) = some _ from h) (by simp))
 | succ n ih =>
  exact (fun m v0 r h=>WO_query_Nodes (m := m) (fun b0=>gK n b0) ih v0  r h)
def gP (q : LQuery) : Option ((List LQuery)) := gG fun n=>gK n q
theorem nu {m : Nat} (q : LQuery) (r : (List LQuery)) (H : gP q = some r) :
  hC Tryz.prog 76 [(.agg (aQ q))] (km m 35 (r.map aD)) := by
 obtain ⟨n,h⟩ := im H
 exact (WF_query_Nodes  n) m q r h
def gM (rec88 : LQuery → Option (Int)) (q : LQuery) : Option (Int) :=
 af (aE (σ := Int) (ρ := Empty) (fun (_ : Nat) (x1 : LQuery) (s1 : Int) =>
  af (rec88 x1) fun x15 =>
  some (.next (if x15 > s1 then x15 else s1))) 0 q.inputs 0) fun fl1=>fl1.thenP fun (s1 : Int) =>
 some (IntKind.i64.wrap (s1 + (1 : Int)))
set_option maxHeartbeats 4000000 in
theorem WO_query_depth (rec88 : LQuery → Option (Int)) (hrec88 : ∀ a0 r,rec88 a0 = some r → aG Tryz.prog 88 [(.agg (aQ a0))] (ac r)) (q : LQuery) (r : Int) (H : gM rec88 q = some r) :
  aG Tryz.prog 88 [(.agg (aQ q))] (ac r) := by
 unfold gM at H
 refine PH.intro Tryz.func88 rfl Tryz.ntmps88 rfl ?_
 refine V.seq (V.ab (Ao.aF rfl rfl rfl rfl rfl rfl (Ao.q tk rfl (Ao.nil (V.seq (V.ab (Ao.q tk rfl (Ao.nil (V.seq (V.seq (V.ab (Ao.q tk rfl (Ao.q tk rfl (Ao.ay tk rfl rfl rfl rfl rfl (List.length_map _) rfl ?_))))))))))))))
 refine Ao.q tk rfl (Ao.nil ?_)
 obtain ⟨fl1,H1,Hp1⟩ := aj H
 refine V.aZ tk 7 rfl rfl (fun hz1 _=>?_)
 rw [List.length_map] at hz1
 refine V.cut (τ := Int) (γ := Unit) (fun s1 g1=>⟨20,upd (fun _=>.any) 3 (ac s1),fun _=>none,fun _=>none⟩) (fun t=>fl1 = .next t) ?_ (fun s1 g1 hn1=>?_)
 ·refine V.ap ?_
  refine V.aP (fun j1 s1 g1=>⟨20,upd (upd (upd (upd (fun _=>.any) 9 (ac (j1 : Int))) 8 (ac (q.inputs.length : Int))) 7 (.list 35 (q.inputs.map aD))) 3 (ac s1),fun _=>none,fun _=>none⟩) () H1 (Gh.le (SLe.aa (PLe.q rfl) (SLe.aa (PLe.q rfl) (SLe.aa (PLe.q rfl) (SLe.aa (PLe.q rfl) SLe.nil)))) BLe.nil OLe.nil) (fun j1 s1 g1 hj1 hr1=>?_)
  refine V.seq (V.ab (Ao.q tk rfl (Ao.nil (V.seq ?_))))
  refine V.ak rfl (fun h=>?_) (fun h=>?_)
  ·have hl1 := bn h
   obtain ⟨x1,fb1,hx1,H,hg1⟩ := rMc hl1 hr1
   refine V.al (V.seq (V.ap (V.seq (V.ab (Ao.idx tk rfl rfl rfl rfl rfl rfl (Int.natCast_nonneg j1) (aY bE hx1) rfl (Ao.q tk rfl ?_))))))
   refine Ao.aJ tk rfl rfl rfl rfl rfl rfl fun b5=>?_
   refine Ao.sB tk rfl rfl rfl rfl rfl rfl rfl rfl rfl rfl rfl (Ao.nil (V.ab (Ao.q tk rfl (Ao.lB tk rfl rfl rfl rfl rfl rfl rfl ?_))))
   obtain ⟨x15,h15,H⟩ := aj H
   have s15 := hrec88 x1 _ h15
   refine Ao.ah (g := 88) rfl rfl rfl Tryz.call88 (il.r) s15 rfl (Ao.q tk rfl (Ao.q tk rfl (Ao.nil (V.blk (V.ab (Ao.q tk rfl (Ao.q tk rfl (Ao.nil ?_))))))))
   obtain rfl := ai H
   refine V.ax (if x15 > s1 then x15 else s1) () ⟨hl1,hg1⟩ (Gh.le (SLe.aa (PLe.q rfl) (SLe.aa (PLe.q rfl) (SLe.aa (PLe.q rfl) (SLe.aa (PLe.q (az (by omega))) SLe.nil)))) BLe.nil OLe.nil)
  ·have hn1 := rMd (bm h) hr1
   refine V.aB rfl ?_
   refine V.at s1 g1 hn1 (Gh.le (SLe.aa (PLe.q rfl) SLe.nil) BLe.nil OLe.nil)
 ·have H := aW hn1 Hp1
  refine V.seq (V.ab (Ao.q tk rfl (Ao.q tk rfl (Ao.q tk rfl (Ao.nil ?_)))))
  obtain rfl := ai H
  refine V.aq tk rfl (ps := [(ac (IntKind.i64.wrap (s1 + (1 : Int))))]) ⟨_,_,rfl,rfl,rfl⟩ (PLe.q rfl)
def gQ : Nat → LQuery → Option (Int)
 | 0,_=>none
 | n + 1,v0=>gM (fun b0=>gQ n b0) v0
theorem WF_query_depth  (n : Nat) : (∀ a0 r,gQ n a0 = some r → aG Tryz.prog 88 [(.agg (aQ a0))] (ac r)) := by
 induction n with
 | zero=>exact (by intros; rename_i h; exact absurd (show (none : Option _) = some _ from h) (by simp))
 | succ n ih =>
  exact (fun v0 r h=>WO_query_depth (fun b0=>gQ n b0) ih v0  r h)
def iy (q : LQuery) : Option (Int) := gG fun n=>gQ n q
theorem W_query_depth (q : LQuery) (r : Int) (H : iy q = some r) :
  aG Tryz.prog 88 [(.agg (aQ q))] (ac r) := by
 obtain ⟨n,h⟩ := im H
 exact (WF_query_depth  n) q r h
def ig (rec109 : LQuery → Option (Int × Int)) (q : LQuery) : Option (Int × Int) :=
 af (aE (σ := Int × Int) (ρ := Empty) (fun (j1 : Nat) (x1 : LQuery) (s1 : Int × Int) =>
  af (rec109 x1) fun x20 =>
  cond ((j1 : Int) == (0 : Int))
   (some (.next ((if (20001 : Int) < x20.1 then (20001 : Int) else x20.1),(if x20.2 > s1.2 then x20.2 else s1.2))))
   (cond (q.kind == (6 : Int))
    (some (.next ((if (20001 : Int) < (IntKind.i64.wrap (s1.1 + x20.1)) then (20001 : Int) else (IntKind.i64.wrap (s1.1 + x20.1))),(if x20.2 > s1.2 then x20.2 else s1.2))))
    (ba (
     cond (q.kind == (4 : Int))
      (true)
      ((q.kind == (5 : Int)))) fun (t4 : Bool) =>
    cond t4
     (some (.next ((if (20001 : Int) < (IntKind.i64.wrap (s1.1 * (if x20.1 > (1 : Int) then x20.1 else (1 : Int)))) then (20001 : Int) else (IntKind.i64.wrap (s1.1 * (if x20.1 > (1 : Int) then x20.1 else (1 : Int))))),(if x20.2 > s1.2 then x20.2 else s1.2))))
     (some (.next ((if (20001 : Int) < s1.1 then (20001 : Int) else s1.1),(if x20.2 > s1.2 then x20.2 else s1.2))))))) 0 q.inputs (0,0)) fun fl1=>fl1.thenP fun (s1 : Int × Int) =>
 cond (q.kind == (1 : Int))
  (some (24,(if (24 : Int) > s1.2 then (24 : Int) else s1.2)))
  (some (s1.1,(if s1.1 > s1.2 then s1.1 else s1.2)))
set_option maxHeartbeats 4000000 in
theorem WO_query_most (rec109 : LQuery → Option (Int × Int)) (hrec109 : ∀ a0 r,rec109 a0 = some r → aG Tryz.prog 109 [(.agg (aQ a0))] (.tup [(ac r.1),(ac r.2)])) (q : LQuery) (r : Int × Int) (H : ig rec109 q = some r) :
  aG Tryz.prog 109 [(.agg (aQ q))] (.tup [(ac r.1),(ac r.2)]) := by
 unfold ig at H
 refine PH.intro Tryz.func109 rfl Tryz.ntmps109 rfl ?_
 refine V.seq (V.ab (Ao.aF rfl rfl rfl rfl rfl rfl (Ao.q tk rfl (Ao.q tk rfl (Ao.nil (V.seq (V.ab (Ao.q tk rfl (Ao.q tk rfl (Ao.nil (V.seq (V.seq (V.ab (Ao.q tk rfl (Ao.q tk rfl ?_)))))))))))))))
 refine Ao.ay tk rfl rfl rfl rfl rfl (List.length_map _) rfl (Ao.q tk rfl (Ao.nil ?_))
 obtain ⟨fl1,H1,Hp1⟩ := aj H
 refine V.aZ tk 11 rfl rfl (fun hz1 _=>?_)
 rw [List.length_map] at hz1
 refine V.cut (τ := Int × Int) (γ := Unit) (fun s1 g1=>⟨60,upd (upd (upd (fun _=>.any) 5 (ac s1.2)) 4 (ac s1.1)) 1 (.ptr [(ac q.kind),(.str q.table),(.list 9 (q.names.map bo)),(.list 56 (q.exprs.map aI)),(.list 66 (q.aggregates.map bl)),(.list 4 (q.descending.map bB)),(ac q.count),(ac q.offset),(.list 35 (q.inputs.map aD))]),fun _=>none,fun _=>none⟩) (fun t=>fl1 = .next t) ?_ (fun s1 g1 hn1=>?_)
 ·refine V.ap ?_
  refine V.aP (fun j1 s1 g1=>⟨60,upd (upd (upd (upd (upd (upd (fun _=>.any) 13 (ac (j1 : Int))) 12 (ac (q.inputs.length : Int))) 11 (.list 35 (q.inputs.map aD))) 5 (ac s1.2)) 4 (ac s1.1)) 1 (.ptr [(ac q.kind),(.str q.table),(.list 9 (q.names.map bo)),(.list 56 (q.exprs.map aI)),(.list 66 (q.aggregates.map bl)),(.list 4 (q.descending.map bB)),(ac q.count),(ac q.offset),(.list 35 (q.inputs.map aD))]),fun _=>none,fun _=>none⟩) () H1 (Gh.le (SLe.aa (PLe.q rfl) (SLe.aa (PLe.q rfl) (SLe.aa (PLe.q rfl) (SLe.aa (PLe.q rfl) (SLe.aa (PLe.q rfl) (SLe.aa (PLe.q rfl) SLe.nil)))))) BLe.nil OLe.nil) (fun j1 s1 g1 hj1 hr1=>?_)
  refine V.seq (V.ab (Ao.q tk rfl (Ao.nil (V.seq ?_))))
  refine V.ak rfl (fun h=>?_) (fun h=>?_)
  ·have hl1 := bn h
   obtain ⟨x1,fb1,hx1,H,hg1⟩ := rMc hl1 hr1
   refine V.al (V.seq (V.ap (V.seq (V.ab (Ao.q tk rfl (Ao.idx tk rfl rfl rfl rfl rfl rfl (Int.natCast_nonneg j1) (aY bE hx1) rfl (Ao.q tk rfl ?_)))))))
   refine Ao.aJ tk rfl rfl rfl rfl rfl rfl fun b7=>?_
   refine Ao.q tk rfl (Ao.sB tk rfl rfl rfl rfl rfl rfl rfl rfl rfl rfl rfl (Ao.nil (V.seq (V.ab (Ao.lB tk rfl rfl rfl rfl rfl rfl rfl ?_)))))
   obtain ⟨x20,h20,H⟩ := aj H
   have s20 := hrec109 x1 _ h20
   refine Ao.ah (g := 109) rfl rfl rfl Tryz.call109 (il.r) s20 rfl (Ao.q tk rfl (Ao.q tk rfl (Ao.q tk rfl (Ao.q tk rfl (Ao.q tk rfl (Ao.nil (V.seq (V.ab (Ao.q tk rfl (Ao.q tk rfl (Ao.q tk rfl (Ao.q tk rfl (Ao.nil (V.seq ?_))))))))))))))
   refine V.ap (V.seq (V.ab (Ao.q tk rfl (Ao.q tk rfl (Ao.q tk rfl (Ao.nil ?_))))))
   refine V.ak rfl (fun h=>?_) (fun h=>?_)
   ·have H := condT h H
    refine V.ab (Ao.q tk rfl (Ao.q tk rfl (Ao.nil (V.blk (V.ab (Ao.q tk rfl (Ao.q tk rfl (Ao.q tk rfl (Ao.nil (V.blk (V.ab (Ao.q tk rfl (Ao.q tk rfl (Ao.nil ?_))))))))))))))
    obtain rfl := ai H
    refine V.ax ((if (20001 : Int) < x20.1 then (20001 : Int) else x20.1),(if x20.2 > s1.2 then x20.2 else s1.2)) () ⟨hl1,hg1⟩ (Gh.le (SLe.aa (PLe.q rfl) (SLe.aa (PLe.q rfl) (SLe.aa (PLe.q rfl) (SLe.aa (PLe.q rfl) (SLe.aa (PLe.q rfl) (SLe.aa (PLe.q (az (by omega))) SLe.nil)))))) BLe.nil OLe.nil)
   ·have H := condF h H
    refine V.seq (V.ab (Ao.q tk rfl (Ao.q tk rfl (Ao.q tk rfl (Ao.q tk rfl (Ao.nil ?_))))))
    refine V.ak rfl (fun h=>?_) (fun h=>?_)
    ·have H := condT h H
     refine V.ab (Ao.q tk rfl (Ao.q tk rfl (Ao.q tk rfl (Ao.q tk rfl (Ao.nil (V.blk (V.ab (Ao.q tk rfl (Ao.q tk rfl (Ao.q tk rfl (Ao.nil (V.blk (V.ab (Ao.q tk rfl (Ao.q tk rfl ?_)))))))))))))))
     refine Ao.nil ?_
     obtain rfl := ai H
     refine V.ax ((if (20001 : Int) < (IntKind.i64.wrap (s1.1 + x20.1)) then (20001 : Int) else (IntKind.i64.wrap (s1.1 + x20.1))),(if x20.2 > s1.2 then x20.2 else s1.2)) () ⟨hl1,hg1⟩ (Gh.le (SLe.aa (PLe.q rfl) (SLe.aa (PLe.q rfl) (SLe.aa (PLe.q rfl) (SLe.aa (PLe.q rfl) (SLe.aa (PLe.q rfl) (SLe.aa (PLe.q (az (by omega))) SLe.nil)))))) BLe.nil OLe.nil)
    ·have H := condF h H
     refine V.seq ?_
     obtain ⟨fl4,H4,Hp4⟩ := bA H
     refine V.cut (τ := Bool) (γ := Unit) (fun t4 g4=>⟨60,upd (upd (upd (upd (upd (upd (upd (upd (fun _=>.any) 37 (au t4)) 13 (ac (j1 : Int))) 12 (ac (q.inputs.length : Int))) 11 (.list 35 (q.inputs.map aD))) 8 (ac x20.1)) 5 (ac (if x20.2 > s1.2 then x20.2 else s1.2))) 4 (ac s1.1)) 1 (.ptr [(ac q.kind),(.str q.table),(.list 9 (q.names.map bo)),(.list 56 (q.exprs.map aI)),(.list 66 (q.aggregates.map bl)),(.list 4 (q.descending.map bB)),(ac q.count),(ac q.offset),(.list 35 (q.inputs.map aD))]),fun _=>none,fun _=>none⟩) (fun t=>t = fl4) ?_ (fun t4 g4 hn4=>?_)
     ·have H := H4
      refine V.ab (Ao.q tk rfl (Ao.q tk rfl (Ao.q tk rfl (Ao.q tk rfl ?_))))
      refine Ao.aA rfl rfl rfl (fun h=>?_) (fun h=>?_)
      ·have H := condT h H
       refine Ao.q tk rfl (Ao.q tk rfl (Ao.q tk rfl (Ao.q tk rfl (Ao.q tk rfl (Ao.nil ?_)))))
       subst H
       refine V.at true () rfl (Gh.le (SLe.aa (PLe.q rfl) (SLe.aa (PLe.q rfl) (SLe.aa (PLe.q rfl) (SLe.aa (PLe.q rfl) (SLe.aa (PLe.q rfl) (SLe.aa (PLe.q rfl) (SLe.aa (PLe.q rfl) (SLe.aa (PLe.q rfl) SLe.nil)))))))) BLe.nil OLe.nil)
      ·have H := condF h H
       refine Ao.q tk rfl (Ao.q tk rfl (Ao.q tk rfl (Ao.q tk rfl (Ao.q tk rfl (Ao.nil ?_)))))
       subst H
       refine V.at (q.kind == (5 : Int)) () rfl (Gh.le (SLe.aa (PLe.q rfl) (SLe.aa (PLe.q rfl) (SLe.aa (PLe.q rfl) (SLe.aa (PLe.q rfl) (SLe.aa (PLe.q rfl) (SLe.aa (PLe.q rfl) (SLe.aa (PLe.q rfl) (SLe.aa (PLe.q rfl) SLe.nil)))))))) BLe.nil OLe.nil)
     ·subst hn4
      have H := Hp4
      refine V.ak rfl (fun h=>?_) (fun h=>?_)
      ·have H := condT h H
       refine V.ab (Ao.q tk rfl (Ao.q tk rfl (Ao.q tk rfl (Ao.q tk rfl (Ao.q tk rfl (Ao.nil (V.blk (V.ab (Ao.q tk rfl (Ao.q tk rfl (Ao.q tk rfl (Ao.nil (V.blk (V.ab ?_))))))))))))))
       refine Ao.q tk rfl (Ao.q tk rfl (Ao.nil ?_))
       obtain rfl := ai H
       refine V.ax ((if (20001 : Int) < (IntKind.i64.wrap (s1.1 * (if x20.1 > (1 : Int) then x20.1 else (1 : Int)))) then (20001 : Int) else (IntKind.i64.wrap (s1.1 * (if x20.1 > (1 : Int) then x20.1 else (1 : Int))))),(if x20.2 > s1.2 then x20.2 else s1.2)) () ⟨hl1,hg1⟩ (Gh.le (SLe.aa (PLe.q rfl) (SLe.aa (PLe.q rfl) (SLe.aa (PLe.q rfl) (SLe.aa (PLe.q rfl) (SLe.aa (PLe.q rfl) (SLe.aa (PLe.q (az (by omega))) SLe.nil)))))) BLe.nil OLe.nil)
      ·have H := condF h H
       refine V.al (V.blk (V.ab (Ao.q tk rfl (Ao.q tk rfl (Ao.q tk rfl (Ao.nil (V.blk (V.ab (Ao.q tk rfl (Ao.q tk rfl (Ao.nil ?_)))))))))))
       obtain rfl := ai H
       refine V.ax ((if (20001 : Int) < s1.1 then (20001 : Int) else s1.1),(if x20.2 > s1.2 then x20.2 else s1.2)) () ⟨hl1,hg1⟩ (Gh.le (SLe.aa (PLe.q rfl) (SLe.aa (PLe.q rfl) (SLe.aa (PLe.q rfl) (SLe.aa (PLe.q rfl) (SLe.aa (PLe.q rfl) (SLe.aa (PLe.q (az (by omega))) SLe.nil)))))) BLe.nil OLe.nil)
  ·have hn1 := rMd (bm h) hr1
   refine V.aB rfl ?_
   refine V.at s1 g1 hn1 (Gh.le (SLe.aa (PLe.q rfl) (SLe.aa (PLe.q rfl) (SLe.aa (PLe.q rfl) SLe.nil))) BLe.nil OLe.nil)
 ·have H := aW hn1 Hp1
  refine V.seq (V.seq (V.ab (Ao.q tk rfl (Ao.q tk rfl (Ao.q tk rfl (Ao.nil ?_))))))
  refine V.ak rfl (fun h=>?_) (fun h=>?_)
  ·have H := condT h H
   refine V.ab (Ao.q tk rfl (Ao.nil (V.seq (V.ab (Ao.q tk rfl (Ao.q tk rfl (Ao.q tk rfl (Ao.q tk rfl (Ao.q tk rfl (Ao.q tk rfl (Ao.nil ?_)))))))))))
   obtain rfl := ai H
   refine V.aq tk rfl (ps := [(ac 24),(ac (if (24 : Int) > s1.2 then (24 : Int) else s1.2))]) ⟨_,_,rfl,rfl,_,_,rfl,rfl,rfl⟩ (PLe.q rfl)
  ·have H := condF h H
   refine V.al (V.seq (V.ab (Ao.q tk rfl (Ao.q tk rfl (Ao.q tk rfl (Ao.q tk rfl (Ao.q tk rfl (Ao.q tk rfl (Ao.nil ?_)))))))))
   obtain rfl := ai H
   refine V.aq tk rfl (ps := [(ac s1.1),(ac (if s1.1 > s1.2 then s1.1 else s1.2))]) ⟨_,_,rfl,rfl,_,_,rfl,rfl,rfl⟩ (PLe.q rfl)
def ii : Nat → LQuery → Option (Int × Int)
 | 0,_=>none
 | n + 1,v0=>ig (fun b0=>ii n b0) v0
theorem WF_query_most  (n : Nat) : (∀ a0 r,ii n a0 = some r → aG Tryz.prog 109 [(.agg (aQ a0))] (.tup [(ac r.1),(ac r.2)])) := by
 induction n with
 | zero=>exact (by intros; rename_i h; exact absurd (show (none : Option _) = some _ from h) (by simp))
 | succ n ih =>
  exact (fun v0 r h=>WO_query_most (fun b0=>ii n b0) ih v0  r h)
def jG (q : LQuery) : Option (Int × Int) := gG fun n=>ii n q
theorem W_query_most (q : LQuery) (r : Int × Int) (H : jG q = some r) :
  aG Tryz.prog 109 [(.agg (aQ q))] (.tup [(ac r.1),(ac r.2)]) := by
 obtain ⟨n,h⟩ := im H
 exact (WF_query_most  n) q r h
end
end Go.Proofs.YtgaggbdcedpapaaGreat

namespace Go.Proofs.YtgaggbdcedpapaaGreat
noncomputable section
open Go Go.Ab
attribute [local irreducible] V Ao Do Gh Eff PH IntKind.wrap
set_option maxRecDepth 4000
def fm (rec108 : LExpr → (List Int) → Bool → (List Bool) → Option ((List Int) × Bool × (List Bool))) (e : LExpr) (c0 : List Int) (c1 : Bool) (c2 : List Bool) : Option ((List Int) × Bool × (List Bool)) :=
 ba (
  cond (e.kind == (3 : Int))
   (cond (decide (e.index ≥ (0 : Int)))
    ((decide (e.index < (8 : Int))))
    (false))
   (false)) fun (t1 : Bool) =>
 af (
  cond t1
   (af (ef (σ := List Int) (ρ := Empty) (fun (s7 : List Int) =>
    cond (decide ((s7.length : Int) ≤ e.index))
     (af (cI 8 s7 ([0] : List Int)) fun (x28 : List Int) =>
     some (.next x28))
     (some (.brk s7))) c0) fun fl7=>fl7.thenP fun (s7 : List Int) =>
   af (
    cond c1
     (some true)
     (af (arrI 8 c2 e.index) fun (x33 : Bool) =>
     cond x33
      (af (aC s7 e.index) fun (x39 : Int) =>
      some (x39 != e.value.kind))
      (some false))) fun (t8 : Bool) =>
   af (aC s7 e.index) fun (_ : Int) =>
   ba (s7.set e.index.toNat e.value.kind) fun (y9 : List Int) =>
   af (arrI 8 c2 e.index) fun (_ : Bool) =>
   ba (c2.set e.index.toNat true) fun (y10 : List Bool) =>
   some (y9,t8,y10))
   (some (c0,c1,c2))) fun (t6 : List Int × Bool × List Bool) =>
 af (aE (σ := List Int × Bool × List Bool) (ρ := Empty) (fun (_ : Nat) (x11 : LExpr) (s11 : List Int × Bool × List Bool) =>
  af (rec108 x11 s11.1 s11.2.1 s11.2.2) fun x66 =>
  some (.next (x66.1,x66.2.1,x66.2.2))) 0 e.args (t6.1,t6.2.1,t6.2.2)) fun fl11=>fl11.thenP fun (s11 : List Int × Bool × List Bool) =>
 some (s11.1,s11.2.1,s11.2.2)
set_option maxHeartbeats 4000000 in
theorem lc (b_c0 : Nat) (g_c0 : OwnRef) (b_c1 : Nat) (b_c2 : Nat) (b_c3 : Nat) (rec108 : LExpr → (List Int) → Bool → (List Bool) → Option ((List Int) × Bool × (List Bool))) (hrec108 : ∀ bq0 gq0 bq1 bq2 bq3 a0 a1 a2 a3 r,rec108 a0 a1 a2 a3 = some r → PH Tryz.prog 108 [(.agg (kp a0)),(.box 1000 bq0 0),(.box 1001 bq1 0),(.box 1002 bq2 0),(.box 1003 bq3 0)] ⟨upd (upd (upd (upd (fun _=>none) 1003 (some ⟨bq3,[(.fn 108 [(.box 1000 bq0 0),(.box 1001 bq1 0),(.box 1002 bq2 0),(.box 1003 bq3 0)])]⟩)) 1002 (some ⟨bq2,(List.map au a3)⟩)) 1001 (some ⟨bq1,[(au a2)]⟩)) 1000 (some ⟨bq0,[(.own 1100 gq0 (a1.map aV).length)]⟩),upd (fun _=>none) 1100 (some ⟨gq0,3,(a1.map aV),true⟩)⟩ (fun u H=>∃ gz0,u = (.tup []) ∧ H = ⟨upd (upd (upd (upd (fun _=>none) 1003 (some ⟨bq3,[(.fn 108 [(.box 1000 bq0 0),(.box 1001 bq1 0),(.box 1002 bq2 0),(.box 1003 bq3 0)])]⟩)) 1002 (some ⟨bq2,(List.map au r.2.2)⟩)) 1001 (some ⟨bq1,[(au r.2.1)]⟩)) 1000 (some ⟨bq0,[(.own 1100 gz0 (r.1.map aV).length)]⟩),upd (fun _=>none) 1100 (some ⟨gz0,3,(r.1.map aV),true⟩)⟩)) (e : LExpr) (c0 : List Int) (c1 : Bool) (c2 : List Bool) (r : (List Int) × Bool × (List Bool)) (H : fm rec108 e c0 c1 c2 = some r) :
  PH Tryz.prog 108 [(.agg (kp e)),(.box 1000 b_c0 0),(.box 1001 b_c1 0),(.box 1002 b_c2 0),(.box 1003 b_c3 0)] ⟨upd (upd (upd (upd (fun _=>none) 1003 (some ⟨b_c3,[(.fn 108 [(.box 1000 b_c0 0),(.box 1001 b_c1 0),(.box 1002 b_c2 0),(.box 1003 b_c3 0)])]⟩)) 1002 (some ⟨b_c2,(List.map au c2)⟩)) 1001 (some ⟨b_c1,[(au c1)]⟩)) 1000 (some ⟨b_c0,[(.own 1100 g_c0 (c0.map aV).length)]⟩),upd (fun _=>none) 1100 (some ⟨g_c0,3,(c0.map aV),true⟩)⟩ (fun u H=>∃ gz0,u = (.tup []) ∧ H = ⟨upd (upd (upd (upd (fun _=>none) 1003 (some ⟨b_c3,[(.fn 108 [(.box 1000 b_c0 0),(.box 1001 b_c1 0),(.box 1002 b_c2 0),(.box 1003 b_c3 0)])]⟩)) 1002 (some ⟨b_c2,(List.map au r.2.2)⟩)) 1001 (some ⟨b_c1,[(au r.2.1)]⟩)) 1000 (some ⟨b_c0,[(.own 1100 gz0 (r.1.map aV).length)]⟩),upd (fun _=>none) 1100 (some ⟨gz0,3,(r.1.map aV),true⟩)⟩) := by
 unfold fm at H
 refine PH.intro Tryz.func108 rfl Tryz.ntmps108 rfl ?_
 refine V.seq (V.ab (Ao.aF rfl rfl rfl rfl rfl rfl (Ao.nil (V.seq (V.seq ?_)))))
 obtain ⟨fl1,H1,Hp1⟩ := bA H
 refine V.cut (τ := Bool) (γ := Unit) (fun t1 g1=>⟨68,upd (upd (upd (upd (upd (upd (fun _=>.any) 20 (au t1)) 5 (.ptr [(ac e.kind),(.str e.name),(ac e.index),(ac e.value.kind),(ac e.value.int),(.str e.value.text),(.list 56 (e.args.map aI))])) 4 (.box 1003 b_c3 0)) 3 (.box 1002 b_c2 0)) 2 (.box 1001 b_c1 0)) 1 (.box 1000 b_c0 0),upd (upd (upd (upd (fun _=>none) 1003 (some ⟨b_c3,[(.fn 108 [(.box 1000 b_c0 0),(.box 1001 b_c1 0),(.box 1002 b_c2 0),(.box 1003 b_c3 0)])]⟩)) 1002 (some ⟨b_c2,(List.map au c2)⟩)) 1001 (some ⟨b_c1,[(au c1)]⟩)) 1000 (some ⟨b_c0,[(.own 1100 g_c0 (c0.map aV).length)]⟩),upd (fun _=>none) 1100 (some ⟨g_c0,3,(c0.map aV),true⟩)⟩) (fun t=>t = fl1) ?_ (fun t1 g1 hn1=>?_)
 ·have H := H1
  refine V.ab (Ao.q tk rfl (Ao.q tk rfl (Ao.q tk rfl (Ao.q tk rfl ?_))))
  refine Ao.aA rfl rfl rfl (fun h=>?_) (fun h=>?_)
  ·have H := condT h H
   refine Ao.q tk rfl (Ao.q tk rfl (Ao.q tk rfl (Ao.q tk rfl (Ao.q tk rfl ?_))))
   refine Ao.aA rfl rfl rfl (fun h=>?_) (fun h=>?_)
   ·have H := condT h H
    refine Ao.q tk rfl (Ao.q tk rfl (Ao.q tk rfl (Ao.q tk rfl (Ao.nil ?_))))
    subst H
    refine V.at (decide (e.index < (8 : Int))) () rfl (Gh.le (SLe.aa (PLe.q rfl) (SLe.aa (PLe.q rfl) (SLe.aa (PLe.q rfl) (SLe.aa (PLe.q rfl) (SLe.aa (PLe.q rfl) (SLe.aa (PLe.q rfl) SLe.nil)))))) (BLe.ao rfl (il.r) (BLe.ao rfl (il.r) (BLe.ao rfl (il.r) (BLe.ao rfl (il.r) BLe.nil)))) (OLe.am rfl OLe.nil))
   ·have H := condF h H
    refine Ao.q tk rfl (Ao.q tk rfl (Ao.q tk rfl (Ao.q tk rfl (Ao.nil ?_))))
    subst H
    refine V.at false () rfl (Gh.le (SLe.aa (PLe.q rfl) (SLe.aa (PLe.q rfl) (SLe.aa (PLe.q rfl) (SLe.aa (PLe.q rfl) (SLe.aa (PLe.q rfl) (SLe.aa (PLe.q rfl) SLe.nil)))))) (BLe.ao rfl (il.r) (BLe.ao rfl (il.r) (BLe.ao rfl (il.r) (BLe.ao rfl (il.r) BLe.nil)))) (OLe.am rfl OLe.nil))
  ·have H := condF h H
   refine Ao.q tk rfl (Ao.q tk rfl (Ao.q tk rfl (Ao.q tk rfl (Ao.q tk rfl (Ao.q tk rfl (Ao.q tk rfl (Ao.q tk rfl (Ao.q tk rfl (Ao.nil ?_)))))))))
   subst H
   refine V.at false () rfl (Gh.le (SLe.aa (PLe.q rfl) (SLe.aa (PLe.q rfl) (SLe.aa (PLe.q rfl) (SLe.aa (PLe.q rfl) (SLe.aa (PLe.q rfl) (SLe.aa (PLe.q rfl) SLe.nil)))))) (BLe.ao rfl (il.r) (BLe.ao rfl (il.r) (BLe.ao rfl (il.r) (BLe.ao rfl (il.r) BLe.nil)))) (OLe.am rfl OLe.nil))
 ·subst hn1
  have H := Hp1
  obtain ⟨fl6,H6,Hp6⟩ := aj H
  refine V.cut (τ := List Int × Bool × List Bool) (γ := OwnRef) (fun t6 g6=>⟨68,upd (upd (upd (upd (upd (fun _=>.any) 5 (.ptr [(ac e.kind),(.str e.name),(ac e.index),(ac e.value.kind),(ac e.value.int),(.str e.value.text),(.list 56 (e.args.map aI))])) 4 (.box 1003 b_c3 0)) 3 (.box 1002 b_c2 0)) 2 (.box 1001 b_c1 0)) 1 (.box 1000 b_c0 0),upd (upd (upd (upd (fun _=>none) 1003 (some ⟨b_c3,[(.fn 108 [(.box 1000 b_c0 0),(.box 1001 b_c1 0),(.box 1002 b_c2 0),(.box 1003 b_c3 0)])]⟩)) 1002 (some ⟨b_c2,(List.map au t6.2.2)⟩)) 1001 (some ⟨b_c1,[(au t6.2.1)]⟩)) 1000 (some ⟨b_c0,[(.own 1100 g6 (t6.1.map aV).length)]⟩),upd (fun _=>none) 1100 (some ⟨g6,3,(t6.1.map aV),true⟩)⟩) (fun t=>t = fl6) ?_ (fun t6 g6 hn6=>?_)
  ·have H := H6
   refine V.ak rfl (fun h=>?_) (fun h=>?_)
   ·have H := condT h H
    refine V.seq ?_
    obtain ⟨fl7,H7,Hp7⟩ := aj H
    refine V.cut (τ := List Int) (γ := OwnRef) (fun s7 g7=>⟨68,upd (upd (upd (upd (upd (fun _=>.any) 5 (.ptr [(ac e.kind),(.str e.name),(ac e.index),(ac e.value.kind),(ac e.value.int),(.str e.value.text),(.list 56 (e.args.map aI))])) 4 (.box 1003 b_c3 0)) 3 (.box 1002 b_c2 0)) 2 (.box 1001 b_c1 0)) 1 (.box 1000 b_c0 0),upd (upd (upd (upd (fun _=>none) 1003 (some ⟨b_c3,[(.fn 108 [(.box 1000 b_c0 0),(.box 1001 b_c1 0),(.box 1002 b_c2 0),(.box 1003 b_c3 0)])]⟩)) 1002 (some ⟨b_c2,(List.map au c2)⟩)) 1001 (some ⟨b_c1,[(au c1)]⟩)) 1000 (some ⟨b_c0,[(.own 1100 g7 (s7.map aV).length)]⟩),upd (fun _=>none) 1100 (some ⟨g7,3,(s7.map aV),true⟩)⟩) (fun t=>fl7 = .next t) ?_ (fun s7 g7 hn7=>?_)
    ·refine V.ap ?_
     refine V.fe (fun s7 g7=>⟨68,upd (upd (upd (upd (upd (fun _=>.any) 5 (.ptr [(ac e.kind),(.str e.name),(ac e.index),(ac e.value.kind),(ac e.value.int),(.str e.value.text),(.list 56 (e.args.map aI))])) 4 (.box 1003 b_c3 0)) 3 (.box 1002 b_c2 0)) 2 (.box 1001 b_c1 0)) 1 (.box 1000 b_c0 0),upd (upd (upd (upd (fun _=>none) 1003 (some ⟨b_c3,[(.fn 108 [(.box 1000 b_c0 0),(.box 1001 b_c1 0),(.box 1002 b_c2 0),(.box 1003 b_c3 0)])]⟩)) 1002 (some ⟨b_c2,(List.map au c2)⟩)) 1001 (some ⟨b_c1,[(au c1)]⟩)) 1000 (some ⟨b_c0,[(.own 1100 g7 (s7.map aV).length)]⟩),upd (fun _=>none) 1100 (some ⟨g7,3,(s7.map aV),true⟩)⟩) g_c0 H7 (Gh.le (SLe.aa (PLe.q rfl) (SLe.aa (PLe.q rfl) (SLe.aa (PLe.q rfl) (SLe.aa (PLe.q rfl) (SLe.aa (PLe.q rfl) SLe.nil))))) (BLe.ao rfl (il.r) (BLe.ao rfl (il.r) (BLe.ao rfl (il.r) (BLe.ao rfl (il.r) BLe.nil)))) (OLe.am rfl OLe.nil)) (fun m7 s7 g7 hr7=>?_)
     obtain ⟨fb7,H,hg7⟩ := dV hr7
     refine V.seq (V.seq (V.ab (Ao.lB tk rfl rfl rfl rfl rfl rfl rfl (Ao.lenO tk rfl rfl rfl rfl rfl (List.length_map _) rfl (Ao.q tk rfl (Ao.q tk rfl (Ao.q tk rfl (Ao.nil ?_))))))))
     refine V.ak rfl (fun h=>?_) (fun h=>?_)
     ·have H := condT h H
      refine V.al (V.ap (V.ab (Ao.lB tk rfl rfl rfl rfl rfl rfl rfl (Ao.bsC tk rfl rfl rfl rfl (rows' := List.map aV ([0] : List Int)) rfl (fj.refl _) rfl rfl ?_))))
      obtain ⟨x28,h28,H⟩ := aj H
      have k28 := cf h28
      refine Ao.co (rows2' := List.map aV ([0] : List Int)) (rows' := List.map aV x28) tk rfl rfl rfl rfl rfl rfl rfl rfl rfl rfl rfl rfl rfl (fj.refl _) (dp k28.1) (dv k28.2.1) (du k28.2.2) fun g28=>?_
      refine Ao.sB tk rfl rfl rfl rfl rfl rfl rfl rfl rfl rfl rfl (Ao.nil (V.blk ?_))
      obtain rfl := ai H
      refine V.ax x28 g28 hg7 (Gh.le (SLe.aa (PLe.q rfl) (SLe.aa (PLe.q rfl) (SLe.aa (PLe.q rfl) (SLe.aa (PLe.q rfl) (SLe.aa (PLe.q rfl) SLe.nil))))) (BLe.ao rfl (il.r) (BLe.ao rfl (il.r) (BLe.ao rfl (il.r) (BLe.ao rfl (il.r) BLe.nil)))) (OLe.am rfl OLe.nil))
     ·have H := condF h H
      refine V.aB rfl ?_
      obtain rfl := ai H
      refine V.at s7 g7 hg7 (Gh.le (SLe.aa (PLe.q rfl) (SLe.aa (PLe.q rfl) (SLe.aa (PLe.q rfl) (SLe.aa (PLe.q rfl) (SLe.aa (PLe.q rfl) SLe.nil))))) (BLe.ao rfl (il.r) (BLe.ao rfl (il.r) (BLe.ao rfl (il.r) (BLe.ao rfl (il.r) BLe.nil)))) (OLe.am rfl OLe.nil))
    ·have H := aW hn7 Hp7
     refine V.seq ?_
     obtain ⟨fl8,H8,Hp8⟩ := aj H
     refine V.cut (τ := Bool) (γ := Unit) (fun t8 g8=>⟨68,upd (upd (upd (upd (upd (fun _=>.any) 5 (.ptr [(ac e.kind),(.str e.name),(ac e.index),(ac e.value.kind),(ac e.value.int),(.str e.value.text),(.list 56 (e.args.map aI))])) 4 (.box 1003 b_c3 0)) 3 (.box 1002 b_c2 0)) 2 (.box 1001 b_c1 0)) 1 (.box 1000 b_c0 0),upd (upd (upd (upd (fun _=>none) 1003 (some ⟨b_c3,[(.fn 108 [(.box 1000 b_c0 0),(.box 1001 b_c1 0),(.box 1002 b_c2 0),(.box 1003 b_c3 0)])]⟩)) 1002 (some ⟨b_c2,(List.map au c2)⟩)) 1001 (some ⟨b_c1,[(au t8)]⟩)) 1000 (some ⟨b_c0,[(.own 1100 g7 (s7.map aV).length)]⟩),upd (fun _=>none) 1100 (some ⟨g7,3,(s7.map aV),true⟩)⟩) (fun t=>t = fl8) ?_ (fun t8 g8 hn8=>?_)
     ·have H := H8
      refine V.gR (tag := 1100) rfl (fun ho1100=>?_)
      refine V.bc tk mok ⟨true,true,[32,38,43]⟩ [0,1,2,3,4,5,6,7,8,9,10,11,12,13,14,15,16,17,18] rfl (by decide +kernel) rfl (Do.lB rfl rfl rfl rfl rfl rfl rfl rfl rfl (Do.q rfl ?_))
      refine Do.fh rfl rfl rfl rfl (fun h=>?_) (fun h=>?_)
      ·have H := condT h H
       refine Do.q rfl (Do.q rfl (Do.q rfl (Do.q rfl (Do.q rfl (Do.q rfl (Do.q rfl (Do.q rfl (Do.q rfl (Do.q rfl (Do.q rfl (Do.q rfl (Do.q rfl (Do.q rfl (Do.q rfl (Do.q rfl ?_)))))))))))))))
       refine Do.sB rfl rfl rfl rfl rfl rfl rfl rfl rfl rfl rfl rfl (Do.nil ?_)
       obtain rfl := ai H
       refine V.at true () rfl (Gh.le (SLe.aa (PLe.q rfl) (SLe.aa (PLe.q rfl) (SLe.aa (PLe.q rfl) (SLe.aa (PLe.q rfl) (SLe.aa (PLe.q rfl) SLe.nil))))) (BLe.ao rfl (il.r) (BLe.ao rfl (il.r) (BLe.ao rfl (il.r) (BLe.ao rfl (il.r) BLe.nil)))) (OLe.am rfl OLe.nil))
      ·have H := condF h H
       refine Do.q rfl (Do.q rfl ?_)
       obtain ⟨x33,h33,H⟩ := aj H
       have k33 := arrI_some h33
       refine Do.idxA rfl rfl rfl rfl rfl rfl rfl rfl rfl k33.1 rfl ?_
       refine Do.loadA rfl rfl rfl rfl rfl rfl rfl rfl (by rw [List.getElem?_map,k33.2]; rfl) rfl ?_
       refine Do.q rfl ?_
       refine Do.fh rfl rfl rfl rfl (fun h=>?_) (fun h=>?_)
       ·have H := condT h H
        refine Do.lB rfl rfl rfl rfl rfl rfl rfl rfl rfl (Do.q rfl (Do.q rfl ?_))
        obtain ⟨x39,h39,H⟩ := aj H
        have k39 := gIs h39
        refine Do.cP tk rfl rfl rfl rfl rfl rfl rfl rfl ⟨k39.1,(cS k39.2)⟩ (cY ho1100 k39.2) rfl ?_
        refine Do.ee tk rfl rfl rfl rfl rfl rfl rfl rfl rfl (aH (fun _=>rfl) k39.2) rfl rfl ?_
        refine Do.q rfl (Do.q rfl (Do.q rfl (Do.q rfl (Do.q rfl (Do.q rfl (Do.sB rfl rfl rfl rfl rfl rfl rfl rfl rfl rfl rfl rfl (Do.nil ?_)))))))
        obtain rfl := ai H
        refine V.at (x39 != e.value.kind) () rfl (Gh.le (SLe.aa (PLe.q rfl) (SLe.aa (PLe.q rfl) (SLe.aa (PLe.q rfl) (SLe.aa (PLe.q rfl) (SLe.aa (PLe.q rfl) SLe.nil))))) (BLe.ao rfl (il.r) (BLe.ao rfl (il.r) (BLe.ao rfl (il.r) (BLe.ao rfl (il.r) BLe.nil)))) (OLe.am rfl OLe.nil))
       ·have H := condF h H
        refine Do.q rfl (Do.q rfl (Do.q rfl (Do.q rfl (Do.q rfl (Do.q rfl (Do.q rfl (Do.q rfl (Do.q rfl (Do.q rfl (Do.q rfl (Do.sB rfl rfl rfl rfl rfl rfl rfl rfl rfl rfl rfl rfl (Do.nil ?_))))))))))))
        obtain rfl := ai H
        refine V.at false () rfl (Gh.le (SLe.aa (PLe.q rfl) (SLe.aa (PLe.q rfl) (SLe.aa (PLe.q rfl) (SLe.aa (PLe.q rfl) (SLe.aa (PLe.q rfl) SLe.nil))))) (BLe.ao rfl (il.r) (BLe.ao rfl (il.r) (BLe.ao rfl (il.r) (BLe.ao rfl (il.r) BLe.nil)))) (OLe.am rfl OLe.nil))
     ·subst hn8
      have H := Hp8
      refine V.gR (tag := 1100) rfl (fun ho1100=>?_)
      refine V.bc tk mok ⟨true,false,[49,51,54]⟩ [0,1,2,3,4,5,6,7,8,9,10,11] rfl (by decide +kernel) rfl (Do.lB rfl rfl rfl rfl rfl rfl rfl rfl rfl (Do.q rfl (Do.q rfl (Do.q rfl (Do.q rfl (Do.q rfl (Do.q rfl (Do.q rfl ?_))))))))
      obtain ⟨x55,h55,H⟩ := aj H
      have k55 := gIs h55
      refine Do.cP tk rfl rfl rfl rfl rfl rfl rfl rfl ⟨k55.1,(cS k55.2)⟩ (cY ho1100 k55.2) rfl ?_
      obtain ⟨y9,hy9,H⟩ := bA H
      refine Do.gT tk rfl rfl rfl rfl rfl rfl rfl rfl rfl (by rw [List.length_map]; exact (List.getElem?_eq_some_iff.1 k55.2).1) (PLe.refl _ _) rfl rfl rfl rfl (by decide) (eu (fun _=>rfl) k55.2 rfl hy9) ?_
      obtain ⟨x56,h56,H⟩ := aj H
      have k56 := arrI_some h56
      refine Do.idxA rfl rfl rfl rfl rfl rfl rfl rfl rfl k56.1 rfl ?_
      obtain ⟨y10,hy10,H⟩ := bA H
      refine Do.storeA rfl rfl rfl rfl rfl rfl rfl rfl rfl rfl (by rw [List.length_map]; exact (List.getElem?_eq_some_iff.1 k56.2).1) (splice_map au _ _ _ (List.getElem?_eq_some_iff.1 k56.2).1 hy10) ?_
      refine Do.nil ?_
      obtain rfl := ai H
      refine V.at (y9,t8,y10) g7 rfl (Gh.le (SLe.aa (PLe.q rfl) (SLe.aa (PLe.q rfl) (SLe.aa (PLe.q rfl) (SLe.aa (PLe.q rfl) (SLe.aa (PLe.q rfl) SLe.nil))))) (BLe.ao rfl (il.of2 (fQ.cons (kW.of_eq (congrArg (PV.own 1100 g7) (dR (f := aV) hy9))) fQ.nil)) (BLe.ao rfl (il.r) (BLe.ao rfl (il.r) (BLe.ao rfl (il.r) BLe.nil)))) (OLe.am rfl OLe.nil))
   ·have H := condF h H
    refine V.al ?_
    obtain rfl := ai H
    refine V.at (c0,c1,c2) g_c0 rfl (Gh.le (SLe.aa (PLe.q rfl) (SLe.aa (PLe.q rfl) (SLe.aa (PLe.q rfl) (SLe.aa (PLe.q rfl) (SLe.aa (PLe.q rfl) SLe.nil))))) (BLe.ao rfl (il.r) (BLe.ao rfl (il.r) (BLe.ao rfl (il.r) (BLe.ao rfl (il.r) BLe.nil)))) (OLe.am rfl OLe.nil))
  ·subst hn6
   have H := Hp6
   refine V.seq (V.ab (Ao.q tk rfl (Ao.q tk rfl (Ao.ay tk rfl rfl rfl rfl rfl (List.length_map _) rfl (Ao.q tk rfl (Ao.nil ?_))))))
   obtain ⟨fl11,H11,Hp11⟩ := aj H
   refine V.aZ tk 58 rfl rfl (fun hz11 _=>?_)
   rw [List.length_map] at hz11
   refine V.cut (τ := List Int × Bool × List Bool) (γ := OwnRef) (fun s11 g11=>⟨68,upd (upd (upd (upd (fun _=>.any) 4 (.box 1003 b_c3 0)) 3 (.box 1002 b_c2 0)) 2 (.box 1001 b_c1 0)) 1 (.box 1000 b_c0 0),upd (upd (upd (upd (fun _=>none) 1003 (some ⟨b_c3,[(.fn 108 [(.box 1000 b_c0 0),(.box 1001 b_c1 0),(.box 1002 b_c2 0),(.box 1003 b_c3 0)])]⟩)) 1002 (some ⟨b_c2,(List.map au s11.2.2)⟩)) 1001 (some ⟨b_c1,[(au s11.2.1)]⟩)) 1000 (some ⟨b_c0,[(.own 1100 g11 (s11.1.map aV).length)]⟩),upd (fun _=>none) 1100 (some ⟨g11,3,(s11.1.map aV),true⟩)⟩) (fun t=>fl11 = .next t) ?_ (fun s11 g11 hn11=>?_)
   ·refine V.ap ?_
    refine V.aP (fun j11 s11 g11=>⟨68,upd (upd (upd (upd (upd (upd (upd (fun _=>.any) 60 (ac (j11 : Int))) 59 (ac (e.args.length : Int))) 58 (.list 56 (e.args.map aI))) 4 (.box 1003 b_c3 0)) 3 (.box 1002 b_c2 0)) 2 (.box 1001 b_c1 0)) 1 (.box 1000 b_c0 0),upd (upd (upd (upd (fun _=>none) 1003 (some ⟨b_c3,[(.fn 108 [(.box 1000 b_c0 0),(.box 1001 b_c1 0),(.box 1002 b_c2 0),(.box 1003 b_c3 0)])]⟩)) 1002 (some ⟨b_c2,(List.map au s11.2.2)⟩)) 1001 (some ⟨b_c1,[(au s11.2.1)]⟩)) 1000 (some ⟨b_c0,[(.own 1100 g11 (s11.1.map aV).length)]⟩),upd (fun _=>none) 1100 (some ⟨g11,3,(s11.1.map aV),true⟩)⟩) g6 H11 (Gh.le (SLe.aa (PLe.q rfl) (SLe.aa (PLe.q rfl) (SLe.aa (PLe.q rfl) (SLe.aa (PLe.q rfl) (SLe.aa (PLe.q rfl) (SLe.aa (PLe.q rfl) (SLe.aa (PLe.q rfl) SLe.nil))))))) (BLe.ao rfl (il.r) (BLe.ao rfl (il.r) (BLe.ao rfl (il.r) (BLe.ao rfl (il.r) BLe.nil)))) (OLe.am rfl OLe.nil)) (fun j11 s11 g11 hj11 hr11=>?_)
    refine V.seq (V.ab (Ao.q tk rfl (Ao.nil (V.seq ?_))))
    refine V.ak rfl (fun h=>?_) (fun h=>?_)
    ·have hl11 := bn h
     obtain ⟨x11,fb11,hx11,H,hg11⟩ := rMc hl11 hr11
     refine V.al (V.seq (V.ap (V.seq (V.ab (Ao.idx tk rfl rfl rfl rfl rfl rfl (Int.natCast_nonneg j11) (aY cW hx11) rfl (Ao.q tk rfl ?_))))))
     refine Ao.aJ tk rfl rfl rfl rfl rfl rfl fun b7=>?_
     refine Ao.sB tk rfl rfl rfl rfl rfl rfl rfl rfl rfl rfl rfl (Ao.nil (V.ab (Ao.lB tk rfl rfl rfl rfl rfl rfl rfl (Ao.lB tk rfl rfl rfl rfl rfl rfl rfl ?_))))
     obtain ⟨x66,h66,H⟩ := aj H
     have s66 := hrec108 b_c0 g11 b_c1 b_c2 b_c3 x11 s11.1 s11.2.1 s11.2.2 _ h66
     refine Ao.gh (st' := ⟨_,_,upd (upd (upd (upd (upd (fun _=>none) 1003 (some ⟨b_c3,[(.fn 108 [(.box 1000 b_c0 0),(.box 1001 b_c1 0),(.box 1002 b_c2 0),(.box 1003 b_c3 0)])]⟩)) 1002 (some ⟨b_c2,(List.map au s11.2.2)⟩)) 1001 (some ⟨b_c1,[(au s11.2.1)]⟩)) 1000 (some ⟨b_c0,[(.own 1100 g11 (s11.1.map aV).length)]⟩)) 7 (some ⟨b7,[(ac x11.kind),(.str x11.name),(ac x11.index),(ac x11.value.kind),(ac x11.value.int),(.str x11.value.text),(.list 56 (x11.args.map aI))]⟩),upd (fun _=>none) 1100 (some ⟨g11,3,(s11.1.map aV),true⟩)⟩) (Gh.le (SLe.cq _ _) (BLe.ao rfl (il.r) (BLe.ao rfl (il.of2 (fQ.cons (kW.own rfl) fQ.nil)) (BLe.ao rfl (il.r) (BLe.ao rfl (il.r) (BLe.ao rfl (il.of2 (fQ.cons (kW.fn (fQ.cons kW.boxT (fQ.cons kW.boxT (fQ.cons kW.boxT (fQ.cons kW.boxT fQ.nil))))) fQ.nil)) BLe.nil))))) (OLe.am rfl OLe.nil)) ?_
     refine Ao.dr (g := 108) rfl rfl rfl Tryz.call108 [(1000,1000),(1001,1001),(1002,1002),(1003,1003)] [(1100,1100)] rfl rfl rfl rfl (il.of2 (fQ.cons (kW.of_eq rfl) (fQ.cons kW.boxT (fQ.cons kW.boxT (fQ.cons kW.boxT (fQ.cons kW.boxT fQ.nil)))))) (by rw [eO,eO,eO,eO,cN,cx,cO]; rfl) s66 ?_
     rintro u66 H66h ⟨gz66_0,rfl,rfl⟩
     refine ⟨_,rfl,?_⟩
     refine Ao.gh (st' := ⟨_,_,upd (upd (upd (upd (upd (fun _=>none) 1003 (some ⟨b_c3,[(.fn 108 [(.box 1000 b_c0 0),(.box 1001 b_c1 0),(.box 1002 b_c2 0),(.box 1003 b_c3 0)])]⟩)) 1002 (some ⟨b_c2,(List.map au x66.2.2)⟩)) 1001 (some ⟨b_c1,[(au x66.2.1)]⟩)) 1000 (some ⟨b_c0,[(.own 1100 gz66_0 (x66.1.map aV).length)]⟩)) 7 (some ⟨b7,[(ac x11.kind),(.str x11.name),(ac x11.index),(ac x11.value.kind),(ac x11.value.int),(.str x11.value.text),(.list 56 (x11.args.map aI))]⟩),upd (fun _=>none) 1100 (some ⟨gz66_0,3,(x66.1.map aV),true⟩)⟩) (Gh.le (SLe.cq _ _) (BLe.ao rfl (il.r) (BLe.ao rfl (il.of2 (fQ.cons (kW.own rfl) fQ.nil)) (BLe.ao rfl (il.r) (BLe.ao rfl (il.r) (BLe.ao rfl (il.of2 (fQ.cons (kW.fn (fQ.cons kW.boxT (fQ.cons kW.boxT (fQ.cons kW.boxT (fQ.cons kW.boxT fQ.nil))))) fQ.nil)) BLe.nil))))) (OLe.am rfl OLe.nil)) ?_
     refine Ao.nil (V.blk (V.ab (Ao.q tk rfl (Ao.q tk rfl (Ao.nil ?_)))))
     obtain rfl := ai H
     refine V.ax (x66.1,x66.2.1,x66.2.2) gz66_0 ⟨hl11,hg11⟩ (Gh.le (SLe.aa (PLe.q rfl) (SLe.aa (PLe.q rfl) (SLe.aa (PLe.q rfl) (SLe.aa (PLe.q rfl) (SLe.aa (PLe.q rfl) (SLe.aa (PLe.q rfl) (SLe.aa (PLe.q (az (by omega))) SLe.nil))))))) (BLe.ao rfl (il.r) (BLe.ao rfl (il.r) (BLe.ao rfl (il.r) (BLe.ao rfl (il.r) BLe.nil)))) (OLe.am rfl OLe.nil))
    ·have hn11 := rMd (bm h) hr11
     refine V.aB rfl ?_
     refine V.at s11 g11 hn11 (Gh.le (SLe.aa (PLe.q rfl) (SLe.aa (PLe.q rfl) (SLe.aa (PLe.q rfl) (SLe.aa (PLe.q rfl) SLe.nil)))) (BLe.ao rfl (il.r) (BLe.ao rfl (il.r) (BLe.ao rfl (il.r) (BLe.ao rfl (il.r) BLe.nil)))) (OLe.am rfl OLe.nil))
   ·have H := aW hn11 Hp11
    obtain rfl := ai H
    refine V.gh (st' := ⟨68,fun _=>.any,upd (upd (upd (upd (fun _=>none) 1003 (some ⟨b_c3,[(.fn 108 [(.box 1000 b_c0 0),(.box 1001 b_c1 0),(.box 1002 b_c2 0),(.box 1003 b_c3 0)])]⟩)) 1002 (some ⟨b_c2,(List.map au s11.2.2)⟩)) 1001 (some ⟨b_c1,[(au s11.2.1)]⟩)) 1000 (some ⟨b_c0,[(.own 1100 g11 (s11.1.map aV).length)]⟩),upd (fun _=>none) 1100 (some ⟨g11,3,(s11.1.map aV),true⟩)⟩) (Gh.le SLe.nil (BLe.ao rfl (il.of2 (fQ.cons (kW.own rfl) fQ.nil)) (BLe.ao rfl (il.r) (BLe.ao rfl (il.r) (BLe.ao rfl (il.r) BLe.nil)))) (OLe.am rfl OLe.nil)) ?_
    refine V.endH rfl (PLe.q rfl) ⟨_,rfl,rfl⟩
def cu : Nat → LExpr → (List Int) → Bool → (List Bool) → Option ((List Int) × Bool × (List Bool))
 | 0,_,_,_,_=>none
 | n + 1,v0,v1,v2,v3=>fm (fun b0 b1 b2 b3=>cu n b0 b1 b2 b3) v0 v1 v2 v3
theorem kY  (n : Nat) : (∀ bq0 gq0 bq1 bq2 bq3 a0 a1 a2 a3 r,cu n a0 a1 a2 a3 = some r → PH Tryz.prog 108 [(.agg (kp a0)),(.box 1000 bq0 0),(.box 1001 bq1 0),(.box 1002 bq2 0),(.box 1003 bq3 0)] ⟨upd (upd (upd (upd (fun _=>none) 1003 (some ⟨bq3,[(.fn 108 [(.box 1000 bq0 0),(.box 1001 bq1 0),(.box 1002 bq2 0),(.box 1003 bq3 0)])]⟩)) 1002 (some ⟨bq2,(List.map au a3)⟩)) 1001 (some ⟨bq1,[(au a2)]⟩)) 1000 (some ⟨bq0,[(.own 1100 gq0 (a1.map aV).length)]⟩),upd (fun _=>none) 1100 (some ⟨gq0,3,(a1.map aV),true⟩)⟩ (fun u H=>∃ gz0,u = (.tup []) ∧ H = ⟨upd (upd (upd (upd (fun _=>none) 1003 (some ⟨bq3,[(.fn 108 [(.box 1000 bq0 0),(.box 1001 bq1 0),(.box 1002 bq2 0),(.box 1003 bq3 0)])]⟩)) 1002 (some ⟨bq2,(List.map au r.2.2)⟩)) 1001 (some ⟨bq1,[(au r.2.1)]⟩)) 1000 (some ⟨bq0,[(.own 1100 gz0 (r.1.map aV).length)]⟩),upd (fun _=>none) 1100 (some ⟨gz0,3,(r.1.map aV),true⟩)⟩)) := by
 induction n with
 | zero=>exact (by intros; rename_i h; exact absurd (show (none : Option _) = some _ from h) (by simp))
 | succ n ih =>
  exact (fun bq0 gq0 bq1 bq2 bq3 v0 v1 v2 v3 r h=>lc bq0 gq0 bq1 bq2 bq3 (fun b0 b1 b2 b3=>cu n b0 b1 b2 b3) ih v0 v1 v2 v3  r h)
def ek (e : LExpr) (c0 : List Int) (c1 : Bool) (c2 : List Bool) : Option ((List Int) × Bool × (List Bool)) := gG fun n=>cu n e c0 c1 c2
theorem iP (b_c0 : Nat) (g_c0 : OwnRef) (b_c1 : Nat) (b_c2 : Nat) (b_c3 : Nat) (e : LExpr) (c0 : List Int) (c1 : Bool) (c2 : List Bool) (r : (List Int) × Bool × (List Bool)) (H : ek e c0 c1 c2 = some r) :
  PH Tryz.prog 108 [(.agg (kp e)),(.box 1000 b_c0 0),(.box 1001 b_c1 0),(.box 1002 b_c2 0),(.box 1003 b_c3 0)] ⟨upd (upd (upd (upd (fun _=>none) 1003 (some ⟨b_c3,[(.fn 108 [(.box 1000 b_c0 0),(.box 1001 b_c1 0),(.box 1002 b_c2 0),(.box 1003 b_c3 0)])]⟩)) 1002 (some ⟨b_c2,(List.map au c2)⟩)) 1001 (some ⟨b_c1,[(au c1)]⟩)) 1000 (some ⟨b_c0,[(.own 1100 g_c0 (c0.map aV).length)]⟩),upd (fun _=>none) 1100 (some ⟨g_c0,3,(c0.map aV),true⟩)⟩ (fun u H=>∃ gz0,u = (.tup []) ∧ H = ⟨upd (upd (upd (upd (fun _=>none) 1003 (some ⟨b_c3,[(.fn 108 [(.box 1000 b_c0 0),(.box 1001 b_c1 0),(.box 1002 b_c2 0),(.box 1003 b_c3 0)])]⟩)) 1002 (some ⟨b_c2,(List.map au r.2.2)⟩)) 1001 (some ⟨b_c1,[(au r.2.1)]⟩)) 1000 (some ⟨b_c0,[(.own 1100 gz0 (r.1.map aV).length)]⟩),upd (fun _=>none) 1100 (some ⟨gz0,3,(r.1.map aV),true⟩)⟩) := by
 obtain ⟨n,h⟩ := im H
 exact (kY  n) b_c0 g_c0 b_c1 b_c2 b_c3 e c0 c1 c2 r h
def fA (sA : List Int) (v : Int) : Option (Int) :=
 af (aE (σ := Unit) (ρ := (Int)) (fun (j1 : Nat) (x1 : Int) (_ : Unit) =>
  cond (v == x1)
   (some (.ret (j1 : Int)))
   (some (.next ()))) 0 sA ()) fun fl1=>fl1.thenR fun (_ : Unit) =>
 some (-1)
set_option maxHeartbeats 4000000 in
theorem lY (sA : List Int) (v : Int) (r : Int) (H : fA sA v = some r) :
  aG Tryz.prog 179 [(.list 3 (sA.map aV)),(ac v)] (ac r) := by
 unfold fA at H
 refine PH.intro Tryz.func179 rfl Tryz.ntmps179 rfl ?_
 refine V.seq (V.ab (Ao.q tk rfl (Ao.nil (V.seq (V.seq (V.ab (Ao.q tk rfl (Ao.ay tk rfl rfl rfl rfl rfl (List.length_map _) rfl (Ao.q tk rfl (Ao.nil ?_))))))))))
 obtain ⟨fl1,H1,Hp1⟩ := aj H
 refine V.aZ tk 0 rfl rfl (fun hz1 _=>?_)
 rw [List.length_map] at hz1
 refine V.cut (τ := Unit) (γ := Unit) (fun s1 g1=>⟨19,fun _=>.any,fun _=>none,fun _=>none⟩) (fun t=>fl1 = .next t) ?_ (fun s1 g1 hn1=>?_)
 ·refine V.ap ?_
  refine V.aP (fun j1 s1 g1=>⟨19,upd (upd (upd (upd (fun _=>.any) 8 (ac (j1 : Int))) 7 (ac (sA.length : Int))) 1 (ac v)) 0 (.list 3 (sA.map aV)),fun _=>none,fun _=>none⟩) () H1 (Gh.le (SLe.aa (PLe.q rfl) (SLe.aa (PLe.q rfl) (SLe.aa (PLe.q rfl) (SLe.aa (PLe.q rfl) SLe.nil)))) BLe.nil OLe.nil) (fun j1 s1 g1 hj1 hr1=>?_)
  refine V.seq (V.ab (Ao.q tk rfl (Ao.nil (V.seq ?_))))
  refine V.ak rfl (fun h=>?_) (fun h=>?_)
  ·have hl1 := bn h
   obtain ⟨x1,fb1,hx1,H,hg1⟩ := rMc hl1 hr1
   refine V.al (V.seq (V.ap (V.seq (V.ab (Ao.q tk rfl (Ao.q tk rfl (Ao.nil (V.seq (V.ab (Ao.q tk rfl (Ao.q tk rfl (Ao.q tk rfl ?_))))))))))))
   refine Ao.idx tk rfl rfl rfl rfl rfl rfl (Int.natCast_nonneg j1) (aY (fun _=>rfl) hx1) rfl ?_
   refine Ao.q tk rfl (Ao.q tk rfl (Ao.nil ?_))
   refine V.ak rfl (fun h=>?_) (fun h=>?_)
   ·have H := condT h H
    refine V.seq (V.ab (Ao.q tk rfl (Ao.q tk rfl (Ao.nil ?_))))
    obtain rfl := ai H
    have e1 : fl1 = .ret _ := hg1
    subst e1
    obtain rfl := aL Hp1
    refine V.aq tk rfl (ps := [(ac (j1 : Int))]) ⟨_,_,rfl,rfl,rfl⟩ (PLe.q rfl)
   ·have H := condF h H
    refine V.al (V.blk (V.ab (Ao.q tk rfl (Ao.q tk rfl (Ao.nil ?_)))))
    obtain rfl := ai H
    refine V.ax () () ⟨hl1,hg1⟩ (Gh.le (SLe.aa (PLe.q rfl) (SLe.aa (PLe.q rfl) (SLe.aa (PLe.q rfl) (SLe.aa (PLe.q (az (by omega))) SLe.nil)))) BLe.nil OLe.nil)
  ·have hn1 := rMd (bm h) hr1
   refine V.aB rfl ?_
   refine V.at s1 g1 hn1 (Gh.le SLe.nil BLe.nil OLe.nil)
 ·have H := br hn1 Hp1
  refine V.seq (V.ab (Ao.q tk rfl (Ao.nil ?_)))
  obtain rfl := ai H
  refine V.aq tk rfl (ps := [(ac (-1))]) ⟨_,_,rfl,rfl,rfl⟩ (PLe.q rfl)
def dq (t : LTable) (c0 : LQuery) : Bool :=
 (t.name == c0.table)
set_option maxHeartbeats 4000000 in
theorem mB (t : LTable) (c0 : LQuery) :
  aG Tryz.prog 154 [(.agg (aO t)),(.ptr (aQ c0))] (au (dq t c0)) := by
 obtain ⟨r,H⟩ : ∃ r,dq t c0 = r := ⟨_,rfl⟩
 rw [H]
 unfold dq at H
 refine PH.intro Tryz.func154 rfl Tryz.ntmps154 rfl ?_
 refine V.seq (V.ab (Ao.aF rfl rfl rfl rfl rfl rfl (Ao.q tk rfl (Ao.nil (V.seq (V.ab (Ao.q tk rfl (Ao.q tk rfl (Ao.q tk rfl (Ao.q tk rfl (Ao.q tk rfl (Ao.q tk rfl (Ao.nil ?_)))))))))))))
 subst H
 refine V.aq tk rfl (ps := [(au (t.name == c0.table))]) ⟨_,_,rfl,rfl,rfl⟩ (PLe.q rfl)
def bW (sA : List LTable) (f : LTable → Option (Bool)) : Option (Int) :=
 af (aE (σ := Unit) (ρ := (Int)) (fun (j1 : Nat) (x1 : LTable) (_ : Unit) =>
  af (f x1) fun x16 =>
  cond x16
   (some (.ret (j1 : Int)))
   (some (.next ()))) 0 sA ()) fun fl1=>fl1.thenR fun (_ : Unit) =>
 some (-1)
set_option maxHeartbeats 4000000 in
theorem fv {g_f : FuncId} {caps_f : List PV} (sA : List LTable) (f : LTable → Option (Bool)) (hg_f : ∀ (vs : Array Value) (w : World),(callFunc g_f vs).run Tryz.prog w = .ok (.enter g_f vs) w) (hp_f : ∀ a0 r,f a0 = some r → aG Tryz.prog g_f ((.agg (aO a0)) :: caps_f) (au r)) (r : Int) (H : bW sA f = some r) :
  aG Tryz.prog 153 [(.list 91 (sA.map aO)),(.fn g_f caps_f)] (ac r) := by
 unfold bW at H
 refine PH.intro Tryz.func153 rfl Tryz.ntmps153 rfl ?_
 refine V.seq (V.ab (Ao.q tk rfl (Ao.nil (V.seq (V.seq (V.ab (Ao.q tk rfl (Ao.ay tk rfl rfl rfl rfl rfl (List.length_map _) rfl (Ao.q tk rfl (Ao.nil ?_))))))))))
 obtain ⟨fl1,H1,Hp1⟩ := aj H
 refine V.aZ tk 0 rfl rfl (fun hz1 _=>?_)
 rw [List.length_map] at hz1
 refine V.cut (τ := Unit) (γ := Unit) (fun s1 g1=>⟨19,fun _=>.any,fun _=>none,fun _=>none⟩) (fun t=>fl1 = .next t) ?_ (fun s1 g1 hn1=>?_)
 ·refine V.ap ?_
  refine V.aP (fun j1 s1 g1=>⟨19,upd (upd (upd (upd (fun _=>.any) 8 (ac (j1 : Int))) 7 (ac (sA.length : Int))) 1 (.fn g_f caps_f)) 0 (.list 91 (sA.map aO)),fun _=>none,fun _=>none⟩) () H1 (Gh.le (SLe.aa (PLe.q rfl) (SLe.aa (PLe.q rfl) (SLe.aa (PLe.q rfl) (SLe.aa (PLe.q rfl) SLe.nil)))) BLe.nil OLe.nil) (fun j1 s1 g1 hj1 hr1=>?_)
  refine V.seq (V.ab (Ao.q tk rfl (Ao.nil (V.seq ?_))))
  refine V.ak rfl (fun h=>?_) (fun h=>?_)
  ·have hl1 := bn h
   obtain ⟨x1,fb1,hx1,H,hg1⟩ := rMc hl1 hr1
   refine V.al (V.seq (V.ap (V.seq (V.ab (Ao.q tk rfl (Ao.q tk rfl (Ao.nil (V.seq (V.ab (Ao.q tk rfl (Ao.q tk rfl (Ao.q tk rfl ?_))))))))))))
   refine Ao.idx tk rfl rfl rfl rfl rfl rfl (Int.natCast_nonneg j1) (aY (fun _=>rfl) hx1) rfl ?_
   refine Ao.q tk rfl ?_
   obtain ⟨x16,h16,H⟩ := aj H
   refine Ao.ah rfl rfl rfl hg_f (il.r) (hp_f _ _ h16) rfl (Ao.nil ?_)
   refine V.ak rfl (fun h=>?_) (fun h=>?_)
   ·have H := condT h H
    refine V.seq (V.ab (Ao.q tk rfl (Ao.q tk rfl (Ao.nil ?_))))
    obtain rfl := ai H
    have e1 : fl1 = .ret _ := hg1
    subst e1
    obtain rfl := aL Hp1
    refine V.aq tk rfl (ps := [(ac (j1 : Int))]) ⟨_,_,rfl,rfl,rfl⟩ (PLe.q rfl)
   ·have H := condF h H
    refine V.al (V.blk (V.ab (Ao.q tk rfl (Ao.q tk rfl (Ao.nil ?_)))))
    obtain rfl := ai H
    refine V.ax () () ⟨hl1,hg1⟩ (Gh.le (SLe.aa (PLe.q rfl) (SLe.aa (PLe.q rfl) (SLe.aa (PLe.q rfl) (SLe.aa (PLe.q (az (by omega))) SLe.nil)))) BLe.nil OLe.nil)
  ·have hn1 := rMd (bm h) hr1
   refine V.aB rfl ?_
   refine V.at s1 g1 hn1 (Gh.le SLe.nil BLe.nil OLe.nil)
 ·have H := br hn1 Hp1
  refine V.seq (V.ab (Ao.q tk rfl (Ao.nil ?_)))
  obtain rfl := ai H
  refine V.aq tk rfl (ps := [(ac (-1))]) ⟨_,_,rfl,rfl,rfl⟩ (PLe.q rfl)
theorem mi {m : Nat} (xs : List LCol) : hC Tryz.prog 155 [.list 50 (xs.map av)] (km m 50 (xs.map av)) := by
 refine PH.intro Tryz.func155 rfl Tryz.ntmps155 rfl ?_
 refine V.aZ tk 0 rfl rfl (fun hz hb=>?_)
 refine V.seq (V.ab (Ao.q tk rfl (Ao.nil (V.seq (V.seq (V.ab (Ao.q tk rfl ?_)))))))
 refine Ao.isNil tk rfl rfl rfl rfl rfl rfl rfl (fun b hn=>?_)
 refine Ao.nil ?_
 refine V.ak rfl (fun h=>?_) (fun h=>?_)
 ·refine V.seq (V.ab (Ao.q tk rfl (Ao.nil (V.gr tk 2 902 (e := 50) rfl rfl ?_))))
  refine V.retO tk rfl rfl rfl rfl (hn h).symm
 ·refine V.al (V.seq (V.ab ?_))
  refine Ao.bsOC (rows' := []) tk rfl rfl rfl rfl rfl rfl rfl rfl rfl (fQ.refl _) fun g=>?_
  refine Ao.q tk rfl ?_
  refine Ao.co (rows2' := xs.map av) (rows' := xs.map av) tk rfl rfl rfl rfl rfl rfl rfl rfl rfl rfl rfl rfl rfl (fj.refl _) (by simpa using hb) (by simpa using hz) rfl fun g'=>?_
  refine Ao.q tk rfl (Ao.nil ?_)
  refine V.retO tk rfl rfl rfl rfl rfl
end
end Go.Proofs.YtgaggbdcedpapaaGreat

namespace Go.Proofs.YtgaggbdcedpapaaGreat
noncomputable section
open Go Go.Ab
attribute [local irreducible] V Ao Do Gh Eff PH IntKind.wrap
set_option maxRecDepth 4000
def bQ (sA : List LCol) (f : LCol → Option (Bool)) : Option (Int) :=
 af (aE (σ := Unit) (ρ := (Int)) (fun (j1 : Nat) (x1 : LCol) (_ : Unit) =>
  af (f x1) fun x16 =>
  cond x16
   (some (.ret (j1 : Int)))
   (some (.next ()))) 0 sA ()) fun fl1=>fl1.thenR fun (_ : Unit) =>
 some (-1)
set_option maxHeartbeats 4000000 in
theorem eZ {g_f : FuncId} {caps_f : List PV} (sA : List LCol) (f : LCol → Option (Bool)) (hg_f : ∀ (vs : Array Value) (w : World),(callFunc g_f vs).run Tryz.prog w = .ok (.enter g_f vs) w) (hp_f : ∀ a0 r,f a0 = some r → aG Tryz.prog g_f ((.agg (av a0)) :: caps_f) (au r)) (r : Int) (H : bQ sA f = some r) :
  aG Tryz.prog 43 [(.list 50 (sA.map av)),(.fn g_f caps_f)] (ac r) := by
 unfold bQ at H
 refine PH.intro Tryz.func43 rfl Tryz.ntmps43 rfl ?_
 refine V.seq (V.ab (Ao.q tk rfl (Ao.nil (V.seq (V.seq (V.ab (Ao.q tk rfl (Ao.ay tk rfl rfl rfl rfl rfl (List.length_map _) rfl (Ao.q tk rfl (Ao.nil ?_))))))))))
 obtain ⟨fl1,H1,Hp1⟩ := aj H
 refine V.aZ tk 0 rfl rfl (fun hz1 _=>?_)
 rw [List.length_map] at hz1
 refine V.cut (τ := Unit) (γ := Unit) (fun s1 g1=>⟨19,fun _=>.any,fun _=>none,fun _=>none⟩) (fun t=>fl1 = .next t) ?_ (fun s1 g1 hn1=>?_)
 ·refine V.ap ?_
  refine V.aP (fun j1 s1 g1=>⟨19,upd (upd (upd (upd (fun _=>.any) 8 (ac (j1 : Int))) 7 (ac (sA.length : Int))) 1 (.fn g_f caps_f)) 0 (.list 50 (sA.map av)),fun _=>none,fun _=>none⟩) () H1 (Gh.le (SLe.aa (PLe.q rfl) (SLe.aa (PLe.q rfl) (SLe.aa (PLe.q rfl) (SLe.aa (PLe.q rfl) SLe.nil)))) BLe.nil OLe.nil) (fun j1 s1 g1 hj1 hr1=>?_)
  refine V.seq (V.ab (Ao.q tk rfl (Ao.nil (V.seq ?_))))
  refine V.ak rfl (fun h=>?_) (fun h=>?_)
  ·have hl1 := bn h
   obtain ⟨x1,fb1,hx1,H,hg1⟩ := rMc hl1 hr1
   refine V.al (V.seq (V.ap (V.seq (V.ab (Ao.q tk rfl (Ao.q tk rfl (Ao.nil (V.seq (V.ab (Ao.q tk rfl (Ao.q tk rfl (Ao.q tk rfl ?_))))))))))))
   refine Ao.idx tk rfl rfl rfl rfl rfl rfl (Int.natCast_nonneg j1) (aY (fun _=>rfl) hx1) rfl ?_
   refine Ao.q tk rfl ?_
   obtain ⟨x16,h16,H⟩ := aj H
   refine Ao.ah rfl rfl rfl hg_f (il.r) (hp_f _ _ h16) rfl (Ao.nil ?_)
   refine V.ak rfl (fun h=>?_) (fun h=>?_)
   ·have H := condT h H
    refine V.seq (V.ab (Ao.q tk rfl (Ao.q tk rfl (Ao.nil ?_))))
    obtain rfl := ai H
    have e1 : fl1 = .ret _ := hg1
    subst e1
    obtain rfl := aL Hp1
    refine V.aq tk rfl (ps := [(ac (j1 : Int))]) ⟨_,_,rfl,rfl,rfl⟩ (PLe.q rfl)
   ·have H := condF h H
    refine V.al (V.blk (V.ab (Ao.q tk rfl (Ao.q tk rfl (Ao.nil ?_)))))
    obtain rfl := ai H
    refine V.ax () () ⟨hl1,hg1⟩ (Gh.le (SLe.aa (PLe.q rfl) (SLe.aa (PLe.q rfl) (SLe.aa (PLe.q rfl) (SLe.aa (PLe.q (az (by omega))) SLe.nil)))) BLe.nil OLe.nil)
  ·have hn1 := rMd (bm h) hr1
   refine V.aB rfl ?_
   refine V.at s1 g1 hn1 (Gh.le SLe.nil BLe.nil OLe.nil)
 ·have H := br hn1 Hp1
  refine V.seq (V.ab (Ao.q tk rfl (Ao.nil ?_)))
  obtain rfl := ai H
  refine V.aq tk rfl (ps := [(ac (-1))]) ⟨_,_,rfl,rfl,rfl⟩ (PLe.q rfl)
def ec (sA : List (List UInt8)) (v : List UInt8) : Option (Int) :=
 af (aE (σ := Unit) (ρ := (Int)) (fun (j1 : Nat) (x1 : List UInt8) (_ : Unit) =>
  cond (v == x1)
   (some (.ret (j1 : Int)))
   (some (.next ()))) 0 sA ()) fun fl1=>fl1.thenR fun (_ : Unit) =>
 some (-1)
set_option maxHeartbeats 4000000 in
theorem ke (sA : List (List UInt8)) (v : List UInt8) (r : Int) (H : ec sA v = some r) :
  aG Tryz.prog 79 [(.list 9 (sA.map bo)),(.str v)] (ac r) := by
 unfold ec at H
 refine PH.intro Tryz.func79 rfl Tryz.ntmps79 rfl ?_
 refine V.seq (V.ab (Ao.q tk rfl (Ao.nil (V.seq (V.seq (V.ab (Ao.q tk rfl (Ao.ay tk rfl rfl rfl rfl rfl (List.length_map _) rfl (Ao.q tk rfl (Ao.nil ?_))))))))))
 obtain ⟨fl1,H1,Hp1⟩ := aj H
 refine V.aZ tk 0 rfl rfl (fun hz1 _=>?_)
 rw [List.length_map] at hz1
 refine V.cut (τ := Unit) (γ := Unit) (fun s1 g1=>⟨19,fun _=>.any,fun _=>none,fun _=>none⟩) (fun t=>fl1 = .next t) ?_ (fun s1 g1 hn1=>?_)
 ·refine V.ap ?_
  refine V.aP (fun j1 s1 g1=>⟨19,upd (upd (upd (upd (fun _=>.any) 8 (ac (j1 : Int))) 7 (ac (sA.length : Int))) 1 (.str v)) 0 (.list 9 (sA.map bo)),fun _=>none,fun _=>none⟩) () H1 (Gh.le (SLe.aa (PLe.q rfl) (SLe.aa (PLe.q rfl) (SLe.aa (PLe.q rfl) (SLe.aa (PLe.q rfl) SLe.nil)))) BLe.nil OLe.nil) (fun j1 s1 g1 hj1 hr1=>?_)
  refine V.seq (V.ab (Ao.q tk rfl (Ao.nil (V.seq ?_))))
  refine V.ak rfl (fun h=>?_) (fun h=>?_)
  ·have hl1 := bn h
   obtain ⟨x1,fb1,hx1,H,hg1⟩ := rMc hl1 hr1
   refine V.al (V.seq (V.ap (V.seq (V.ab (Ao.q tk rfl (Ao.q tk rfl (Ao.nil (V.seq (V.ab (Ao.q tk rfl (Ao.q tk rfl (Ao.q tk rfl ?_))))))))))))
   refine Ao.idx tk rfl rfl rfl rfl rfl rfl (Int.natCast_nonneg j1) (aY (fun _=>rfl) hx1) rfl ?_
   refine Ao.q tk rfl (Ao.q tk rfl (Ao.nil ?_))
   refine V.ak rfl (fun h=>?_) (fun h=>?_)
   ·have H := condT h H
    refine V.seq (V.ab (Ao.q tk rfl (Ao.q tk rfl (Ao.nil ?_))))
    obtain rfl := ai H
    have e1 : fl1 = .ret _ := hg1
    subst e1
    obtain rfl := aL Hp1
    refine V.aq tk rfl (ps := [(ac (j1 : Int))]) ⟨_,_,rfl,rfl,rfl⟩ (PLe.q rfl)
   ·have H := condF h H
    refine V.al (V.blk (V.ab (Ao.q tk rfl (Ao.q tk rfl (Ao.nil ?_)))))
    obtain rfl := ai H
    refine V.ax () () ⟨hl1,hg1⟩ (Gh.le (SLe.aa (PLe.q rfl) (SLe.aa (PLe.q rfl) (SLe.aa (PLe.q rfl) (SLe.aa (PLe.q (az (by omega))) SLe.nil)))) BLe.nil OLe.nil)
  ·have hn1 := rMd (bm h) hr1
   refine V.aB rfl ?_
   refine V.at s1 g1 hn1 (Gh.le SLe.nil BLe.nil OLe.nil)
 ·have H := br hn1 Hp1
  refine V.seq (V.ab (Ao.q tk rfl (Ao.nil ?_)))
  obtain rfl := ai H
  refine V.aq tk rfl (ps := [(ac (-1))]) ⟨_,_,rfl,rfl,rfl⟩ (PLe.q rfl)
def bG (y : LCol) (c0 : LCol) : Bool :=
 (y.name == c0.name)
set_option maxHeartbeats 4000000 in
theorem lq (y : LCol) (c0 : LCol) :
  aG Tryz.prog 113 [(.agg (av y)),(.ptr (av c0))] (au (bG y c0)) := by
 obtain ⟨r,H⟩ : ∃ r,bG y c0 = r := ⟨_,rfl⟩
 rw [H]
 unfold bG at H
 refine PH.intro Tryz.func113 rfl Tryz.ntmps113 rfl ?_
 refine V.seq (V.ab (Ao.aF rfl rfl rfl rfl rfl rfl (Ao.q tk rfl (Ao.nil (V.seq (V.ab (Ao.q tk rfl (Ao.q tk rfl (Ao.q tk rfl (Ao.q tk rfl (Ao.q tk rfl (Ao.q tk rfl (Ao.nil ?_)))))))))))))
 subst H
 refine V.aq tk rfl (ps := [(au (y.name == c0.name))]) ⟨_,_,rfl,rfl,rfl⟩ (PLe.q rfl)
def cB (v : LVal) : Int :=
 cond (v.kind == (0 : Int))
  (cond (v.int != (0 : Int))
   (3)
   (cond (!(v.text == ([] : List UInt8)))
    (3)
    (0)))
  (ba (
   cond (v.kind == (1 : Int))
    ((v.kind == (1 : Int)))
    ((v.kind == (2 : Int)))) fun (t1 : Bool) =>
  cond t1
   (cond (!(v.text == ([] : List UInt8)))
    (3)
    (cond (v.kind == (2 : Int))
     (cond (v.int != (0 : Int))
      (cond (v.int != (1 : Int))
       (1)
       (cond (decide (v.int < (-1000000000000)))
        (1)
        (cond (decide (v.int > (1000000000000 : Int)))
         (1)
         (0))))
      (cond (decide (v.int < (-1000000000000)))
       (1)
       (cond (decide (v.int > (1000000000000 : Int)))
        (1)
        (0))))
     (cond (decide (v.int < (-1000000000000)))
      (1)
      (cond (decide (v.int > (1000000000000 : Int)))
       (1)
       (0)))))
   (cond (v.kind == (3 : Int))
    (cond (v.int != (0 : Int))
     (3)
     (cond (decide ((v.text.length : Int) > (24 : Int)))
      (2)
      (0)))
    (7)))
set_option maxHeartbeats 4000000 in
theorem lK (v : LVal) :
  aG Tryz.prog 105 [(.agg (ae v))] (ac (cB v)) := by
 obtain ⟨r,H⟩ : ∃ r,cB v = r := ⟨_,rfl⟩
 rw [H]
 unfold cB at H
 refine PH.intro Tryz.func105 rfl Tryz.ntmps105 rfl ?_
 refine V.seq (V.ab (Ao.aF rfl rfl rfl rfl rfl rfl (Ao.q tk rfl (Ao.nil (V.seq (V.seq (V.ab (Ao.q tk rfl (Ao.q tk rfl (Ao.nil (V.ap (V.seq (V.ab (Ao.q tk rfl (Ao.q tk rfl ?_)))))))))))))))
 refine Ao.nil ?_
 refine V.ak rfl (fun h=>?_) (fun h=>?_)
 ·have H := condT h H
  refine V.seq (V.ab (Ao.q tk rfl (Ao.q tk rfl (Ao.q tk rfl (Ao.q tk rfl ?_)))))
  refine Ao.aA rfl rfl rfl (fun h=>?_) (fun h=>?_)
  ·have H := condT h H
   refine Ao.q tk rfl (Ao.q tk rfl (Ao.q tk rfl (Ao.q tk rfl (Ao.nil (V.bu rfl (V.seq (V.ab (Ao.q tk rfl (Ao.nil ?_)))))))))
   subst H
   refine V.aq tk rfl (ps := [(ac 3)]) ⟨_,_,rfl,rfl,rfl⟩ (PLe.q rfl)
  ·have H := condF h H
   refine Ao.q tk rfl (Ao.q tk rfl (Ao.q tk rfl (Ao.q tk rfl (Ao.nil ?_))))
   refine V.ak rfl (fun h=>?_) (fun h=>?_)
   ·have H := condT h H
    refine V.seq (V.ab (Ao.q tk rfl (Ao.nil ?_)))
    subst H
    refine V.aq tk rfl (ps := [(ac 3)]) ⟨_,_,rfl,rfl,rfl⟩ (PLe.q rfl)
   ·have H := condF h H
    refine V.al (V.blk (V.seq (V.ab (Ao.q tk rfl (Ao.nil ?_)))))
    subst H
    refine V.aq tk rfl (ps := [(ac 0)]) ⟨_,_,rfl,rfl,rfl⟩ (PLe.q rfl)
 ·have H := condF h H
  refine V.seq (V.seq (V.ab (Ao.q tk rfl (Ao.q tk rfl (Ao.nil ?_)))))
  obtain ⟨fl1,H1,Hp1⟩ := bA H
  refine V.cut (τ := Bool) (γ := Unit) (fun t1 g1=>⟨53,upd (upd (upd (fun _=>.any) 15 (au t1)) 4 (ac v.kind)) 1 (.ptr [(ac v.kind),(ac v.int),(.str v.text)]),fun _=>none,fun _=>none⟩) (fun t=>t = fl1) ?_ (fun t1 g1 hn1=>?_)
  ·have H := H1
   refine V.ak rfl (fun h=>?_) (fun h=>?_)
   ·have H := condT h H
    refine V.al ?_
    subst H
    refine V.at (v.kind == (1 : Int)) () rfl (Gh.le (SLe.aa (PLe.q rfl) (SLe.aa (PLe.q rfl) (SLe.aa (PLe.q rfl) SLe.nil))) BLe.nil OLe.nil)
   ·have H := condF h H
    refine V.ab (Ao.q tk rfl (Ao.q tk rfl (Ao.nil ?_)))
    subst H
    refine V.at (v.kind == (2 : Int)) () rfl (Gh.le (SLe.aa (PLe.q rfl) (SLe.aa (PLe.q rfl) (SLe.aa (PLe.q rfl) SLe.nil))) BLe.nil OLe.nil)
  ·subst hn1
   have H := Hp1
   refine V.ak rfl (fun h=>?_) (fun h=>?_)
   ·have H := condT h H
    refine V.seq (V.seq (V.ab (Ao.q tk rfl (Ao.q tk rfl (Ao.q tk rfl (Ao.nil ?_))))))
    refine V.ak rfl (fun h=>?_) (fun h=>?_)
    ·have H := condT h H
     refine V.seq (V.ab (Ao.q tk rfl (Ao.nil ?_)))
     subst H
     refine V.aq tk rfl (ps := [(ac 3)]) ⟨_,_,rfl,rfl,rfl⟩ (PLe.q rfl)
    ·have H := condF h H
     refine V.al (V.seq (V.ab (Ao.q tk rfl (Ao.q tk rfl (Ao.q tk rfl (Ao.q tk rfl ?_))))))
     refine Ao.aA rfl rfl rfl (fun h=>?_) (fun h=>?_)
     ·have H := condT h H
      refine Ao.q tk rfl (Ao.q tk rfl (Ao.q tk rfl (Ao.q tk rfl (Ao.q tk rfl ?_))))
      refine Ao.aA rfl rfl rfl (fun h=>?_) (fun h=>?_)
      ·have H := condT h H
       refine Ao.q tk rfl (Ao.q tk rfl (Ao.q tk rfl (Ao.q tk rfl (Ao.q tk rfl ?_))))
       refine Ao.aA rfl rfl rfl (fun h=>?_) (fun h=>?_)
       ·have H := condT h H
        refine Ao.q tk rfl (Ao.q tk rfl (Ao.q tk rfl (Ao.q tk rfl (Ao.q tk rfl (Ao.q tk rfl (Ao.q tk rfl (Ao.q tk rfl (Ao.q tk rfl (Ao.nil (V.bu rfl (V.seq (V.ab (Ao.q tk rfl (Ao.nil ?_))))))))))))))
        subst H
        refine V.aq tk rfl (ps := [(ac 1)]) ⟨_,_,rfl,rfl,rfl⟩ (PLe.q rfl)
       ·have H := condF h H
        refine Ao.q tk rfl (Ao.q tk rfl (Ao.q tk rfl (Ao.q tk rfl (Ao.q tk rfl ?_))))
        refine Ao.aA rfl rfl rfl (fun h=>?_) (fun h=>?_)
        ·have H := condT h H
         refine Ao.q tk rfl (Ao.q tk rfl (Ao.q tk rfl (Ao.q tk rfl (Ao.nil (V.bu rfl (V.seq (V.ab (Ao.q tk rfl (Ao.nil ?_)))))))))
         subst H
         refine V.aq tk rfl (ps := [(ac 1)]) ⟨_,_,rfl,rfl,rfl⟩ (PLe.q rfl)
        ·have H := condF h H
         refine Ao.q tk rfl (Ao.q tk rfl (Ao.q tk rfl (Ao.q tk rfl (Ao.nil ?_))))
         refine V.ak rfl (fun h=>?_) (fun h=>?_)
         ·have H := condT h H
          refine V.seq (V.ab (Ao.q tk rfl (Ao.nil ?_)))
          subst H
          refine V.aq tk rfl (ps := [(ac 1)]) ⟨_,_,rfl,rfl,rfl⟩ (PLe.q rfl)
         ·have H := condF h H
          refine V.al (V.blk (V.seq (V.ab (Ao.q tk rfl (Ao.nil ?_)))))
          subst H
          refine V.aq tk rfl (ps := [(ac 0)]) ⟨_,_,rfl,rfl,rfl⟩ (PLe.q rfl)
      ·have H := condF h H
       refine Ao.q tk rfl (Ao.q tk rfl (Ao.q tk rfl (Ao.q tk rfl (Ao.q tk rfl (Ao.q tk rfl (Ao.q tk rfl (Ao.q tk rfl (Ao.q tk rfl (Ao.q tk rfl ?_)))))))))
       refine Ao.aA rfl rfl rfl (fun h=>?_) (fun h=>?_)
       ·have H := condT h H
        refine Ao.q tk rfl (Ao.q tk rfl (Ao.q tk rfl (Ao.q tk rfl (Ao.nil (V.bu rfl (V.seq (V.ab (Ao.q tk rfl (Ao.nil ?_)))))))))
        subst H
        refine V.aq tk rfl (ps := [(ac 1)]) ⟨_,_,rfl,rfl,rfl⟩ (PLe.q rfl)
       ·have H := condF h H
        refine Ao.q tk rfl (Ao.q tk rfl (Ao.q tk rfl (Ao.q tk rfl (Ao.nil ?_))))
        refine V.ak rfl (fun h=>?_) (fun h=>?_)
        ·have H := condT h H
         refine V.seq (V.ab (Ao.q tk rfl (Ao.nil ?_)))
         subst H
         refine V.aq tk rfl (ps := [(ac 1)]) ⟨_,_,rfl,rfl,rfl⟩ (PLe.q rfl)
        ·have H := condF h H
         refine V.al (V.blk (V.seq (V.ab (Ao.q tk rfl (Ao.nil ?_)))))
         subst H
         refine V.aq tk rfl (ps := [(ac 0)]) ⟨_,_,rfl,rfl,rfl⟩ (PLe.q rfl)
     ·have H := condF h H
      refine Ao.q tk rfl (Ao.q tk rfl (Ao.q tk rfl (Ao.q tk rfl (Ao.q tk rfl (Ao.q tk rfl (Ao.q tk rfl (Ao.q tk rfl (Ao.q tk rfl (Ao.q tk rfl (Ao.q tk rfl (Ao.q tk rfl (Ao.q tk rfl (Ao.q tk rfl (Ao.q tk rfl ?_))))))))))))))
      refine Ao.aA rfl rfl rfl (fun h=>?_) (fun h=>?_)
      ·have H := condT h H
       refine Ao.q tk rfl (Ao.q tk rfl (Ao.q tk rfl (Ao.q tk rfl (Ao.nil (V.bu rfl (V.seq (V.ab (Ao.q tk rfl (Ao.nil ?_)))))))))
       subst H
       refine V.aq tk rfl (ps := [(ac 1)]) ⟨_,_,rfl,rfl,rfl⟩ (PLe.q rfl)
      ·have H := condF h H
       refine Ao.q tk rfl (Ao.q tk rfl (Ao.q tk rfl (Ao.q tk rfl (Ao.nil ?_))))
       refine V.ak rfl (fun h=>?_) (fun h=>?_)
       ·have H := condT h H
        refine V.seq (V.ab (Ao.q tk rfl (Ao.nil ?_)))
        subst H
        refine V.aq tk rfl (ps := [(ac 1)]) ⟨_,_,rfl,rfl,rfl⟩ (PLe.q rfl)
       ·have H := condF h H
        refine V.al (V.blk (V.seq (V.ab (Ao.q tk rfl (Ao.nil ?_)))))
        subst H
        refine V.aq tk rfl (ps := [(ac 0)]) ⟨_,_,rfl,rfl,rfl⟩ (PLe.q rfl)
   ·have H := condF h H
    refine V.seq (V.ab (Ao.q tk rfl (Ao.q tk rfl (Ao.nil ?_))))
    refine V.ak rfl (fun h=>?_) (fun h=>?_)
    ·have H := condT h H
     refine V.seq (V.seq (V.ab (Ao.q tk rfl (Ao.q tk rfl (Ao.q tk rfl (Ao.nil ?_))))))
     refine V.ak rfl (fun h=>?_) (fun h=>?_)
     ·have H := condT h H
      refine V.seq (V.ab (Ao.q tk rfl (Ao.nil ?_)))
      subst H
      refine V.aq tk rfl (ps := [(ac 3)]) ⟨_,_,rfl,rfl,rfl⟩ (PLe.q rfl)
     ·have H := condF h H
      refine V.al (V.seq (V.ab (Ao.q tk rfl (Ao.q tk rfl (Ao.q tk rfl (Ao.q tk rfl (Ao.nil ?_)))))))
      refine V.ak rfl (fun h=>?_) (fun h=>?_)
      ·have H := condT h H
       refine V.seq (V.ab (Ao.q tk rfl (Ao.nil ?_)))
       subst H
       refine V.aq tk rfl (ps := [(ac 2)]) ⟨_,_,rfl,rfl,rfl⟩ (PLe.q rfl)
      ·have H := condF h H
       refine V.al (V.blk (V.seq (V.ab (Ao.q tk rfl (Ao.nil ?_)))))
       subst H
       refine V.aq tk rfl (ps := [(ac 0)]) ⟨_,_,rfl,rfl,rfl⟩ (PLe.q rfl)
    ·have H := condF h H
     refine V.seq (V.ab (Ao.q tk rfl (Ao.nil ?_)))
     subst H
     refine V.aq tk rfl (ps := [(ac 7)]) ⟨_,_,rfl,rfl,rfl⟩ (PLe.q rfl)
def dO (t : LTable) (row : List LVal) : Option ((List LVal)) :=
 af (aE (σ := List LVal) (ρ := Empty) (fun (_ : Nat) (x1 : Int) (s1 : List LVal) =>
  ba (
   cond (decide (x1 ≥ (0 : Int)))
    ((decide (x1 < (row.length : Int))))
    (false)) fun (t6 : Bool) =>
  af (
   cond t6
    (af (aC row x1) fun (x27 : LVal) =>
    some x27)
    (some (LVal.mk 0 0 []))) fun (t7 : LVal) =>
  af (cI 32 s1 ([t7] : List LVal)) fun (x32 : List LVal) =>
  some (.next x32)) 0 t.primaryKey []) fun fl1=>fl1.thenP fun (s1 : List LVal) =>
 some s1
set_option maxHeartbeats 4000000 in
theorem mK (t : LTable) (row : List LVal) (r : (List LVal)) (H : dO t row = some r) :
  aG Tryz.prog 86 [(.agg (aO t)),(.list 53 (row.map ae))] (.list 53 (r.map ae)) := by
 unfold dO at H
 refine PH.intro Tryz.func86 rfl Tryz.ntmps86 rfl ?_
 refine V.seq (V.ab (Ao.aF rfl rfl rfl rfl rfl rfl (Ao.q tk rfl (Ao.nil (V.seq (V.ab (Ao.q tk rfl (Ao.nil (V.seq (V.seq (V.ab (Ao.q tk rfl (Ao.q tk rfl (Ao.ay tk rfl rfl rfl rfl rfl (List.length_map _) rfl ?_))))))))))))))
 refine Ao.q tk rfl (Ao.nil ?_)
 obtain ⟨fl1,H1,Hp1⟩ := aj H
 refine V.aZ tk 10 rfl rfl (fun hz1 _=>?_)
 rw [List.length_map] at hz1
 refine V.cut (τ := List LVal) (γ := OwnRef) (fun s1 g1=>⟨35,upd (fun _=>.any) 5 (.own 32 g1 (s1.map ae).length),fun _=>none,upd (fun _=>none) 32 (some ⟨g1,53,(s1.map ae),true⟩)⟩) (fun t=>fl1 = .next t) ?_ (fun s1 g1 hn1=>?_)
 ·refine V.ap (V.gr tk 5 32 (e := 53) rfl rfl ?_)
  refine V.aP (fun j1 s1 g1=>⟨35,upd (upd (upd (upd (upd (fun _=>.any) 12 (ac (j1 : Int))) 11 (ac (t.primaryKey.length : Int))) 10 (.list 3 (t.primaryKey.map aV))) 5 (.own 32 g1 (s1.map ae).length)) 1 (.list 53 (row.map ae)),fun _=>none,upd (fun _=>none) 32 (some ⟨g1,53,(s1.map ae),true⟩)⟩) (⟨none,0⟩) H1 (Gh.le (SLe.aa (PLe.q rfl) (SLe.aa (PLe.q rfl) (SLe.aa (PLe.q rfl) (SLe.aa (PLe.q rfl) (SLe.aa (PLe.q rfl) SLe.nil))))) BLe.nil (OLe.am rfl OLe.nil)) (fun j1 s1 g1 hj1 hr1=>?_)
  refine V.seq (V.ab (Ao.q tk rfl (Ao.nil (V.seq ?_))))
  refine V.ak rfl (fun h=>?_) (fun h=>?_)
  ·have hl1 := bn h
   obtain ⟨x1,fb1,hx1,H,hg1⟩ := rMc hl1 hr1
   refine V.al (V.seq (V.ap (V.seq (V.ab ?_))))
   refine Ao.idx tk rfl rfl rfl rfl rfl rfl (Int.natCast_nonneg j1) (aY (fun _=>rfl) hx1) rfl ?_
   refine Ao.q tk rfl (Ao.q tk rfl (Ao.nil (V.seq (V.ab (Ao.q tk rfl ?_)))))
   refine Ao.aJ tk rfl rfl rfl rfl rfl rfl fun b8=>?_
   refine Ao.sB tk rfl rfl rfl rfl rfl rfl rfl rfl rfl rfl rfl (Ao.nil (V.seq (V.seq ?_)))
   obtain ⟨fl6,H6,Hp6⟩ := bA H
   refine V.cut (τ := Bool) (γ := Unit) (fun t6 g6=>⟨35,upd (upd (upd (upd (upd (upd (upd (upd (fun _=>.any) 24 (au t6)) 12 (ac (j1 : Int))) 11 (ac (t.primaryKey.length : Int))) 10 (.list 3 (t.primaryKey.map aV))) 8 (.box 8 b8 0)) 7 (ac x1)) 5 (.own 32 g1 (s1.map ae).length)) 1 (.list 53 (row.map ae)),upd (fun _=>none) 8 (some ⟨b8,[(ac 0),(ac 0),(.str [])]⟩),upd (fun _=>none) 32 (some ⟨g1,53,(s1.map ae),true⟩)⟩) (fun t=>t = fl6) ?_ (fun t6 g6 hn6=>?_)
   ·have H := H6
    refine V.ab (Ao.q tk rfl (Ao.q tk rfl (Ao.q tk rfl ?_)))
    refine Ao.aA rfl rfl rfl (fun h=>?_) (fun h=>?_)
    ·have H := condT h H
     refine Ao.q tk rfl (Ao.q tk rfl (Ao.ay tk rfl rfl rfl rfl rfl (List.length_map _) rfl (Ao.q tk rfl (Ao.q tk rfl (Ao.nil ?_)))))
     subst H
     refine V.at (decide (x1 < (row.length : Int))) () rfl (Gh.le (SLe.aa (PLe.q rfl) (SLe.aa (PLe.q rfl) (SLe.aa (PLe.q rfl) (SLe.aa (PLe.q rfl) (SLe.aa (PLe.q rfl) (SLe.aa (PLe.q rfl) (SLe.aa (PLe.q rfl) (SLe.aa (PLe.q rfl) SLe.nil)))))))) (BLe.ao rfl (il.r) BLe.nil) (OLe.am rfl OLe.nil))
    ·have H := condF h H
     refine Ao.q tk rfl (Ao.q tk rfl (Ao.q tk rfl (Ao.q tk rfl (Ao.q tk rfl (Ao.nil ?_)))))
     subst H
     refine V.at false () rfl (Gh.le (SLe.aa (PLe.q rfl) (SLe.aa (PLe.q rfl) (SLe.aa (PLe.q rfl) (SLe.aa (PLe.q rfl) (SLe.aa (PLe.q rfl) (SLe.aa (PLe.q rfl) (SLe.aa (PLe.q rfl) (SLe.aa (PLe.q rfl) SLe.nil)))))))) (BLe.ao rfl (il.r) BLe.nil) (OLe.am rfl OLe.nil))
   ·subst hn6
    have H := Hp6
    obtain ⟨fl7,H7,Hp7⟩ := aj H
    refine V.cut (τ := LVal) (γ := Unit) (fun t7 g7=>⟨35,upd (upd (upd (upd (upd (upd (fun _=>.any) 12 (ac (j1 : Int))) 11 (ac (t.primaryKey.length : Int))) 10 (.list 3 (t.primaryKey.map aV))) 8 (.box 8 b8 0)) 5 (.own 32 g1 (s1.map ae).length)) 1 (.list 53 (row.map ae)),upd (fun _=>none) 8 (some ⟨b8,[(ac t7.kind),(ac t7.int),(.str t7.text)]⟩),upd (fun _=>none) 32 (some ⟨g1,53,(s1.map ae),true⟩)⟩) (fun t=>t = fl7) ?_ (fun t7 g7 hn7=>?_)
    ·have H := H7
     refine V.ak rfl (fun h=>?_) (fun h=>?_)
     ·have H := condT h H
      refine V.ab (Ao.q tk rfl (Ao.q tk rfl ?_))
      obtain ⟨x27,h27,H⟩ := aj H
      have k27 := gIs h27
      refine Ao.idx tk rfl rfl rfl rfl rfl rfl k27.1 (aH (fun _=>rfl) k27.2) rfl ?_
      refine Ao.q tk rfl (Ao.sB tk rfl rfl rfl rfl rfl rfl rfl rfl rfl rfl rfl (Ao.nil ?_))
      obtain rfl := ai H
      refine V.at x27 () rfl (Gh.le (SLe.aa (PLe.q rfl) (SLe.aa (PLe.q rfl) (SLe.aa (PLe.q rfl) (SLe.aa (PLe.q rfl) (SLe.aa (PLe.q rfl) (SLe.aa (PLe.q rfl) SLe.nil)))))) (BLe.ao rfl (il.r) BLe.nil) (OLe.am rfl OLe.nil))
     ·have H := condF h H
      refine V.al ?_
      obtain rfl := ai H
      refine V.at (LVal.mk 0 0 []) () rfl (Gh.le (SLe.aa (PLe.q rfl) (SLe.aa (PLe.q rfl) (SLe.aa (PLe.q rfl) (SLe.aa (PLe.q rfl) (SLe.aa (PLe.q rfl) (SLe.aa (PLe.q rfl) SLe.nil)))))) (BLe.ao rfl (il.r) BLe.nil) (OLe.am rfl OLe.nil))
    ·subst hn7
     have H := Hp7
     refine V.ab (Ao.q tk rfl (Ao.lB tk rfl rfl rfl rfl rfl rfl rfl (Ao.bsC tk rfl rfl rfl rfl (rows' := List.map ae ([t7] : List LVal)) rfl (fj.refl _) rfl rfl ?_)))
     obtain ⟨x32,h32,H⟩ := aj H
     have k32 := cf h32
     refine Ao.co (rows2' := List.map ae ([t7] : List LVal)) (rows' := List.map ae x32) tk rfl rfl rfl rfl rfl rfl rfl rfl rfl rfl rfl rfl rfl (fj.refl _) (dp k32.1) (dv k32.2.1) (du k32.2.2) fun g32=>?_
     refine Ao.q tk rfl (Ao.nil (V.blk (V.ab (Ao.q tk rfl (Ao.q tk rfl (Ao.nil ?_))))))
     obtain rfl := ai H
     refine V.ax x32 g32 ⟨hl1,hg1⟩ (Gh.le (SLe.aa (PLe.q rfl) (SLe.aa (PLe.q rfl) (SLe.aa (PLe.q rfl) (SLe.aa (PLe.q rfl) (SLe.aa (PLe.q (az (by omega))) SLe.nil))))) BLe.nil (OLe.am rfl OLe.nil))
  ·have hn1 := rMd (bm h) hr1
   refine V.aB rfl ?_
   refine V.at s1 g1 hn1 (Gh.le (SLe.aa (PLe.q rfl) SLe.nil) BLe.nil (OLe.am rfl OLe.nil))
 ·have H := aW hn1 Hp1
  refine V.seq (V.ab (Ao.q tk rfl (Ao.q tk rfl (Ao.nil ?_))))
  obtain rfl := ai H
  refine V.dm 4 rfl rfl rfl ?_
  refine V.aq tk rfl (ps := [(.list 53 (s1.map ae))]) ⟨_,_,rfl,rfl,rfl⟩ (PLe.q rfl)
def eK (a : Int) (b : Int) : Int :=
 cond (decide (a < b))
  ((-1))
  (cond (decide (a > b))
   (1)
   (0))
set_option maxHeartbeats 4000000 in
theorem iC (a : Int) (b : Int) :
  aG Tryz.prog 107 [(ac a),(ac b)] (ac (eK a b)) := by
 obtain ⟨r,H⟩ : ∃ r,eK a b = r := ⟨_,rfl⟩
 rw [H]
 unfold eK at H
 refine PH.intro Tryz.func107 rfl Tryz.ntmps107 rfl ?_
 refine V.seq (V.ab (Ao.q tk rfl (Ao.nil (V.seq (V.ap (V.seq (V.ab (Ao.q tk rfl (Ao.q tk rfl (Ao.q tk rfl (Ao.q tk rfl (Ao.nil ?_))))))))))))
 refine V.ak rfl (fun h=>?_) (fun h=>?_)
 ·have H := condT h H
  refine V.seq (V.ab (Ao.q tk rfl (Ao.nil ?_)))
  subst H
  refine V.aq tk rfl (ps := [(ac (-1))]) ⟨_,_,rfl,rfl,rfl⟩ (PLe.q rfl)
 ·have H := condF h H
  refine V.seq (V.ab (Ao.q tk rfl (Ao.q tk rfl (Ao.q tk rfl (Ao.q tk rfl (Ao.nil ?_))))))
  refine V.ak rfl (fun h=>?_) (fun h=>?_)
  ·have H := condT h H
   refine V.seq (V.ab (Ao.q tk rfl (Ao.nil ?_)))
   subst H
   refine V.aq tk rfl (ps := [(ac 1)]) ⟨_,_,rfl,rfl,rfl⟩ (PLe.q rfl)
  ·have H := condF h H
   refine V.al (V.blk (V.seq (V.ab (Ao.q tk rfl (Ao.nil ?_)))))
   subst H
   refine V.aq tk rfl (ps := [(ac 0)]) ⟨_,_,rfl,rfl,rfl⟩ (PLe.q rfl)
def dG (a : List UInt8) (b : List UInt8) : Int :=
 (Lib.compareBytes a b)
set_option maxHeartbeats 4000000 in
theorem jw (a : List UInt8) (b : List UInt8) :
  aG Tryz.prog 178 [(.str a),(.str b)] (ac (dG a b)) := by
 obtain ⟨r,H⟩ : ∃ r,dG a b = r := ⟨_,rfl⟩
 rw [H]
 unfold dG at H
 refine PH.intro Tryz.func178 rfl Tryz.ntmps178 rfl ?_
 refine V.seq (V.ab (Ao.q tk rfl (Ao.nil (V.seq (V.ab (Ao.q tk rfl (Ao.q tk rfl ?_)))))))
 refine Ao.cmpS (g := 195) rfl rfl rfl Tryz.func195 (by kernel_rfl) (by kernel_rfl) (by kernel_rfl) (by kernel_rfl) rfl rfl rfl ?_
 refine Ao.q tk rfl (Ao.nil ?_)
 subst H
 refine V.aq tk rfl (ps := [(ac (Lib.compareBytes a b))]) ⟨_,_,rfl,rfl,rfl⟩ (PLe.q rfl)
end
end Go.Proofs.YtgaggbdcedpapaaGreat

namespace Go.Proofs.YtgaggbdcedpapaaGreat
noncomputable section
open Go Go.Ab
attribute [local irreducible] V Ao Do Gh Eff PH IntKind.wrap
set_option maxRecDepth 4000
theorem grow_186 {m : Nat} {u : Unit} (n : Int) (h : me 32 n = some u) : hC Tryz.prog 186 [.val (.slice none 0 0),ac n] (km m 53 []) := by
 have hn := growI_some h
 have hw : IntKind.i64.wrap (n - IntKind.i64.wrap ((0 : Int) - 0)) = n := by
  have e0 : IntKind.i64.wrap ((0 : Int) - 0) = 0 := aX (by omega) (by omega)
  rw [e0,Int.sub_zero,aX (by omega) (by unfold maxLen at hn; omega)]
 refine PH.intro Tryz.func186 rfl Tryz.ntmps186 rfl ?_
 refine V.seq (V.ab (Ao.q tk rfl (Ao.nil (V.seq (V.seq (V.ab (Ao.q tk rfl (Ao.q tk rfl (Ao.nil ?_)))))))))
 refine V.ak rfl (fun h=>?_) (fun h=>?_)
 ·exfalso; have := of_decide_eq_true h; omega
 refine V.al (V.seq (V.seq (V.ab (Ao.q tk rfl (Ao.q tk rfl (Ao.capN tk rfl rfl rfl rfl rfl rfl (Ao.q tk rfl (Ao.q tk rfl (Ao.q tk rfl (Ao.q tk rfl (Ao.cast 14 (q := ac n) rfl (PLe.q (congrArg ac hw)) (Ao.q tk rfl (Ao.nil (V.seq ?_))))))))))))))
 refine V.ab (Ao.q tk rfl (Ao.q tk rfl (Ao.nil ?_)))
 refine V.ak rfl (fun h=>?_) (fun h=>?_)
 ·refine V.ab (Ao.q tk rfl (Ao.q tk rfl (Ao.capN tk rfl rfl rfl rfl rfl rfl (Ao.subN tk rfl rfl rfl rfl rfl rfl rfl rfl (Ao.q tk rfl ?_)))))
  refine Ao.appendMakeN tk rfl rfl rfl rfl rfl rfl rfl rfl rfl rfl rfl rfl rfl rfl rfl (of_decide_eq_true h) hn.2.1 hn.2.2 fun g=>?_
  refine Ao.q tk rfl (Ao.q tk rfl (Ao.cutO tk rfl rfl rfl rfl rfl rfl rfl rfl rfl ⟨Int.le_refl 0,Nat.zero_le _⟩ rfl rfl rfl (Ao.q tk rfl (Ao.nil (V.seq (V.ab (Ao.q tk rfl (Ao.q tk rfl (Ao.nil ?_)))))))))
  refine V.retO tk rfl rfl rfl rfl rfl
 ·refine V.al (V.seq (V.ab (Ao.q tk rfl (Ao.q tk rfl (Ao.nil (V.gr tk 4 904 (e := 53) rfl rfl ?_))))))
  refine V.retO tk rfl rfl rfl rfl rfl
def aS (rA : LRun) (cols : List LCol) (row : List LVal) : LEnv :=
 (LEnv.mk cols row rA.args rA.names rA.vals)
set_option maxHeartbeats 4000000 in
theorem iF (rA : LRun) (cols : List LCol) (row : List LVal) :
  aG Tryz.prog 139 [(.agg (fP rA)),(.list 50 (cols.map av)),(.list 53 (row.map ae))] (.agg (encEnv (aS rA cols row))) := by
 obtain ⟨r,H⟩ : ∃ r,aS rA cols row = r := ⟨_,rfl⟩
 rw [H]
 unfold aS at H
 refine PH.intro Tryz.func139 rfl Tryz.ntmps139 rfl ?_
 refine V.seq (V.ab (Ao.aF rfl rfl rfl rfl rfl rfl ?_))
 refine Ao.aJ tk rfl rfl rfl rfl rfl rfl fun b6=>?_
 refine Ao.nil (V.seq (V.ab (Ao.q tk rfl (Ao.q tk rfl (Ao.q tk rfl (Ao.q tk rfl (Ao.q tk rfl (Ao.q tk rfl (Ao.q tk rfl (Ao.q tk rfl (Ao.q tk rfl (Ao.sB tk rfl rfl rfl rfl rfl rfl rfl rfl rfl rfl rfl (Ao.nil ?_)))))))))))))
 subst H
 refine V.aq tk rfl (ps := [(.agg [(.list 50 (cols.map av)),(.list 53 (row.map ae)),(.list 53 (rA.args.map ae)),(.list 9 (rA.names.map bo)),(.list 53 (rA.vals.map ae))])]) ⟨_,_,rfl,⟨_,_,_,_,_,rfl,rfl,rfl,rfl⟩,rfl⟩ (PLe.q rfl)
def fw (sA : List LVal) (f : LVal → Option (Bool)) : Option (Int) :=
 af (aE (σ := Unit) (ρ := (Int)) (fun (j1 : Nat) (x1 : LVal) (_ : Unit) =>
  af (f x1) fun x16 =>
  cond x16
   (some (.ret (j1 : Int)))
   (some (.next ()))) 0 sA ()) fun fl1=>fl1.thenR fun (_ : Unit) =>
 some (-1)
set_option maxHeartbeats 4000000 in
theorem nr {g_f : FuncId} {caps_f : List PV} (sA : List LVal) (f : LVal → Option (Bool)) (hg_f : ∀ (vs : Array Value) (w : World),(callFunc g_f vs).run Tryz.prog w = .ok (.enter g_f vs) w) (hp_f : ∀ a0 r,f a0 = some r → aG Tryz.prog g_f ((.agg (ae a0)) :: caps_f) (au r)) (r : Int) (H : fw sA f = some r) :
  aG Tryz.prog 200 [(.list 53 (sA.map ae)),(.fn g_f caps_f)] (ac r) := by
 unfold fw at H
 refine PH.intro Tryz.func200 rfl Tryz.ntmps200 rfl ?_
 refine V.seq (V.ab (Ao.q tk rfl (Ao.nil (V.seq (V.seq (V.ab (Ao.q tk rfl (Ao.ay tk rfl rfl rfl rfl rfl (List.length_map _) rfl (Ao.q tk rfl (Ao.nil ?_))))))))))
 obtain ⟨fl1,H1,Hp1⟩ := aj H
 refine V.aZ tk 0 rfl rfl (fun hz1 _=>?_)
 rw [List.length_map] at hz1
 refine V.cut (τ := Unit) (γ := Unit) (fun s1 g1=>⟨19,fun _=>.any,fun _=>none,fun _=>none⟩) (fun t=>fl1 = .next t) ?_ (fun s1 g1 hn1=>?_)
 ·refine V.ap ?_
  refine V.aP (fun j1 s1 g1=>⟨19,upd (upd (upd (upd (fun _=>.any) 8 (ac (j1 : Int))) 7 (ac (sA.length : Int))) 1 (.fn g_f caps_f)) 0 (.list 53 (sA.map ae)),fun _=>none,fun _=>none⟩) () H1 (Gh.le (SLe.aa (PLe.q rfl) (SLe.aa (PLe.q rfl) (SLe.aa (PLe.q rfl) (SLe.aa (PLe.q rfl) SLe.nil)))) BLe.nil OLe.nil) (fun j1 s1 g1 hj1 hr1=>?_)
  refine V.seq (V.ab (Ao.q tk rfl (Ao.nil (V.seq ?_))))
  refine V.ak rfl (fun h=>?_) (fun h=>?_)
  ·have hl1 := bn h
   obtain ⟨x1,fb1,hx1,H,hg1⟩ := rMc hl1 hr1
   refine V.al (V.seq (V.ap (V.seq (V.ab (Ao.q tk rfl (Ao.q tk rfl (Ao.nil (V.seq (V.ab (Ao.q tk rfl (Ao.q tk rfl (Ao.q tk rfl ?_))))))))))))
   refine Ao.idx tk rfl rfl rfl rfl rfl rfl (Int.natCast_nonneg j1) (aY (fun _=>rfl) hx1) rfl ?_
   refine Ao.q tk rfl ?_
   obtain ⟨x16,h16,H⟩ := aj H
   refine Ao.ah rfl rfl rfl hg_f (il.r) (hp_f _ _ h16) rfl (Ao.nil ?_)
   refine V.ak rfl (fun h=>?_) (fun h=>?_)
   ·have H := condT h H
    refine V.seq (V.ab (Ao.q tk rfl (Ao.q tk rfl (Ao.nil ?_))))
    obtain rfl := ai H
    have e1 : fl1 = .ret _ := hg1
    subst e1
    obtain rfl := aL Hp1
    refine V.aq tk rfl (ps := [(ac (j1 : Int))]) ⟨_,_,rfl,rfl,rfl⟩ (PLe.q rfl)
   ·have H := condF h H
    refine V.al (V.blk (V.ab (Ao.q tk rfl (Ao.q tk rfl (Ao.nil ?_)))))
    obtain rfl := ai H
    refine V.ax () () ⟨hl1,hg1⟩ (Gh.le (SLe.aa (PLe.q rfl) (SLe.aa (PLe.q rfl) (SLe.aa (PLe.q rfl) (SLe.aa (PLe.q (az (by omega))) SLe.nil)))) BLe.nil OLe.nil)
  ·have hn1 := rMd (bm h) hr1
   refine V.aB rfl ?_
   refine V.at s1 g1 hn1 (Gh.le SLe.nil BLe.nil OLe.nil)
 ·have H := br hn1 Hp1
  refine V.seq (V.ab (Ao.q tk rfl (Ao.nil ?_)))
  obtain rfl := ai H
  refine V.aq tk rfl (ps := [(ac (-1))]) ⟨_,_,rfl,rfl,rfl⟩ (PLe.q rfl)
def bU (n : Int) : LVal :=
 cond (decide (n < (-1000000000000)))
  ((LVal.mk 0 0 []))
  (cond (decide (n > (1000000000000 : Int)))
   ((LVal.mk 0 0 []))
   ((LVal.mk 1 n [])))
set_option maxHeartbeats 4000000 in
theorem mS (n : Int) :
  aG Tryz.prog 192 [(ac n)] (.agg (ae (bU n))) := by
 obtain ⟨r,H⟩ : ∃ r,bU n = r := ⟨_,rfl⟩
 rw [H]
 unfold bU at H
 refine PH.intro Tryz.func192 rfl Tryz.ntmps192 rfl ?_
 refine V.seq (V.ab ?_)
 refine Ao.aJ tk rfl rfl rfl rfl rfl rfl fun b2=>?_
 refine Ao.nil (V.seq (V.seq (V.ab (Ao.q tk rfl (Ao.q tk rfl (Ao.q tk rfl ?_))))))
 refine Ao.aA rfl rfl rfl (fun h=>?_) (fun h=>?_)
 ·have H := condT h H
  refine Ao.q tk rfl (Ao.q tk rfl (Ao.q tk rfl (Ao.nil (V.bu rfl (V.seq (V.ab (Ao.q tk rfl (Ao.sB tk rfl rfl rfl rfl rfl rfl rfl rfl rfl rfl rfl (Ao.nil ?_)))))))))
  subst H
  refine V.aq tk rfl (ps := [(.agg [(ac 0),(ac 0),(.str [])])]) ⟨_,_,rfl,⟨_,_,_,_,_,rfl,rfl,rfl,rfl⟩,rfl⟩ (PLe.q rfl)
 ·have H := condF h H
  refine Ao.q tk rfl (Ao.q tk rfl (Ao.q tk rfl (Ao.nil ?_)))
  refine V.ak rfl (fun h=>?_) (fun h=>?_)
  ·have H := condT h H
   refine V.seq (V.ab (Ao.q tk rfl (Ao.sB tk rfl rfl rfl rfl rfl rfl rfl rfl rfl rfl rfl (Ao.nil ?_))))
   subst H
   refine V.aq tk rfl (ps := [(.agg [(ac 0),(ac 0),(.str [])])]) ⟨_,_,rfl,⟨_,_,_,_,_,rfl,rfl,rfl,rfl⟩,rfl⟩ (PLe.q rfl)
  ·have H := condF h H
   refine V.al (V.seq (V.ab (Ao.q tk rfl (Ao.q tk rfl (Ao.sB tk rfl rfl rfl rfl rfl rfl rfl rfl rfl rfl rfl (Ao.nil ?_))))))
   subst H
   refine V.aq tk rfl (ps := [(.agg [(ac 1),(ac n),(.str [])])]) ⟨_,_,rfl,⟨_,_,_,_,_,rfl,rfl,rfl,rfl⟩,rfl⟩ (PLe.q rfl)
theorem nm {m : Nat} (xs : List (List LVal)) : hC Tryz.prog 21 [.list 51 (xs.map (ag 53 ae))] (km m 51 (xs.map (ag 53 ae))) := by
 refine PH.intro Tryz.func21 rfl Tryz.ntmps21 rfl ?_
 refine V.aZ tk 0 rfl rfl (fun hz hb=>?_)
 refine V.seq (V.ab (Ao.q tk rfl (Ao.nil (V.seq (V.seq (V.ab (Ao.q tk rfl ?_)))))))
 refine Ao.isNil tk rfl rfl rfl rfl rfl rfl rfl (fun b hn=>?_)
 refine Ao.nil ?_
 refine V.ak rfl (fun h=>?_) (fun h=>?_)
 ·refine V.seq (V.ab (Ao.q tk rfl (Ao.nil (V.gr tk 2 902 (e := 51) rfl rfl ?_))))
  refine V.retO tk rfl rfl rfl rfl (hn h).symm
 ·refine V.al (V.seq (V.ab ?_))
  refine Ao.bsOC (rows' := []) tk rfl rfl rfl rfl rfl rfl rfl rfl rfl (fQ.refl _) fun g=>?_
  refine Ao.q tk rfl ?_
  refine Ao.co (rows2' := xs.map (ag 53 ae)) (rows' := xs.map (ag 53 ae)) tk rfl rfl rfl rfl rfl rfl rfl rfl rfl rfl rfl rfl rfl (fj.refl _) (by simpa using hb) (by simpa using hz) rfl fun g'=>?_
  refine Ao.q tk rfl (Ao.nil ?_)
  refine V.retO tk rfl rfl rfl rfl rfl
def cj (s1A : List LVal) (s2A : List LVal) : Option (Bool) :=
 cond ((s1A.length : Int) != (s2A.length : Int))
  (some false)
  (af (aE (σ := Unit) (ρ := (Bool)) (fun (j1 : Nat) (x1 : LVal) (_ : Unit) =>
   af (aC s2A (j1 : Int)) fun (x22 : LVal) =>
   cond (!(x1.kind == x22.kind && (x1.int == x22.int && (x1.text == x22.text && true))))
    (some (.ret false))
    (some (.next ()))) 0 s1A ()) fun fl1=>fl1.thenR fun (_ : Unit) =>
  some true)
set_option maxHeartbeats 4000000 in
theorem gv (s1A : List LVal) (s2A : List LVal) (r : Bool) (H : cj s1A s2A = some r) :
  aG Tryz.prog 24 [(.list 53 (s1A.map ae)),(.list 53 (s2A.map ae))] (au r) := by
 unfold cj at H
 refine PH.intro Tryz.func24 rfl Tryz.ntmps24 rfl ?_
 refine V.seq (V.ab (Ao.q tk rfl (Ao.nil (V.seq (V.seq (V.ab (Ao.q tk rfl (Ao.ay tk rfl rfl rfl rfl rfl (List.length_map _) rfl (Ao.q tk rfl (Ao.ay tk rfl rfl rfl rfl rfl (List.length_map _) rfl (Ao.q tk rfl (Ao.nil ?_))))))))))))
 refine V.ak rfl (fun h=>?_) (fun h=>?_)
 ·have H := condT h H
  refine V.seq (V.ab (Ao.q tk rfl (Ao.nil ?_)))
  obtain rfl := ai H
  refine V.aq tk rfl (ps := [(au false)]) ⟨_,_,rfl,rfl,rfl⟩ (PLe.q rfl)
 ·have H := condF h H
  refine V.al (V.seq (V.seq (V.ab (Ao.q tk rfl (Ao.ay tk rfl rfl rfl rfl rfl (List.length_map _) rfl (Ao.q tk rfl (Ao.nil ?_)))))))
  obtain ⟨fl1,H1,Hp1⟩ := aj H
  refine V.aZ tk 0 rfl rfl (fun hz1 _=>?_)
  rw [List.length_map] at hz1
  refine V.cut (τ := Unit) (γ := Unit) (fun s1 g1=>⟨26,fun _=>.any,fun _=>none,fun _=>none⟩) (fun t=>fl1 = .next t) ?_ (fun s1 g1 hn1=>?_)
  ·refine V.ap ?_
   refine V.aP (fun j1 s1 g1=>⟨26,upd (upd (upd (upd (fun _=>.any) 13 (ac (j1 : Int))) 12 (ac (s1A.length : Int))) 1 (.list 53 (s2A.map ae))) 0 (.list 53 (s1A.map ae)),fun _=>none,fun _=>none⟩) () H1 (Gh.le (SLe.aa (PLe.q rfl) (SLe.aa (PLe.q rfl) (SLe.aa (PLe.q rfl) (SLe.aa (PLe.q rfl) SLe.nil)))) BLe.nil OLe.nil) (fun j1 s1 g1 hj1 hr1=>?_)
   refine V.seq (V.ab (Ao.q tk rfl (Ao.nil (V.seq ?_))))
   refine V.ak rfl (fun h=>?_) (fun h=>?_)
   ·have hl1 := bn h
    obtain ⟨x1,fb1,hx1,H,hg1⟩ := rMc hl1 hr1
    refine V.al (V.seq (V.ap (V.seq (V.ab (Ao.q tk rfl (Ao.q tk rfl (Ao.nil (V.seq (V.bc tk mok ⟨false,false,[]⟩ [0,1,2,3,4,5,6,7,8] rfl (by decide +kernel) rfl (Do.q rfl (Do.q rfl ?_)))))))))))
    refine Do.idx rfl rfl rfl rfl rfl rfl rfl (Int.natCast_nonneg j1) (aY (fun _=>rfl) hx1) rfl ?_
    refine Do.q rfl (Do.q rfl (Do.q rfl ?_))
    obtain ⟨x22,h22,H⟩ := aj H
    have k22 := gIs h22
    refine Do.idx rfl rfl rfl rfl rfl rfl rfl k22.1 (aH (fun _=>rfl) k22.2) rfl ?_
    refine Do.q rfl (Do.q rfl (Do.nil ?_))
    refine V.ak rfl (fun h=>?_) (fun h=>?_)
    ·have H := condT h H
     refine V.seq (V.ab (Ao.q tk rfl (Ao.nil ?_)))
     obtain rfl := ai H
     have e1 : fl1 = .ret _ := hg1
     subst e1
     obtain rfl := aL Hp1
     refine V.aq tk rfl (ps := [(au false)]) ⟨_,_,rfl,rfl,rfl⟩ (PLe.q rfl)
    ·have H := condF h H
     refine V.al (V.blk (V.ab (Ao.q tk rfl (Ao.q tk rfl (Ao.nil ?_)))))
     obtain rfl := ai H
     refine V.ax () () ⟨hl1,hg1⟩ (Gh.le (SLe.aa (PLe.q rfl) (SLe.aa (PLe.q rfl) (SLe.aa (PLe.q rfl) (SLe.aa (PLe.q (az (by omega))) SLe.nil)))) BLe.nil OLe.nil)
   ·have hn1 := rMd (bm h) hr1
    refine V.aB rfl ?_
    refine V.at s1 g1 hn1 (Gh.le SLe.nil BLe.nil OLe.nil)
  ·have H := br hn1 Hp1
   refine V.seq (V.ab (Ao.q tk rfl (Ao.nil ?_)))
   obtain rfl := ai H
   refine V.aq tk rfl (ps := [(au true)]) ⟨_,_,rfl,rfl,rfl⟩ (PLe.q rfl)
def dl (sA : List (List LVal)) (f : (List LVal) → Option (Bool)) : Option (Int) :=
 af (aE (σ := Unit) (ρ := (Int)) (fun (j1 : Nat) (x1 : List LVal) (_ : Unit) =>
  af (f x1) fun x16 =>
  cond x16
   (some (.ret (j1 : Int)))
   (some (.next ()))) 0 sA ()) fun fl1=>fl1.thenR fun (_ : Unit) =>
 some (-1)
set_option maxHeartbeats 4000000 in
theorem iV {g_f : FuncId} {caps_f : List PV} (sA : List (List LVal)) (f : (List LVal) → Option (Bool)) (hg_f : ∀ (vs : Array Value) (w : World),(callFunc g_f vs).run Tryz.prog w = .ok (.enter g_f vs) w) (hp_f : ∀ a0 r,f a0 = some r → aG Tryz.prog g_f ((.list 53 (a0.map ae)) :: caps_f) (au r)) (r : Int) (H : dl sA f = some r) :
  aG Tryz.prog 22 [(.list 51 (sA.map (ag 53 ae))),(.fn g_f caps_f)] (ac r) := by
 unfold dl at H
 refine PH.intro Tryz.func22 rfl Tryz.ntmps22 rfl ?_
 refine V.seq (V.ab (Ao.q tk rfl (Ao.nil (V.seq (V.seq (V.ab (Ao.q tk rfl (Ao.ay tk rfl rfl rfl rfl rfl (List.length_map _) rfl (Ao.q tk rfl (Ao.nil ?_))))))))))
 obtain ⟨fl1,H1,Hp1⟩ := aj H
 refine V.aZ tk 0 rfl rfl (fun hz1 _=>?_)
 rw [List.length_map] at hz1
 refine V.cut (τ := Unit) (γ := Unit) (fun s1 g1=>⟨19,fun _=>.any,fun _=>none,fun _=>none⟩) (fun t=>fl1 = .next t) ?_ (fun s1 g1 hn1=>?_)
 ·refine V.ap ?_
  refine V.aP (fun j1 s1 g1=>⟨19,upd (upd (upd (upd (fun _=>.any) 8 (ac (j1 : Int))) 7 (ac (sA.length : Int))) 1 (.fn g_f caps_f)) 0 (.list 51 (sA.map (ag 53 ae))),fun _=>none,fun _=>none⟩) () H1 (Gh.le (SLe.aa (PLe.q rfl) (SLe.aa (PLe.q rfl) (SLe.aa (PLe.q rfl) (SLe.aa (PLe.q rfl) SLe.nil)))) BLe.nil OLe.nil) (fun j1 s1 g1 hj1 hr1=>?_)
  refine V.seq (V.ab (Ao.q tk rfl (Ao.nil (V.seq ?_))))
  refine V.ak rfl (fun h=>?_) (fun h=>?_)
  ·have hl1 := bn h
   obtain ⟨x1,fb1,hx1,H,hg1⟩ := rMc hl1 hr1
   refine V.al (V.seq (V.ap (V.seq (V.ab (Ao.q tk rfl (Ao.q tk rfl (Ao.nil (V.seq (V.ab (Ao.q tk rfl (Ao.q tk rfl (Ao.q tk rfl ?_))))))))))))
   refine Ao.idx tk rfl rfl rfl rfl rfl rfl (Int.natCast_nonneg j1) (aY (fun _=>rfl) hx1) rfl ?_
   refine Ao.q tk rfl ?_
   obtain ⟨x16,h16,H⟩ := aj H
   refine Ao.ah rfl rfl rfl hg_f (il.r) (hp_f _ _ h16) rfl (Ao.nil ?_)
   refine V.ak rfl (fun h=>?_) (fun h=>?_)
   ·have H := condT h H
    refine V.seq (V.ab (Ao.q tk rfl (Ao.q tk rfl (Ao.nil ?_))))
    obtain rfl := ai H
    have e1 : fl1 = .ret _ := hg1
    subst e1
    obtain rfl := aL Hp1
    refine V.aq tk rfl (ps := [(ac (j1 : Int))]) ⟨_,_,rfl,rfl,rfl⟩ (PLe.q rfl)
   ·have H := condF h H
    refine V.al (V.blk (V.ab (Ao.q tk rfl (Ao.q tk rfl (Ao.nil ?_)))))
    obtain rfl := ai H
    refine V.ax () () ⟨hl1,hg1⟩ (Gh.le (SLe.aa (PLe.q rfl) (SLe.aa (PLe.q rfl) (SLe.aa (PLe.q rfl) (SLe.aa (PLe.q (az (by omega))) SLe.nil)))) BLe.nil OLe.nil)
  ·have hn1 := rMd (bm h) hr1
   refine V.aB rfl ?_
   refine V.at s1 g1 hn1 (Gh.le SLe.nil BLe.nil OLe.nil)
 ·have H := br hn1 Hp1
  refine V.seq (V.ab (Ao.q tk rfl (Ao.nil ?_)))
  obtain rfl := ai H
  refine V.aq tk rfl (ps := [(ac (-1))]) ⟨_,_,rfl,rfl,rfl⟩ (PLe.q rfl)
def bi (sA : List (List LVal)) (f : (List LVal) → Option (Bool)) : Option (Int × (List (List LVal))) :=
 af (lz (sA.length : Int)) fun (n1 : Nat) =>
 af (aE (σ := List (List LVal)) (ρ := (Int × (List (List LVal)))) (fun (j1 : Nat) (_ : Nat) (s1 : List (List LVal)) =>
  af (aC s1 (j1 : Int)) fun (x14 : List LVal) =>
  af (f x14) fun x16 =>
  cond x16
   (some (.ret ((j1 : Int),s1)))
   (some (.next s1))) 0 (List.range n1) sA) fun fl1=>fl1.thenR fun (s1 : List (List LVal)) =>
 some ((-1),s1)
set_option maxHeartbeats 4000000 in
theorem dY (g_sA : OwnRef) {g_f : FuncId} {caps_f : List PV} (sA : List (List LVal)) (f : (List LVal) → Option (Bool)) (hg_f : ∀ (vs : Array Value) (w : World),(callFunc g_f vs).run Tryz.prog w = .ok (.enter g_f vs) w) (hp_f : ∀ a0 r,f a0 = some r → aG Tryz.prog g_f ((.list 53 (a0.map ae)) :: caps_f) (au r)) (r : Int × (List (List LVal))) (H : bi sA f = some r) :
  PH Tryz.prog 22 [(.own 0 g_sA (sA.map (ag 53 ae)).length),(.fn g_f caps_f)] ⟨fun _=>none,upd (fun _=>none) 0 (some ⟨g_sA,51,(sA.map (ag 53 ae)),true⟩)⟩ (fun u H=>u = (ac r.1) ∧ H = ⟨fun _=>none,upd (fun _=>none) 0 (some ⟨g_sA,51,(r.2.map (ag 53 ae)),true⟩)⟩) := by
 unfold bi at H
 refine PH.intro Tryz.func22 rfl Tryz.ntmps22 rfl ?_
 refine V.seq (V.ab (Ao.q tk rfl (Ao.nil (V.seq (V.seq (V.ab (Ao.q tk rfl (Ao.lenO tk rfl rfl rfl rfl rfl (List.length_map _) rfl (Ao.q tk rfl (Ao.nil ?_))))))))))
 obtain ⟨n1,hs1,H⟩ := aj H
 have hz1 := mu hs1
 obtain ⟨fl1,H1,Hp1⟩ := aj H
 refine V.cut (τ := List (List LVal)) (γ := Unit) (fun s1 g1=>⟨19,upd (fun _=>.any) 0 (.own 0 g_sA (s1.map (ag 53 ae)).length),fun _=>none,upd (fun _=>none) 0 (some ⟨g_sA,51,(s1.map (ag 53 ae)),true⟩)⟩) (fun t=>fl1 = .next t) ?_ (fun s1 g1 hn1=>?_)
 ·refine V.ap ?_
  refine V.aP (fun j1 s1 g1=>⟨19,upd (upd (upd (upd (fun _=>.any) 8 (ac (j1 : Int))) 7 (ac (sA.length : Int))) 1 (.fn g_f caps_f)) 0 (.own 0 g_sA (s1.map (ag 53 ae)).length),fun _=>none,upd (fun _=>none) 0 (some ⟨g_sA,51,(s1.map (ag 53 ae)),true⟩)⟩) () H1 (Gh.le (SLe.aa (PLe.q rfl) (SLe.aa (PLe.q rfl) (SLe.aa (PLe.q rfl) (SLe.aa (PLe.q rfl) SLe.nil)))) BLe.nil (OLe.am rfl OLe.nil)) (fun j1 s1 g1 hj1 hr1=>?_)
  refine V.seq (V.ab (Ao.q tk rfl (Ao.nil (V.seq ?_))))
  refine V.ak rfl (fun h=>?_) (fun h=>?_)
  ·have hl1 := natLt hz1 h
   obtain ⟨x1,fb1,hx1,H,hg1⟩ := rMc hl1 hr1
   obtain rfl := natX hx1
   refine V.al (V.seq (V.ap (V.seq (V.ab (Ao.q tk rfl (Ao.q tk rfl (Ao.nil (V.seq (V.ab (Ao.q tk rfl (Ao.q tk rfl (Ao.q tk rfl ?_))))))))))))
   obtain ⟨x14,h14,H⟩ := aj H
   have k14 := gIs h14
   refine Ao.ownF (tag := 0) rfl (fun ho0=>?_)
   refine Ao.idxO tk rfl rfl rfl rfl rfl rfl rfl ⟨k14.1,(cS k14.2)⟩ (cY ho0 k14.2) rfl ?_
   refine Ao.loadO tk rfl rfl rfl rfl rfl rfl rfl (aH (fun _=>rfl) k14.2) rfl rfl ?_
   obtain ⟨x16,h16,H⟩ := aj H
   refine Ao.ah rfl rfl rfl hg_f (il.r) (hp_f _ _ h16) rfl (Ao.nil ?_)
   refine V.ak rfl (fun h=>?_) (fun h=>?_)
   ·have H := condT h H
    refine V.seq (V.ab (Ao.q tk rfl (Ao.q tk rfl (Ao.nil ?_))))
    obtain rfl := ai H
    have e1 : fl1 = .ret _ := hg1
    subst e1
    obtain rfl := aL Hp1
    refine V.gh (st' := ⟨19,upd (fun _=>.any) 4 (ac (j1 : Int)),fun _=>none,upd (fun _=>none) 0 (some ⟨g_sA,51,(s1.map (ag 53 ae)),true⟩)⟩) (Gh.le (SLe.aa (PLe.q rfl) SLe.nil) BLe.nil (OLe.am rfl OLe.nil)) ?_
    refine V.retH tk rfl (ps := [(ac (j1 : Int))]) ⟨_,_,rfl,rfl,rfl⟩ (PLe.q rfl) ⟨rfl,rfl⟩
   ·have H := condF h H
    refine V.al (V.blk (V.ab (Ao.q tk rfl (Ao.q tk rfl (Ao.nil ?_)))))
    obtain rfl := ai H
    refine V.ax s1 () ⟨hl1,hg1⟩ (Gh.le (SLe.aa (PLe.q rfl) (SLe.aa (PLe.q rfl) (SLe.aa (PLe.q rfl) (SLe.aa (PLe.q (mZ hz1 hl1)) SLe.nil)))) BLe.nil (OLe.am rfl OLe.nil))
  ·have hn1 := rMd (natGe hz1 h) hr1
   refine V.aB rfl ?_
   refine V.at s1 g1 hn1 (Gh.le (SLe.aa (PLe.q rfl) SLe.nil) BLe.nil (OLe.am rfl OLe.nil))
 ·have H := br hn1 Hp1
  refine V.seq (V.ab (Ao.q tk rfl (Ao.nil ?_)))
  obtain rfl := ai H
  refine V.gh (st' := ⟨19,upd (fun _=>.any) 4 (ac (-1)),fun _=>none,upd (fun _=>none) 0 (some ⟨g_sA,51,(s1.map (ag 53 ae)),true⟩)⟩) (Gh.le (SLe.aa (PLe.q rfl) SLe.nil) BLe.nil (OLe.am rfl OLe.nil)) ?_
  refine V.retH tk rfl (ps := [(ac (-1))]) ⟨_,_,rfl,rfl,rfl⟩ (PLe.q rfl) ⟨rfl,rfl⟩
theorem W_delete_25 (g_s : OwnRef) (xs : List (List LVal)) (i j : Int) (r : List (List LVal)) (h : delI xs i j = some r) : PH Tryz.prog 25 [(.own 0 g_s (xs.map (ag 53 ae)).length),(ac i),(ac j)] ⟨fun _=>none,upd (fun _=>none) 0 (some ⟨g_s,51,(xs.map (ag 53 ae)),true⟩)⟩ (fun u H=>u = .own 0 g_s (r.map (ag 53 ae)).length ∧ H = ⟨fun _=>none,upd (fun _=>none) 0 (some ⟨g_s,51,(r.map (ag 53 ae)),true⟩)⟩) := by
 obtain ⟨hi,hij,hj,hr⟩ := delI_some h
 have hjl : j.toNat ≤ (xs.map (ag 53 ae)).length := by rw [List.length_map]; exact hj
 have hij' : i.toNat ≤ j.toNat := by omega
 have ei : i = (i.toNat : Int) := by omega
 have ej : j = (j.toNat : Int) := by omega
 refine PH.intro Tryz.func25 rfl Tryz.ntmps25 rfl ?_
 refine V.ownC (tag := 0) rfl (fun hc=>?_)
 refine V.seq (V.ab (Ao.q tk rfl (Ao.nil (V.seq (V.ab (Ao.q tk rfl (Ao.q tk rfl (Ao.q tk rfl (Ao.q tk rfl (Ao.lenO tk rfl rfl rfl rfl rfl (m := (xs.map (ag 53 ae)).length) rfl rfl (Ao.subV (l := i.toNat) (h := j.toNat) (m := (xs.map (ag 53 ae)).length) tk rfl rfl rfl rfl rfl rfl ⟨_,_,rfl,ei⟩ ⟨_,_,rfl,ej⟩ ⟨_,_,rfl,rfl⟩ (by decide) hij' hjl hc rfl (Ao.nil (V.seq (V.seq ?_))))))))))))))
 refine V.ab (Ao.q tk rfl (Ao.q tk rfl (Ao.q tk rfl (Ao.nil ?_))))
 refine V.ak rfl (fun h=>?_) (fun h=>?_)
 ·have he : i = j := by simpa using h
  have hx : r = xs := by rw [hr,he,List.take_append_drop]
  subst hx
  refine V.seq (V.ab (Ao.q tk rfl (Ao.q tk rfl (Ao.nil ?_))))
  refine V.gh (st' := ⟨33,upd (fun _=>.any) 6 (.own 0 g_s (r.map (ag 53 ae)).length),fun _=>none,upd (fun _=>none) 0 (some ⟨g_s,51,r.map (ag 53 ae),true⟩)⟩) (Gh.le (SLe.aa (PLe.q rfl) SLe.nil) BLe.nil (OLe.am rfl OLe.nil)) ?_
  refine V.retH tk rfl (ps := [.own 0 g_s (r.map (ag 53 ae)).length]) ⟨_,_,rfl,rfl,rfl⟩ (PLe.q rfl) ⟨rfl,rfl⟩
 ·refine V.al (V.seq (V.ab (Ao.q tk rfl (Ao.lenO tk rfl rfl rfl rfl rfl (m := (xs.map (ag 53 ae)).length) rfl rfl (Ao.q tk rfl (Ao.nil (V.seq (V.bc tk mok ⟨false,false,[]⟩ [0,1,2,3,4,5,6,7] rfl (by decide +kernel) rfl (Do.q rfl (Do.q rfl (Do.subV (l := 0) (h := i.toNat) (m := g_s.cap) tk rfl rfl rfl rfl rfl rfl rfl rfl ⟨_,_,rfl,ei⟩ rfl (by decide) (Nat.zero_le _) (by omega) (Nat.le_refl _) rfl (Do.q rfl (Do.q rfl (Do.subV (l := j.toNat) (h := (xs.map (ag 53 ae)).length) (m := g_s.cap) tk rfl rfl rfl rfl rfl rfl rfl ⟨_,_,rfl,ej⟩ rfl rfl (by decide) hjl hc (Nat.le_refl _) rfl ?_))))))))))))))
  refine Do.appendIn (rows' := r.map (ag 53 ae)) (tag := 0) (p := i.toNat) (q := j.toNat) tk rfl rfl rfl rfl rfl rfl rfl hij' hjl rfl rfl (by rw [hr,List.map_append,List.map_take,List.map_drop]) rfl (Do.q rfl (Do.nil ?_))
  have hrl : (r.map (ag 53 ae)).length ≤ (xs.map (ag 53 ae)).length := by rw [hr]; simp; omega
  refine V.seq (V.ab (Ao.q tk rfl (Ao.q tk rfl (Ao.lenO tk rfl rfl rfl rfl rfl (m := (r.map (ag 53 ae)).length) rfl rfl (Ao.q tk rfl (Ao.subV (l := (r.map (ag 53 ae)).length) (h := (xs.map (ag 53 ae)).length) (m := g_s.cap) tk rfl rfl rfl rfl rfl rfl ⟨_,_,rfl,rfl⟩ ⟨_,_,rfl,rfl⟩ rfl (by decide) hrl hc (Nat.le_refl _) rfl (Ao.clearB (tag := 0) (rows := List.map (ag 53 ae) r) tk rfl rfl rfl rfl rfl rfl rfl rfl rfl (p := (r.map (ag 53 ae)).length) (q := (xs.map (ag 53 ae)).length) (m := g_s.cap) (Nat.le_refl _) hrl hc (Nat.le_refl _) rfl (Ao.nil (V.seq (V.ab (Ao.q tk rfl (Ao.q tk rfl (Ao.nil ?_)))))))))))))
  refine V.gh (st' := ⟨33,upd (fun _=>.any) 6 (.own 0 g_s (r.map (ag 53 ae)).length),fun _=>none,upd (fun _=>none) 0 (some ⟨g_s,51,r.map (ag 53 ae),true⟩)⟩) (Gh.le (SLe.aa (PLe.q rfl) SLe.nil) BLe.nil (OLe.am rfl OLe.nil)) ?_
  refine V.retH tk rfl (ps := [.own 0 g_s (r.map (ag 53 ae)).length]) ⟨_,_,rfl,rfl,rfl⟩ (PLe.q rfl) ⟨rfl,rfl⟩
theorem clone_94 {m : Nat} (xs : List LVal) : hC Tryz.prog 94 [.list 53 (xs.map ae)] (km m 53 (xs.map ae)) := by
 refine PH.intro Tryz.func94 rfl Tryz.ntmps94 rfl ?_
 refine V.aZ tk 0 rfl rfl (fun hz hb=>?_)
 refine V.seq (V.ab (Ao.q tk rfl (Ao.nil (V.seq (V.seq (V.ab (Ao.q tk rfl ?_)))))))
 refine Ao.isNil tk rfl rfl rfl rfl rfl rfl rfl (fun b hn=>?_)
 refine Ao.nil ?_
 refine V.ak rfl (fun h=>?_) (fun h=>?_)
 ·refine V.seq (V.ab (Ao.q tk rfl (Ao.nil (V.gr tk 2 902 (e := 53) rfl rfl ?_))))
  refine V.retO tk rfl rfl rfl rfl (hn h).symm
 ·refine V.al (V.seq (V.ab ?_))
  refine Ao.bsOC (rows' := []) tk rfl rfl rfl rfl rfl rfl rfl rfl rfl (fQ.refl _) fun g=>?_
  refine Ao.q tk rfl ?_
  refine Ao.co (rows2' := xs.map ae) (rows' := xs.map ae) tk rfl rfl rfl rfl rfl rfl rfl rfl rfl rfl rfl rfl rfl (fj.refl _) (by simpa using hb) (by simpa using hz) rfl fun g'=>?_
  refine Ao.q tk rfl (Ao.nil ?_)
  refine V.retO tk rfl rfl rfl rfl rfl
end
end Go.Proofs.YtgaggbdcedpapaaGreat
