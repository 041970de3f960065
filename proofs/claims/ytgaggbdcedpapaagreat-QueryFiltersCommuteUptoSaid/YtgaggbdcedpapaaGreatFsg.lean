/- queryFiltersCommuteUpto_holds, part 7: the layer, the plain functions and what they compute; conditions as in the statement. -/
import Derived.Test.YtgaggbdcedpapaaGreatFsf
namespace Go.Proofs.YtgaggbdcedpapaaGreat
noncomputable section
open Go Go.Ab
def je (x : LVal) : LVal := if dC x = true then x else .nul
theorem typed_args {cols vars : List LCol} {e : LExpr} (h : (cw cols vars e).2.2 = 0) : e.kind = 5 ∧ (∀ a ∈ e.args,(cw cols vars a).2.2 = 0) ∨ e.kind ≠ 5 ∧ e.args = [] := by
 rw [nf] at h
 by_cases c0 : e.kind ≠ 5 ∧ 0 < e.args.length
 ·rw [if_pos c0] at h; simp [eS] at h
 rw [if_neg c0] at h
 by_cases c5 : e.kind = 5
 ·refine .inl ⟨c5,fun a ha=>?_⟩
  simp only [c5] at h
  have h' : (gX e.name e.index e.value (e.args.map (cw cols vars))).2.2 = 0 := by simpa using h
  unfold gX at h'
  split at h'
  ·simp [eS] at h'
  ·split at h'
   ·rename_i r hf
    have := List.find?_some hf
    simp [eS] at h'
    simp [h'] at this
   ·rename_i hf
    have := List.find?_eq_none.1 hf (cw cols vars a) (List.mem_map.2 ⟨a,ha,rfl⟩)
    simpa using this
 ·refine .inr ⟨c5,?_⟩
  rw [← List.length_eq_zero_iff]
  omega
theorem eval_clean {cols vars : List LCol} {v : LEnv} : ∀ e : LExpr,(cw cols vars e).2.2 = 0 → (∀ i k,(i,k) ∈ bY e → ∀ x,v.params[i]? = some x → dC x = true) → bG v e = bG { v with params := v.params.map je } e := by
 refine LExpr.ind fun e ih h hp=>?_
 have hsub : ∀ a ∈ e.args,∀ i k,(i,k) ∈ bY a → (i,k) ∈ bY e := fun a ha i k hm=>by
  rw [kj]
  exact List.mem_append_right _ (List.mem_flatten.2 ⟨_,List.mem_map.2 ⟨a,ha,rfl⟩,hm⟩)
 rw [mg,mg { v with params := v.params.map je }]
 by_cases k1 : (e.kind == 1) = true
 ·simp [k1]
 by_cases k2 : (e.kind == 2) = true
 ·simp [k1,k2]
 by_cases k3 : (e.kind == 3) = true
 ·rw [if_neg k1,if_neg k2,if_pos k3,if_neg k1,if_neg k2,if_pos k3]
  have hk3 : e.kind = 3 := by simpa using k3
  have hta := typed_args h
  have hr : ¬ (e.index < 0 ∨ e.index ≥ 8) := by
   intro hbad
   rw [nf,if_neg (by intro hc; rcases hta with ⟨a,_⟩ | ⟨_,b⟩; exact hc.1 a; rw [b] at hc; simp at hc),if_neg k1,if_pos k3,if_pos (by rcases hbad with hb | hb; exact .inl hb; exact .inr (.inl hb))] at h
   simp [eS] at h
  have hm : (e.index.toNat,e.value.kind) ∈ bY e := by
   rw [kj]
   refine List.mem_append_left _ ?_
   unfold gA
   rw [if_pos ⟨hk3,by omega,by omega⟩]
   simp
  have hget : ∀ i : Nat,i < v.params.length → i = e.index.toNat → (v.params.map je).getD i .nul = v.params.getD i .nul := fun i hi he=>by
   rw [List.getD_eq_getElem?_getD,List.getD_eq_getElem?_getD,List.getElem?_map,List.getElem?_eq_getElem hi]
   simp only [Option.map_some,Option.getD_some]
   unfold je
   rw [if_pos (hp _ _ hm v.params[i] (by rw [← he]; exact List.getElem?_eq_getElem hi))]
  by_cases hlt : e.index.toNat < v.params.length
  ·show _ = if 0 ≤ e.index ∧ e.index < ((v.params.map je).length : Nat) ∧ ((v.params.map je).getD e.index.toNat .nul).kind = e.value.kind then (v.params.map je).getD e.index.toNat .nul else .nul
   rw [hget _ hlt rfl,List.length_map]
  ·have : ¬ (0 ≤ e.index ∧ e.index < (v.params.length : Int)) := by omega
   show _ = if 0 ≤ e.index ∧ e.index < ((v.params.map je).length : Nat) ∧ ((v.params.map je).getD e.index.toNat .nul).kind = e.value.kind then (v.params.map je).getD e.index.toNat .nul else .nul
   rw [List.length_map,if_neg (fun hc=>this ⟨hc.1,hc.2.1⟩),if_neg (fun hc=>this ⟨hc.1,hc.2.1⟩)]
 by_cases k4 : (e.kind == 4) = true
 ·simp [k1,k2,k3,k4]
 by_cases k5 : (e.kind == 5) = true
 ·rw [if_neg k1,if_neg k2,if_neg k3,if_neg k4,if_pos k5,if_neg k1,if_neg k2,if_neg k3,if_neg k4,if_pos k5]
  rcases typed_args h with ⟨_,ha⟩ | ⟨hn,_⟩
  ·congr 1
   apply List.map_congr_left
   intro a hm
   exact ih a hm (ha a hm) fun i k hik=>hp i k (hsub a hm i k hik)
  ·exact absurd (by simpa using k5) hn
 ·simp [k1,k2,k3,k4,k5]
structure RunOk (r : LRun) : Prop where
 vars : r.vars = []
 names : r.names = []
 vals : r.vals = []
 inst : InstOk r.s r.st
def kF (r : LRun) (l : List (Nat × Int)) : Prop := ∀ i k,(i,k) ∈ l → ∀ x,r.args[i]? = some x → dC x = true
theorem nW {r : LRun} (hr : RunOk r) {cols : List LCol} {row : List LVal} (hrow : dI cols row) {e : LExpr} (ht : (ci cols r.vars e).2.2 = 0) (hp : kF r (bY e)) :
  ef (bG (aP r cols row) e) (ci cols r.vars e).1 (ci cols r.vars e).2.1 := by
 have hk : (cw cols r.vars e).2.2 = 0 := by
  unfold ci at ht
  split at ht
  ·simp [eS] at ht
  ·exact ht
 rw [eval_clean (cols := cols) (vars := r.vars) e hk (fun i k hm x hx=>hp i k hm x hx)]
 refine type_sound (cols := cols) (vars := r.vars) ⟨rfl,hrow.1,hrow.2,?_,?_,?_,?_⟩ e ht
 ·intro x hx
  obtain ⟨y,_,rfl⟩ := List.mem_map.1 hx
  unfold je
  split
  ·assumption
  ·rfl
 ·show r.names = _; rw [hr.names,hr.vars]; rfl
 ·show r.vals.length = _; rw [hr.vals,hr.vars]; rfl
 ·intro i c x hc; rw [hr.vars] at hc; simp at hc
theorem jJ {c : LChecker} {q : LQuery} (h : (dt c q).2 = 0) : ju q = true ∧ (∀ x ∈ q.inputs,(dt c x).2 = 0) ∧ (fW c q (q.inputs.map fun x=>(dt c x).1)).2 = 0 ∧ (dt c q).1 = (fW c q (q.inputs.map fun x=>(dt c x).1)).1 ∧ ((dt c q).1.map LCol.name).Nodup := by
 rw [nB] at h ⊢
 unfold mi at h ⊢
 by_cases h1 : ju q = false
 ·simp [h1] at h
 rw [if_neg h1] at h ⊢
 by_cases h2 : (cK (q.inputs.map (dt c))).2 = 0
 ·obtain ⟨a,b⟩ := nz h2
  have e : (q.inputs.map (dt c)).map (·.1) = q.inputs.map fun x=>(dt c x).1 := by rw [List.map_map]; rfl
  rw [e] at b
  rw [b] at h ⊢
  rw [if_neg (by simpa using h2)] at h ⊢
  by_cases h3 : (fW c q (q.inputs.map fun x=>(dt c x).1)).2 = 0
  ·rw [if_neg (by simpa using h3)] at h ⊢
   by_cases h4 : 20 < (fW c q (q.inputs.map fun x=>(dt c x).1)).1.length
   ·rw [if_pos h4] at h; simp at h
   ·rw [if_neg h4] at h ⊢
    by_cases h5 : ((fW c q (q.inputs.map fun x=>(dt c x).1)).1.map LCol.name).Nodup
    ·rw [if_pos h5] at h ⊢
     exact ⟨by simpa using h1,fun x hx=>a _ (List.mem_map.2 ⟨x,hx,rfl⟩),h3,rfl,h5⟩
    ·rw [if_neg h5] at h; simp at h
  ·rw [if_pos h3] at h; exact absurd h h3
 ·rw [if_pos h2] at h; exact absurd h h2
theorem kE (vars cols : List LCol) : ∀ (es : List LExpr) (ns : List (List UInt8)),es.length = ns.length → (bP vars cols es ns).2 = 0 →
  (bP vars cols es ns).1.length = es.length ∧ ∀ (i : Nat) (e : LExpr),es[i]? = some e → (ci cols vars e).2.2 = 0 ∧ ∃ c,(bP vars cols es ns).1[i]? = some c ∧ c.kind = (ci cols vars e).1 ∧ c.nullable = (ci cols vars e).2.1
 | [],ns,_,_=>by simp [bP]
 | e :: es,[],h,_=>by simp at h
 | e :: es,n :: ns,hl,h=>by
  simp only [bP] at h ⊢
  by_cases h1 : cA n = false
  ·simp [h1] at h
  rw [if_neg h1] at h ⊢
  by_cases h2 : (ci cols vars e).2.2 = 0
  ·rw [if_neg (by simpa using h2)] at h ⊢
   by_cases h3 : (ci cols vars e).1 = 0
   ·rw [if_pos h3] at h; simp at h
   ·rw [if_neg h3] at h ⊢
    by_cases h4 : (bP vars cols es ns).2 = 0
    ·rw [if_neg (by simpa using h4)]
     obtain ⟨a,b⟩ := kE vars cols es ns (by simpa using hl) h4
     refine ⟨by simp [a],fun i e' hi=>?_⟩
     cases i with
     | zero=>simp at hi; subst hi; exact ⟨h2,_,rfl,rfl,rfl⟩
     | succ i=>simpa using b i e' (by simpa using hi)
    ·rw [if_pos h4] at h; exact absurd h h4
  ·rw [if_pos h2] at h; exact absurd h h2
theorem nJ (vars cols : List LCol) : ∀ l : List LAggregateCall,(cT vars cols l).2 = 0 →
  (cT vars cols l).1.length = l.length ∧ ∀ (i : Nat) (a : LAggregateCall),l[i]? = some a → (lh vars cols a).2 = 0 ∧ ∃ c,(cT vars cols l).1[i]? = some c ∧ c.kind = (lh vars cols a).1 ∧ c.nullable = !(a.function == fJ)
 | [],_=>by simp [cT]
 | a :: l,h=>by
  simp only [cT] at h ⊢
  by_cases h1 : (lh vars cols a).2 = 0
  ·rw [if_neg (by simpa using h1)] at h ⊢
   by_cases h2 : (cT vars cols l).2 = 0
   ·rw [if_neg (by simpa using h2)]
    obtain ⟨x,y⟩ := nJ vars cols l h2
    refine ⟨by simp [x],fun i b hi=>?_⟩
    cases i with
    | zero=>simp at hi; subst hi; exact ⟨h1,_,rfl,rfl,rfl⟩
    | succ i=>simpa using y i b (by simpa using hi)
   ·rw [if_pos h2] at h; exact absurd h h2
  ·rw [if_pos h1] at h; exact absurd h h1
theorem dI.append {a b : List LCol} {x y : List LVal} (h : dI a x) (h' : dI b y) : dI (a ++ b) (x ++ y) := by
 refine ⟨by simp [h.1,h'.1],fun i c v hc hv=>?_⟩
 by_cases hi : i < a.length
 ·rw [List.getElem?_append_left hi] at hc
  rw [List.getElem?_append_left (by rw [h.1]; exact hi)] at hv
  exact h.2 i c v hc hv
 ·rw [List.getElem?_append_right (by omega)] at hc
  rw [List.getElem?_append_right (by rw [h.1]; omega),h.1] at hv
  exact h'.2 _ c v hc hv
theorem dI.map {cols : List LCol} {es : List LExpr} {f : LExpr → LVal} (hl : cols.length = es.length) (h : ∀ (i : Nat) (e : LExpr) (c : LCol),es[i]? = some e → cols[i]? = some c → ef (f e) c.kind c.nullable) : dI cols (es.map f) := by
 refine ⟨by simp [hl],fun i c x hc hx=>?_⟩
 rw [List.getElem?_map,Option.map_eq_some_iff] at hx
 obtain ⟨e,he,rfl⟩ := hx
 exact h i e c he hc
theorem ef.weak {x : LVal} {k : Int} {nl nl' : Bool} (h : ef x k nl) (hn : nl = true → nl' = true) : ef x k nl' := ⟨h.1,h.2.1,fun h0=>hn (h.2.2 h0)⟩
theorem int_fits (n : Int) : ef (eF n) 1 true := by
 unfold eF
 by_cases h1 : n < -1000000000000
 ·rw [decide_eq_true h1]; exact fO rfl
 ·rw [decide_eq_false h1]
  by_cases h2 : n > 1000000000000
  ·rw [decide_eq_true h2]; exact fO rfl
  ·rw [decide_eq_false h2]
   refine ⟨?_,.inl rfl,fun h=>by simp at h⟩
   unfold dC
   simp
   omega
theorem int_small {n : Int} (h0 : 0 ≤ n) (h1 : n ≤ 1000000000000) (nl : Bool) : ef (eF n) 1 nl := by
 have h := int_fits n
 refine ⟨h.1,h.2.1,fun hk=>?_⟩
 unfold eF at hk
 rw [decide_eq_false (show ¬ n < -1000000000000 from by omega),decide_eq_false (show ¬ n > 1000000000000 from by omega)] at hk
 simp at hk
theorem oU (op : List UInt8) : ∀ (l : List LVal) (s : Int × LVal),(l.foldl (jl op) s).2 = s.2 ∨ (l.foldl (jl op) s).2 ∈ l
 | [],s=>.inl rfl
 | v :: l,s=>by
  rw [List.foldl_cons]
  rcases oU op l (jl op s v) with h | h
  ·rw [h]
   unfold jl
   simp only
   split
   ·exact .inr (by simp)
   ·exact .inl rfl
  ·exact .inr (by simp [h])
theorem agg_fits {r : LRun} (hr : RunOk r) {cols : List LCol} {a : LAggregateCall} {l : Rows} (ha : (lh r.vars cols a).2 = 0) (hl : ∀ row ∈ l,dI cols row) (hb : l.length ≤ 1000000) (hp : kF r ((a.args.map bY).flatten)) :
  ef (aggR r cols a l) (lh r.vars cols a).1 (!(a.function == fJ)) := by
 unfold lh at ha ⊢
 unfold aggR
 by_cases h1 : cA a.name = false ∨ ¬ a.function ∈ [fJ,sSum,sMin,sMax] ∨ 1 < a.args.length ∨ (a.args.length < 1 ∧ a.function ≠ fJ)
 ·rw [if_pos h1] at ha; simp at ha
 rw [if_neg h1] at ha ⊢
 have hfn : a.function ∈ [fJ,sSum,sMin,sMax] := Decidable.byContradiction fun h=>h1 (.inr (.inl h))
 cases hargs : a.args with
 | nil=>exact int_small (by omega) (by omega) _
 | cons e es =>
  rw [hargs] at ha hp
  simp only at ha ⊢
  have hpe : kF r (bY e) := fun i k hm=>hp i k (by simp [hm])
  by_cases h2 : (ci cols r.vars e).2.2 = 0
  ·rw [if_neg (by simpa using h2)] at ha ⊢
   by_cases h3 : (ci cols r.vars e).1 = 0 ∨ (a.function = sSum ∧ (ci cols r.vars e).1 ≠ 1)
   ·rw [if_pos h3] at ha; simp at ha
   rw [if_neg h3]
   generalize hv : ((l.map fun x=>bG (aP r cols x) e).filter fun v=>v.kind != 0) = vals
   have hvl : vals.length ≤ 1000000 := by rw [← hv]; exact Nat.le_trans (List.length_filter_le _ _) (by simpa using hb)
   have hvf : ∀ v ∈ vals,ef v (ci cols r.vars e).1 true := fun v hm=>by
    rw [← hv] at hm
    have := (List.mem_filter.1 hm).1
    obtain ⟨x,hx,rfl⟩ := List.mem_map.1 this
    exact (nW hr (hl x hx) h2 hpe).weak fun _=>rfl
   unfold nv
   by_cases h4 : a.function = fJ
   ·rw [if_pos h4,if_pos h4]
    exact int_small (by omega) (by omega) _
   ·rw [if_neg h4,if_neg h4]
    have hc : (a.function == fJ) = false := by simpa using h4
    rw [hc]
    cases vals with
    | nil=>exact fO rfl
    | cons v vs =>
     simp only
     by_cases h5 : a.function = sSum
     ·rw [if_pos h5]
      have : (ci cols r.vars e).1 = 1 := Decidable.byContradiction fun h=>h3 (.inr ⟨h5,h⟩)
      rw [this]
      exact int_fits _
     ·rw [if_neg h5]
      rcases oU a.function (v :: vs) (0,v) with h | h
      ·rw [h]; exact hvf v (by simp)
      ·exact hvf _ h
  ·rw [if_pos h2] at ha; exact absurd ha h2
theorem capI_eq {n : Int} (h : kD n ≤ 20000) : kD n = n := by
 unfold kD at h ⊢
 by_cases hc : 20001 < n
 ·rw [if_pos hc] at h; omega
 ·rw [if_neg hc]
theorem fv {q : LQuery} (h : (bl q).2 ≤ 20000) : (bl q).1 ≤ (bl q).2 ∧ ∀ x ∈ q.inputs,(bl x).2 ≤ 20000 := by
 have key : ∀ (l : List (Int × Int)) (j : Nat) (s : Int × Int),s.2 ≤ (dj q.kind j l s).2 ∧ ∀ x ∈ l,x.2 ≤ (dj q.kind j l s).2 := by
  intro l
  induction l with
  | nil=>intro j s; exact ⟨Int.le_refl _,by simp⟩
  | cons y l ih =>
   intro j s
   obtain ⟨h1,h2⟩ := ih (j + 1) (gd q.kind s j y)
   rw [dj]
   have h3 : s.2 ≤ (gd q.kind s j y).2 := gM _ _
   have h4 : y.2 ≤ (gd q.kind s j y).2 := ld _ _
   refine ⟨by omega,fun x hx=>?_⟩
   rcases List.mem_cons.1 hx with rfl | hx
   ·omega
   ·exact h2 x hx
 have hk := key (q.inputs.map bl) 0 (0,0)
 rw [jP] at h ⊢
 by_cases h1 : q.kind = 1
 ·rw [if_pos h1] at h ⊢
  refine ⟨ld _ _,fun x hx=>?_⟩
  have := hk.2 (bl x) (List.mem_map.2 ⟨x,hx,rfl⟩)
  have := gM (dj q.kind 0 (q.inputs.map bl) (0,0)).2 24
  simp only at h
  omega
 ·rw [if_neg h1] at h ⊢
  refine ⟨ld _ _,fun x hx=>?_⟩
  have := hk.2 (bl x) (List.mem_map.2 ⟨x,hx,rfl⟩)
  have := gM (dj q.kind 0 (q.inputs.map bl) (0,0)).2 (dj q.kind 0 (q.inputs.map bl) (0,0)).1
  simp only at h
  omega
theorem most_scan {q : LQuery} (h : q.kind = 1) : (bl q).1 = 24 := by rw [jP,if_pos h]
theorem ml {q x : LQuery} (h : (bl q).2 ≤ 20000) (hk : q.kind ≠ 1) (hi : q.inputs = [x]) : (bl q).1 = (bl x).1 := by
 have hm := fv h
 have hx := hm.2 x (by rw [hi]; simp)
 have hx1 := (fv hx).1
 rw [jP,if_neg hk,hi]
 show kD (bl x).1 = _
 unfold kD
 rw [if_neg (by omega)]
theorem kI {q x y : LQuery} (h : (bl q).2 ≤ 20000) (hk : q.kind ≠ 1) (hi : q.inputs = [x,y]) : (bl q).1 = (if q.kind = 6 then (bl x).1 + (bl y).1 else if q.kind = 4 ∨ q.kind = 5 then (bl x).1 * cC 1 (bl y).1 else (bl x).1) := by
 have hm := fv h
 have hx := hm.2 x (by rw [hi]; simp)
 have hx1 := (fv hx).1
 have h1 := hm.1
 have hc : kD (bl x).1 = (bl x).1 := by unfold kD; rw [if_neg (by omega)]
 have e : (bl q).1 = kD (if q.kind = 6 then (bl x).1 + (bl y).1 else if q.kind = 4 ∨ q.kind = 5 then (bl x).1 * cC 1 (bl y).1 else (bl x).1) := by
  rw [jP,if_neg hk,hi]
  show (gd q.kind (gd q.kind (0,0) 0 (bl x)) 1 (bl y)).1 = _
  unfold gd
  simp [hc]
 rw [e]
 exact capI_eq (by rw [← e]; omega)
end
end Go.Proofs.YtgaggbdcedpapaaGreat

namespace Go.Proofs.YtgaggbdcedpapaaGreat
noncomputable section
open Go Go.Ab
def aT (r : LRun) (q : LQuery) : List LCol := (dt ⟨r.s,r.vars⟩ q).1
theorem jn {r : LRun} {q : LQuery} (h : SmallQ q) : eW r q = some (aT r q) := by
 unfold eW
 rw [cols_ok _ q h]
 rfl
def fF (r : LRun) (cols : List LCol) (q : LQuery) (x : List LVal) : Bool := dG (bG (aP r cols x) (e0Q q))
def mQ (q : LQuery) (l : Rows) : Rows := (l.take (q.offset.toNat + q.count.toNat)).drop q.offset.toNat
def cM (r : LRun) (q : LQuery) (cs : List (List LCol)) (ins : List Rows) : Rows :=
 if q.kind = 1 then (match r.st.find? fun x=>x.table == q.table with | some x=>x.rows | none=>[])
 else if q.kind = 4 ∨ q.kind = 5 then iJ (fF r (cs.getD 0 [] ++ cs.getD 1 []) q) (q.kind == 5) (List.replicate (cs.getD 1 []).length .nul) (ins.getD 0 []) (ins.getD 1 [])
 else if q.kind = 6 then ins.getD 0 [] ++ ins.getD 1 []
 else if q.kind = 7 then jB (ins.getD 0 []) (ins.getD 1 [])
 else if q.kind = 2 then (ins.getD 0 []).filter (fF r (cs.getD 0 []) q)
 else if q.kind = 3 then (ins.getD 0 []).map fun x=>q.exprs.map fun e=>bG (aP r (cs.getD 0 []) x) e
 else if q.kind = 8 then lc r (cs.getD 0 []) q (ins.getD 0 [])
 else if q.kind = 9 then (ew r q (cs.getD 0 []) (ins.getD 0 [])).getD []
 else mQ q (ins.getD 0 [])
def aS (r : LRun) (q : LQuery) : Rows := cM r q (q.inputs.map (aT r)) (q.inputs.attach.map fun x=>aS r x.1)
termination_by SizeOf.sizeOf q
decreasing_by exact LQuery.inputs_lt x.2
theorem cV (r : LRun) (q : LQuery) : aS r q = cM r q (q.inputs.map (aT r)) (q.inputs.map (aS r)) := by
 rw [aS,List.attach_map_val (f := aS r)]
theorem find_st {s : LSchema} {st : List LRelation} (h : InstOk s st) (name : List UInt8) : ∀ t,s.tables.find? (fun t=>t.name == name) = some t → ∃ x,st.find? (fun x=>x.table == name) = some x ∧ x.rows.length ≤ 24 ∧ ∀ row ∈ x.rows,dI t.columns row := by
 obtain ⟨hl,ht⟩ := h
 intro t hf
 generalize s.tables = ts at *
 induction ts generalizing st with
 | nil=>simp at hf
 | cons a ts ih =>
  cases st with
  | nil=>simp at hl
  | cons r st =>
   obtain ⟨h1,h2,h3⟩ := ht 0 r a rfl rfl
   rw [List.find?_cons] at hf ⊢
   rw [h1]
   cases hn : a.name == name with
   | true =>
    rw [hn] at hf
    simp at hf
    subst hf
    exact ⟨r,rfl,h2,h3⟩
   | false =>
    rw [hn] at hf
    simp only at hf ⊢
    exact ih (by simpa using hl) (fun i r' t' a b=>ht (i + 1) r' t' (by simpa using a) (by simpa using b)) hf
structure RowsOk (r : LRun) (q : LQuery) : Prop where
 pos : 1 ≤ (bl q).1
 len : ((aS r q).length : Int) ≤ (bl q).1
 fits : ∀ row ∈ aS r q,dI (aT r q) row
structure QOk (r : LRun) (q : LQuery) : Prop where
 small : SmallQ q
 cols : (dt ⟨r.s,r.vars⟩ q).2 = 0
 most : (bl q).2 ≤ 20000
 params : kF r (fA q)
theorem params_sub {q x : LQuery} (h : x ∈ q.inputs) : ∀ p ∈ fA x,p ∈ fA q := by
 intro p hp
 obtain ⟨l,hl,hp⟩ := List.mem_flatten.1 hp
 obtain ⟨y,hy,rfl⟩ := List.mem_map.1 hl
 exact List.mem_flatten.2 ⟨_,List.mem_map.2 ⟨y,mem_nodes h hy,rfl⟩,hp⟩
theorem QOk.sub {r : LRun} {q x : LQuery} (h : QOk r q) (hx : x ∈ q.inputs) : QOk r x :=
 ⟨h.small.sub hx,(jJ h.cols).2.1 x hx,(fv h.most).2 x hx,fun i k hm=>h.params i k (params_sub hx _ hm)⟩
theorem QOk.expr {r : LRun} {q : LQuery} (h : QOk r q) {e : LExpr} (he : e ∈ q.exprs) : kF r (bY e) := fun i k hm=>h.params i k (List.mem_flatten.2 ⟨gE q,List.mem_map.2 ⟨q,nh q,rfl⟩,List.mem_append_left _ (List.mem_flatten.2 ⟨_,List.mem_map.2 ⟨e,he,rfl⟩,hm⟩)⟩)
theorem QOk.agg {r : LRun} {q : LQuery} (h : QOk r q) {a : LAggregateCall} (ha : a ∈ q.aggregates) : kF r ((a.args.map bY).flatten) := fun i k hm=>h.params i k (List.mem_flatten.2 ⟨gE q,List.mem_map.2 ⟨q,nh q,rfl⟩,List.mem_append_right _ (List.mem_flatten.2 ⟨_,List.mem_map.2 ⟨a,ha,rfl⟩,hm⟩)⟩)
theorem joinR_mem {f : List LVal → Bool} {left : Bool} {pad row : List LVal} {a b : Rows} (h : row ∈ iJ f left pad a b) : ∃ x ∈ a,(∃ y ∈ b,row = x ++ y) ∨ (left = true ∧ row = x ++ pad) := by
 unfold iJ at h
 obtain ⟨l,hl,hr⟩ := List.mem_flatten.1 h
 obtain ⟨x,hx,rfl⟩ := List.mem_map.1 hl
 refine ⟨x,hx,?_⟩
 unfold padR at hr
 split at hr
 ·rename_i hc; simp at hr; exact .inr ⟨hc.1,hr⟩
 ·unfold fK at hr
  obtain ⟨y,hy,rfl⟩ := List.mem_map.1 (List.mem_filter.1 hr).1
  exact .inl ⟨y,hy,rfl⟩
theorem two {q : LQuery} (h : q.inputs.length = 2) : ∃ x y,q.inputs = [x,y] := by
 match hq : q.inputs,h with
 | [x,y],_=>exact ⟨x,y,rfl⟩
theorem one {q : LQuery} (h : q.inputs.length = 1) : ∃ x,q.inputs = [x] := by
 match hq : q.inputs,h with
 | [x],_=>exact ⟨x,rfl⟩
theorem colsR_out {r : LRun} {q : LQuery} (h : QOk r q) : (fW ⟨r.s,r.vars⟩ q (q.inputs.map (aT r))).2 = 0 ∧ aT r q = (fW ⟨r.s,r.vars⟩ q (q.inputs.map (aT r))).1 := by
 obtain ⟨_,_,h3,h4,_⟩ := jJ h.cols
 exact ⟨h3,h4⟩
theorem set_fits {kind : Int} {a b : List LCol} {row : List LVal} (h : (iO kind a b).2 = 0) (hr : dI a row ∨ (kind = 6 ∧ dI b row)) : dI (iO kind a b).1 row := by
 unfold iO at h ⊢
 by_cases hc : a.length = b.length ∧ a.map LCol.kind = b.map LCol.kind
 ·rw [if_pos hc]
  refine ⟨?_,fun i c x hci hx=>?_⟩
  ·rcases hr with hr | ⟨_,hr⟩
   ·simp [hr.1,hc.1]
   ·simp [hr.1,hc.1]
  ·rw [List.getElem?_zipWith] at hci
   cases ha : a[i]? with
   | none=>rw [ha] at hci; simp at hci
   | some u =>
    cases hb : b[i]? with
    | none=>rw [ha,hb] at hci; simp at hci
    | some v =>
     rw [ha,hb] at hci
     simp only [Option.some.injEq] at hci
     subst hci
     have hk : u.kind = v.kind := by
      have := congrArg (fun l=>l[i]?) hc.2
      simpa [ha,hb] using this
     rcases hr with hr | ⟨h6,hr⟩
     ·exact (hr.2 i u x ha hx).weak fun hn=>by simp [hn]
     ·have := hr.2 i v x hb hx
      rw [← hk] at this
      exact this.weak fun hn=>by simp [hn,h6]
 ·rw [if_neg hc] at h; simp at h
theorem join_fits {a b : List LCol} {left : Bool} {x y : List LVal} (hx : dI a x) (hy : dI b y) : dI (gO a b left) (x ++ y) := by
 unfold gO
 refine hx.append ⟨by simp [hy.1],fun i c v hc hv=>?_⟩
 rw [List.getElem?_map,Option.map_eq_some_iff] at hc
 obtain ⟨d,hd,rfl⟩ := hc
 exact (hy.2 i d v hd hv).weak fun hn=>by simp [hn]
theorem pad_fits {a b : List LCol} {x : List LVal} (hx : dI a x) : dI (gO a b true) (x ++ List.replicate b.length .nul) := by
 unfold gO
 refine hx.append ⟨by simp,fun i c v hc hv=>?_⟩
 rw [List.getElem?_map,Option.map_eq_some_iff] at hc
 obtain ⟨d,hd,rfl⟩ := hc
 rw [List.getElem?_replicate] at hv
 split at hv
 ·cases hv; exact fO (by simp)
 ·cases hv
theorem rows_fit {r : LRun} (hr : RunOk r) : ∀ q : LQuery,QOk r q → RowsOk r q := by
 refine LQuery.ind fun q ih h=>?_
 have hs := shape_ok (jJ h.cols).1
 obtain ⟨ho,hcol⟩ := colsR_out h
 have hself := h.small.self
 have hm := (fv h.most).1
 have kk : q.kind = 1 ∨ q.kind = 2 ∨ q.kind = 3 ∨ q.kind = 4 ∨ q.kind = 5 ∨ q.kind = 6 ∨ q.kind = 7 ∨ q.kind = 8 ∨ q.kind = 9 ∨ q.kind = 10 := by have := hs.kind; omega
 have hall : ∀ x ∈ q.inputs,RowsOk r x := fun x hx=>ih x hx (h.sub hx)
 rcases kk with k | k | k | k | k | k | k | k | k | k
 ·-- scan
  have hmq := most_scan k
  unfold fW at ho hcol
  rw [if_pos k] at ho hcol
  cases hf : r.s.tables.find? (fun t=>t.name == q.table) with
  | none=>rw [hf] at ho; simp at ho
  | some t =>
   rw [hf] at hcol
   obtain ⟨x,hx,hl,hfit⟩ := find_st hr.inst q.table t hf
   have e : aS r q = x.rows := by rw [cV]; unfold cM; rw [if_pos k,hx]
   exact ⟨by omega,by rw [e]; omega,by rw [e,hcol]; exact hfit⟩
 all_goals have har := hs.arity
 all_goals rw [k] at har
 all_goals simp only [mf] at har
 ·-- filter
  obtain ⟨x,hi⟩ := one (q := q) (by simpa using har)
  have hx := hall x (by rw [hi]; simp)
  have hmq := ml h.most (by omega) hi
  rw [hi] at hcol ho
  unfold fW at ho hcol
  rw [if_neg (by omega),if_pos k] at ho hcol
  have e : aS r q = (aS r x).filter (fF r (aT r x) q) := by rw [cV,hi]; unfold cM; rw [if_neg (by omega),if_neg (by omega),if_neg (by omega),if_neg (by omega),if_pos k]; rfl
  have hcx : aT r q = aT r x := hcol
  have := List.length_filter_le (fF r (aT r x) q) (aS r x)
  refine ⟨by rw [hmq]; exact hx.pos,by rw [hmq,e]; have := hx.len; omega,fun row hrow=>?_⟩
  rw [e] at hrow
  rw [hcx]
  exact hx.fits row (List.mem_filter.1 hrow).1
 ·-- project
  obtain ⟨x,hi⟩ := one (q := q) (by simpa using har)
  have hx := hall x (by rw [hi]; simp)
  have hmq := ml h.most (by omega) hi
  rw [hi] at hcol ho
  unfold fW at ho hcol
  rw [if_neg (by omega),if_neg (by omega),if_neg (by omega),if_neg (by omega),if_pos (.inl k)] at ho hcol
  have e : aS r q = (aS r x).map fun y=>q.exprs.map fun e=>bG (aP r (aT r x) y) e := by rw [cV,hi]; unfold cM; rw [if_neg (by omega),if_neg (by omega),if_neg (by omega),if_neg (by omega),if_neg (by omega),if_pos k]; rfl
  have hag : q.aggregates = [] := hs.aggs (by omega)
  change (kl r.vars (aT r x) q).2 = 0 at ho
  change aT r q = (kl r.vars (aT r x) q).1 at hcol
  unfold kl at ho hcol
  by_cases hn : (bP r.vars (aT r x) q.exprs q.names).2 = 0
  ·rw [if_neg (by simpa using hn),hag] at hcol
   simp only [cT,ne_eq,not_true_eq_false,if_false,List.append_nil] at hcol
   obtain ⟨hl,hinv⟩ := kE r.vars (aT r x) q.exprs q.names (hs.named (.inl k)) hn
   refine ⟨by rw [hmq]; exact hx.pos,by rw [hmq,e]; simpa using hx.len,fun row hrow=>?_⟩
   rw [e] at hrow
   obtain ⟨y,hy,rfl⟩ := List.mem_map.1 hrow
   rw [hcol]
   refine dI.map hl fun i e' c he hc=>?_
   obtain ⟨ht,d,hd,hk,hnl⟩ := hinv i e' he
   rw [hc] at hd
   cases hd
   rw [hk,hnl]
   exact nW hr (hx.fits y hy) ht (h.expr (eC he))
  ·rw [if_pos hn] at ho; exact absurd ho hn
 ·-- inner join
  obtain ⟨x,y,hi⟩ := two (q := q) (by simpa using har)
  have hx := hall x (by rw [hi]; simp)
  have hy := hall y (by rw [hi]; simp)
  have hmq := kI h.most (by omega) hi
  rw [if_neg (by omega),if_pos (.inl k)] at hmq
  rw [hi] at hcol ho
  unfold fW at ho hcol
  rw [if_neg (by omega),if_neg (by omega),if_pos (.inl k)] at ho hcol
  have e : aS r q = iJ (fF r (aT r x ++ aT r y) q) (q.kind == 5) (List.replicate (aT r y).length .nul) (aS r x) (aS r y) := by rw [cV,hi]; unfold cM; rw [if_neg (by omega),if_pos (.inl k)]; rfl
  have hcx : aT r q = gO (aT r x) (aT r y) (q.kind == 5) := hcol
  have hb := oa (fF r (aT r x ++ aT r y) q) (q.kind == 5) (List.replicate (aT r y).length .nul) (aS r x) (aS r y)
  have hxl := hx.len
  have hyl := hy.len
  have hpos := hx.pos
  have h1m : 1 ≤ cC 1 (bl y).1 ∧ ((max 1 (aS r y).length : Nat) : Int) ≤ cC 1 (bl y).1 := ⟨gM _ _,by have := gM 1 (bl y).1; have := ld 1 (bl y).1; omega⟩
  refine ⟨?_,?_,fun row hrow=>?_⟩
  ·rw [hmq]
   exact Int.le_trans hpos (by have := Int.mul_le_mul_of_nonneg_left h1m.1 (show 0 ≤ (bl x).1 by omega); omega)
  ·rw [e,hmq]
   have h2 : (((aS r x).length * max 1 (aS r y).length : Nat) : Int) ≤ (bl x).1 * cC 1 (bl y).1 := by
    rw [Int.natCast_mul]
    exact Int.mul_le_mul hxl h1m.2 (by omega) (by omega)
   omega
  ·rw [e] at hrow
   rw [hcx]
   obtain ⟨u,hu,⟨v,hv,rfl⟩ | ⟨hl,rfl⟩⟩ := joinR_mem hrow
   ·exact join_fits (hx.fits u hu) (hy.fits v hv)
   ·rw [hl]; exact pad_fits (hx.fits u hu)
 ·-- left join
  obtain ⟨x,y,hi⟩ := two (q := q) (by simpa using har)
  have hx := hall x (by rw [hi]; simp)
  have hy := hall y (by rw [hi]; simp)
  have hmq := kI h.most (by omega) hi
  rw [if_neg (by omega),if_pos (.inr k)] at hmq
  rw [hi] at hcol ho
  unfold fW at ho hcol
  rw [if_neg (by omega),if_neg (by omega),if_pos (.inr k)] at ho hcol
  have e : aS r q = iJ (fF r (aT r x ++ aT r y) q) (q.kind == 5) (List.replicate (aT r y).length .nul) (aS r x) (aS r y) := by rw [cV,hi]; unfold cM; rw [if_neg (by omega),if_pos (.inr k)]; rfl
  have hcx : aT r q = gO (aT r x) (aT r y) (q.kind == 5) := hcol
  have hb := oa (fF r (aT r x ++ aT r y) q) (q.kind == 5) (List.replicate (aT r y).length .nul) (aS r x) (aS r y)
  have hxl := hx.len
  have hyl := hy.len
  have hpos := hx.pos
  have h1m : 1 ≤ cC 1 (bl y).1 ∧ ((max 1 (aS r y).length : Nat) : Int) ≤ cC 1 (bl y).1 := ⟨gM _ _,by have := gM 1 (bl y).1; have := ld 1 (bl y).1; omega⟩
  refine ⟨?_,?_,fun row hrow=>?_⟩
  ·rw [hmq]
   exact Int.le_trans hpos (by have := Int.mul_le_mul_of_nonneg_left h1m.1 (show 0 ≤ (bl x).1 by omega); omega)
  ·rw [e,hmq]
   have h2 : (((aS r x).length * max 1 (aS r y).length : Nat) : Int) ≤ (bl x).1 * cC 1 (bl y).1 := by
    rw [Int.natCast_mul]
    exact Int.mul_le_mul hxl h1m.2 (by omega) (by omega)
   omega
  ·rw [e] at hrow
   rw [hcx]
   obtain ⟨u,hu,⟨v,hv,rfl⟩ | ⟨hl,rfl⟩⟩ := joinR_mem hrow
   ·exact join_fits (hx.fits u hu) (hy.fits v hv)
   ·rw [hl]; exact pad_fits (hx.fits u hu)
 ·-- union
  obtain ⟨x,y,hi⟩ := two (q := q) (by simpa using har)
  have hx := hall x (by rw [hi]; simp)
  have hy := hall y (by rw [hi]; simp)
  have hmq := kI h.most (by omega) hi
  rw [if_pos k] at hmq
  rw [hi] at hcol ho
  unfold fW at ho hcol
  rw [if_neg (by omega),if_neg (by omega),if_neg (by omega),if_pos (.inl k)] at ho hcol
  have e : aS r q = aS r x ++ aS r y := by rw [cV,hi]; unfold cM; rw [if_neg (by omega),if_neg (by omega),if_pos k]; rfl
  change (iO q.kind (aT r x) (aT r y)).2 = 0 at ho
  change aT r q = (iO q.kind (aT r x) (aT r y)).1 at hcol
  have := hx.len
  have := hy.len
  have := hx.pos
  have := hy.pos
  refine ⟨by omega,by rw [e,hmq]; simp; omega,fun row hrow=>?_⟩
  rw [e] at hrow
  rw [hcol]
  rcases List.mem_append.1 hrow with hrow | hrow
  ·exact set_fits ho (.inl (hx.fits row hrow))
  ·exact set_fits ho (.inr ⟨k,hy.fits row hrow⟩)
 ·-- difference
  obtain ⟨x,y,hi⟩ := two (q := q) (by simpa using har)
  have hx := hall x (by rw [hi]; simp)
  have hmq := kI h.most (by omega) hi
  rw [if_neg (by omega),if_neg (by omega)] at hmq
  rw [hi] at hcol ho
  unfold fW at ho hcol
  rw [if_neg (by omega),if_neg (by omega),if_neg (by omega),if_pos (.inr k)] at ho hcol
  have e : aS r q = jB (aS r x) (aS r y) := by rw [cV,hi]; unfold cM; rw [if_neg (by omega),if_neg (by omega),if_neg (by omega),if_pos k]; rfl
  change (iO q.kind (aT r x) (aT r y)).2 = 0 at ho
  change aT r q = (iO q.kind (aT r x) (aT r y)).1 at hcol
  have hsub := oe (aS r x) (aS r y)
  have := hsub.length_le
  have := hx.len
  have := hx.pos
  refine ⟨by omega,by rw [e,hmq]; omega,fun row hrow=>?_⟩
  rw [e] at hrow
  rw [hcol]
  exact set_fits ho (.inl (hx.fits row (hsub.subset hrow)))
 ·-- aggregation
  obtain ⟨x,hi⟩ := one (q := q) (by simpa using har)
  have hx := hall x (by rw [hi]; simp)
  have hmq := ml h.most (by omega) hi
  rw [hi] at hcol ho
  unfold fW at ho hcol
  rw [if_neg (by omega),if_neg (by omega),if_neg (by omega),if_neg (by omega),if_pos (.inr k)] at ho hcol
  have e : aS r q = lc r (aT r x) q (aS r x) := by rw [cV,hi]; unfold cM; rw [if_neg (by omega),if_neg (by omega),if_neg (by omega),if_neg (by omega),if_neg (by omega),if_neg (by omega),if_pos k]; rfl
  change (kl r.vars (aT r x) q).2 = 0 at ho
  change aT r q = (kl r.vars (aT r x) q).1 at hcol
  have hxl := hx.len
  have hxp := hx.pos
  have hxm := (fv h.most).2 x (by rw [hi]; simp)
  have hxm1 := (fv hxm).1
  unfold kl at ho hcol
  by_cases hn : (bP r.vars (aT r x) q.exprs q.names).2 = 0
  ·rw [if_neg (by simpa using hn)] at hcol ho
   by_cases hg : (cT r.vars (aT r x) q.aggregates).2 = 0
   ·rw [if_neg (by simpa using hg)] at hcol
    obtain ⟨hl,hinv⟩ := kE r.vars (aT r x) q.exprs q.names (hs.named (.inr k)) hn
    obtain ⟨hl2,hinv2⟩ := nJ r.vars (aT r x) q.aggregates hg
    have hkeys := my (fun x_1=>q.exprs.map fun e=>bG (aP r (aT r x) x_1) e) (aS r x) (if q.exprs = [] then [[]] else [])
    have hlen : ((lc r (aT r x) q (aS r x)).length : Int) ≤ (bl x).1 := by
     unfold lc
     rw [List.length_map]
     by_cases hee : q.exprs = []
     ·-- without keys there is one group
      have : ∀ (l ks : Rows),ks = [[]] → dL (fun x_1=>q.exprs.map fun e=>bG (aP r (aT r x) x_1) e) ks l = [[]] := by
       intro l
       induction l with
       | nil=>intro ks hk; simpa [dL] using hk
       | cons z l ih2 =>
        intro ks hk
        rw [dL]
        refine ih2 _ ?_
        rw [if_pos (by rw [hk,hee]; simp),hk]
      rw [this _ _ (by rw [if_pos hee])]
      simp
      omega
     ·rw [if_neg hee] at hkeys ⊢
      simp at hkeys
      omega
    refine ⟨by rw [hmq]; exact hxp,by rw [hmq,e]; exact hlen,fun row hrow=>?_⟩
    rw [e] at hrow
    rw [hcol]
    unfold lc at hrow
    obtain ⟨kk,hkk,rfl⟩ := List.mem_map.1 hrow
    refine dI.append ?_ ?_
    ·rcases (mA _ _ _ _).1 hkk with hk0 | ⟨y,hy,rfl⟩
     ·split at hk0
      ·rename_i hee
       simp at hk0
       subst hk0
       rw [hee] at hl ⊢
       exact ⟨by simpa using hl.symm,fun i c v hc hv=>by simp at hv⟩
      ·simp at hk0
     ·refine dI.map hl fun i e' c he hc=>?_
      obtain ⟨ht,d,hd,hk,hnl⟩ := hinv i e' he
      rw [hc] at hd
      cases hd
      rw [hk,hnl]
      exact nW hr (hx.fits y hy) ht (h.expr (eC he))
    ·refine ⟨by simp [hl2],fun i c v hc hv=>?_⟩
     rw [List.getElem?_map,Option.map_eq_some_iff] at hv
     obtain ⟨a,ha,rfl⟩ := hv
     obtain ⟨hq,d,hd,hk,hnl⟩ := hinv2 i a ha
     rw [hc] at hd
     cases hd
     rw [hk,hnl]
     refine agg_fits hr hq (fun row hrow=>hx.fits row (List.mem_filter.1 hrow).1) ?_ (h.agg (eC ha))
     unfold dU
     exact Nat.le_trans (List.length_filter_le _ _) (by omega)
   ·rw [if_pos hg] at ho; exact absurd ho hg
  ·rw [if_pos hn] at ho; exact absurd ho hn
 ·-- sort
  obtain ⟨x,hi⟩ := one (q := q) (by simpa using har)
  have hx := hall x (by rw [hi]; simp)
  have hmq := ml h.most (by omega) hi
  rw [hi] at hcol ho
  unfold fW at ho hcol
  rw [if_neg (by omega),if_neg (by omega),if_neg (by omega),if_neg (by omega),if_neg (by omega),if_pos k] at ho hcol
  have hxm := (fv h.most).2 x (by rw [hi]; simp)
  have hxm1 := (fv hxm).1
  have hxl := hx.len
  obtain ⟨l',hsort,hperm⟩ := sort_ok r q (aT r x) (aS r x) (by omega) hself.1
  have e : aS r q = l' := by rw [cV,hi]; unfold cM; rw [if_neg (by omega),if_neg (by omega),if_neg (by omega),if_neg (by omega),if_neg (by omega),if_neg (by omega),if_neg (by omega),if_pos k]; show (ew r q (aT r x) (aS r x)).getD [] = l'; rw [hsort]; rfl
  have hcx : aT r q = aT r x := by
   by_cases hse : hD r.vars (aT r x) q.exprs = 0
   ·exact hcol.trans (by show (if hD r.vars (aT r x) q.exprs ≠ 0 then _ else _ : List LCol × Int).1 = _; rw [if_neg (by simpa using hse)]; rfl)
   ·exact absurd (by
     have : (if hD r.vars (aT r x) q.exprs ≠ 0 then (([],hD r.vars (aT r x) q.exprs) : List LCol × Int) else (aT r x,0)).2 = 0 := ho
     rw [if_pos hse] at this
     exact this) hse
  refine ⟨by rw [hmq]; exact hx.pos,by rw [hmq,e,hperm.length_eq]; exact hxl,fun row hrow=>?_⟩
  rw [e] at hrow
  rw [hcx]
  exact hx.fits row (hperm.mem_iff.1 hrow)
 ·-- limit
  obtain ⟨x,hi⟩ := one (q := q) (by simpa using har)
  have hx := hall x (by rw [hi]; simp)
  have hmq := ml h.most (by omega) hi
  rw [hi] at hcol ho
  unfold fW at ho hcol
  rw [if_neg (by omega),if_neg (by omega),if_neg (by omega),if_neg (by omega),if_neg (by omega),if_neg (by omega)] at ho hcol
  have hcx : aT r q = aT r x := hcol
  have e : aS r q = mQ q (aS r x) := by rw [cV,hi]; unfold cM; rw [if_neg (by omega),if_neg (by omega),if_neg (by omega),if_neg (by omega),if_neg (by omega),if_neg (by omega),if_neg (by omega),if_neg (by omega)]; rfl
  have hsub : (mQ q (aS r x)).Sublist (aS r x) := (List.drop_sublist _ _).trans (List.take_sublist _ _)
  have := hsub.length_le
  have := hx.len
  refine ⟨by rw [hmq]; exact hx.pos,by rw [hmq,e]; omega,fun row hrow=>?_⟩
  rw [e] at hrow
  rw [hcx]
  exact hx.fits row (hsub.subset hrow)
end
end Go.Proofs.YtgaggbdcedpapaaGreat

namespace Go.Proofs.YtgaggbdcedpapaaGreat
noncomputable section
open Go Go.Ab
theorem rowLen {cols : List LCol} {row : List LVal} (h : dI cols row) (hc : cols.length ≤ 20) : row.length ≤ 20 := by rw [h.1]; exact hc
theorem scan_run (st : List LRelation) (name : List UInt8) : af (aH (σ := Unit) (ρ := (Rows)) (fun (_ : Nat) (x1 : LRelation) (_ : Unit)=>cond (x1.table == name) (some (.ret x1.rows)) (some (.next ()))) 0 st ()) (fun fl1=>fl1.thenR fun (_ : Unit)=>some []) =
  some (match st.find? fun x=>x.table == name with | some x=>x.rows | none=>[]) := by
 rw [mM (fun x : LRelation=>x.table == name) (fun _ x=>x.rows) st 0 (fun k x _=>by cases x.table == name <;> rfl)]
 rcases find_idx (fun x : LRelation=>x.table == name) st with ⟨h1,h2⟩ | ⟨x,h1,h2,h3⟩
 ·rw [h1]
  unfold aL at h2
  cases hf : st.findIdx? (fun x=>x.table == name) with
  | none=>rfl
  | some i=>rw [hf] at h2; simp only at h2; omega
 ·rw [h1]
  unfold aL at h2 h3
  cases hf : st.findIdx? (fun x=>x.table == name) with
  | none=>rw [hf] at h2; simp at h2
  | some i =>
   rw [hf] at h3
   simp only [Int.toNat_natCast] at h3
   simp only [h3]
   rfl
theorem limit_run (l : Rows) (q : LQuery) (hl : l.length ≤ 1000000) (hc : 0 ≤ q.count) (ho : 0 ≤ q.offset) :
  ku l (if (l.length : Int) < q.offset then (l.length : Int) else q.offset) (IntKind.i64.wrap ((if (l.length : Int) < q.offset then (l.length : Int) else q.offset) + (if (IntKind.i64.wrap ((l.length : Int) - (if (l.length : Int) < q.offset then (l.length : Int) else q.offset))) < q.count then (IntKind.i64.wrap ((l.length : Int) - (if (l.length : Int) < q.offset then (l.length : Int) else q.offset))) else q.count))) = some (mQ q l) := by
 obtain ⟨o,ho'⟩ : ∃ o : Nat,q.offset = o := ⟨q.offset.toNat,by omega⟩
 obtain ⟨c,hc'⟩ : ∃ c : Nat,q.count = c := ⟨q.count.toNat,by omega⟩
 unfold mQ
 rw [ho',hc',Int.toNat_natCast,Int.toNat_natCast]
 by_cases h1 : (l.length : Int) < (o : Int)
 ·rw [if_pos h1,bd (n := (l.length : Int) - (l.length : Int)) (by omega) (by omega)]
  have e : (if (l.length : Int) - (l.length : Int) < (c : Int) then (l.length : Int) - (l.length : Int) else (c : Int)) = 0 := by split <;> omega
  rw [e,bd (by omega) (by omega),lK ⟨by omega,by omega,by omega⟩]
  congr 1
  rw [List.drop_of_length_le (by simp only [List.length_take]; omega)]
  symm
  exact List.drop_of_length_le (by simp only [List.length_take]; omega)
 ·rw [if_neg h1,bd (n := (l.length : Int) - (o : Int)) (by omega) (by omega)]
  by_cases h2 : (l.length : Int) - (o : Int) < (c : Int)
  ·rw [if_pos h2,bd (by omega) (by omega),lK ⟨by omega,by omega,by omega⟩]
   rw [Int.toNat_natCast,List.take_of_length_le (i := ((o : Int) + ((l.length : Int) - (o : Int))).toNat) (by omega),List.take_of_length_le (i := o + c) (by omega)]
  ·rw [if_neg h2,bd (by omega) (by omega),lK ⟨by omega,by omega,by omega⟩]
   rw [Int.toNat_natCast,show ((o : Int) + (c : Int)).toNat = o + c from by omega]
theorem join_run2 (r : LRun) (q : LQuery) (ca cb : List LCol) (e : LExpr) (he : aF q.exprs 0 = some e) (hee : e = e0Q q) (a b : Rows) (ha : ∀ x ∈ a,x.length ≤ 20) (hb : ∀ x ∈ b,x.length ≤ 20) (hcb : cb.length ≤ 20) (hsz : a.length * max 1 b.length ≤ 30000) (_hk : q.kind = 4 ∨ q.kind = 5) :
  af (aH (σ := List LCol × Rows) (ρ := Empty) (fun (_ : Nat) (x1 : List LVal) (s1 : List LCol × Rows) =>
  af (aH (σ := Rows × Bool) (ρ := Empty) (fun (_ : Nat) (x6 : List LVal) (s6 : Rows × Bool) =>
   af (bt ([x1,x6] : Rows)) fun x58 =>
   af (aF q.exprs 0) fun (x65 : LExpr) =>
   aX (aP r s1.1 x58) fun x62 =>
   aX (bG x62 x65) fun x67 =>
   aX (dG x67) fun x68 =>
   cond x68
    (af (cH 24 s6.1 ([x58] : Rows)) fun (x72 : Rows) =>
    some (.next (x72,true)))
    (some (.next (s6.1,s6.2)))) 0 b (s1.2,false)) fun fl6=>fl6.thenP fun (s6 : Rows × Bool) =>
  aX (
   cond (!s6.2)
    ((q.kind == (5 : Int)))
    (false)) fun (t7 : Bool) =>
  cond t7
   (af (mq 32 (cb.length : Int)) fun (_ : Unit) =>
   af (bt ([x1,(List.replicate (cb.length : Int).toNat (LVal.mk 0 0 []))] : Rows)) fun x87 =>
   af (cH 24 s6.1 ([x87] : Rows)) fun (x89 : Rows) =>
   some (.next (s1.1,x89)))
   (some (.next (s1.1,s6.1)))) 0 a (ca ++ cb,[])) (fun fl1=>fl1.thenP fun (s1 : List LCol × Rows)=>some s1.2) = some (iJ (fF r (ca ++ cb) q) (q.kind == 5) (List.replicate cb.length .nul) a b) := by
 have hpl : ∀ k,k ≤ a.length → (iJ (fF r (ca ++ cb) q) (q.kind == 5) (List.replicate cb.length .nul) (a.take k) b).length ≤ 30000 := fun k hk=>by
  have h1 := oa (fF r (ca ++ cb) q) (q.kind == 5) (List.replicate cb.length .nul) (a.take k) b
  rw [List.length_take,Nat.min_eq_left hk] at h1
  exact Nat.le_trans h1 (Nat.le_trans (Nat.mul_le_mul_right _ hk) hsz)
 rw [rMa (xs := a) (s := (ca ++ cb,[])) (fun k=>(ca ++ cb,iJ (fF r (ca ++ cb) q) (q.kind == 5) (List.replicate cb.length .nul) (a.take k) b)) rfl (fun k x hkx=>by
  have hkl := (List.getElem?_eq_some_iff.1 hkx).1
  have hxm := eC hkx
  have hbl : b.length ≤ 30000 := by
   have h1 : 1 * max 1 b.length ≤ a.length * max 1 b.length := Nat.mul_le_mul_right _ (by omega)
   omega
  have h2 := hpl k (by omega)
  simp only
  rw [match_run (fF r (ca ++ cb) q) e r (ca ++ cb) q.exprs he (fun z=>by rw [hee]; rfl) x (by have := ha x hxm; omega) b _ false (fun y hy=>by have := hb y hy; omega) (by omega),bPs,bL]
  have hs : iJ (fF r (ca ++ cb) q) (q.kind == 5) (List.replicate cb.length .nul) (a.take (k + 1)) b = iJ (fF r (ca ++ cb) q) (q.kind == 5) (List.replicate cb.length .nul) (a.take k) b ++ padR (fF r (ca ++ cb) q) (q.kind == 5) (List.replicate cb.length .nul) x b := by
   unfold iJ
   rw [List.take_add_one,hkx,List.map_append,List.flatten_append]
   simp
  rw [hs]
  simp only [bs,Bool.false_or]
  have hml : (fK (fF r (ca ++ cb) q) x b).length ≤ 30000 := by unfold fK; exact Nat.le_trans (List.length_filter_le _ _) (by simpa using hbl)
  cases hm : fK (fF r (ca ++ cb) q) x b with
  | nil =>
   by_cases h5 : q.kind = 5
   ·have e5 : (q.kind == 5) = true := jp h5
    simp only [e5,List.isEmpty_nil,Bool.not_true,Bool.not_false,cond_true]
    rw [growI_ok ⟨by omega,by omega,by unfold maxLen; omega⟩,bPs,concat2 x _ (by have := ha x hxm; omega) (by simp; omega),bPs]
    rw [e5] at h2
    rw [bI (by decide) (by simp at h2 ⊢; omega),bPs]
    unfold padR
    rw [if_pos ⟨rfl,hm⟩]
    simp [LVal.nul]
   ·have e5 : (q.kind == 5) = false := ct h5
    simp only [e5,List.isEmpty_nil,Bool.not_true,Bool.not_false,cond_true,cond_false]
    unfold padR
    rw [if_neg (by simp),hm]
  | cons z zs =>
   simp only [List.isEmpty_cons,Bool.not_false,Bool.not_true,cond_false]
   unfold padR
   rw [if_neg (by rw [hm]; simp),hm])]
 rw [bPs,bL,List.take_length]
theorem rows_ev {r : LRun} (hr : RunOk r) : ∀ q : LQuery,QOk r q → ∃ N,∀ n,N ≤ n → dK n r q = some (aS r q) := by
 refine LQuery.ind fun q ih h=>?_
 have hs := shape_ok (jJ h.cols).1
 obtain ⟨ho,hcol⟩ := colsR_out h
 have hself := h.small.self
 have hm := (fv h.most).1
 obtain ⟨N,hN⟩ := ev_all (p := fun x n=>dK n r x = some (aS r x)) q.inputs (fun x hx=>ih x hx (h.sub hx))
 have hall : ∀ x ∈ q.inputs,RowsOk r x := fun x hx=>rows_fit hr x (h.sub hx)
 have hsz : ∀ x ∈ q.inputs,(aS r x).length ≤ 20000 := fun x hx=>by
  have h1 := (hall x hx).len
  have h2 := (fv h.most).2 x hx
  have h3 := (fv h2).1
  omega
 have hrow : ∀ x ∈ q.inputs,∀ row ∈ aS r x,row.length ≤ 20 := fun x hx row hrow=>rowLen ((hall x hx).fits row hrow) (iC _ x)
 refine ⟨N + 2,fun n hn=>?_⟩
 obtain ⟨n,rfl⟩ : ∃ k,n = k + 2 := ⟨n - 2,by omega⟩
 rw [dK]
 simp only [iL]
 have kk : q.kind = 1 ∨ q.kind = 2 ∨ q.kind = 3 ∨ q.kind = 4 ∨ q.kind = 5 ∨ q.kind = 6 ∨ q.kind = 7 ∨ q.kind = 8 ∨ q.kind = 9 ∨ q.kind = 10 := by have := hs.kind; omega
 rcases kk with k | k | k | k | k | k | k | k | k | k
 ·rw [jp k,cond_true,scan_run,cV]
  unfold cM
  rw [if_pos k] <;>
   rfl
 all_goals have har := hs.arity
 all_goals rw [k] at har
 all_goals simp only [mf] at har
 ·-- filter
  obtain ⟨x,hi⟩ := one (q := q) (by simpa using har)
  have hxm : x ∈ q.inputs := by rw [hi]; simp
  have e : aS r q = (aS r x).filter (fF r (aT r x) q) := by rw [cV,hi]; unfold cM; rw [if_neg (by omega),if_neg (by omega),if_neg (by omega),if_neg (by omega),if_pos k]; rfl
  have hx := hN (n + 1) (by omega) x hxm
  rw [k,hi,e]
  simp only [aF,bs]
  simp only [show ((2 : Int) == 1) = false from rfl,show ((2 : Int) == 4) = false from rfl,show ((2 : Int) == 5) = false from rfl,show ((2 : Int) == 6) = false from rfl,show ((2 : Int) == 7) = false from rfl,show ((2 : Int) == 2) = true from rfl,cond_false,cond_true,Int.le_refl,if_true,Int.toNat_zero,List.getElem?_cons_zero,bPs]
  rw [hx,bPs,jn (h.small.sub hxm),bPs]
  rw [deleteFunc_eq (aS r x) (fun a=>!fF r (aT r x) q a) _ (fun a _=>by
   unfold fX
   rw [e0_get (by rw [hs.one (.inl k)]; omega)]
   rfl) (by have := hsz x hxm; omega),bPs]
  simp
 ·-- project
  obtain ⟨x,hi⟩ := one (q := q) (by simpa using har)
  have hxm : x ∈ q.inputs := by rw [hi]; simp
  have e : aS r q = (aS r x).map fun y=>q.exprs.map fun e=>bG (aP r (aT r x) y) e := by rw [cV,hi]; unfold cM; rw [if_neg (by omega),if_neg (by omega),if_neg (by omega),if_neg (by omega),if_neg (by omega),if_pos k]; rfl
  have hx := hN (n + 1) (by omega) x hxm
  rw [k,hi,e]
  simp only [aF,bs]
  simp only [show ((3 : Int) == 1) = false from rfl,show ((3 : Int) == 4) = false from rfl,show ((3 : Int) == 5) = false from rfl,show ((3 : Int) == 6) = false from rfl,show ((3 : Int) == 7) = false from rfl,show ((3 : Int) == 2) = false from rfl,show ((3 : Int) == 3) = true from rfl,cond_false,cond_true,Int.le_refl,if_true,Int.toNat_zero,List.getElem?_cons_zero,bPs]
  rw [hx,bPs,jn (h.small.sub hxm),bPs]
  rw [ng (xs := aS r x) (fun y=>q.exprs.map fun e=>bG (aP r (aT r x) y) e) (fun i y hy=>by
   have hil := (List.getElem?_eq_some_iff.1 hy).1
   have := hsz x hxm
   rw [nq r _ _ _ (by omega),bPs,bI (by decide) (by simp; omega),bPs]),bPs,bL]
 ·-- inner join
  obtain ⟨x,y,hi⟩ := two (q := q) (by simpa using har)
  have hxm : x ∈ q.inputs := by rw [hi]; simp
  have hym : y ∈ q.inputs := by rw [hi]; simp
  have hmq := kI h.most (by omega) hi
  rw [if_neg (by omega),if_pos (.inl k)] at hmq
  have e : aS r q = iJ (fF r (aT r x ++ aT r y) q) (q.kind == 5) (List.replicate (aT r y).length .nul) (aS r x) (aS r y) := by rw [cV,hi]; unfold cM; rw [if_neg (by omega),if_pos (.inl k)]; rfl
  have hx := hN n (by omega) x hxm
  have hy := hN n (by omega) y hym
  have hprod : (aS r x).length * max 1 (aS r y).length ≤ 30000 := by
   have h1m : ((max 1 (aS r y).length : Nat) : Int) ≤ cC 1 (bl y).1 := by have := gM 1 (bl y).1; have := ld 1 (bl y).1; have := (hall y hym).len; omega
   have h2 : (((aS r x).length * max 1 (aS r y).length : Nat) : Int) ≤ (bl x).1 * cC 1 (bl y).1 := by
    rw [Int.natCast_mul]
    exact Int.mul_le_mul (hall x hxm).len h1m (by omega) (by have := (hall x hxm).pos; omega)
   have := h.most
   omega
  rw [ct (show q.kind ≠ 1 by omega),jp k]
  simp only [cond_false,cond_true,bs]
  rw [eZ]
  simp only [gR]
  rw [hi]
  have g0 : aF [x,y] 0 = some x := rfl
  have g1 : aF [x,y] 1 = some y := rfl
  simp only [g0,g1,bPs]
  rw [hx,hy]
  simp only [bPs]
  rw [jn (h.small.sub hxm),jn (h.small.sub hym)]
  simp only [bPs]
  rw [bI (by decide) (by have := iC ⟨r.s,r.vars⟩ x; have := iC ⟨r.s,r.vars⟩ y; unfold aT; omega),bPs]
  have he1 : q.exprs.length = 1 := hs.one (.inr (.inl k))
  rw [join_run2 r q (aT r x) (aT r y) (e0Q q) (e0_get (by omega)) rfl (aS r x) (aS r y) (hrow x hxm) (hrow y hym) (iC _ y) hprod (.inl k),bPs,e]
 ·-- left join
  obtain ⟨x,y,hi⟩ := two (q := q) (by simpa using har)
  have hxm : x ∈ q.inputs := by rw [hi]; simp
  have hym : y ∈ q.inputs := by rw [hi]; simp
  have hmq := kI h.most (by omega) hi
  rw [if_neg (by omega),if_pos (.inr k)] at hmq
  have e : aS r q = iJ (fF r (aT r x ++ aT r y) q) (q.kind == 5) (List.replicate (aT r y).length .nul) (aS r x) (aS r y) := by rw [cV,hi]; unfold cM; rw [if_neg (by omega),if_pos (.inr k)]; rfl
  have hx := hN n (by omega) x hxm
  have hy := hN n (by omega) y hym
  have hprod : (aS r x).length * max 1 (aS r y).length ≤ 30000 := by
   have h1m : ((max 1 (aS r y).length : Nat) : Int) ≤ cC 1 (bl y).1 := by have := gM 1 (bl y).1; have := ld 1 (bl y).1; have := (hall y hym).len; omega
   have h2 : (((aS r x).length * max 1 (aS r y).length : Nat) : Int) ≤ (bl x).1 * cC 1 (bl y).1 := by
    rw [Int.natCast_mul]
    exact Int.mul_le_mul (hall x hxm).len h1m (by omega) (by have := (hall x hxm).pos; omega)
   have := h.most
   omega
  rw [ct (show q.kind ≠ 1 by omega),ct (show q.kind ≠ 4 by omega),jp k]
  simp only [cond_false,cond_true,bs]
  rw [eZ]
  simp only [gR]
  rw [hi]
  have g0 : aF [x,y] 0 = some x := rfl
  have g1 : aF [x,y] 1 = some y := rfl
  simp only [g0,g1,bPs]
  rw [hx,hy]
  simp only [bPs]
  rw [jn (h.small.sub hxm),jn (h.small.sub hym)]
  simp only [bPs]
  rw [bI (by decide) (by have := iC ⟨r.s,r.vars⟩ x; have := iC ⟨r.s,r.vars⟩ y; unfold aT; omega),bPs]
  have he1 : q.exprs.length = 1 := hs.one (.inr (.inr k))
  rw [join_run2 r q (aT r x) (aT r y) (e0Q q) (e0_get (by omega)) rfl (aS r x) (aS r y) (hrow x hxm) (hrow y hym) (iC _ y) hprod (.inr k),bPs,e]
 ·-- union
  obtain ⟨x,y,hi⟩ := two (q := q) (by simpa using har)
  have hxm : x ∈ q.inputs := by rw [hi]; simp
  have hym : y ∈ q.inputs := by rw [hi]; simp
  have e : aS r q = aS r x ++ aS r y := by rw [cV,hi]; unfold cM; rw [if_neg (by omega),if_neg (by omega),if_pos k]; rfl
  have hx := hN (n + 1) (by omega) x hxm
  have hy := hN (n + 1) (by omega) y hym
  rw [ct (show q.kind ≠ 1 by omega),ct (show q.kind ≠ 4 by omega),ct (show q.kind ≠ 5 by omega),jp k,hi]
  have g0 : aF [x,y] 0 = some x := rfl
  have g1 : aF [x,y] 1 = some y := rfl
  simp only [cond_false,cond_true,bs,g0,g1,bPs]
  have := hsz x hxm
  have := hsz y hym
  rw [hx,hy]
  simp only [bPs]
  rw [bI (by decide) (by omega),bPs,e]
 ·-- difference
  obtain ⟨x,y,hi⟩ := two (q := q) (by simpa using har)
  have hxm : x ∈ q.inputs := by rw [hi]; simp
  have hym : y ∈ q.inputs := by rw [hi]; simp
  have e : aS r q = jB (aS r x) (aS r y) := by rw [cV,hi]; unfold cM; rw [if_neg (by omega),if_neg (by omega),if_neg (by omega),if_pos k]; rfl
  have hx := hN (n + 1) (by omega) x hxm
  have hy := hN (n + 1) (by omega) y hym
  rw [ct (show q.kind ≠ 1 by omega),ct (show q.kind ≠ 4 by omega),ct (show q.kind ≠ 5 by omega),ct (show q.kind ≠ 6 by omega),jp k,hi]
  have g0 : aF [x,y] 0 = some x := rfl
  have g1 : aF [x,y] 1 = some y := rfl
  simp only [cond_false,cond_true,bs,g0,g1,bPs]
  have := hsz x hxm
  have := hsz y hym
  rw [hx,hy]
  simp only [bPs]
  rw [less_eq _ _ (by omega) (by omega),bPs,e]
 ·-- aggregation
  obtain ⟨x,hi⟩ := one (q := q) (by simpa using har)
  have hxm : x ∈ q.inputs := by rw [hi]; simp
  have e : aS r q = lc r (aT r x) q (aS r x) := by rw [cV,hi]; unfold cM; rw [if_neg (by omega),if_neg (by omega),if_neg (by omega),if_neg (by omega),if_neg (by omega),if_neg (by omega),if_pos k]; rfl
  have hx := hN (n + 1) (by omega) x hxm
  rw [ct (show q.kind ≠ 1 by omega),ct (show q.kind ≠ 4 by omega),ct (show q.kind ≠ 5 by omega),ct (show q.kind ≠ 6 by omega),ct (show q.kind ≠ 7 by omega),ct (show q.kind ≠ 2 by omega),ct (show q.kind ≠ 3 by omega),jp k,hi]
  have g0 : aF [x] 0 = some x := rfl
  simp only [cond_false,cond_true,bs,g0,bPs]
  rw [hx,bPs,jn (h.small.sub hxm),bPs]
  have := hsz x hxm
  rw [group_eq r _ q _ (by omega) hself.1 hself.2,bPs,e]
 ·-- sort
  obtain ⟨x,hi⟩ := one (q := q) (by simpa using har)
  have hxm : x ∈ q.inputs := by rw [hi]; simp
  have := hsz x hxm
  obtain ⟨l',hsort,_⟩ := sort_ok r q (aT r x) (aS r x) (by omega) hself.1
  have e : aS r q = l' := by rw [cV,hi]; unfold cM; rw [if_neg (by omega),if_neg (by omega),if_neg (by omega),if_neg (by omega),if_neg (by omega),if_neg (by omega),if_neg (by omega),if_pos k]; show (ew r q (aT r x) (aS r x)).getD [] = l'; rw [hsort]; rfl
  have hx := hN (n + 1) (by omega) x hxm
  rw [ct (show q.kind ≠ 1 by omega),ct (show q.kind ≠ 4 by omega),ct (show q.kind ≠ 5 by omega),ct (show q.kind ≠ 6 by omega),ct (show q.kind ≠ 7 by omega),ct (show q.kind ≠ 2 by omega),ct (show q.kind ≠ 3 by omega),ct (show q.kind ≠ 8 by omega),jp k,hi]
  have g0 : aF [x] 0 = some x := rfl
  simp only [cond_false,cond_true,bs,g0,bPs]
  rw [hx,bPs,jn (h.small.sub hxm),bPs,hsort,bPs,e]
 ·-- limit
  obtain ⟨x,hi⟩ := one (q := q) (by simpa using har)
  have hxm : x ∈ q.inputs := by rw [hi]; simp
  have e : aS r q = mQ q (aS r x) := by rw [cV,hi]; unfold cM; rw [if_neg (by omega),if_neg (by omega),if_neg (by omega),if_neg (by omega),if_neg (by omega),if_neg (by omega),if_neg (by omega),if_neg (by omega)]; rfl
  have hx := hN (n + 1) (by omega) x hxm
  rw [ct (show q.kind ≠ 1 by omega),ct (show q.kind ≠ 4 by omega),ct (show q.kind ≠ 5 by omega),ct (show q.kind ≠ 6 by omega),ct (show q.kind ≠ 7 by omega),ct (show q.kind ≠ 2 by omega),ct (show q.kind ≠ 3 by omega),ct (show q.kind ≠ 8 by omega),ct (show q.kind ≠ 9 by omega),hi]
  have g0 : aF [x] 0 = some x := rfl
  simp only [cond_false,bs,g0,bPs]
  rw [hx,bPs,jn (h.small.sub hxm),bPs]
  have := hsz x hxm
  rw [limit_run _ q (by omega) (hs.limit k).1 (hs.limit k).2,bPs,e]
theorem rows_eq {r : LRun} (hr : RunOk r) {q : LQuery} (h : QOk r q) : jQ r q = some (aS r q) := by
 obtain ⟨N,hN⟩ := rows_ev hr q h
 exact lI N hN
end
end Go.Proofs.YtgaggbdcedpapaaGreat

namespace Go.Proofs.YtgaggbdcedpapaaGreat
noncomputable section
open Go Go.Ab
def SizeOk (q : LQuery) : Prop := (bO q).length ≤ 24 ∧ gH q ≤ 12 ∧ (bl q).2 ≤ 20000
instance (q : LQuery) : Decidable (SizeOk q) := by unfold SizeOk; infer_instance
theorem check_eq {s : LSchema} {vars : List LCol} {q : LQuery} (h : SmallQ q) : ∃ cs e,eL s vars q = some (cs,e) ∧ (e = 0 ↔ SizeOk q ∧ lL (fA q) ∧ (dt ⟨s,vars⟩ q).2 = 0) ∧ (e = 0 → cs = (dt ⟨s,vars⟩ q).1) := by
 unfold eL
 rw [nodes_ok q h.nodes,bPs]
 by_cases h1 : (bO q).length ≤ 24
 ·rw [decide_eq_false (show ¬ ((bO q).length : Int) > 24 from by omega),cond_false,depth_ok q h.nodes,bPs]
  by_cases h2 : gH q ≤ 12
  ·rw [decide_eq_false (show ¬ gH q > 12 from by omega),cond_false]
   unfold eJ
   rw [most_ok,bPs,bPs]
   by_cases h3 : (bl q).2 ≤ 20000
   ·rw [decide_eq_false (show ¬ (bl q).2 > 20000 from by omega),bPs,cond_false,kinds_ok h.nodes,bPs]
    cases hb : (cR q).2.1 with
    | true =>
     refine ⟨[],13,rfl,⟨fun h=>by omega,fun hh=>?_⟩,fun h=>by omega⟩
     rw [kinds_bad.2 hh.2.1] at hb
     cases hb
    | false =>
     have hk := kinds_bad.1 hb
     simp only [cond_false]
     rw [cols_ok _ q h]
     refine ⟨(dt ⟨s,vars⟩ q).1,(dt ⟨s,vars⟩ q).2,rfl,⟨fun h0=>⟨⟨h1,h2,h3⟩,hk,h0⟩,fun hh=>hh.2.2⟩,fun _=>rfl⟩
   ·rw [decide_eq_true (show (bl q).2 > 20000 from by omega)]
    exact ⟨[],2,rfl,⟨fun h=>by omega,fun hh=>absurd hh.1.2.2 h3⟩,fun h=>by omega⟩
  ·rw [decide_eq_true (show gH q > 12 from by omega)]
   exact ⟨[],2,rfl,⟨fun h=>by omega,fun hh=>absurd hh.1.2.1 h2⟩,fun h=>by omega⟩
 ·rw [decide_eq_true (show ((bO q).length : Int) > 24 from by omega)]
  exact ⟨[],2,rfl,⟨fun h=>by omega,fun hh=>absurd hh.1.1 h1⟩,fun h=>by omega⟩
abbrev gT (s : LSchema) (st : List LRelation) (args : List LVal) : LRun := LRun.mk s st args [] [] []
structure Runs (s : LSchema) (st : List LRelation) (q : LQuery) (args : List LVal) : Prop where
 size : SizeOk q
 kinds : lL (fA q)
 cols : (dt ⟨s,[]⟩ q).2 = 0
 inst : dX s st = some 0
 args : ArgsOk (fA q) args
theorem Runs.instOk {s : LSchema} {st : List LRelation} {q : LQuery} {args : List LVal} (h : Runs s st q args) (hs : kr s) : InstOk s st := by
 obtain ⟨e,he,hok⟩ := conforms hs st
 rw [h.inst] at he
 cases he
 exact hok rfl
theorem Runs.qok {s : LSchema} {st : List LRelation} {q : LQuery} {args : List LVal} (h : Runs s st q args) (hq : SmallQ q) : QOk (gT s st args) q :=
 ⟨hq,h.cols,h.size.2.2,fun i k hm x hx=>(h.args.args i k hm).2.1 i x (Nat.le_refl _) hx⟩
theorem runs_tot {s : LSchema} (hs : kr s) (st : List LRelation) {q : LQuery} (hq : SmallQ q) (args : List LVal) : ∃ b,eX s st q args = some b ∧ (b = true → Runs s st q args) := by
 unfold eX ir
 rw [size_ok,bPs]
 obtain ⟨v,hv⟩ := validate_tot hs
 obtain ⟨cs,e,hc,he,_⟩ := check_eq (s := s) (vars := []) hq
 obtain ⟨f,hf,_⟩ := conforms hs st
 obtain ⟨g,hg,hga⟩ := args_ok hq.nodes args
 unfold jC
 rw [hv,hc,hf,hg]
 simp only [bPs]
 by_cases c1 : km q 400 < 0
 ·rw [decide_eq_true c1]; exact ⟨false,rfl,fun h=>by cases h⟩
 rw [decide_eq_false c1,cond_false,bPs]
 by_cases c2 : v = 0
 ·rw [bneF c2,cond_false,bPs]
  by_cases c3 : e = 0
  ·rw [jp c3,cond_true]
   by_cases c4 : (args.length : Int) ≤ 20
   ·rw [decide_eq_true c4,cond_true]
    by_cases c5 : f = 0
    ·rw [jp c5,cond_true]
     refine ⟨g == 0,rfl,fun hg0=>?_⟩
     have hg0 : g = 0 := by simpa using hg0
     obtain ⟨a,b,c⟩ := he.1 c3
     exact ⟨a,b,c,by rw [hf,c5],hga.1 hg0⟩
    ·rw [ct c5]; exact ⟨false,rfl,fun h=>by cases h⟩
   ·rw [decide_eq_false c4]; exact ⟨false,rfl,fun h=>by cases h⟩
  ·rw [ct c3]; exact ⟨false,rfl,fun h=>by cases h⟩
 ·rw [jO c2]; exact ⟨false,rfl,fun h=>by cases h⟩
theorem kP {s : LSchema} (hs : kr s) {st : List LRelation} {q : LQuery} (hq : SmallQ q) {args : List LVal} (h : Runs s st q args) :
  dh s st q args = some (LResult.mk (aT (gT s st args) q) (aS (gT s st args) q),true) := by
 unfold dh fL fQ
 obtain ⟨cs,e,hc,he,hcs⟩ := check_eq (s := s) (vars := []) hq
 obtain ⟨g,hg,hga⟩ := args_ok hq.nodes args
 have e0 := he.2 ⟨h.size,h.kinds,h.cols⟩
 have g0 := hga.2 h.args
 have hr : RunOk (gT s st args) := ⟨rfl,rfl,rfl,h.instOk hs⟩
 have hok := rows_fit hr q (h.qok hq)
 have hlen : (aS (gT s st args) q).length ≤ 20000 := by
  have h1 := hok.len
  have h2 := h.size.2.2
  have h3 := (fv h2).1
  omega
 rw [hc,hg,h.inst]
 simp only [bPs]
 rw [bneF e0,bneF g0,cond_false,cond_false]
 simp only [aH,bPs,bL,bne_self_eq_false,cond_false]
 rw [rows_eq hr (h.qok hq),bPs]
 rw [ng (xs := aS (gT s st args) q) id (fun k x hk=>by
  have := (List.getElem?_eq_some_iff.1 hk).1
  rw [bI (by decide) (by simp; omega),bPs]
  rfl),bPs,bL,bPs,bPs,hcs e0]
 simp [aT]
theorem scans_ok : gp = some true := by
 unfold gp
 have hin : ((LQuery.mk 1 [116] [] [] [] [] 0 0 []) : LQuery).inputs = [] := rfl
 have hnodes : bO (LQuery.mk 1 [116] [] [] [] [] 0 0 []) = [LQuery.mk 1 [116] [] [] [] [] 0 0 []] := by rw [fU,hin]; rfl
 have hparams : fA (LQuery.mk 1 [116] [] [] [] [] 0 0 []) = [] := by unfold fA; rw [hnodes]; rfl
 have hq : SmallQ (LQuery.mk 1 [116] [] [] [] [] 0 0 []) := ⟨by rw [hnodes]; decide,fun x hx=>by rw [hnodes] at hx; simp at hx; subst hx; exact ⟨by decide,by decide⟩⟩
 have hs : kr (LSchema.mk [(LTable.mk [116] [(LCol.mk [97] 1 false)] [0])] [] []) := fun t ht=>by simp at ht; subst ht; decide
 have hcols : dt ⟨LSchema.mk [(LTable.mk [116] [(LCol.mk [97] 1 false)] [0])] [] [],[]⟩ (LQuery.mk 1 [116] [] [] [] [] 0 0 []) = ([LCol.mk [97] 1 false],0) := by
  rw [nB,hin]
  rfl
 have hruns : Runs (LSchema.mk [(LTable.mk [116] [(LCol.mk [97] 1 false)] [0])] [] []) [(LRelation.mk [116] [[(LVal.mk 1 1 [])],[(LVal.mk 1 2 [])]])] (LQuery.mk 1 [116] [] [] [] [] 0 0 []) [] := by
  refine ⟨⟨by rw [hnodes]; decide,by rw [mz,hin]; decide,by rw [jP,hin]; decide⟩,by rw [hparams]; intro i k k' a; simp at a,by rw [hcols],?_,⟨by rw [hparams]; intro i k k' a; simp at a,by rw [hparams]; intro i k a; simp at a⟩⟩
  rfl
 have he := kP hs hq hruns
 unfold dh at he
 cases ho : fL (LSchema.mk [(LTable.mk [116] [(LCol.mk [97] 1 false)] [0])] [] []) [(LRelation.mk [116] [[(LVal.mk 1 1 [])],[(LVal.mk 1 2 [])]])] (LQuery.mk 1 [116] [] [] [] [] 0 0 []) [] with
 | none=>rw [ho] at he; cases he
 | some o =>
  rw [ho,bPs] at he
  simp only [Option.some.injEq,Prod.mk.injEq] at he
  rw [bPs]
  rw [he.2,he.1,cond_true,cV,hin]
  rfl
theorem eqLoop {α : Type} [DecidableEq α] (x y : List α) (hl : x.length = y.length) (g : α → α → Option Bool) (hg : ∀ a ∈ x,∀ b,g a b = some (decide (a = b))) :
  af (aH (σ := Unit) (ρ := (Bool)) (fun (j1 : Nat) (x1 : α) (_ : Unit)=>af (aF y (j1 : Int)) fun (x24 : α)=>af (g x1 x24) fun x29=>cond (!x29) (some (.ret false)) (some (.next ()))) 0 x ()) (fun fl1=>fl1.thenR fun (_ : Unit)=>some true) = some (decide (x = y)) := by
 obtain ⟨fl,hfl,hr⟩ := ep (step := fun (j1 : Nat) (x1 : α) (_ : Unit)=>af (aF y (j1 : Int)) fun (x24 : α)=>af (g x1 x24) fun x29=>cond (!x29) (some (Flow.ret false)) (some (.next ())))
   (fun j _=>x.take j = y.take j) (fun r=>r = false ∧ x ≠ y) x 0 () (by simp) (fun k v s hk hI=>by
    simp only [Nat.zero_add] at hI ⊢
    have hkl := (List.getElem?_eq_some_iff.1 hk).1
    rw [fw (by omega),bPs,hg v (eC hk),bPs]
    by_cases hv : v = y[k]
    ·rw [decide_eq_true hv]
     refine ⟨_,rfl,?_⟩
     simp only
     rw [List.take_add_one,List.take_add_one,hk,List.getElem?_eq_getElem (by omega),hI,hv]
    ·rw [decide_eq_false hv]
     refine ⟨_,rfl,rfl,fun he=>hv ?_⟩
     subst he
     exact (List.getElem?_eq_some_iff.1 hk).2.symm)
 rw [hfl,bPs]
 cases fl with
 | brk s=>exact absurd hr (by simp)
 | ret r=>rw [lH,hr.1,decide_eq_false hr.2]
 | next s =>
  simp only [Nat.zero_add,List.take_length] at hr
  rw [hl,List.take_length] at hr
  rw [gw,decide_eq_true hr]
theorem pe (a b : Rows) : eB a b = some (decide (a = b)) := by
 unfold eB bQ
 by_cases hl : a.length = b.length
 ·rw [lz,decide_eq_true hl,Bool.not_true,cond_false,eqLoop a b hl _ (fun x _ y=>by unfold eT; rw [equalRow]; rfl),bPs]
 ·rw [lz,decide_eq_false hl,decide_eq_false (fun h=>hl (by rw [h]))]
  rfl
end
end Go.Proofs.YtgaggbdcedpapaaGreat

namespace Go.Proofs.YtgaggbdcedpapaaGreat
noncomputable section
open Go Go.Ab
structure TinyQ (q : LQuery) : Prop where
 nodes : (bO q).length ≤ 2000000
 here : ∀ x ∈ bO q,x.exprs.length ≤ 1000000 ∧ x.aggregates.length ≤ 1000000
end
end Go.Proofs.YtgaggbdcedpapaaGreat

namespace Go.Proofs.YtgaggbdcedpapaaGreat
noncomputable section
open Go Go.Ab
theorem mB {H : Type} : ∀ ds : List (DataW H),(ds.map (fun d=>Rows.uptoBulk d)).sum = Rows.uptoBulkAll ds
 | []=>by simp [Rows.uptoBulkAll]
 | d :: ds=>by simp only [List.map_cons,List.sum_cons,Rows.uptoBulkAll,mB ds]
theorem bulk_is : IsBulk (fun _ d=>Rows.uptoBulk d) where
 one := by
  intro H d
  cases d with
  | lit l=>cases l <;> simp [Rows.uptoBulk]
  | nil=>simp [Rows.uptoBulk]
  | ptr d=>simp [Rows.uptoBulk]
  | slice elems spare=>simp [Rows.uptoBulk]
  | agg parts=>simp [Rows.uptoBulk]
  | iface t d=>simp [Rows.uptoBulk]
  | map entries=>simp [Rows.uptoBulk]
  | held h=>simp [Rows.uptoBulk]
 str := by intro H l; simp [Rows.uptoBulk]
 slice := by intro H a b; rw [mB]; simp only [Rows.uptoBulk]; omega
 agg := by intro H a; rw [mB]; simp only [Rows.uptoBulk]; omega
theorem kq {r : List PV} : ∀ {rs : List (List PV)},r ∈ rs → aV r ≤ eI rs
 | x :: rs,h=>by
  simp only [eI]
  rcases List.mem_cons.1 h with rfl | h
  ·omega
  ·have := kq h; omega
theorem iY {α : Type} {f : α → List PV} {k : Nat} (hf : ∀ x,k ≤ aV (f x)) : ∀ l : List α,k * l.length ≤ eI (l.map f)
 | []=>by simp
 | x :: l=>by
  have := iY hf l
  have := hf x
  simp only [List.map_cons,eI,List.length_cons,Nat.mul_add]
  omega
theorem expr_pos (e : LExpr) : 2 ≤ aV (ax e) := by
 cases e; simp only [ax,aV,PV.bulk]; omega
theorem call_pos (c : LAggregateCall) : 2 ≤ aV (bp c) := by
 simp only [bp,aV,PV.bulk]; omega
theorem smallS_bulk {s : LSchema} {n : Nat} (hn : n ≤ 10000000) (h : aV (da s) ≤ n) : kr s := by
 intro t ht
 have h1 : eI (s.tables.map aO) ≤ aV (da s) := by
  simp only [da,aV,PV.bulk]; omega
 have h2 := kq (List.mem_map_of_mem (f := aO) ht)
 have h3 : eI (t.primaryKey.map aW) ≤ aV (aO t) := by
  simp only [aO,aV,PV.bulk]; omega
 have h4 := iY (f := aW) (k := 1) (fun x=>by simp [aV,PV.bulk]) t.primaryKey
 omega
theorem nodes_bulk : ∀ q : LQuery,(bO q).length + 1 ≤ aV (aC q) ∧ ∀ x ∈ bO q,2 * x.exprs.length ≤ aV (aC q) ∧ 2 * x.aggregates.length ≤ aV (aC q) := by
 apply LQuery.ind
 intro q ih
 have e : aV (aC q) = aV (aQ q) := by rw [bM]
 have hr : eI (q.inputs.map aC) + 8 ≤ aV (aQ q) := by
  simp only [aQ,aV,PV.bulk]; omega
 have hsum : ∀ l : List LQuery,(∀ x ∈ l,x ∈ q.inputs) → ((l.map bO).flatten).length + l.length ≤ eI (l.map aC) := by
  intro l
  induction l with
  | nil=>intro _; simp
  | cons x l ihl =>
   intro hm
   have h1 := (ih x (hm x (by simp))).1
   have h2 := ihl (fun y hy=>hm y (by simp [hy]))
   simp only [List.map_cons,List.flatten_cons,List.length_append,List.length_cons,eI]
   omega
 have h0 := hsum q.inputs (fun _ h=>h)
 rw [e]
 refine ⟨?_,fun x hx=>?_⟩
 ·rw [fU]; simp only [List.length_cons]; omega
 ·rw [fU] at hx
  rcases List.mem_cons.1 hx with rfl | hx
  ·have h1 := iY expr_pos x.exprs
   have h2 := iY call_pos x.aggregates
   constructor
   ·simp only [aQ,aV,PV.bulk]; omega
   ·simp only [aQ,aV,PV.bulk]; omega
  ·simp only [List.mem_flatten,List.mem_map] at hx
   obtain ⟨l,⟨y,hy,rfl⟩,hx⟩ := hx
   have h1 := (ih y hy).2 x hx
   have h2 := kq (List.mem_map_of_mem (f := aC) hy)
   omega
theorem tiny_bulk {q : LQuery} {n : Nat} (hn : n ≤ 1048576) (h : aV (aQ q) ≤ n) : TinyQ q := by
 rw [← bM] at h
 have := nodes_bulk q
 exact ⟨by omega,fun x hx=>by have := this.2 x hx; omega⟩
end
end Go.Proofs.YtgaggbdcedpapaaGreat

namespace Go.Proofs.YtgaggbdcedpapaaGreat
noncomputable section
open Go Go.Ab
theorem wr_id {n : Int} (h1 : -9223372036854775808 ≤ n) (h2 : n ≤ 9223372036854775807) : wr n = n := bd h1 h2
theorem args_lt {e a : LExpr} (h : a ∈ e.args) : SizeOf.sizeOf a < SizeOf.sizeOf e := by
 cases e
 have := List.sizeOf_lt_of_mem (show a ∈ _ from h)
 simp only [LExpr.mk.sizeOf_spec,LExpr.args] at *
 omega
theorem and_true (a b : LVal) : dG (ms a b 0) = (dG a && dG b) := by
 have w1 : wr (1 - 0) = 1 := (wr_id (by omega) (by omega)).trans (by omega)
 have x : ∀ c : LVal,(c.kind == 2 && c.int == 0) = true → (c.kind == 2 && c.int == 1) = false := by
  intro c h
  simp only [Bool.and_eq_true,beq_iff_eq] at h
  simp [h.1,h.2]
 unfold ms
 rw [w1]
 have fa : dG a = (a.kind == 2 && a.int == 1) := rfl
 have fb : dG b = (b.kind == 2 && b.int == 1) := rfl
 rw [fa,fb]
 cases ha0 : (a.kind == 2 && a.int == 0)
 ·cases hb0 : (b.kind == 2 && b.int == 0)
  ·cases (a.kind == 2 && a.int == 1) <;> cases (b.kind == 2 && b.int == 1) <;> rfl
  ·rw [x b hb0]
   cases (a.kind == 2 && a.int == 1) <;> rfl
 ·rw [x a ha0]
  cases (b.kind == 2 && b.int == 1) <;> rfl
theorem oper_and (v : LEnv) (a b : LExpr) : dG (bG v (oper [97,110,100] [a,b])) = (dG (bG v a) && dG (bG v b)) := by
 rw [eval_oper]
 simp only [List.map_cons,List.map_nil]
 exact and_true _ _
theorem bulk_arg {e a : LExpr} (h : a ∈ e.args) : aV (ax a) ≤ aV (ax e) := by
 have h1 := kq (List.mem_map_of_mem (f := ax) h)
 rw [bA e]
 simp only [cZ,aV,PV.bulk]
 omega
theorem args_bulk (e : LExpr) : e.args.length ≤ aV (ax e) := by
 have h1 := iY expr_pos e.args
 rw [bA e]
 simp only [cZ,aV,PV.bulk]
 omega
theorem subst_id : ∀ (n : Nat) (e : LExpr),SizeOf.sizeOf e ≤ n → aV (ax e) ≤ 1048576 → dr (n + 1) e [] [] = some e
 | 0,e,h,_=>by cases e; simp at h
 | n + 1,e,h,hb=>by
  have ih := fun a (ha : a ∈ e.args)=>subst_id n a (by have := args_lt ha; omega) (by have := bulk_arg ha; omega)
  have hl := args_bulk e
  rw [dr]
  unfold iq
  have hi : cF [] e.name = some (-1) := rfl
  rw [hi]
  have hr := rMa (step := fun (_ : Nat) (x2 : LExpr) (s2 : List LExpr)=>af (dr (n + 1) x2 [] []) fun x45=>af (cH 88 s2 ([x45] : List LExpr)) fun (x47 : List LExpr)=>some (Flow.next (ρ := Empty) x47)) (xs := e.args) (s := [])
   (fun k=>e.args.take k) (by simp) (fun k x hk=>by
    have hkl := (List.getElem?_eq_some_iff.1 hk).1
    rw [ih x (eC hk),bPs,bI (by decide) (by simp; omega),bPs,List.take_add_one,hk]
    rfl)
  rw [hr]
  cases e.kind == 2 <;> cases e <;> simp [bPs,Flow.thenR,Flow.thenP,LExpr.kind,LExpr.name,LExpr.index,LExpr.value,LExpr.args]
theorem clone_eq {e : LExpr} (hb : aV (ax e) ≤ 1048576) : iU e = some e := by
 unfold iU
 refine lI (SizeOf.sizeOf e + 2) fun m hm=>?_
 obtain ⟨m,rfl⟩ : ∃ k,m = k + 2 := ⟨m - 2,by omega⟩
 rw [gG]
 unfold jZ
 show (af (dr (m + 1) e [] []) fun x4=>some x4) = some e
 rw [subst_id m e (by omega) hb]
 rfl
theorem conjoin2 {a b : LExpr} (ha : aV (ax a) ≤ 1048576) (hb : aV (ax b) ≤ 1048576) : iB [a,b] = some (oper [97,110,100] [a,b]) := by
 unfold iB
 have h1 : aF [a,b] 0 = some a := rfl
 have h2 : ku [a,b] 1 (([a,b] : List LExpr).length : Int) = some [b] := by
  rw [lK ⟨by omega,by simp,by simp⟩]
  rfl
 rw [show ((([a,b] : List LExpr).length : Int) == 0) = false from rfl,cond_false,h1,bPs,clone_eq ha,bPs,h2,bPs]
 rw [jx (fun a b=>oper [97,110,100] [a,b]) (fun k y hk=>by
  have : y = b := by simpa using eC hk
  subst this
  rw [clone_eq hb]
  rfl)]
 rfl
theorem filter_rows (r : LRun) (x : LQuery) (p : LExpr) : aS r (bo p x) = (aS r x).filter fun y=>dG (bG (aP r (aT r x) y) p) := by
 have k : (bo p x).kind = 2 := rfl
 rw [cV]
 unfold cM
 rw [if_neg (by omega),if_neg (by omega),if_neg (by omega),if_neg (by omega),if_pos k]
 rfl
theorem oV {c : LChecker} {x : LQuery} {p : LExpr} (h : (dt c (bo p x)).2 = 0) : (dt c (bo p x)).1 = (dt c x).1 := by
 have k : (bo p x).kind = 2 := rfl
 have h1 := (jJ h).2.2.2.1
 unfold fW at h1
 rw [if_neg (by omega),if_pos k] at h1
 exact h1
structure TinyN (n : Nat) (q : LQuery) : Prop where
 nodes : (bO q).length ≤ 2000000 + n
 here : ∀ x ∈ bO q,x.exprs.length ≤ 1000000 ∧ x.aggregates.length ≤ 1000000
theorem TinyN.small {n : Nat} {q : LQuery} (h : TinyN n q) (hn : n ≤ 1000000) : SmallQ q := ⟨by have := h.nodes; omega,h.here⟩
theorem TinyN.filter {n : Nat} {q : LQuery} (h : TinyN n q) (p : LExpr) : TinyN (n + 1) (bo p q) := by
 have hi : (bo p q).inputs = [q] := rfl
 refine ⟨?_,fun y hy=>?_⟩
 ·rw [fU,hi]; have := h.nodes; simp; omega
 ·rw [fU,hi] at hy
  rcases List.mem_cons.1 hy with rfl | hy
  ·exact ⟨show (1 : Nat) ≤ 1000000 by omega,show (0 : Nat) ≤ 1000000 by omega⟩
  ·exact h.here y (by simpa using hy)
theorem oA {s : LSchema} (hs : kr s) (st : List LRelation) {q : LQuery} (hq : TinyQ q) {p rA : LExpr} (hp : aV (cZ p) ≤ 1048576) (hrA : aV (cZ rA) ≤ 1048576) (args : List LVal) : dP s st q p rA args = some true := by
 rw [← bA] at hp hrA
 unfold dP
 rw [scans_ok,bPs]
 simp only [Bool.not_true,cond_false,bs]
 rw [conjoin2 hrA hp,bPs]
 have t0 : TinyN 0 q := ⟨hq.nodes,hq.here⟩
 have sA := ((t0.filter rA).filter p).small (by omega)
 have sB := ((t0.filter p).filter rA).small (by omega)
 have sC := (t0.filter (oper [97,110,100] [rA,p])).small (by omega)
 obtain ⟨ba,hba,hra⟩ := runs_tot hs st sA args
 obtain ⟨bb,hbb,hrb⟩ := runs_tot hs st sB args
 obtain ⟨bc,hbc,hrc⟩ := runs_tot hs st sC args
 rw [hba,hbb,hbc]
 cases decide (fo p 60 < 0)
 ·cases decide (fo rA 60 < 0)
  ·cases ba
   ·rfl
   ·cases bb
    ·rfl
    ·cases bc
     ·rfl
     ·have rA' := hra rfl
      have rB' := hrb rfl
      have rC' := hrc rfl
      simp only [cond_false,bPs,Bool.not_true]
      rw [kP hs sA rA',kP hs sB rB',kP hs sC rC']
      simp only [bPs,cond_true]
      have ca : aT (gT s st args) (bo rA q) = aT (gT s st args) q := oV ((jJ rA'.cols).2.1 _ (by simp [bo,LQuery.inputs]))
      have cb : aT (gT s st args) (bo p q) = aT (gT s st args) q := oV ((jJ rB'.cols).2.1 _ (by simp [bo,LQuery.inputs]))
      rw [pe,pe]
      simp only [filter_rows,ca,cb,List.filter_filter,oper_and]
      have e : ∀ y,(dG (bG (aP (gT s st args) (aT (gT s st args) q) y) p) && dG (bG (aP (gT s st args) (aT (gT s st args) q) y) rA)) = (dG (bG (aP (gT s st args) (aT (gT s st args) q) y) rA) && dG (bG (aP (gT s st args) (aT (gT s st args) q) y) p)) := fun y=>Bool.and_comm _ _
      simp only [e,decide_true,bPs,cond_true]
  ·rfl
 ·rfl
end
end Go.Proofs.YtgaggbdcedpapaaGreat

namespace Go.Proofs.YtgaggbdcedpapaaGreat
noncomputable section
open Go Go.Ab
theorem own_knob : ownKnob Tryz.prog.godebug = none := by kernel_rfl
theorem laid_out : laidOutB Tryz.prog = true := by kernel_rfl
def lawTypes : List TypeId := [26,22,91,9,39,50,3,4,89,23,142,24,148,53,28,87,40,51,35,29,30,56,31,66,32,33,36]
theorem lawTypes_ok : lawTypes.all (okT Tryz.prog lawTypes) = true := by kernel_rfl
theorem lawTypes_info : ∀ t ∈ lawTypes,∃ i,Tryz.prog.info? t = some i ∧ i.bytes = Tryz.prog.bytesOf t ∧ i.size = Tryz.prog.cellsOf t := infos_of (by kernel_rfl)
theorem sh9 {n : Nat} {pvs : List PV} (h : Sh Tryz.prog n 9 pvs) : ∃ v : List UInt8,pvs = [.str v] := by
 cases n with
 | zero=>simp [Sh] at h
 | succ n=>simp only [Sh,Tryz.underlying9] at h; obtain ⟨m,rfl,_⟩ := h; exact ⟨m,rfl⟩
theorem sh3 {n : Nat} {pvs : List PV} (h : Sh Tryz.prog n 3 pvs) : ∃ v : Int,pvs = [ac v] := by
 cases n with
 | zero=>simp [Sh] at h
 | succ n=>simp only [Sh,Tryz.underlying3] at h; obtain ⟨m,rfl,_⟩ := h; exact ⟨m,rfl⟩
theorem sh4 {n : Nat} {pvs : List PV} (h : Sh Tryz.prog n 4 pvs) : ∃ v : Bool,pvs = [au v] := by
 cases n with
 | zero=>simp [Sh] at h
 | succ n=>simp only [Sh,Tryz.underlying4] at h; obtain ⟨m,rfl⟩ := h; exact ⟨m,rfl⟩
theorem sh50 {n : Nat} {pvs : List PV} (h : Sh Tryz.prog n 50 pvs) : ∃ v : LCol,pvs = av v := by
 cases n with
 | zero=>simp [Sh] at h
 | succ n =>
  simp only [Sh,Tryz.underlying50,List.map_cons,List.map_nil,ff] at h
  obtain ⟨p0,r0,rfl,h0,p1,r1,rfl,h1,p2,r2,rfl,h2,rfl⟩ := h
  obtain ⟨v0,rfl⟩ := sh9 h0
  obtain ⟨v1,rfl⟩ := sh3 h1
  obtain ⟨v2,rfl⟩ := sh4 h2
  exact ⟨LCol.mk v0 v1 v2,rfl⟩
theorem sh39 {n : Nat} {pvs : List PV} (h : Sh Tryz.prog n 39 pvs) : ∃ v : List LCol,pvs = [.list 50 (v.map av)] := by
 cases n with
 | zero=>simp [Sh] at h
 | succ n =>
  simp only [Sh,Tryz.underlying39] at h
  obtain ⟨rows,rfl,hr⟩ := h
  obtain ⟨xs,rfl⟩ := gJ (f := av) (fun r hq=>sh50 (hr r hq))
  exact ⟨xs,rfl⟩
theorem sh89 {n : Nat} {pvs : List PV} (h : Sh Tryz.prog n 89 pvs) : ∃ v : List Int,pvs = [.list 3 (v.map aW)] := by
 cases n with
 | zero=>simp [Sh] at h
 | succ n =>
  simp only [Sh,Tryz.underlying89] at h
  obtain ⟨rows,rfl,hr⟩ := h
  obtain ⟨xs,rfl⟩ := gJ (f := aW) (fun r hq=>let ⟨v,e⟩ := sh3 (hr r hq); ⟨v,e⟩)
  exact ⟨xs,rfl⟩
theorem sh91 {n : Nat} {pvs : List PV} (h : Sh Tryz.prog n 91 pvs) : ∃ v : LTable,pvs = aO v := by
 cases n with
 | zero=>simp [Sh] at h
 | succ n =>
  simp only [Sh,Tryz.underlying91,List.map_cons,List.map_nil,ff] at h
  obtain ⟨p0,r0,rfl,h0,p1,r1,rfl,h1,p2,r2,rfl,h2,rfl⟩ := h
  obtain ⟨v0,rfl⟩ := sh9 h0
  obtain ⟨v1,rfl⟩ := sh39 h1
  obtain ⟨v2,rfl⟩ := sh89 h2
  exact ⟨LTable.mk v0 v1 v2,rfl⟩
theorem sh22 {n : Nat} {pvs : List PV} (h : Sh Tryz.prog n 22 pvs) : ∃ v : List LTable,pvs = [.list 91 (v.map aO)] := by
 cases n with
 | zero=>simp [Sh] at h
 | succ n =>
  simp only [Sh,Tryz.underlying22] at h
  obtain ⟨rows,rfl,hr⟩ := h
  obtain ⟨xs,rfl⟩ := gJ (f := aO) (fun r hq=>sh91 (hr r hq))
  exact ⟨xs,rfl⟩
theorem sh142 {n : Nat} {pvs : List PV} (h : Sh Tryz.prog n 142 pvs) : ∃ v : LForeignKey,pvs = bF v := by
 cases n with
 | zero=>simp [Sh] at h
 | succ n =>
  simp only [Sh,Tryz.underlying142,List.map_cons,List.map_nil,ff] at h
  obtain ⟨p0,r0,rfl,h0,p1,r1,rfl,h1,p2,r2,rfl,h2,rfl⟩ := h
  obtain ⟨v0,rfl⟩ := sh9 h0
  obtain ⟨v1,rfl⟩ := sh89 h1
  obtain ⟨v2,rfl⟩ := sh9 h2
  exact ⟨LForeignKey.mk v0 v1 v2,rfl⟩
theorem sh23 {n : Nat} {pvs : List PV} (h : Sh Tryz.prog n 23 pvs) : ∃ v : List LForeignKey,pvs = [.list 142 (v.map bF)] := by
 cases n with
 | zero=>simp [Sh] at h
 | succ n =>
  simp only [Sh,Tryz.underlying23] at h
  obtain ⟨rows,rfl,hr⟩ := h
  obtain ⟨xs,rfl⟩ := gJ (f := bF) (fun r hq=>sh142 (hr r hq))
  exact ⟨xs,rfl⟩
theorem sh53 {n : Nat} {pvs : List PV} (h : Sh Tryz.prog n 53 pvs) : ∃ v : LVal,pvs = ae v := by
 cases n with
 | zero=>simp [Sh] at h
 | succ n =>
  simp only [Sh,Tryz.underlying53,List.map_cons,List.map_nil,ff] at h
  obtain ⟨p0,r0,rfl,h0,p1,r1,rfl,h1,p2,r2,rfl,h2,rfl⟩ := h
  obtain ⟨v0,rfl⟩ := sh3 h0
  obtain ⟨v1,rfl⟩ := sh3 h1
  obtain ⟨v2,rfl⟩ := sh9 h2
  exact ⟨LVal.mk v0 v1 v2,rfl⟩
theorem sh148 {n : Nat} {pvs : List PV} (h : Sh Tryz.prog n 148 pvs) : ∃ v : LConstraint,pvs = bJ v := by
 cases n with
 | zero=>simp [Sh] at h
 | succ n =>
  simp only [Sh,Tryz.underlying148,List.map_cons,List.map_nil,ff] at h
  obtain ⟨p0,r0,rfl,h0,p1,r1,rfl,h1,p2,r2,rfl,h2,p3,r3,rfl,h3,p4,r4,rfl,h4,rfl⟩ := h
  obtain ⟨v0,rfl⟩ := sh9 h0
  obtain ⟨v1,rfl⟩ := sh3 h1
  obtain ⟨v2,rfl⟩ := sh9 h2
  obtain ⟨v3,rfl⟩ := sh3 h3
  obtain ⟨v4,rfl⟩ := sh53 h4
  exact ⟨LConstraint.mk v0 v1 v2 v3 v4,rfl⟩
theorem sh24 {n : Nat} {pvs : List PV} (h : Sh Tryz.prog n 24 pvs) : ∃ v : List LConstraint,pvs = [.list 148 (v.map bJ)] := by
 cases n with
 | zero=>simp [Sh] at h
 | succ n =>
  simp only [Sh,Tryz.underlying24] at h
  obtain ⟨rows,rfl,hr⟩ := h
  obtain ⟨xs,rfl⟩ := gJ (f := bJ) (fun r hq=>sh148 (hr r hq))
  exact ⟨xs,rfl⟩
theorem sh26 {n : Nat} {pvs : List PV} (h : Sh Tryz.prog n 26 pvs) : ∃ v : LSchema,pvs = da v := by
 cases n with
 | zero=>simp [Sh] at h
 | succ n =>
  simp only [Sh,Tryz.underlying26,List.map_cons,List.map_nil,ff] at h
  obtain ⟨p0,r0,rfl,h0,p1,r1,rfl,h1,p2,r2,rfl,h2,rfl⟩ := h
  obtain ⟨v0,rfl⟩ := sh22 h0
  obtain ⟨v1,rfl⟩ := sh23 h1
  obtain ⟨v2,rfl⟩ := sh24 h2
  exact ⟨LSchema.mk v0 v1 v2,rfl⟩
theorem sh51 {n : Nat} {pvs : List PV} (h : Sh Tryz.prog n 51 pvs) : ∃ v : List LVal,pvs = [.list 53 (v.map ae)] := by
 cases n with
 | zero=>simp [Sh] at h
 | succ n =>
  simp only [Sh,Tryz.underlying51] at h
  obtain ⟨rows,rfl,hr⟩ := h
  obtain ⟨xs,rfl⟩ := gJ (f := ae) (fun r hq=>sh53 (hr r hq))
  exact ⟨xs,rfl⟩
theorem sh40 {n : Nat} {pvs : List PV} (h : Sh Tryz.prog n 40 pvs) : ∃ v : List (List LVal),pvs = [.list 51 (v.map (ag 53 ae))] := by
 cases n with
 | zero=>simp [Sh] at h
 | succ n =>
  simp only [Sh,Tryz.underlying40] at h
  obtain ⟨rows,rfl,hr⟩ := h
  obtain ⟨xs,rfl⟩ := gJ (f := (ag 53 ae)) (fun r hq=>let ⟨v,e⟩ := sh51 (hr r hq); ⟨v,e⟩)
  exact ⟨xs,rfl⟩
theorem sh87 {n : Nat} {pvs : List PV} (h : Sh Tryz.prog n 87 pvs) : ∃ v : LRelation,pvs = bi v := by
 cases n with
 | zero=>simp [Sh] at h
 | succ n =>
  simp only [Sh,Tryz.underlying87,List.map_cons,List.map_nil,ff] at h
  obtain ⟨p0,r0,rfl,h0,p1,r1,rfl,h1,rfl⟩ := h
  obtain ⟨v0,rfl⟩ := sh9 h0
  obtain ⟨v1,rfl⟩ := sh40 h1
  exact ⟨LRelation.mk v0 v1,rfl⟩
theorem sh28 {n : Nat} {pvs : List PV} (h : Sh Tryz.prog n 28 pvs) : ∃ v : List LRelation,pvs = [.list 87 (v.map bi)] := by
 cases n with
 | zero=>simp [Sh] at h
 | succ n =>
  simp only [Sh,Tryz.underlying28] at h
  obtain ⟨rows,rfl,hr⟩ := h
  obtain ⟨xs,rfl⟩ := gJ (f := bi) (fun r hq=>sh87 (hr r hq))
  exact ⟨xs,rfl⟩
theorem sh29 {n : Nat} {pvs : List PV} (h : Sh Tryz.prog n 29 pvs) : ∃ v : List (List UInt8),pvs = [.list 9 (v.map bm)] := by
 cases n with
 | zero=>simp [Sh] at h
 | succ n =>
  simp only [Sh,Tryz.underlying29] at h
  obtain ⟨rows,rfl,hr⟩ := h
  obtain ⟨xs,rfl⟩ := gJ (f := bm) (fun r hq=>let ⟨v,e⟩ := sh9 (hr r hq); ⟨v,e⟩)
  exact ⟨xs,rfl⟩
theorem sh56 {n : Nat} {pvs : List PV} (h : Sh Tryz.prog n 56 pvs) : ∃ v : LExpr,pvs = ax v := by
 induction n generalizing pvs with
 | zero=>simp [Sh] at h
 | succ n ih =>
  simp only [Sh,Tryz.underlying56,List.map_cons,List.map_nil,ff] at h
  obtain ⟨p0,r0,rfl,h0,p1,r1,rfl,h1,p2,r2,rfl,h2,p3,r3,rfl,h3,p4,r4,rfl,h4,rfl⟩ := h
  obtain ⟨v0,rfl⟩ := sh3 h0
  obtain ⟨v1,rfl⟩ := sh9 h1
  obtain ⟨v2,rfl⟩ := sh3 h2
  obtain ⟨v3,rfl⟩ := sh53 h3
  cases n with
  | zero=>simp [Sh] at h4
  | succ n =>
  simp only [Sh,Tryz.underlying30] at h4
  obtain ⟨rows,rfl,hr4⟩ := h4
  obtain ⟨v4,rfl⟩ := rowsUp (f := ax) (rfl) ih hr4
  exact ⟨LExpr.mk v0 v1 v2 v3 v4,by rw [bA]; rfl⟩
theorem sh30 {n : Nat} {pvs : List PV} (h : Sh Tryz.prog n 30 pvs) : ∃ v : List LExpr,pvs = [.list 56 (v.map ax)] := by
 cases n with
 | zero=>simp [Sh] at h
 | succ n =>
  simp only [Sh,Tryz.underlying30] at h
  obtain ⟨rows,rfl,hr⟩ := h
  obtain ⟨xs,rfl⟩ := gJ (f := ax) (fun r hq=>sh56 (hr r hq))
  exact ⟨xs,rfl⟩
theorem sh66 {n : Nat} {pvs : List PV} (h : Sh Tryz.prog n 66 pvs) : ∃ v : LAggregateCall,pvs = bp v := by
 cases n with
 | zero=>simp [Sh] at h
 | succ n =>
  simp only [Sh,Tryz.underlying66,List.map_cons,List.map_nil,ff] at h
  obtain ⟨p0,r0,rfl,h0,p1,r1,rfl,h1,p2,r2,rfl,h2,rfl⟩ := h
  obtain ⟨v0,rfl⟩ := sh9 h0
  obtain ⟨v1,rfl⟩ := sh9 h1
  obtain ⟨v2,rfl⟩ := sh30 h2
  exact ⟨LAggregateCall.mk v0 v1 v2,rfl⟩
theorem sh31 {n : Nat} {pvs : List PV} (h : Sh Tryz.prog n 31 pvs) : ∃ v : List LAggregateCall,pvs = [.list 66 (v.map bp)] := by
 cases n with
 | zero=>simp [Sh] at h
 | succ n =>
  simp only [Sh,Tryz.underlying31] at h
  obtain ⟨rows,rfl,hr⟩ := h
  obtain ⟨xs,rfl⟩ := gJ (f := bp) (fun r hq=>sh66 (hr r hq))
  exact ⟨xs,rfl⟩
theorem sh32 {n : Nat} {pvs : List PV} (h : Sh Tryz.prog n 32 pvs) : ∃ v : List Bool,pvs = [.list 4 (v.map bD)] := by
 cases n with
 | zero=>simp [Sh] at h
 | succ n =>
  simp only [Sh,Tryz.underlying32] at h
  obtain ⟨rows,rfl,hr⟩ := h
  obtain ⟨xs,rfl⟩ := gJ (f := bD) (fun r hq=>let ⟨v,e⟩ := sh4 (hr r hq); ⟨v,e⟩)
  exact ⟨xs,rfl⟩
theorem sh35 {n : Nat} {pvs : List PV} (h : Sh Tryz.prog n 35 pvs) : ∃ v : LQuery,pvs = aC v := by
 induction n generalizing pvs with
 | zero=>simp [Sh] at h
 | succ n ih =>
  simp only [Sh,Tryz.underlying35,List.map_cons,List.map_nil,ff] at h
  obtain ⟨p0,r0,rfl,h0,p1,r1,rfl,h1,p2,r2,rfl,h2,p3,r3,rfl,h3,p4,r4,rfl,h4,p5,r5,rfl,h5,p6,r6,rfl,h6,p7,r7,rfl,h7,p8,r8,rfl,h8,rfl⟩ := h
  obtain ⟨v0,rfl⟩ := sh3 h0
  obtain ⟨v1,rfl⟩ := sh9 h1
  obtain ⟨v2,rfl⟩ := sh29 h2
  obtain ⟨v3,rfl⟩ := sh30 h3
  obtain ⟨v4,rfl⟩ := sh31 h4
  obtain ⟨v5,rfl⟩ := sh32 h5
  obtain ⟨v6,rfl⟩ := sh3 h6
  obtain ⟨v7,rfl⟩ := sh3 h7
  cases n with
  | zero=>simp [Sh] at h8
  | succ n =>
  simp only [Sh,Tryz.underlying33] at h8
  obtain ⟨rows,rfl,hr8⟩ := h8
  obtain ⟨v8,rfl⟩ := rowsUp (f := aC) (rfl) ih hr8
  exact ⟨LQuery.mk v0 v1 v2 v3 v4 v5 v6 v7 v8,by rw [bM]; rfl⟩
theorem sh36 {n : Nat} {pvs : List PV} (h : Sh Tryz.prog n 36 pvs) : ∃ v : List LVal,pvs = [.list 53 (v.map ae)] := by
 cases n with
 | zero=>simp [Sh] at h
 | succ n =>
  simp only [Sh,Tryz.underlying36] at h
  obtain ⟨rows,rfl,hr⟩ := h
  obtain ⟨xs,rfl⟩ := gJ (f := ae) (fun r hq=>sh53 (hr r hq))
  exact ⟨xs,rfl⟩
theorem law_args : ∀ args,ArgsSh Tryz.prog Tryz.f9.params.toList args → aV args ≤ 1048576 → aG Tryz.prog 9 args (.val (.bool true)) := by
 intro args h hN
 rw [Tryz.params9] at h
 simp only [ArgsSh] at h
 obtain ⟨n0,p0,r0,rfl,h0,n1,p1,r1,rfl,h1,n2,p2,r2,rfl,h2,n3,p3,r3,rfl,h3,n4,p4,r4,rfl,h4,n5,p5,r5,rfl,h5,rfl⟩ := h
 obtain ⟨v0,rfl⟩ := sh26 h0
 obtain ⟨v1,rfl⟩ := sh28 h1
 obtain ⟨v2,rfl⟩ := sh35 h2
 obtain ⟨v3,rfl⟩ := sh56 h3
 obtain ⟨v4,rfl⟩ := sh56 h4
 obtain ⟨v5,rfl⟩ := sh36 h5
 have e0 : gq Tryz.prog 26 (da v0) = .agg (da v0) := by simp only [gq,Tryz.underlying26]
 rw [e0] at hN ⊢
 have e1 : gq Tryz.prog 28 [.list 87 (v1.map bi)] = .list 87 (v1.map bi) := by simp only [gq,Tryz.underlying28]; rfl
 rw [e1] at hN ⊢
 have e2 : gq Tryz.prog 35 (aC v2) = .agg (aC v2) := by simp only [gq,Tryz.underlying35]
 rw [bM] at e2
 rw [bM v2,e2] at hN ⊢
 have e3 : gq Tryz.prog 56 (ax v3) = .agg (ax v3) := by simp only [gq,Tryz.underlying56]
 rw [bA] at e3
 rw [bA v3,e3] at hN ⊢
 have e4 : gq Tryz.prog 56 (ax v4) = .agg (ax v4) := by simp only [gq,Tryz.underlying56]
 rw [bA] at e4
 rw [bA v4,e4] at hN ⊢
 have e5 : gq Tryz.prog 36 [.list 53 (v5.map ae)] = .list 53 (v5.map ae) := by simp only [gq,Tryz.underlying36]; rfl
 rw [e5] at hN ⊢
 simp only [aV,PV.bulk] at hN
 have hs0 : kr v0 := smallS_bulk (n := 1048576) (by omega) (by omega)
 have hq2 : TinyQ v2 := tiny_bulk (n := 1048576) (by omega) (by omega)
 have he3 : aV (cZ v3) ≤ 1048576 := by omega
 have he4 : aV (cZ v4) ≤ 1048576 := by omega
 exact jV v0 v1 v2 v3 v4 v5 true (oA hs0 v1 hq2 he3 he4 v5)
set_option maxRecDepth 100000 in
theorem law_wf : (fun (P : Program) (f : FuncId) (fn : Func) (s : ChangeSpec) (c : OpenClaim)=>(P.funcs.size,f,fn.params.size,s.name,c.func,c.wf (OpenSpec.ofChange s)).2.2.2.2.2) Tryz.prog 9 Tryz.f9 (Rows.OpenSpec.upto Rows.queryFiltersCommuteSpec).bare Rows.queryFiltersCommuteUptoRow = true := by kernel_rfl
set_option maxRecDepth 100000 in
theorem law_laid : (fun (P : Program) (f : FuncId) (fn : Func) (s : ChangeSpec) (c : OpenClaim)=>(P.funcs.size,f,fn.params.size,s.name,c.func,laidOutB P).2.2.2.2.2) Tryz.prog 9 Tryz.f9 (Rows.OpenSpec.upto Rows.queryFiltersCommuteSpec).bare Rows.queryFiltersCommuteUptoRow = true := by kernel_rfl
set_option maxRecDepth 100000 in
theorem law_mapsRowed : (fun (P : Program) (f : FuncId) (fn : Func) (s : ChangeSpec) (c : OpenClaim)=>(P.funcs.size,f,fn.params.size,s.name,c.func,mapsRowed P).2.2.2.2.2) Tryz.prog 9 Tryz.f9 (Rows.OpenSpec.upto Rows.queryFiltersCommuteSpec).bare Rows.queryFiltersCommuteUptoRow = true := by kernel_rfl
set_option maxRecDepth 100000 in
theorem law_rr : (fun (P : Program) (f : FuncId) (fn : Func) (s : ChangeSpec) (c : OpenClaim)=>(P.funcs.size,f,fn.params.size,s.name,c.func,fn.params.all (P.readableRec ·)).2.2.2.2.2) Tryz.prog 9 Tryz.f9 (Rows.OpenSpec.upto Rows.queryFiltersCommuteSpec).bare Rows.queryFiltersCommuteUptoRow = true := by kernel_rfl
set_option maxRecDepth 100000 in
theorem law_nt : (fun (P : Program) (f : FuncId) (fn : Func) (s : ChangeSpec) (c : OpenClaim)=>(P.funcs.size,f,fn.params.size,s.name,c.func,namedTie P c.named s.vars).2.2.2.2.2) Tryz.prog 9 Tryz.f9 (Rows.OpenSpec.upto Rows.queryFiltersCommuteSpec).bare Rows.queryFiltersCommuteUptoRow = true := by kernel_rfl
set_option maxRecDepth 100000 in
theorem law_st : (fun (P : Program) (f : FuncId) (fn : Func) (s : ChangeSpec) (c : OpenClaim)=>(P.funcs.size,f,fn.params.size,s.name,c.func,(c.stops == []) && (P.stops == []) && (c.knobs == []) && (P.stopKnobs == [])).2.2.2.2.2) Tryz.prog 9 Tryz.f9 (Rows.OpenSpec.upto Rows.queryFiltersCommuteSpec).bare Rows.queryFiltersCommuteUptoRow = true := by kernel_rfl
set_option maxRecDepth 100000 in
theorem law_inPlace : (fun (P : Program) (f : FuncId) (fn : Func) (s : ChangeSpec) (c : OpenClaim)=>(P.funcs.size,f,fn.params.size,s.name,c.func,c.inPlace == P.inPlace f).2.2.2.2.2) Tryz.prog 9 Tryz.f9 (Rows.OpenSpec.upto Rows.queryFiltersCommuteSpec).bare Rows.queryFiltersCommuteUptoRow = true := by kernel_rfl
set_option maxRecDepth 100000 in
theorem law_unf : (fun (P : Program) (f : FuncId) (fn : Func) (s : ChangeSpec) (c : OpenClaim)=>(P.funcs.size,f,fn.params.size,s.name,c.func,c.unfollowed == P.unfollowed f).2.2.2.2.2) Tryz.prog 9 Tryz.f9 (Rows.OpenSpec.upto Rows.queryFiltersCommuteSpec).bare Rows.queryFiltersCommuteUptoRow = true := by kernel_rfl
set_option maxRecDepth 100000 in
theorem law_rec : (fun (P : Program) (f : FuncId) (fn : Func) (s : ChangeSpec) (c : OpenClaim)=>(P.funcs.size,f,fn.params.size,s.name,c.func,c.recurses == P.recurses f).2.2.2.2.2) Tryz.prog 9 Tryz.f9 (Rows.OpenSpec.upto Rows.queryFiltersCommuteSpec).bare Rows.queryFiltersCommuteUptoRow = true := by kernel_rfl
set_option maxRecDepth 100000 in
theorem law_named : (fun (P : Program) (f : FuncId) (fn : Func) (s : ChangeSpec) (c : OpenClaim)=>(P.funcs.size,f,fn.params.size,s.name,c.func,c.named == P.varsNamed f).2.2.2.2.2) Tryz.prog 9 Tryz.f9 (Rows.OpenSpec.upto Rows.queryFiltersCommuteSpec).bare Rows.queryFiltersCommuteUptoRow = true := by kernel_rfl
set_option maxRecDepth 100000 in
theorem law_maps : (fun (P : Program) (f : FuncId) (fn : Func) (s : ChangeSpec) (c : OpenClaim)=>(P.funcs.size,f,fn.params.size,s.name,c.func,(c.maps == (fn.params.toList ++ s.plain.varTypes P).any (P.mapsRec ·)) && (c.ifaces == (fn.params.toList ++ s.plain.varTypes P).any (P.ifacesRec ·)) && (c.mapsOut == P.mapsAmong fn.resultTypes.toList)).2.2.2.2.2) Tryz.prog 9 Tryz.f9 (Rows.OpenSpec.upto Rows.queryFiltersCommuteSpec).bare Rows.queryFiltersCommuteUptoRow = true := by kernel_rfl
set_option maxRecDepth 100000 in
theorem law_loops : (fun (P : Program) (f : FuncId) (fn : Func) (s : ChangeSpec) (c : OpenClaim)=>(P.funcs.size,f,fn.params.size,s.name,c.func,(c.loops == (fn.params.toList ++ s.plain.varTypes P).any (P.loopsFrom ·))).2.2.2.2.2) Tryz.prog 9 Tryz.f9 (Rows.OpenSpec.upto Rows.queryFiltersCommuteSpec).bare Rows.queryFiltersCommuteUptoRow = true := by kernel_rfl
set_option maxRecDepth 100000 in
theorem law_wide : (fun (P : Program) (f : FuncId) (fn : Func) (s : ChangeSpec) (c : OpenClaim)=>(P.funcs.size,f,fn.params.size,s.name,c.func,(c.wideKeys == (fn.params.toList ++ s.plain.varTypes P ++ fn.resultTypes.toList).any (P.wideKeysFrom ·))).2.2.2.2.2) Tryz.prog 9 Tryz.f9 (Rows.OpenSpec.upto Rows.queryFiltersCommuteSpec).bare Rows.queryFiltersCommuteUptoRow = true := by kernel_rfl
set_option maxRecDepth 100000 in
theorem law_rest1 : (fun (P : Program) (f : FuncId) (fn : Func) (s : ChangeSpec) (c : OpenClaim)=>(P.funcs.size,f,fn.params.size,s.name,c.func,s.vars.all (P.varReadable ·) && fn.resultTypes.all (fun t=>P.readableRec t && decide (t < P.types.size)) && (c.ifacesOut == fn.resultTypes.toList.any (P.ifacesRec ·)) && (c.loopsOut == fn.resultTypes.toList.any (P.loopsFrom ·))).2.2.2.2.2) Tryz.prog 9 Tryz.f9 (Rows.OpenSpec.upto Rows.queryFiltersCommuteSpec).bare Rows.queryFiltersCommuteUptoRow = true := by kernel_rfl
set_option maxRecDepth 100000 in
theorem law_plainKeys : (fun (P : Program) (f : FuncId) (fn : Func) (s : ChangeSpec) (c : OpenClaim)=>(P.funcs.size,f,fn.params.size,s.name,c.func,c.plainKeys == P.plainKeys).2.2.2.2.2) Tryz.prog 9 Tryz.f9 (Rows.OpenSpec.upto Rows.queryFiltersCommuteSpec).bare Rows.queryFiltersCommuteUptoRow = true := by kernel_rfl
set_option maxRecDepth 100000 in
theorem law_rest2 : (fun (P : Program) (f : FuncId) (fn : Func) (s : ChangeSpec) (c : OpenClaim)=>(P.funcs.size,f,fn.params.size,s.name,c.func,c.shortTexts.isNone && P.stopsHeard && P.mayEnter && (c.lifted == P.liftsFinal) && (P.make == some c.make)).2.2.2.2.2) Tryz.prog 9 Tryz.f9 (Rows.OpenSpec.upto Rows.queryFiltersCommuteSpec).bare Rows.queryFiltersCommuteUptoRow = true := by kernel_rfl
set_option maxRecDepth 100000 in
theorem law_kinds : (fun (P : Program) (f : FuncId) (fn : Func) (s : ChangeSpec) (c : OpenClaim)=>(P.funcs.size,f,fn.params.size,s.name,c.func,(c.kinds == (if c.domain.isEmpty then [] else fn.params.toList.map fun t=>match P.underlying t with | some (.int k)=>some k | _=>none)) && (c.pinned == c.pinnedBy)).2.2.2.2.2) Tryz.prog 9 Tryz.f9 (Rows.OpenSpec.upto Rows.queryFiltersCommuteSpec).bare Rows.queryFiltersCommuteUptoRow = true := by kernel_rfl
set_option maxRecDepth 100000 in
theorem law_veil : (fun (P : Program) (f : FuncId) (fn : Func) (s : ChangeSpec) (c : OpenClaim)=>(P.funcs.size,f,fn.params.size,s.name,c.func,(c.veiled == (fn.params.toList ++ s.plain.varTypes P ++ fn.resultTypes.toList).any (P.veiledRec ·)) && c.veiledFits P fn.params.toList (fn.params.toList ++ s.plain.varTypes P ++ fn.resultTypes.toList)).2.2.2.2.2) Tryz.prog 9 Tryz.f9 (Rows.OpenSpec.upto Rows.queryFiltersCommuteSpec).bare Rows.queryFiltersCommuteUptoRow = true := by kernel_rfl
set_option maxRecDepth 100000 in
theorem law_facts : joinedFacts Tryz.prog 9 Tryz.f9 (Rows.OpenSpec.upto Rows.queryFiltersCommuteSpec).bare Rows.queryFiltersCommuteUptoRow = true := joined_of law_wf law_laid law_mapsRowed law_rr law_nt law_st law_inPlace law_unf law_rec law_named law_maps law_loops law_wide law_rest1 law_plainKeys law_rest2 law_kinds law_veil
set_option maxRecDepth 100000 in
theorem law_lifted (os : Os) (started : os.Started) (H : Type) (enc : TypeId × Value → H) (F : Stop.Interp) :
  ReturnsInHanded {} Tryz.checked os 9 .any ((Rows.OpenSpec.upto Rows.queryFiltersCommuteSpec).pre6 enc Tryz.prog Tryz.f9 Rows.queryFiltersCommuteUptoRow.domain false) (((Rows.OpenSpec.upto Rows.queryFiltersCommuteSpec).at F).post enc Tryz.prog Tryz.f9 false true false false) := by
 refine returnsInHanded_of_cond_sized (C := Tryz.checked) (s := Rows.OpenSpec.upto Rows.queryFiltersCommuteSpec) (k := Rows.uptoSmall) rfl own_knob started (by kernel_rfl) Tryz.func9
  (OpenSpec.witness (enc := enc) (C := Tryz.checked) (s := Rows.OpenSpec.upto Rows.queryFiltersCommuteSpec) (k := Rows.uptoSmall) rfl false ⟨#[],#[.agg #[.slice none 0 0,.slice none 0 0,.slice none 0 0],.slice none 0 0,.agg #[.int .i64 0,.string ⟨#[]⟩,.slice none 0 0,.slice none 0 0,.slice none 0 0,.slice none 0 0,.int .i64 0,.int .i64 0,.slice none 0 0],.agg #[.int .i64 0,.string ⟨#[]⟩,.int .i64 0,.int .i64 0,.int .i64 0,.string ⟨#[]⟩,.slice none 0 0],.agg #[.int .i64 0,.string ⟨#[]⟩,.int .i64 0,.int .i64 0,.int .i64 0,.string ⟨#[]⟩,.slice none 0 0],.slice none 0 0],[]⟩ 8 (by kernel_rfl) (by kernel_rfl) (by kernel_rfl)
   (x := ([.agg [.nil,.nil,.nil],.nil,.agg [.lit (.int .i64 0),.lit (.string []),.nil,.nil,.nil,.nil,.lit (.int .i64 0),.lit (.int .i64 0),.nil],.agg [.lit (.int .i64 0),.lit (.string []),.lit (.int .i64 0),.agg [.lit (.int .i64 0),.lit (.int .i64 0),.lit (.string [])],.nil],.agg [.lit (.int .i64 0),.lit (.string []),.lit (.int .i64 0),.agg [.lit (.int .i64 0),.lit (.int .i64 0),.lit (.string [])],.nil],.nil],[],[])) (by kernel_rfl) rfl (by kernel_rfl)) ?_
 intro W base args ds gs before hval hW _ hk hsz _
 have hN : ((ds ++ gs).map (fun d=>Rows.uptoBulk d)).sum ≤ 1048576 := by
  rw [mB]; exact of_decide_eq_true hk
 refine law_callsB (s := Rows.queryFiltersCommuteSpec) (tb := 4) bulk_is laid_out rfl ?_ rfl Tryz.underlying4 ?_ lawTypes_ok lawTypes_info ?_ law_args hval hW hsz hN
 ·rw [Tryz.params9]
  intro t ht
  simp only [List.mem_cons,List.mem_nil_iff,or_false] at ht
  rcases ht with rfl | rfl | rfl | rfl | rfl | rfl <;> exact ⟨by kernel_rfl,of_decide_eq_true (by kernel_rfl)⟩
 ·intro ds hlen
  rw [Tryz.params9] at hlen
  match ds,hlen with
  | [d0,d1,d2,d3,d4,d5],_=>rfl
 ·rw [Tryz.params9]
  intro t ht
  simp only [List.mem_cons,List.mem_nil_iff,or_false] at ht
  rcases ht with rfl | rfl | rfl | rfl | rfl | rfl <;> simp [lawTypes]
theorem queryFiltersCommuteUpto_holds : Rows.QueryFiltersCommuteUptoSaid :=
 OpenClaim.holds_of_cond 9 Tryz.f9 rfl rfl rfl rfl rfl rfl rfl ⟨rfl,rfl,rfl,rfl,rfl⟩ rfl rfl rfl rfl rfl (by kernel_rfl) Tryz.func9 law_facts
  (of_decide_eq_true (by kernel_rfl)) (by unfold Func.isWrapper; rw [if_neg (by decide +kernel)]; exact ⟨rfl,rfl⟩)
  (fun os started H enc _ F=>law_lifted os started H enc F)
end
end Go.Proofs.YtgaggbdcedpapaaGreat
