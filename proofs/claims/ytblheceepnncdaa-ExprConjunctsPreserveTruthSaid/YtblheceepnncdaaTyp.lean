/- The type of an expression says what its value is. -/
import Derived.Test.YtblheceepnncdaaExJ
import Derived.Test.YtblheceepnncdaaExF
namespace Go.Proofs.Ytblheceepnncdaa
open Go Go.Ab
set_option maxRecDepth 4000

/-- A value of this kind, or null; null only if that is allowed. -/
def FitsK (x : LVal) (k : Int) (nl : Bool) : Prop := validV x = true ∧ (x.kind = k ∨ x.kind = 0) ∧ (x.kind = 0 → nl = true)

theorem valid_kind {x : LVal} (h : validV x = true) : x.kind = 0 ∨ x.kind = 1 ∨ x.kind = 2 ∨ x.kind = 3 := by
  unfold validV at h
  by_cases h0 : x.kind = 0
  · exact .inl h0
  · by_cases h1 : x.kind = 1
    · exact .inr (.inl h1)
    · by_cases h2 : x.kind = 2
      · exact .inr (.inr (.inl h2))
      · by_cases h3 : x.kind = 3
        · exact .inr (.inr (.inr h3))
        · simp [h0, h1, h2, h3] at h

theorem fits_nul {k : Int} {nl : Bool} (h : nl = true) : FitsK .nul k nl := ⟨rfl, .inr rfl, fun _ => h⟩
theorem fits_bool (b : Bool) (nl : Bool) : FitsK (boolV b) 2 nl := by
  cases b <;> exact ⟨rfl, .inl rfl, fun h => by simp [boolV] at h⟩
theorem fits_int (n : Int) : FitsK (intV n) 1 true := by
  unfold intV
  split
  · exact fits_nul rfl
  · refine ⟨?_, .inl rfl, fun _ => rfl⟩
    simp [validV]
    omega
theorem fits_number (op : List UInt8) (a b : Int) : FitsK (numberV op a b) 1 true := by
  unfold numberV
  repeat' split
  all_goals first | exact fits_int _ | exact fits_nul rfl

structure EnvOk (cols vars : List LCol) (v : LEnv) : Prop where
  hcols : v.cols = cols
  len : v.row.length = cols.length
  row : ∀ (i : Nat) (c : LCol) (x : LVal), cols[i]? = some c → v.row[i]? = some x → FitsK x c.kind c.nullable
  params : ∀ x ∈ v.params, validV x = true
  names : v.vnames = vars.map LCol.name
  vlen : v.vvals.length = vars.length
  vals : ∀ (i : Nat) (c : LCol) (x : LVal), vars[i]? = some c → v.vvals[i]? = some x → FitsK x c.kind c.nullable

theorem idxOf_map {α β : Type} (g : α → β) (p : β → Bool) (q : α → Bool) (h : ∀ a, p (g a) = q a) (l : List α) : idxOf p (l.map g) = idxOf q l := by
  have : (l.map g).findIdx? p = l.findIdx? q := by
    induction l with
    | nil => rfl
    | cons a l ih => simp [List.findIdx?_cons, h, ih]
  simp [idxOf, this]
theorem idxOf_nonneg {α : Type} {p : α → Bool} {l : List α} (h : 0 ≤ idxOf p l) : (idxOf p l).toNat < l.length := by
  have := idxOf_lt (p := p) (l := l)
  omega

theorem find_some {l : List LCol} {name : List UInt8} (h : (findV l name).2 = true) : 0 ≤ idxOf (fun c : LCol => c.name == name) l ∧ l[(idxOf (fun c : LCol => c.name == name) l).toNat]? = some (findV l name).1 := by
  unfold findV at h ⊢
  by_cases hi : idxOf (fun c : LCol => c.name == name) l < 0
  · simp [hi] at h
  · have hlt := idxOf_nonneg (p := fun c : LCol => c.name == name) (l := l) (by omega)
    simp only [hi, if_false]
    refine ⟨by omega, ?_⟩
    simp [hlt]

theorem lookup_fits {l : List LCol} {vals : List LVal} {name : List UInt8} (hlen : vals.length = l.length) (hv : ∀ (i : Nat) (c : LCol) (x : LVal), l[i]? = some c → vals[i]? = some x → FitsK x c.kind c.nullable) (h : (findV l name).2 = true) :
    0 ≤ idxOf (fun c : LCol => c.name == name) l ∧ idxOf (fun c : LCol => c.name == name) l < vals.length ∧ FitsK (vals.getD (idxOf (fun c : LCol => c.name == name) l).toNat .nul) (findV l name).1.kind (findV l name).1.nullable := by
  obtain ⟨h0, h1⟩ := find_some h
  have hlt := idxOf_nonneg h0
  have hlt' : (idxOf (fun c : LCol => c.name == name) l).toNat < vals.length := by omega
  refine ⟨h0, by omega, ?_⟩
  have := hv _ _ vals[(idxOf (fun c : LCol => c.name == name) l).toNat] h1 (List.getElem?_eq_getElem hlt')
  simpa [hlt'] using this

theorem arity_name {name : List UInt8} {a : Nat} (h : arityOf name = some a) : name ∈ opNames := by
  unfold arityOf at h
  simp only [opNames, List.mem_cons, List.mem_nil_iff, or_false]
  split at h
  · rename_i h1
    simp only [Bool.or_eq_true, beq_iff_eq] at h1
    rcases h1 with (((((((h1 | h1) | h1) | h1) | h1) | h1) | h1) | h1) | h1 <;> simp [h1]
  · split at h
    · rename_i h1
      simp only [Bool.or_eq_true, beq_iff_eq] at h1
      rcases h1 with (h1 | h1) | h1 <;> simp [h1]
    · split at h
      · rename_i h1
        simp only [beq_iff_eq] at h1
        simp [h1]
      · cases h

theorem fits_both {a b : LVal} {ka kb : Int} {na nb : Bool} (d : Int) (hd : d = 0 ∨ d = 1) (ha : FitsK a ka na) (hb : FitsK b kb nb) (h1 : ka = 2 ∨ ka = 0) (h2 : kb = 2 ∨ kb = 0) : FitsK (bothV a b d) 2 (na || nb) := by
  obtain ⟨va, ka', na'⟩ := ha
  obtain ⟨vb, kb', nb'⟩ := hb
  have bool2 : ∀ {x : LVal}, validV x = true → x.kind = 2 → x.int = 0 ∨ x.int = 1 := by
    intro x hx hk
    simp [validV, hk] at hx
    exact hx.2
  have w1 : wr (1 - d) = 1 - d := by rcases hd with rfl | rfl <;> rfl
  unfold bothV
  split
  · exact fits_bool _ _
  · rename_i hn
    split
    · exact fits_bool _ _
    · rename_i hm
      apply fits_nul
      by_cases ha0 : a.kind = 0
      · simp [na' ha0]
      · by_cases hb0 : b.kind = 0
        · simp [nb' hb0]
        · exfalso
          have a2 : a.kind = 2 := by omega
          have b2 : b.kind = 2 := by omega
          have ia := bool2 va a2
          have ib := bool2 vb b2
          simp [a2, b2, w1] at hn hm
          omega

theorem any_or {l : List KR} : l.any (·.2.1) = l.any (fun r => r.2.1) := rfl

theorem op_sound {name : List UInt8} {xs : List LVal} {ks : List KR} (hlen : xs.length = ks.length) (hok : ∀ (i : Nat) (x : LVal) (r : KR), xs[i]? = some x → ks[i]? = some r → FitsK x r.1 r.2.1) (har : arityOf name = some ks.length)
    (ht : (opTyped name (ks.map (·.1)) (ks.any (·.2.1))).2.2 = 0) : FitsK (reckonV name xs) (opTyped name (ks.map (·.1)) (ks.any (·.2.1))).1 (opTyped name (ks.map (·.1)) (ks.any (·.2.1))).2.1 := by
  have hn := arity_name har
  have ty0 : ∀ {k : Int} {nl ok : Bool}, (typedV k nl ok).2.2 = 0 → ok = true ∧ typedV k nl ok = (k, nl, 0) := by
    intro k nl ok h
    cases ok
    · simp [typedV] at h
    · exact ⟨rfl, rfl⟩
  have all2 : ∀ {w : Int} {a b : Int}, allOf w [a, b] = true → (a = w ∨ a = 0) ∧ (b = w ∨ b = 0) := by
    intro w a b h
    simp [allOf] at h
    omega
  have all1 : ∀ {w : Int} {a : Int}, allOf w [a] = true → (a = w ∨ a = 0) := by
    intro w a h
    simp [allOf] at h
    omega
  simp only [opNames, List.mem_cons, List.mem_nil_iff, or_false] at hn
  rcases hn with rfl | rfl | rfl | rfl | rfl | rfl | rfl | rfl | rfl | rfl | rfl | rfl | rfl
  case inl | inr.inl | inr.inr.inl =>
    all_goals
      have h2 : ks.length = 2 := (Option.some.inj har).symm
      obtain ⟨r, s, rfl⟩ := len2 h2
      obtain ⟨a, b, rfl⟩ := len2 (hlen.trans h2)
      simp [opTyped] at ht ⊢
      obtain ⟨_, e⟩ := ty0 ht
      rw [e]
      simp [reckonV, arityOf, plainV]
      repeat' split
      all_goals first | exact fits_number _ _ _ | exact fits_nul rfl
  case inr.inr.inr.inl | inr.inr.inr.inr.inl | inr.inr.inr.inr.inr.inl =>
    all_goals
      have h2 : ks.length = 2 := (Option.some.inj har).symm
      obtain ⟨r, s, rfl⟩ := len2 h2
      obtain ⟨a, b, rfl⟩ := len2 (hlen.trans h2)
      have fa := hok 0 a r rfl rfl
      have fb := hok 1 b s rfl rfl
      simp [opTyped] at ht ⊢
      obtain ⟨_, e⟩ := ty0 ht
      rw [e]
      simp [reckonV, arityOf, plainV]
      split
      · rename_i h0
        apply fits_nul
        rcases h0 with h0 | h0
        · simp [fa.2.2 h0]
        · simp [fb.2.2 h0]
      · exact fits_bool _ _
  case inr.inr.inr.inr.inr.inr.inl | inr.inr.inr.inr.inr.inr.inr.inl =>
    all_goals
      have h2 : ks.length = 2 := (Option.some.inj har).symm
      obtain ⟨r, s, rfl⟩ := len2 h2
      obtain ⟨a, b, rfl⟩ := len2 (hlen.trans h2)
      have fa := hok 0 a r rfl rfl
      have fb := hok 1 b s rfl rfl
      simp [opTyped] at ht ⊢
      obtain ⟨hal, e⟩ := ty0 ht
      rw [e]
      obtain ⟨h3, h4⟩ := all2 hal
      simp [reckonV, arityOf]
      exact fits_both _ (by omega) fa fb h3 h4
  case inr.inr.inr.inr.inr.inr.inr.inr.inl =>
    have h2 : ks.length = 1 := (Option.some.inj har).symm
    obtain ⟨r, rfl⟩ := List.length_eq_one_iff.1 h2
    obtain ⟨a, rfl⟩ := List.length_eq_one_iff.1 (hlen.trans h2)
    have fa := hok 0 a r rfl rfl
    simp [opTyped] at ht ⊢
    obtain ⟨hal, e⟩ := ty0 ht
    rw [e]
    have h3 := all1 hal
    simp [reckonV, arityOf, plainV, allKind]
    split
    · rename_i h0; exact fits_nul (fa.2.2 h0)
    · rename_i h0
      have : a.kind = 2 := by have := fa.2.1; omega
      rw [if_pos this]
      exact fits_bool _ _
  case inr.inr.inr.inr.inr.inr.inr.inr.inr.inl =>
    have h2 : ks.length = 2 := (Option.some.inj har).symm
    obtain ⟨r, s, rfl⟩ := len2 h2
    obtain ⟨a, b, rfl⟩ := len2 (hlen.trans h2)
    simp [opTyped] at ht ⊢
    obtain ⟨_, e⟩ := ty0 ht
    rw [e]
    simp [reckonV, arityOf, plainV]
    repeat' split
    all_goals first | exact fits_nul rfl | skip
    rename_i h3
    refine ⟨?_, .inl rfl, fun h => by simp at h⟩
    simp [validV]
    omega
  case inr.inr.inr.inr.inr.inr.inr.inr.inr.inr.inl =>
    have h2 : ks.length = 1 := (Option.some.inj har).symm
    obtain ⟨r, rfl⟩ := List.length_eq_one_iff.1 h2
    obtain ⟨a, rfl⟩ := List.length_eq_one_iff.1 (hlen.trans h2)
    simp [opTyped, reckonV, arityOf]
    exact fits_bool _ _
  case inr.inr.inr.inr.inr.inr.inr.inr.inr.inr.inr.inl =>
    have h2 : ks.length = 1 := (Option.some.inj har).symm
    obtain ⟨r, rfl⟩ := List.length_eq_one_iff.1 h2
    obtain ⟨a, rfl⟩ := List.length_eq_one_iff.1 (hlen.trans h2)
    have fa := hok 0 a r rfl rfl
    simp [opTyped] at ht ⊢
    obtain ⟨hal, e⟩ := ty0 ht
    rw [e]
    have h3 := all1 hal
    simp [reckonV, arityOf, plainV, allKind]
    split
    · rename_i h0; exact fits_nul (fa.2.2 h0)
    · rename_i h0
      have hk : a.kind = 3 := by have := fa.2.1; omega
      rw [if_pos hk]
      have hv := fa.1
      simp [validV, hk] at hv
      have hi : intV (a.text.length : Int) = ⟨1, a.text.length, []⟩ := by unfold intV; rw [if_neg (by omega)]
      rw [hi]
      refine ⟨?_, .inl rfl, fun h => by simp at h⟩
      simp [validV]
      omega
  case inr.inr.inr.inr.inr.inr.inr.inr.inr.inr.inr.inr =>
    have h2 : ks.length = 3 := (Option.some.inj har).symm
    obtain ⟨r, s, t, rfl⟩ := len3 h2
    obtain ⟨a, b, c, rfl⟩ := len3 (hlen.trans h2)
    have fb := hok 1 b s rfl rfl
    have fc := hok 2 c t rfl rfl
    simp [opTyped] at ht ⊢
    obtain ⟨hal, e⟩ := ty0 ht
    rw [e]
    simp [alikeB] at hal
    have kb := valid_kind fb.1
    have kc := valid_kind fc.1
    have ob := fb.2.1
    have oc := fc.2.1
    simp [reckonV, arityOf]
    split
    · refine ⟨fb.1, ?_, fun h => by simp [fb.2.2 h]⟩
      by_cases hb0 : b.kind = 0
      · exact .inr hb0
      · left
        split <;> omega
    · refine ⟨fc.1, ?_, fun h => by simp [fc.2.2 h]⟩
      by_cases hc0 : c.kind = 0
      · exact .inr hc0
      · left
        split <;> omega

theorem badK_err {x : Int} : (badK x).2.2 = x := rfl

theorem kind_sound {cols vars : List LCol} {v : LEnv} (hv : EnvOk cols vars v) : ∀ e : LExpr, (kindE cols vars e).2.2 = 0 → FitsK (evalE v e) (kindE cols vars e).1 (kindE cols vars e).2.1 := by
  intro e
  generalize hk : SizeOf.sizeOf e = k
  induction k using Nat.strongRecOn generalizing e with
  | _ k ih =>
    intro h0
    have harg : ∀ a ∈ e.args, (kindE cols vars a).2.2 = 0 → FitsK (evalE v a) (kindE cols vars a).1 (kindE cols vars a).2.1 := by
      intro a ha
      refine ih (SizeOf.sizeOf a) ?_ a rfl
      rw [← hk]
      cases e
      have := List.sizeOf_lt_of_mem (show a ∈ _ from ha)
      simp only [LExpr.mk.sizeOf_spec, LExpr.args] at *
      omega
    have hK := kindE_eq cols vars e
    have hE := evalE_eq v e
    by_cases c0 : e.kind ≠ 5 ∧ 0 < e.args.length
    · rw [if_pos c0] at hK; rw [hK] at h0; simp [badK] at h0
    rw [if_neg c0] at hK
    by_cases c1 : e.kind == 1
    · rw [if_pos c1] at hK hE
      by_cases hc : (validV e.value && e.name == [] && e.index == 0) = true
      · rw [if_pos hc] at hK
        rw [hK, hE]
        simp only [Bool.and_eq_true] at hc
        exact ⟨hc.1.1, .inl rfl, fun h => by simp [h]⟩
      · rw [if_neg hc] at hK; rw [hK] at h0; simp [badK] at h0
    rw [if_neg c1] at hK hE
    by_cases c3 : e.kind == 3
    · have c2 : ¬ (e.kind == 2) = true := by simp at c3 ⊢; omega
      rw [if_pos c3] at hK
      rw [if_neg c2, if_pos c3] at hE
      split at hK
      · rw [hK] at h0; simp [badK] at h0
      · rw [hK, hE]
        split
        · rename_i hp
          have hlt : e.index.toNat < v.params.length := by omega
          have hm : v.params.getD e.index.toNat .nul ∈ v.params := by
            simp [hlt]
          exact ⟨hv.params _ hm, .inl hp.2.2, fun _ => rfl⟩
        · exact fits_nul rfl
    rw [if_neg c3] at hK
    by_cases c24 : (e.kind == 2 || e.kind == 4) = true
    · rw [if_pos c24] at hK
      by_cases hs : (schemaName e.name && e.index == 0 && decide (e.value = .nul)) = true
      · rw [if_pos hs] at hK
        by_cases hf : (findV (if e.kind == 4 then vars else cols) e.name).2 = true
        · rw [if_pos hf] at hK
          rw [hK, hE]
          by_cases c2 : e.kind == 2
          · have c4 : ¬ (e.kind == 4) = true := by simp at c2 ⊢; omega
            rw [if_pos c2]
            rw [if_neg c4] at hf ⊢
            obtain ⟨f1, f2, f3⟩ := lookup_fits hv.len hv.row hf
            rw [hv.hcols, if_pos ⟨f1, f2⟩]
            exact f3
          · have c4 : (e.kind == 4) = true := by simpa [c2] using c24
            rw [if_neg c2, if_neg c3, if_pos c4]
            rw [if_pos c4] at hf ⊢
            obtain ⟨f1, f2, f3⟩ := lookup_fits hv.vlen hv.vals hf
            have e1 : idxOf (fun s : List UInt8 => e.name == s) v.vnames = idxOf (fun c : LCol => c.name == e.name) vars := by
              rw [hv.names]
              exact idxOf_map LCol.name _ _ (fun c => by rw [Bool.eq_iff_iff]; simp; exact eq_comm) vars
            rw [e1, if_pos ⟨f1, f2⟩]
            exact f3
        · rw [if_neg hf] at hK; rw [hK] at h0; simp [badK] at h0
      · rw [if_neg hs] at hK; rw [hK] at h0; simp [badK] at h0
    rw [if_neg c24] at hK
    have c2 : ¬ (e.kind == 2) = true := fun h => c24 (by simp [h])
    have c4 : ¬ (e.kind == 4) = true := fun h => c24 (by simp [h])
    rw [if_neg c2, if_neg c3, if_neg c4] at hE
    by_cases c5 : e.kind == 5
    · rw [if_pos c5] at hK hE
      unfold opKindV at hK
      split at hK
      · rw [hK] at h0; simp [badK] at h0
      · rename_i hop
        split at hK
        · rename_i r hr
          have := List.find?_some hr
          rw [hK] at h0
          simp [badK] at h0
          simp [h0] at this
        · rename_i hr
          have hnone := List.find?_eq_none.1 hr
          rw [hK] at h0
          rw [hK, hE]
          refine op_sound (by simp) ?_ ?_ h0
          · intro i x r hx hr'
            simp only [List.getElem?_map, Option.map_eq_some_iff] at hx hr'
            obtain ⟨a, ha, rfl⟩ := hx
            obtain ⟨b, hb, rfl⟩ := hr'
            rw [ha] at hb
            cases hb
            refine harg a (List.mem_of_getElem? ha) ?_
            have := hnone _ (List.mem_map.2 ⟨a, List.mem_of_getElem? ha, rfl⟩)
            simpa using this
          · exact Classical.byContradiction fun hne => hop (.inl hne)
    · rw [if_neg c5] at hK; rw [hK] at h0; simp [badK] at h0

/-- Where there is no type, the answer is empty. -/
def Emp (r : KR) : Prop := r.2.2 ≠ 0 → r.1 = 0 ∧ r.2.1 = false
theorem emp_bad (x : Int) : Emp (badK x) := fun _ => ⟨rfl, rfl⟩
theorem emp_ok (k : Int) (b : Bool) : Emp (k, b, 0) := fun h => absurd rfl h
theorem emp_typed (k : Int) (nl ok : Bool) : Emp (typedV k nl ok) := by
  cases ok
  · exact emp_bad 7
  · exact emp_ok _ _
theorem emp_if {c : Prop} [Decidable c] {a b : KR} (h : Emp a) (h' : Emp b) : Emp (if c then a else b) := by
  split
  · exact h
  · exact h'
theorem emp_op (name : List UInt8) (ks : List Int) (nl : Bool) : Emp (opTyped name ks nl) := by
  unfold opTyped
  refine emp_if (emp_typed _ _ _) (emp_if (emp_typed _ _ _) (emp_if (emp_typed _ _ _) (emp_if (emp_typed _ _ _) (emp_if (emp_ok _ _) (emp_if (emp_typed _ _ _) (emp_typed _ _ _))))))
theorem emp_opKind (name : List UInt8) (i : Int) (x : LVal) (ks : List KR) : Emp (opKindV name i x ks) := by
  unfold opKindV
  refine emp_if (emp_bad _) ?_
  split
  · exact emp_bad _
  · exact emp_op _ _ _

theorem kind_err (cols vars : List LCol) (e : LExpr) : Emp (typeV cols vars e) := by
  unfold typeV
  refine emp_if (emp_bad _) ?_
  rw [kindE_eq]
  refine emp_if (emp_bad _) (emp_if (emp_if (emp_ok _ _) (emp_bad _)) (emp_if (emp_if (emp_bad _) (emp_ok _ _)) (emp_if (emp_if (emp_if (emp_ok _ _) (emp_bad _)) (emp_bad _)) (emp_if (emp_opKind _ _ _ _) (emp_bad _)))))

theorem type_sound {cols vars : List LCol} {v : LEnv} (hv : EnvOk cols vars v) (e : LExpr) (h : (typeV cols vars e).2.2 = 0) : FitsK (evalE v e) (typeV cols vars e).1 (typeV cols vars e).2.1 := by
  unfold typeV at h ⊢
  split at h
  · simp [badK] at h
  · rename_i hc
    rw [if_neg hc]
    exact kind_sound hv e h
end Go.Proofs.Ytblheceepnncdaa
