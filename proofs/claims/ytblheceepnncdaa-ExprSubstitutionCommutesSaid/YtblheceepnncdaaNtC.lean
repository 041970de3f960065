/- The laws on expressions: type soundness, substitution, conjuncts. -/
import Derived.Test.YtblheceepnncdaaLi3
import Derived.Test.YtblheceepnncdaaTyp
namespace Go.Proofs.Ytblheceepnncdaa
open Go Go.Ab
attribute [local irreducible] V AOps DOps Gh Eff PCallsH IntKind.wrap
set_option maxRecDepth 4000

def envName (j : Nat) : List UInt8 := [99] ++ [u8of (IntKind.i64.wrap ((48 : Int) + (Int.tmod (j : Int) (10 : Int))))]
def envCol (j : Nat) (x : LVal) : LCol := ⟨envName j, x.kind, x.kind == 0⟩
def envV (row args : List LVal) : LEnv := ⟨row.mapIdx envCol, row, args, [], []⟩
def envOk (row args : List LVal) : Bool := decide (row.length ≤ 10) && decide (args.length ≤ 20) && !row.any (fun x => !validV x) && !args.any (fun x => !validV x)

def RowFit (row : List LVal) : Prop := row.length * 32 ≤ 2 ^ 47 ∧ row.length ≤ maxLen
theorem rowFit_of {row : List LVal} (h : (pvals row).fits tt) : RowFit row := by
  simp only [PV.fits, List.length_map] at h
  exact ⟨h.2.1 _ rfl, h.1⟩

theorem env_eq (row args : List LVal) (hF : RowFit row) : L_stemkeep3_env row args = some (envV row args, envOk row args) := by
  obtain ⟨f1, f2⟩ := hF
  unfold L_stemkeep3_env
  rw [rangeM_all (fun k => (row.take k).mapIdx envCol) (by simp) (fun k x hk => by
    have hlt := (List.getElem?_eq_some_iff.1 hk).1
    rw [catS_ok (by simp [maxStr]), bindP_some, appI_ok (by simp; omega) (by simp; omega), bindP_some]
    rw [List.take_add_one, hk]
    simp only [Option.toList, List.mapIdx_concat, List.length_take]
    rw [Nat.min_eq_left (by omega)]
    rfl)]
  simp only [bindP_some, thenP_nextS, List.take_length, N_L_slices_ContainsFunc_api_Row_api_Value, N_L_slices_ContainsFunc_Lapi_Value_api_Value]
  have e1 : (fun a0 => L_stemkeep3_env_1 a0) = fun x => !validV x := by funext x; simp [L_stemkeep3_env_1]
  have e2 : L_stemkeep3_env_1 = fun x => !validV x := e1
  simp only [e2, envV, envOk]
  have e3 : decide ((row.length : Int) ≤ 10) = decide (row.length ≤ 10) := by rw [decide_eq_decide]; omega
  have e4 : decide ((args.length : Int) ≤ 20) = decide (args.length ≤ 20) := by rw [decide_eq_decide]; omega
  rw [e3, e4]
  cases decide (row.length ≤ 10) <;> cases decide (args.length ≤ 20) <;> cases row.any (fun x => !validV x) <;> rfl

theorem env_typed {row args : List LVal} (h : envOk row args = true) : EnvOk (envV row args).cols [] (envV row args) := by
  simp only [envOk, Bool.and_eq_true, Bool.not_eq_true', List.any_eq_false, decide_eq_true_eq] at h
  obtain ⟨⟨_, h3⟩, h4⟩ := h
  refine ⟨rfl, by simp [envV], ?_, ?_, rfl, rfl, fun i c x h => by simp at h⟩
  · intro i c x hc hx
    simp only [envV] at hc hx
    rw [List.getElem?_mapIdx, hx] at hc
    simp only [Option.map_some, Option.some.injEq] at hc
    subst hc
    exact ⟨by simpa using h3 x (List.mem_of_getElem? hx), .inl rfl, fun h => by simp [envCol, h]⟩
  · intro x hx
    simpa using h4 x hx

theorem typeSound_law (e : LExpr) (row args : List LVal) (hF : RowFit row) : L_stemkeep3_ExprTypeSoundness e row args = some true := by
  unfold L_stemkeep3_ExprTypeSoundness
  simp only [valuesV, letP_eq, Bool.not_true, cond_false, env_eq row args hF, bindP_some]
  cases hn : decide (nodesE e 150 < 0)
  · cases hok : envOk row args
    · rfl
    · have he := env_typed hok
      simp only [cond_false, Bool.not_true]
      by_cases ht : (typeV (envV row args).cols [] e).2.2 = 0
      · have hs := type_sound he e ht
        obtain ⟨h1, h2, h3⟩ := hs
        simp only [ht, bne_self_eq_false, cond_false, h1, cond_true]
        cases hk : (evalE (envV row args) e).kind == (typeV (envV row args).cols [] e).1
        · have h0 : (evalE (envV row args) e).kind = 0 := by
            simp at hk
            rcases h2 with h2 | h2
            · exact absurd h2 hk
            · exact h2
          simp [h0, h3 h0]
        · rfl
      · have hb : ((typeV (envV row args).cols [] e).2.2 != 0) = true := by simpa using ht
        obtain ⟨h1, h2⟩ := kind_err (envV row args).cols [] e ht
        simp [hb, h1, h2]
  · rfl

/-! Substitution. -/
def colVal (cols : List LCol) (row : List LVal) (n : List UInt8) : LVal :=
  if 0 ≤ idxOf (fun c : LCol => c.name == n) cols ∧ idxOf (fun c : LCol => c.name == n) cols < row.length then row.getD (idxOf (fun c : LCol => c.name == n) cols).toNat .nul else .nul

theorem idxOf_cons {α : Type} (p : α → Bool) (a : α) (l : List α) : idxOf p (a :: l) = if p a then 0 else if idxOf p l < 0 then -1 else idxOf p l + 1 := by
  cases hp : p a with
  | true => simp [idxOf, List.findIdx?_cons, hp]
  | false =>
    simp only [idxOf, List.findIdx?_cons, hp, Bool.false_eq_true, if_false]
    rcases Option.eq_none_or_eq_some (l.findIdx? p) with h | ⟨i, h⟩
    · simp [h]
    · simp [h]; omega
theorem idxOf_ge {α : Type} (p : α → Bool) (l : List α) : -1 ≤ idxOf p l := by
  simp only [idxOf]
  split <;> omega

theorem colVal_cons (c : LCol) (x : LVal) (cols : List LCol) (row : List LVal) (n : List UInt8) : colVal (c :: cols) (x :: row) n = if c.name == n then x else colVal cols row n := by
  unfold colVal
  rw [idxOf_cons]
  have hge := idxOf_ge (fun c : LCol => c.name == n) cols
  by_cases h : (c.name == n) = true
  · rw [h]
    simp only [if_true]
    rw [if_pos ⟨by omega, by simp⟩]
    rfl
  · simp only [h, Bool.false_eq_true, if_false]
    by_cases h0 : idxOf (fun c : LCol => c.name == n) cols < 0
    · simp only [h0, if_true]
      rw [if_neg (by omega), if_neg (by omega)]
    · simp only [h0, if_false]
      by_cases h1 : idxOf (fun c : LCol => c.name == n) cols < row.length
      · rw [if_pos ⟨by omega, by simp; omega⟩, if_pos ⟨by omega, h1⟩]
        have : (idxOf (fun c : LCol => c.name == n) cols + 1).toNat = (idxOf (fun c : LCol => c.name == n) cols).toNat + 1 := by omega
        rw [this]
        rfl
      · rw [if_neg (by simp; omega), if_neg (by omega)]

abbrev Bnd := List (List UInt8 × LExpr)
def bcols (P : Bnd) : List LCol := P.map fun p => ⟨p.1, 0, false⟩
def bvals (v : LEnv) (P : Bnd) : List LVal := P.map fun p => evalE v p.2
theorem colVal_bound (v : LEnv) (cols : List LCol) (row : List LVal) (n : List UInt8) : ∀ P : Bnd, colVal (bcols P ++ cols) (bvals v P ++ row) n = match P.find? (fun p => p.1 == n) with | some p => evalE v p.2 | none => colVal cols row n
  | [] => rfl
  | p :: P => by
    have := colVal_bound v cols row n P
    simp only [bcols, bvals, List.map_cons, List.cons_append, colVal_cons, List.find?_cons] at this ⊢
    cases h : p.1 == n
    · simpa [h] using this
    · simp

/-- The first of each name. -/
def ddStep (P : Bnd) (p : List UInt8 × LExpr) : Bnd := if P.any (fun q => q.1 == p.1) then P else P ++ [p]
theorem dd_find (n : List UInt8) : ∀ (L P : Bnd), (L.foldl ddStep P).find? (fun p => p.1 == n) = (P ++ L).find? (fun p => p.1 == n)
  | [], P => by simp
  | p :: L, P => by
    rw [List.foldl_cons, dd_find n L (ddStep P p)]
    unfold ddStep
    split
    · rename_i h
      rw [List.find?_append, List.find?_append, List.find?_cons]
      cases hp : p.1 == n
      · rfl
      · have : P.find? (fun q => q.1 == n) ≠ none := by
          intro h0
          rw [List.find?_eq_none] at h0
          obtain ⟨q, hq, hq2⟩ := List.any_eq_true.1 h
          have e1 : p.1 = n := by simpa using hp
          exact h0 q hq (by rw [← e1]; exact hq2)
        cases hf : P.find? (fun q => q.1 == n) with
        | none => exact absurd hf this
        | some q => simp
    · simp
theorem dd_any (n : List UInt8) (L : Bnd) : (L.foldl ddStep []).any (fun p => p.1 == n) = L.any (fun p => p.1 == n) := by
  have := dd_find n L []
  rw [List.nil_append] at this
  rw [Bool.eq_iff_iff, List.any_eq_true, List.any_eq_true]
  rw [show (∃ x, x ∈ L.foldl ddStep [] ∧ (x.1 == n) = true) ↔ (L.foldl ddStep []).find? (fun p => p.1 == n) ≠ none from by
    rw [Ne, List.find?_eq_none]; simp]
  rw [this, Ne, List.find?_eq_none]
  simp
theorem dd_len (L : Bnd) : (L.foldl ddStep []).length ≤ L.length := by
  have : ∀ (L P : Bnd), (L.foldl ddStep P).length ≤ P.length + L.length := by
    intro L
    induction L with
    | nil => intro P; simp
    | cons p L ih =>
      intro P
      rw [List.foldl_cons]
      refine Nat.le_trans (ih _) ?_
      unfold ddStep
      split <;> simp <;> omega
  simpa using this L []

def bindEnv (v : LEnv) (P : Bnd) : LEnv := ⟨bcols P ++ v.cols, bvals v P ++ v.row, v.params, v.vnames, v.vvals⟩

theorem subst_eval (v : LEnv) (names : List (List UInt8)) (l : List LExpr) (P : Bnd) (hP : ∀ n, (0 ≤ idxOf (fun s => n == s) names ∧ idxOf (fun s => n == s) names < l.length ∧ ∃ p, P.find? (fun p => p.1 == n) = some p ∧ evalE v (l.getD (idxOf (fun s => n == s) names).toNat (.mk 0 [] 0 .nul [])) = evalE v p.2) ∨ (idxOf (fun s => n == s) names < 0 ∧ P.find? (fun p => p.1 == n) = none)) :
    ∀ e : LExpr, evalE v (substE e names l) = evalE (bindEnv v P) e := by
  intro e
  generalize hk : SizeOf.sizeOf e = k
  induction k using Nat.strongRecOn generalizing e with
  | _ k ih =>
    have harg : ∀ a ∈ e.args, evalE v (substE a names l) = evalE (bindEnv v P) a := fun a ha => ih _ (hk ▸ args_lt ha) a rfl
    have hcol : ∀ w : LEnv, ∀ f : LExpr, (f.kind == 2) = true → evalE w f = colVal w.cols w.row f.name := by
      intro w f hf
      have h1 : ¬ (f.kind == 1) = true := by simp at hf ⊢; omega
      rw [evalE_eq, if_neg h1, if_pos hf]
      rfl
    rw [substE_eq]
    by_cases h2 : (e.kind == 2) = true
    · rw [hcol _ e h2]
      show _ = colVal (bcols P ++ v.cols) (bvals v P ++ v.row) e.name
      rw [colVal_bound]
      rcases hP e.name with ⟨h0, h1, p, hp, he⟩ | ⟨h0, hp⟩
      · rw [if_pos ⟨h2, h0, h1⟩, hp]
        exact he
      · rw [if_neg (by rintro ⟨_, h, _⟩; omega), hp]
        rw [hcol v _ (by exact h2)]
        rfl
    · rw [if_neg (fun h => h2 h.1)]
      have hm : (e.args.map fun a => substE a names l).map (evalE v) = e.args.map (evalE (bindEnv v P)) := by
        rw [List.map_map]
        exact List.map_congr_left fun a ha => harg a ha
      clear harg ih hk
      obtain ⟨k, n, i, x, args⟩ := e
      simp only [LExpr.kind, LExpr.name, LExpr.index, LExpr.value, LExpr.args] at h2 hm ⊢
      rw [evalE_eq, evalE_eq]
      simp only [LExpr.kind, LExpr.name, LExpr.index, LExpr.value, LExpr.args, hm, bindEnv]
      simp only [h2, Bool.false_eq_true, if_false]
      rfl

theorem idx_find {names : List (List UInt8)} {l : List LExpr} {n : List UInt8} (h0 : 0 ≤ idxOf (fun s => n == s) names) (h1 : idxOf (fun s => n == s) names < l.length) :
    ∃ p, (names.zip l).find? (fun p => p.1 == n) = some p ∧ p.2 = l.getD (idxOf (fun s => n == s) names).toNat (.mk 0 [] 0 .nul []) := by
  simp only [idxOf] at h0 h1 ⊢
  rcases Option.eq_none_or_eq_some (names.findIdx? (fun s => n == s)) with h | ⟨i, h⟩
  · rw [h] at h0; simp at h0
  · rw [h] at h1 ⊢
    simp only at h1 ⊢
    obtain ⟨hi, hp, hb⟩ := List.findIdx?_eq_some_iff_getElem.1 h
    have hil : i < l.length := by omega
    have hz : i < (names.zip l).length := by simp; omega
    refine ⟨(names.zip l)[i], ?_, by simp [hil]⟩
    rw [List.find?_eq_some_iff_getElem]
    refine ⟨by simp at hp ⊢; exact hp.symm, i, hz, rfl, fun j hj => ?_⟩
    have := hb j hj
    simp at this ⊢
    exact fun h => this h.symm
theorem idx_none {names : List (List UInt8)} {l : List LExpr} {n : List UInt8} (h0 : idxOf (fun s => n == s) names < 0) : (names.zip l).find? (fun p => p.1 == n) = none := by
  simp only [idxOf] at h0
  rcases Option.eq_none_or_eq_some (names.findIdx? (fun s => n == s)) with h | ⟨i, h⟩
  · rw [List.findIdx?_eq_none_iff] at h
    rw [List.find?_eq_none]
    rintro ⟨a, b⟩ hp
    have := h a (List.of_mem_zip hp).1
    simp at this ⊢
    exact fun h => this h.symm
  · rw [h] at h0; simp at h0; omega

theorem zip_take_any (names : List (List UInt8)) (l : List LExpr) (k : Nat) (hk : k ≤ l.length) (n : List UInt8) : ((names.zip l).take k).any (fun p => p.1 == n) = (names.take k).any (fun s => n == s) := by
  have : ((names.zip l).take k).map Prod.fst = names.take k := by
    rw [List.zip, List.take_zipWith]
    show List.map Prod.fst ((names.take k).zip (l.take k)) = _
    exact List.map_fst_zip (by simp; omega)
  rw [← this, List.any_map]
  congr 1
  funext p
  rw [Bool.eq_iff_iff]
  simp
  exact eq_comm

theorem subst_law (e : LExpr) (names : List (List UInt8)) (l : List LExpr) (row args : List LVal) (hF : RowFit row) : L_stemkeep3_ExprSubstitutionCommutes e names l row args = some true := by
  unfold L_stemkeep3_ExprSubstitutionCommutes
  simp only [valuesV, letP_eq, Bool.not_true, cond_false, env_eq row args hF, bindP_some, N_L_slices_ContainsFunc_Lexpr_Expr_expr_Expr, N_L_slices_Contains_Lstring_string, N_L_slices_ContainsFunc_api_Row_api_Value]
  cases hn : decide (nodesE e 100 < 0)
  case true => rfl
  cases hok : envOk row args
  case false => rfl
  simp only [cond_false, Bool.not_true]
  by_cases hl1 : names.length ≤ 10
  case neg =>
    have : decide ((names.length : Int) > 10) = true := by simp; omega
    rw [this]; rfl
  have d1 : decide ((names.length : Int) > 10) = false := by simp; omega
  rw [d1]
  by_cases hl2 : l.length ≤ 10
  case neg =>
    have : decide ((l.length : Int) > 10) = true := by simp; omega
    rw [this]; rfl
  have d2 : decide ((l.length : Int) > 10) = false := by simp; omega
  rw [d2]
  simp only [cond_false, bindP_some]
  cases hsz : l.any L_stemkeep3_ExprSubstitutionCommutes_1
  case true => rfl
  simp only [cond_false]
  have hrow : row.length ≤ 10 := by
    simp only [envOk, Bool.and_eq_true, decide_eq_true_eq] at hok
    exact hok.1.1.1
  generalize hv : envV row args = v at *
  have hvr : v.row.length ≤ 10 := by rw [← hv]; exact hrow
  have hvc : v.cols.length ≤ 10 := by rw [← hv]; simpa [envV] using hrow
  obtain ⟨m, hm⟩ : ∃ m, m = min names.length l.length := ⟨_, rfl⟩
  have hmi : (if (l.length : Int) < (names.length : Int) then (l.length : Int) else (names.length : Int)) = (m : Int) := by
    split <;> omega
  rw [hmi, subI_ok ⟨by omega, by omega, by omega⟩]
  simp only [bindP_some, Int.toNat_natCast, Int.toNat_zero, List.drop_zero]
  have hlen : (names.take m).length = m := by simp; omega
  have hDlen : ∀ k, (((names.zip l).take k).foldl ddStep []).length ≤ 10 := fun k => Nat.le_trans (dd_len _) (by simp; omega)
  rw [rangeM_all (s := ([], [])) (fun k => (bcols (((names.zip l).take k).foldl ddStep []), bvals v (((names.zip l).take k).foldl ddStep []))) rfl (fun k x hk => by
    have hlt := (List.getElem?_eq_some_iff.1 hk).1
    rw [hlen] at hlt
    rw [List.getElem?_take, if_pos hlt] at hk
    have hkl : k < l.length := by omega
    have hz : (names.zip l)[k]? = some (x, l[k]) := by
      rw [List.getElem?_zip_eq_some]
      exact ⟨hk, List.getElem?_eq_getElem hkl⟩
    rw [subI_ok ⟨by omega, by omega, by omega⟩]
    simp only [bindP_some, Int.toNat_natCast, Int.toNat_zero, List.drop_zero]
    have hany : (names.take k).any (fun x1 => x == x1) = (((names.zip l).take k).foldl ddStep []).any (fun p => p.1 == x) := by
      rw [dd_any, zip_take_any names l k (by omega) x]
    rw [hany, List.take_add_one, hz, List.foldl_append]
    simp only [Option.toList, List.foldl_cons, List.foldl_nil, ddStep]
    cases hc : (((names.zip l).take k).foldl ddStep []).any (fun p => p.1 == x)
    · have := hDlen k
      simp only [Bool.not_false, cond_true, Bool.false_eq_true, if_false]
      rw [appI_ok (by simp [bcols]; omega) (by simp [bcols]; unfold maxLen; omega), bindP_some, getI_nat (List.getElem?_eq_getElem hkl), bindP_some, appI_ok (by simp [bvals]; omega) (by simp [bvals]; unfold maxLen; omega), bindP_some]
      simp [bcols, bvals]
    · simp)]
  simp only [hlen, bindP_some, thenP_nextS]
  have htk : (names.zip l).take m = names.zip l := List.take_of_length_le (by simp; omega)
  rw [htk]
  generalize hP : (names.zip l).foldl ddStep [] = P
  have hPl : P.length ≤ 10 := by rw [← hP, ← htk]; exact hDlen m
  have hfind : ∀ n, P.find? (fun p => p.1 == n) = (names.zip l).find? (fun p => p.1 == n) := fun n => by rw [← hP]; simpa using dd_find n (names.zip l) []
  obtain ⟨fl, h1, h2⟩ := rangeM_by (σ := Unit) (ρ := Bool) (step := fun (j3 : Nat) (x3 : List UInt8) (s3 : Unit) =>
      bif decide ((j3 : Int) ≥ (l.length : Int)) then bindP (subI names 0 (j3 : Int)) fun x102 => bif !x102.any (fun x1 => x3 == x1) then some (.ret true) else some (.next ()) else some (.next ()))
    (fun j _ => ∀ i n, i < j → names[i]? = some n → l.length ≤ i → (names.take i).any (fun s => n == s) = true) (fun r => r = true) names 0 () (fun i n hi => by omega) (fun k x s hk hI => by
      have hlt := (List.getElem?_eq_some_iff.1 hk).1
      rw [Nat.zero_add] at hI ⊢
      by_cases hge : l.length ≤ k
      · have e1 : decide ((k : Int) ≥ (l.length : Int)) = true := by simp; omega
        rw [e1, cond_true, subI_ok ⟨by omega, by omega, by omega⟩]
        simp only [bindP_some, Int.toNat_natCast, Int.toNat_zero, List.drop_zero]
        cases hc : (names.take k).any (fun x1 => x == x1)
        · exact ⟨_, rfl, rfl⟩
        · refine ⟨_, rfl, fun i n hi hn' hl' => ?_⟩
          rcases Nat.lt_or_ge i k with h | h
          · exact hI i n h hn' hl'
          · have : i = k := by omega
            subst this
            rw [hk] at hn'
            cases hn'
            exact hc
      · have e1 : decide ((k : Int) ≥ (l.length : Int)) = false := by simp; omega
        rw [e1, cond_false]
        refine ⟨_, rfl, fun i n hi hn' hl' => ?_⟩
        rcases Nat.lt_or_ge i k with h | h
        · exact hI i n h hn' hl'
        · omega)
  rw [h1, bindP_some]
  cases fl with
  | brk s => exact absurd h2 (by simp)
  | ret r => simp only at h2; rw [h2]; rfl
  | next s =>
    simp only [Nat.zero_add] at h2
    simp only [thenR_nextS]
    cases (bvals v P).any L_stemkeep3_ExprSubstitutionCommutes_2
    case true => rfl
    have hbc : (bcols P).length ≤ 10 := by simpa [bcols] using hPl
    have hbv : (bvals v P).length ≤ 10 := by simpa [bvals] using hPl
    rw [cond_false, N_L_slices_Concat_Lapi_Column_api_Column _ (by simp; omega) (by simp; unfold maxLen; omega), bindP_some, N_L_slices_Concat_api_Row_api_Value _ (by simp; omega) (by simp; unfold maxLen; omega), bindP_some]
    have key := subst_eval v names l P (fun n => by
      by_cases h0 : 0 ≤ idxOf (fun s => n == s) names
      · left
        have hlt := idxOf_nonneg h0
        have hl : idxOf (fun s => n == s) names < l.length := by
          rcases Int.lt_or_le (idxOf (fun s => n == s) names) l.length with h | h
          · exact h
          · exfalso
            simp only [idxOf] at h0 h hlt
            rcases Option.eq_none_or_eq_some (names.findIdx? (fun s => n == s)) with hf | ⟨i, hf⟩
            · rw [hf] at h0; simp at h0
            · rw [hf] at h hlt
              simp only at h
              obtain ⟨hi, hp, hb⟩ := List.findIdx?_eq_some_iff_getElem.1 hf
              have := h2 i names[i] (by omega) (List.getElem?_eq_getElem hi) (by omega)
              rw [List.any_eq_true] at this
              obtain ⟨q, hq, hq2⟩ := this
              obtain ⟨j, hj, rfl⟩ := List.mem_take_iff_getElem.1 hq
              have hne := hb j (by omega)
              have e1 : n = names[i] := by simpa using hp
              have e2 : names[i] = names[j] := by simpa using hq2
              rw [← e2, ← e1] at hne
              simp at hne
        obtain ⟨p, hp1, hp2⟩ := idx_find h0 hl
        exact ⟨h0, hl, p, by rw [hfind]; exact hp1, by rw [hp2]⟩
      · right
        have : idxOf (fun s => n == s) names < 0 := by omega
        exact ⟨this, by rw [hfind]; exact idx_none this⟩) e
    have e3 : (⟨[bcols P, v.cols].flatten, [bvals v P, v.row].flatten, v.params, v.vnames, v.vvals⟩ : LEnv) = bindEnv v P := by simp [bindEnv]
    rw [e3, ← key]
    simp

/-! Conjuncts. -/
theorem wr_id {n : Int} (h1 : -9223372036854775808 ≤ n) (h2 : n ≤ 9223372036854775807) : wr n = n := wrap_id h1 h2

mutual
theorem nodes_cnt : ∀ (e : LExpr) (m : Int), 0 ≤ m → m ≤ 1000000 → 0 ≤ nodesE e m → nodesE e m + cntE e = m + 1
  | .mk k n i x args, m, h0, h1, h => by
    rw [nodesE] at h ⊢
    have := nodesL_cnt args m h0 h1 h
    rw [cntE]
    omega
theorem nodesL_cnt : ∀ (l : List LExpr) (m : Int), 0 ≤ m → m ≤ 1000000 → 0 ≤ nodesL l m → nodesL l m + cntEs l = m
  | [], m, _, _, _ => by simp [nodesL, cntEs]
  | a :: r, m, h0, h1, h => by
    rw [nodesL] at h ⊢
    rw [wr_id (by omega) (by omega)] at h ⊢
    by_cases c : m - 1 < 0
    · rw [if_pos c] at h; omega
    · rw [if_neg c] at h ⊢
      by_cases d : nodesE a (m - 1) < 0
      · rw [if_pos d] at h; omega
      · rw [if_neg d] at h ⊢
        have h2 := nodes_cnt a (m - 1) (by omega) (by omega) (by omega)
        have hp : 1 ≤ cntE a := by rw [cntE_eq]; omega
        have h3 := nodesL_cnt r (nodesE a (m - 1)) (by omega) (by omega) h
        rw [cntEs]
        omega
end

theorem and_true (a b : LVal) : isTrueV (bothV a b 0) = (isTrueV a && isTrueV b) := by
  have w1 : wr (1 - 0) = 1 := (wr_id (by omega) (by omega)).trans (by omega)
  have x : ∀ c : LVal, (c.kind == 2 && c.int == 0) = true → (c.kind == 2 && c.int == 1) = false := by
    intro c h
    simp only [Bool.and_eq_true, beq_iff_eq] at h
    simp [h.1, h.2]
  unfold bothV
  rw [w1]
  have fa : isTrueV a = (a.kind == 2 && a.int == 1) := rfl
  have fb : isTrueV b = (b.kind == 2 && b.int == 1) := rfl
  rw [fa, fb]
  cases ha0 : (a.kind == 2 && a.int == 0)
  · cases hb0 : (b.kind == 2 && b.int == 0)
    · cases (a.kind == 2 && a.int == 1) <;> cases (b.kind == 2 && b.int == 1) <;> rfl
    · rw [x b hb0]
      cases (a.kind == 2 && a.int == 1) <;> rfl
  · rw [x a ha0]
    cases (b.kind == 2 && b.int == 1) <;> rfl

theorem oper_and (v : LEnv) (a b : LExpr) : isTrueV (evalE v (oper [97, 110, 100] [a, b])) = (isTrueV (evalE v a) && isTrueV (evalE v b)) := by
  rw [eval_oper]
  simp only [List.map_cons, List.map_nil]
  exact and_true _ _

theorem isAnd_eval {v : LEnv} {e : LExpr} (h : isAnd e = true) : ∃ a b, e.args = [a, b] ∧ isTrueV (evalE v e) = (isTrueV (evalE v a) && isTrueV (evalE v b)) := by
  simp only [isAnd, Bool.and_eq_true, beq_iff_eq] at h
  obtain ⟨⟨h1, h2⟩, h3⟩ := h
  obtain ⟨a, b, hab⟩ := len2 h3
  refine ⟨a, b, hab, ?_⟩
  rw [evalE_eq, h1, h2, hab]
  exact and_true _ _

theorem conj_true (v : LEnv) : ∀ e : LExpr, (conjE e).all (fun a => isTrueV (evalE v a)) = isTrueV (evalE v e) := by
  intro e
  generalize hk : SizeOf.sizeOf e = k
  induction k using Nat.strongRecOn generalizing e with
  | _ k ih =>
    rw [conjE_eq]
    by_cases h : isAnd e = true
    · rw [if_pos h]
      obtain ⟨a, b, hab, he⟩ := isAnd_eval (v := v) h
      rw [he, hab]
      simp only [conjEs, List.append_nil, List.all_append]
      rw [ih _ (hk ▸ args_lt (by rw [hab]; simp)) a rfl, ih _ (hk ▸ args_lt (by rw [hab]; simp)) b rfl]
    · rw [if_neg h]
      simp

theorem conjoin_true (v : LEnv) (l : List LExpr) : isTrueV (evalE v (conjoinE l)) = l.all (fun a => isTrueV (evalE v a)) := by
  cases l with
  | nil => simp [conjoinE, eval_lit]; rfl
  | cons x l =>
    have key : ∀ (l : List LExpr) (x : LExpr), isTrueV (evalE v (l.foldl (fun a b => oper [97, 110, 100] [a, b]) x)) = (isTrueV (evalE v x) && l.all (fun a => isTrueV (evalE v a))) := by
      intro l
      induction l with
      | nil => intro x; simp
      | cons y l ih =>
        intro x
        rw [List.foldl_cons, ih, oper_and, List.all_cons, Bool.and_assoc]
    rw [conjoinE, key, List.all_cons]

theorem conj_ne (e : LExpr) : conjE e ≠ [] := by
  generalize hk : SizeOf.sizeOf e = k
  induction k using Nat.strongRecOn generalizing e with
  | _ k ih =>
    rw [conjE_eq]
    by_cases h : isAnd e = true
    · rw [if_pos h]
      obtain ⟨a, b, hab, _⟩ := isAnd_eval (v := .none) h
      rw [hab]
      simp only [conjEs]
      intro h0
      exact ih _ (hk ▸ args_lt (by rw [hab]; simp)) a rfl (List.append_eq_nil_iff.1 h0).1
    · rw [if_neg h]
      simp

theorem conj_law (e : LExpr) (row args : List LVal) (hF : RowFit row) : L_stemkeep3_ExprConjunctsPreserveTruth e row args = some true := by
  unfold L_stemkeep3_ExprConjunctsPreserveTruth
  simp only [valuesV, letP_eq, Bool.not_true, cond_false, env_eq row args hF, bindP_some]
  cases hn : decide (nodesE e 150 < 0)
  case true => rfl
  cases hok : envOk row args
  case false => rfl
  simp only [cond_false, Bool.not_true]
  have hn' : 0 ≤ nodesE e 150 := by have := of_decide_eq_false hn; omega
  have hc := nodes_cnt e 150 (by omega) (by omega) hn'
  cases ((typeV (envV row args).cols [] e).2.2 != 0)
  case true => rfl
  simp only [cond_false, conjO, guardO_pos (show cntE e ≤ 1000000 by omega), bindP_some, N_L_slices_ContainsFunc_Lexpr_Expr_expr_Expr]
  have hlen : decide (((conjE e).length : Int) > 0) = true := by
    have := List.length_pos_iff.2 (conj_ne e)
    simp
    omega
  have h1 : (fun a0 => L_stemkeep3_ExprConjunctsPreserveTruth_1 a0 (envV row args)) = fun a => !isTrueV (evalE (envV row args) a) := by
    funext a
    simp [L_stemkeep3_ExprConjunctsPreserveTruth_1]
  have h2 : (!(conjE e).any fun a => !isTrueV (evalE (envV row args) a)) = isTrueV (evalE (envV row args) e) := by
    rw [← conj_true]
    simp [List.all_eq_not_any_not]
  rw [hlen, h1, h2]
  simp only [cond_true, beq_self_eq_true, conjoin_true, conj_true, List.all_nil]

theorem typeSound_spec (e : LExpr) (row args : List LVal) : PFun Try.prog 5 [pexpr e, pvals row, pvals args] (pbool true) :=
  PCalls.fits tt_ok fun hf => W_stemkeep3_ExprTypeSoundness e row args true (typeSound_law e row args (rowFit_of hf.2.1))
theorem subst_law_spec (e : LExpr) (names : List (List UInt8)) (l : List LExpr) (row args : List LVal) : PFun Try.prog 4 [pexpr e, pstrs names, pexprs l, pvals row, pvals args] (pbool true) :=
  PCalls.fits tt_ok fun hf => W_stemkeep3_ExprSubstitutionCommutes e names l row args true (subst_law e names l row args (rowFit_of hf.2.2.2.1))
theorem conj_law_spec (e : LExpr) (row args : List LVal) : PFun Try.prog 7 [pexpr e, pvals row, pvals args] (pbool true) :=
  PCalls.fits tt_ok fun hf => W_stemkeep3_ExprConjunctsPreserveTruth e row args true (conj_law e row args (rowFit_of hf.2.1))
end Go.Proofs.Ytblheceepnncdaa
