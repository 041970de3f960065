/- The lexer in plain Lean, part C: the tokens of a text; the law of offsets. -/
import Derived.Test.YtohlpijmiokkjaaDoorNwB
namespace Go.Proofs.YtohlpijmiokkjaaDoor
open Go Go.Ab
noncomputable section

def ws (c : UInt8) : Bool := decide (c = 32 ∨ c = 10)

/-- The tokens of a text that begins at offset 'off', and where no token starts. -/
def toks : Nat → Nat → List UInt8 → List LLexerToken × Option Nat
  | 0, _, _ => ([], none)
  | _ + 1, _, [] => ([], none)
  | f + 1, off, c :: r =>
    if ws c then toks f (off + 1) r
    else if (oneS (c :: r)).2.2 then
      (LLexerToken.mk (oneS (c :: r)).1.kind (oneS (c :: r)).1.text (oneS (c :: r)).1.number (off : Int) :: (toks f (off + (oneS (c :: r)).2.1) ((c :: r).drop (oneS (c :: r)).2.1)).1,
        (toks f (off + (oneS (c :: r)).2.1) ((c :: r).drop (oneS (c :: r)).2.1)).2)
    else ([], some off)

theorem argS_cases (s : List UInt8) (h : (argS s).2.2 = true) : ∃ a d k r, s = a :: d :: k :: r ∧ dig d = true ∧ noInn r = true ∧ (k = 105 ∨ k = 98 ∨ k = 116) ∧ argS s = (LLexerToken.mk 6 [k] ((d.toNat : Int) - 48) 0, 3, true) := by
  match s with
  | [] => simp [argS, bad] at h
  | [_] => simp [argS, bad] at h
  | [_, _] => simp [argS, bad] at h
  | a :: d :: k :: r =>
    simp only [argS] at h ⊢
    split at h
    · rename_i hc
      simp only [Bool.and_eq_true, decide_eq_true_eq] at hc
      exact ⟨a, d, k, r, rfl, hc.1.1, hc.1.2, hc.2, by rw [if_pos (by simp [hc.1.1, hc.1.2, hc.2])]⟩
    · simp [bad] at h

theorem qspan_len : ∀ (r : List UInt8) {t : List UInt8} {n : Nat}, qspan r = some (t, n) → 1 ≤ n ∧ n ≤ r.length
  | [], t, n, h => by simp [qspan] at h
  | [c], t, n, h => by
    simp only [qspan] at h
    split at h
    · simp only [Option.some.injEq, Prod.mk.injEq] at h
      simp [← h.2]
    · cases h
  | c :: d :: r, t, n, h => by
    simp only [qspan] at h
    split at h
    · split at h
      · cases hq : qspan r with
        | none => rw [hq] at h; cases h
        | some x =>
          rw [hq] at h
          simp only [Option.map_some, Option.some.injEq, Prod.mk.injEq] at h
          have := qspan_len r (t := x.1) (n := x.2) hq
          simp only [List.length_cons]
          omega
      · simp only [Option.some.injEq, Prod.mk.injEq] at h
        simp [← h.2]
    · cases hq : qspan (d :: r) with
      | none => rw [hq] at h; cases h
      | some x =>
        rw [hq] at h
        simp only [Option.map_some, Option.some.injEq, Prod.mk.injEq] at h
        have := qspan_len (d :: r) (t := x.1) (n := x.2) hq
        simp only [List.length_cons] at this ⊢
        omega

theorem punct_pos {x : List UInt8} {s : List UInt8} (h : puncts.find? (·.isPrefixOf s) = some x) : 1 ≤ x.length ∧ x.length ≤ s.length := by
  have h1 := List.find?_some h
  have h2 := List.mem_of_find?_eq_some h
  have h3 : 1 ≤ x.length := by
    simp only [puncts, List.mem_cons, List.mem_nil_iff, or_false] at h2
    rcases h2 with rfl | rfl | rfl | rfl | rfl | rfl | rfl | rfl | rfl | rfl | rfl | rfl <;> decide
  exact ⟨h3, (List.isPrefixOf_iff_prefix.1 h1).length_le⟩

/-- A token takes a byte at least, and no more than there are. -/
theorem one_len (c : UInt8) (r : List UInt8) (h : (oneS (c :: r)).2.2 = true) : 1 ≤ (oneS (c :: r)).2.1 ∧ (oneS (c :: r)).2.1 ≤ (c :: r).length := by
  have hw := takeWhile_len inn r
  have hw2 := takeWhile_len dig (c :: r)
  simp only [oneS] at h ⊢
  split
  · simp only [List.length_cons]; omega
  · rename_i hl
    simp only [hl, if_false] at h
    split
    · rename_i hd
      refine ⟨?_, hw2⟩
      rw [List.takeWhile_cons, if_pos hd]
      simp
    · rename_i hd
      simp only [hd, if_false] at h
      split
      · rename_i h1
        simp only [h1, if_true] at h
        subst h1
        obtain ⟨a, d, k, r', e, _, _, _, e2⟩ := argS_cases _ h
        rw [e2, e]
        simp only [List.length_cons]
        omega
      · rename_i h1
        simp only [h1, if_false] at h
        split
        · rename_i h2
          simp only [h2, if_true] at h
          cases hq : qspan r with
          | none => rw [hq] at h; cases h
          | some x =>
            have := qspan_len r (t := x.1) (n := x.2) hq
            simp only [List.length_cons]
            omega
        · rename_i h2
          simp only [h2, if_false] at h
          cases hq : puncts.find? (·.isPrefixOf (c :: r)) with
          | none => rw [hq] at h; cases h
          | some x => exact punct_pos hq

theorem ws_eq (c : UInt8) : (cond ((c.toNat : Int) == (32 : Int)) (some true) (some ((c.toNat : Int) == (10 : Int)))) = some (ws c) := by
  rw [show ((c.toNat : Int) == (32 : Int)) = decide (c = 32) from by rw [show (32 : Int) = ((32 : UInt8).toNat : Int) from rfl, u8_eq],
    show ((c.toNat : Int) == (10 : Int)) = decide (c = 10) from by rw [show (10 : Int) = ((10 : UInt8).toNat : Int) from rfl, u8_eq]]
  unfold ws
  by_cases h1 : c = 32 <;> by_cases h2 : c = 10 <;> simp [h1, h2]

abbrev tstep (s : List UInt8) : List LLexerToken × Int → Option (Flow (List LLexerToken × Int) ((List LLexerToken) × Int × Int)) := fun (s1 : List LLexerToken × Int) =>
      cond (decide (s1.2 < (s.length : Int)))
        (bindP (
          bindP (getI s s1.2) fun (x19 : UInt8) =>
          cond ((x19.toNat : Int) == (32 : Int))
            (some true)
            (bindP (getI s s1.2) fun (x24 : UInt8) =>
            some ((x24.toNat : Int) == (10 : Int)))) fun (t4 : Bool) =>
        cond t4
          (some (.next (s1.1, (IntKind.i64.wrap (s1.2 + (1 : Int))))))
          (bindP (subI s s1.2 (s.length : Int)) fun (x32 : List UInt8) =>
          bindP (L_lexer_one x32) fun x33 =>
          cond (!x33.2.2)
            (some (.ret ([], s1.2, 22)))
            (bindP (appI 40 s1.1 ([(LLexerToken.mk x33.1.kind x33.1.text x33.1.number s1.2)] : List LLexerToken)) fun (x45 : List LLexerToken) =>
            some (.next (x45, (IntKind.i64.wrap (s1.2 + x33.2.1)))))))
        (some (.brk (s1.1, s1.2)))

theorem tloop (s : List UInt8) (hs : s.length ≤ 4000) : ∀ (m k f : Nat) (out : List LLexerToken), k + m = s.length → m < f → out.length ≤ k →
    whileM (tstep s) (out, (k : Int)) = some (match toks f k (s.drop k) with | (l, none) => .next (out ++ l, (s.length : Int)) | (_, some at_) => .ret ([], (at_ : Int), 22)) := by
  intro m
  induction m using Nat.strongRecOn with
  | _ m ih =>
    intro k f out h hf ho
    obtain ⟨f, rfl⟩ : ∃ g, f = g + 1 := ⟨f - 1, by omega⟩
    rcases Nat.lt_or_ge k s.length with hk | hk
    · have hg : getI s (k : Int) = some s[k] := getI_nat (List.getElem?_eq_getElem hk)
      have hd : s.drop k = s[k] :: s.drop (k + 1) := List.drop_eq_getElem_cons hk
      have hlt : decide ((k : Int) < (s.length : Int)) = true := decide_eq_true (by omega)
      have hsub : subI s (k : Int) (s.length : Int) = some (s[k] :: s.drop (k + 1)) := by
        rw [subI_ok ⟨by omega, by omega, by omega⟩]
        simp only [Int.toNat_natCast, List.take_length, hd]
      cases hw : ws s[k] with
      | true =>
        have hst : tstep s (out, (k : Int)) = some (.next (out, ((k + 1 : Nat) : Int))) := by
          simp only [tstep, hlt, cond_true, hg, bindP_some, ws_eq, hw, wrapS (show k < 1000000000 by omega)]
        refine whileM_step hst ?_
        simp only
        rw [ih (m - 1) (by omega) (k + 1) f out (by omega) (by omega) (by omega), hd, toks, if_pos hw]
      | false =>
        have h1 := one_eq (s[k] :: s.drop (k + 1)) (List.cons_ne_nil _ _) (by rw [← hd, List.length_drop]; omega)
        rw [hd, toks, if_neg (by simp [hw])]
        cases ho2 : (oneS (s[k] :: s.drop (k + 1))).2.2 with
        | false =>
          have hst : tstep s (out, (k : Int)) = some (.ret ([], (k : Int), 22)) := by
            simp only [tstep, hlt, cond_true, hg, bindP_some, ws_eq, hw, cond_false, hsub, h1, ho2, Bool.not_false]
          refine whileM_step hst ?_
          simp
        | true =>
          obtain ⟨n1, n2⟩ := one_len _ _ ho2
          have hlen : (s[k] :: s.drop (k + 1)).length = m := by rw [← hd, List.length_drop]; omega
          rw [hlen] at n2
          have hst : tstep s (out, (k : Int)) = some (.next (out ++ [LLexerToken.mk (oneS (s[k] :: s.drop (k + 1))).1.kind (oneS (s[k] :: s.drop (k + 1))).1.text (oneS (s[k] :: s.drop (k + 1))).1.number (k : Int)], ((k + (oneS (s[k] :: s.drop (k + 1))).2.1 : Nat) : Int))) := by
            simp only [tstep, hlt, cond_true, hg, bindP_some, ws_eq, hw, cond_false, hsub, h1, ho2, Bool.not_true]
            rw [appI_ok (by simp; omega) (by simp [maxLen]; omega)]
            simp only [bindP_some]
            rw [wrap_id (by omega) (by omega)]
            rfl
          refine whileM_step hst ?_
          simp only
          rw [ih (m - (oneS (s[k] :: s.drop (k + 1))).2.1) (by omega) (k + (oneS (s[k] :: s.drop (k + 1))).2.1) f _ (by omega) (by omega) (by rw [List.length_append, List.length_singleton]; omega)]
          have hdd : s.drop (k + (oneS (s[k] :: s.drop (k + 1))).2.1) = (s[k] :: s.drop (k + 1)).drop (oneS (s[k] :: s.drop (k + 1))).2.1 := by
            rw [← hd, List.drop_drop]
          rw [hdd]
          simp only [if_true]
          generalize toks f (k + (oneS (s[k] :: s.drop (k + 1))).2.1) ((s[k] :: s.drop (k + 1)).drop (oneS (s[k] :: s.drop (k + 1))).2.1) = z
          obtain ⟨l, e⟩ := z
          cases e with
          | none => simp
          | some x => simp
    · have hk' : k = s.length := by omega
      refine whileM_step (fl := .brk (out, (k : Int))) ?_ ?_
      · simp only [tstep, show ¬ ((k : Int) < (s.length : Int)) from by omega, decide_false, cond_false]
      · rw [List.drop_eq_nil_of_le hk]
        simp [toks, hk']

def tk (s : List UInt8) : List LLexerToken × Option Nat := toks (s.length + 1) 0 s

theorem tokenize_eq (s : List UInt8) (hs : s.length ≤ 4000) : L_lexer_Tokenize s = some (match tk s with | (l, none) => (l, 0, 0) | (_, some at_) => ([], (at_ : Int), 22)) := by
  unfold L_lexer_Tokenize
  rw [show decide ((s.length : Int) > 4000) = false from decide_eq_false (by omega)]
  have := tloop s hs s.length 0 (s.length + 1) [] (by omega) (by omega) (by simp)
  simp only [Int.natCast_zero, List.drop_zero] at this
  simp only [cond_false]
  rw [this]
  unfold tk
  generalize toks (s.length + 1) 0 s = z
  obtain ⟨l, e⟩ := z
  cases e with
  | none => rfl
  | some x => rfl
theorem tokenize_long (s : List UInt8) (hs : 4000 < s.length) : L_lexer_Tokenize s = some ([], 0, 2) := by
  unfold L_lexer_Tokenize
  rw [show decide ((s.length : Int) > 4000) = true from decide_eq_true (by omega)]
  rfl

theorem numV_3 : numV [51] = (3, true) := by
  have e : Lib.itoa 3 = [51] := by
    rw [show Lib.itoa 3 = Lib.decDigits 3 from rfl, Lib.decDigits]
    rfl
  have h : Lib.atoiAll [51] = .ok 3 := by rfl
  simp only [numV, h, e]
  rfl
theorem tk_3 : tk [97, 32, 60, 32, 51] = ([LLexerToken.mk 1 [97] 0 0, LLexerToken.mk 5 [60] 0 2, LLexerToken.mk 3 [] 3 4], none) := by
  have h1 : oneS [97, 32, 60, 32, 51] = (LLexerToken.mk 1 [97] 0 0, 1, true) := by rfl
  have h2 : oneS [60, 32, 51] = (LLexerToken.mk 5 [60] 0 0, 1, true) := by rfl
  have h3 : oneS [51] = (LLexerToken.mk 3 [] 3 0, 1, true) := by
    have e1 : low 51 = false := by rfl
    have e2 : dig 51 = true := by rfl
    have e3 : List.takeWhile dig [51] = [51] := by rfl
    simp only [oneS, e1, e2, e3, numV_3]
    rfl
  simp [tk, toks, ws, h1, h2, h3]
theorem tokens_eq : L_stemkeep3_tokens = some true := by
  unfold L_stemkeep3_tokens
  rw [tokenize_eq _ (by decide), tk_3]
  rfl

/-! A token does not hang on what stands behind it. -/
theorem takeWhile_take {α : Type} (p : α → Bool) : ∀ (l : List α) (k : Nat), (l.takeWhile p).length ≤ k → (l.take k).takeWhile p = l.takeWhile p
  | [], k, _ => by simp
  | a :: l, 0, h => by
    rw [List.takeWhile_cons] at h ⊢
    cases hp : p a with
    | true => rw [hp] at h; simp at h
    | false => simp
  | a :: l, k + 1, h => by
    rw [List.take_succ_cons, List.takeWhile_cons, List.takeWhile_cons]
    rw [List.takeWhile_cons] at h
    cases hp : p a with
    | true =>
      rw [hp] at h
      simp only [if_true, List.length_cons] at h ⊢
      rw [takeWhile_take p l k (by omega)]
    | false => rfl
theorem noInn_take {r : List UInt8} (h : noInn r = true) (k : Nat) : noInn (r.take k) = true := by
  cases r with
  | nil => simp [noInn]
  | cons x r => cases k with
    | zero => rfl
    | succ k => exact h

theorem qspan_take : ∀ (r : List UInt8) {t : List UInt8} {n : Nat} (k : Nat), qspan r = some (t, n) → n ≤ k → qspan (r.take k) = some (t, n)
  | [], t, n, k, h, _ => by simp [qspan] at h
  | [c], t, n, 0, h, hk => by have := qspan_len _ h; omega
  | [c], t, n, k + 1, h, hk => by simpa using h
  | c :: d :: r, t, n, 0, h, hk => by have := qspan_len _ h; omega
  | c :: d :: r, t, n, 1, h, hk => by
    simp only [qspan] at h
    split at h
    · rename_i hc
      split at h
      · cases hq : qspan r with
        | none => rw [hq] at h; cases h
        | some x =>
          rw [hq] at h
          simp only [Option.map_some, Option.some.injEq, Prod.mk.injEq] at h
          have := qspan_len r (t := x.1) (n := x.2) hq
          omega
      · simp only [List.take_succ_cons, List.take_zero, qspan, hc, if_true]
        exact h
    · cases hq : qspan (d :: r) with
      | none => rw [hq] at h; cases h
      | some x =>
        rw [hq] at h
        simp only [Option.map_some, Option.some.injEq, Prod.mk.injEq] at h
        have := qspan_len (d :: r) (t := x.1) (n := x.2) hq
        omega
  | c :: d :: r, t, n, k + 2, h, hk => by
    simp only [List.take_succ_cons]
    simp only [qspan] at h ⊢
    split at h
    · rename_i hc
      split at h
      · rename_i hd
        cases hq : qspan r with
        | none => rw [hq] at h; cases h
        | some x =>
          rw [hq] at h
          simp only [Option.map_some, Option.some.injEq, Prod.mk.injEq] at h
          rw [if_pos hc, if_pos hd, qspan_take r (t := x.1) (n := x.2) k hq (by omega)]
          simp [h.1, h.2]
      · rename_i hd
        rw [if_pos hc, if_neg hd]
        exact h
    · rename_i hc
      cases hq : qspan (d :: r) with
      | none => rw [hq] at h; cases h
      | some x =>
        rw [hq] at h
        simp only [Option.map_some, Option.some.injEq, Prod.mk.injEq] at h
        have := qspan_take (d :: r) (t := x.1) (n := x.2) (k + 1) hq (by omega)
        rw [List.take_succ_cons] at this
        rw [if_neg hc, this]
        simp [h.1, h.2]

theorem prefix_take {x s : List UInt8} {k : Nat} (h : x.isPrefixOf (s.take k) = true) : x.isPrefixOf s = true := by
  rw [List.isPrefixOf_iff_prefix] at h ⊢
  exact h.trans (List.take_prefix k s)
theorem prefix_take_of {x s : List UInt8} {k : Nat} (h : x.isPrefixOf s = true) (hk : x.length ≤ k) : x.isPrefixOf (s.take k) = true := by
  rw [List.isPrefixOf_iff_prefix] at h ⊢
  obtain ⟨t, rfl⟩ := h
  rw [List.take_append]
  rw [List.take_of_length_le hk]
  exact List.prefix_append _ _
theorem find_take {s x : List UInt8} {k : Nat} : ∀ (L : List (List UInt8)), L.find? (·.isPrefixOf s) = some x → x.length ≤ k → L.find? (·.isPrefixOf (s.take k)) = some x
  | [], h, _ => by simp at h
  | y :: L, h, hk => by
    rw [List.find?_cons] at h ⊢
    cases hy : y.isPrefixOf s with
    | true =>
      rw [hy] at h
      simp only [Option.some.injEq] at h
      subst h
      rw [prefix_take_of hy hk]
    | false =>
      rw [hy] at h
      have : y.isPrefixOf (s.take k) = false := by
        cases hz : y.isPrefixOf (s.take k) with
        | false => rfl
        | true => rw [prefix_take hz] at hy; cases hy
      rw [this]
      exact find_take L h hk

theorem one_take (c : UInt8) (r : List UInt8) (h : (oneS (c :: r)).2.2 = true) (k : Nat) (hk : (oneS (c :: r)).2.1 ≤ k + 1) : oneS (c :: r.take k) = oneS (c :: r) := by
  have hlen := one_len c r h
  have e : (c :: r).take (k + 1) = c :: r.take k := rfl
  simp only [oneS] at h hk ⊢
  cases hl : low c with
  | true =>
    simp only [hl, if_true] at h hk ⊢
    rw [takeWhile_take inn r k (by omega)]
  | false =>
    simp only [hl, Bool.false_eq_true, if_false] at h hk ⊢
    cases hd : dig c with
    | true =>
      simp only [hd, if_true] at h hk ⊢
      have := takeWhile_take dig (c :: r) (k + 1) hk
      rw [e] at this
      rw [this]
      simp only [Bool.and_eq_true] at h
      rw [show (c :: r.take k).drop ((c :: r).takeWhile dig).length = ((c :: r).drop ((c :: r).takeWhile dig).length).take (k + 1 - ((c :: r).takeWhile dig).length) from by rw [← e, List.drop_take]]
      rw [noInn_take h.2, h.2]
    | false =>
      simp only [hd, Bool.false_eq_true, if_false] at h hk ⊢
      by_cases h1 : c = 63
      · simp only [h1, if_true] at h hk ⊢
        obtain ⟨a, d, q, r', e1, e2, e3, e4, e5⟩ := argS_cases _ h
        rw [e5] at hk ⊢
        simp only [List.cons.injEq] at e1
        obtain ⟨_, rfl⟩ := e1
        obtain ⟨k, rfl⟩ : ∃ j, k = j + 2 := ⟨k - 2, by simp only at hk; omega⟩
        simp only [List.take_succ_cons, argS]
        rw [if_pos (by simp [e2, noInn_take e3, e4])]
      · simp only [h1, if_false] at h hk ⊢
        by_cases h2 : c = 39
        · simp only [h2, if_true] at h hk ⊢
          cases hq : qspan r with
          | none => rw [hq] at h; cases h
          | some x =>
            rw [hq] at hk
            simp only at hk
            rw [qspan_take r (t := x.1) (n := x.2) k hq (by omega)]
        · simp only [h2, if_false] at h hk ⊢
          cases hq : puncts.find? (·.isPrefixOf (c :: r)) with
          | none => rw [hq] at h; cases h
          | some x =>
            rw [hq] at hk
            simp only at hk
            rw [← e, find_take puncts hq hk]

/-! The law of offsets. -/
/-- The tokens' offsets go up, and lie within the text. -/
def Asc : Nat → Nat → List LLexerToken → Prop
  | _, _, [] => True
  | lo, hi, t :: l => (∃ o : Nat, t.offset = (o : Int) ∧ lo ≤ o ∧ o < hi ∧ Asc (o + 1) hi l)

theorem toks_asc : ∀ (f off : Nat) (s : List UInt8), Asc off (off + s.length) (toks f off s).1
  | 0, _, _ => by simp [toks, Asc]
  | f + 1, off, [] => by simp [toks, Asc]
  | f + 1, off, c :: r => by
    rw [toks]
    split
    · have := toks_asc f (off + 1) r
      rw [show off + (c :: r).length = off + 1 + r.length from by simp; omega]
      exact Asc.lower this (by omega)
    · split
      · rename_i h
        obtain ⟨h1, h2⟩ := one_len c r h
        have := toks_asc f (off + (oneS (c :: r)).2.1) ((c :: r).drop (oneS (c :: r)).2.1)
        rw [List.length_drop, show off + (oneS (c :: r)).2.1 + ((c :: r).length - (oneS (c :: r)).2.1) = off + (c :: r).length from by omega] at this
        exact ⟨off, rfl, Nat.le_refl _, by simp, Asc.lower this (by omega)⟩
      · simp [Asc]
where
  Asc.lower : ∀ {lo lo' hi : Nat} {l : List LLexerToken}, Asc lo hi l → lo' ≤ lo → Asc lo' hi l
    | _, _, _, [], _, _ => trivial
    | _, _, _, _ :: _, ⟨o, h1, h2, h3, h4⟩, hle => ⟨o, h1, by omega, h3, h4⟩

theorem toks_err : ∀ (f off : Nat) (s : List UInt8) {at_ : Nat}, (toks f off s).2 = some at_ → off ≤ at_ ∧ at_ < off + s.length
  | 0, _, _, _, h => by simp [toks] at h
  | f + 1, off, [], _, h => by simp [toks] at h
  | f + 1, off, c :: r, at_, h => by
    rw [toks] at h
    split at h
    · have := toks_err f (off + 1) r h
      simp only [List.length_cons]
      omega
    · split at h
      · rename_i h0
        obtain ⟨h1, h2⟩ := one_len c r h0
        have := toks_err f (off + (oneS (c :: r)).2.1) ((c :: r).drop (oneS (c :: r)).2.1) h
        rw [List.length_drop] at this
        omega
      · simp only [Option.some.injEq] at h
        subst h
        simp

/-- What stands before the place where no token starts consists of tokens. -/
theorem toks_cut : ∀ (f off : Nat) (s : List UInt8) {at_ : Nat} (g : Nat), (toks f off s).2 = some at_ → at_ - off < g → (toks g off (s.take (at_ - off))).2 = none
  | 0, _, _, _, _, h, _ => by simp [toks] at h
  | f + 1, off, [], _, _, h, _ => by simp [toks] at h
  | f + 1, off, c :: r, at_, g, h, hg => by
    have hb := toks_err (f + 1) off (c :: r) h
    obtain ⟨g, rfl⟩ : ∃ k, g = k + 1 := ⟨g - 1, by omega⟩
    rw [toks] at h
    split at h
    · rename_i hw
      have hb' := toks_err f (off + 1) r h
      rw [show at_ - off = at_ - (off + 1) + 1 from by omega, List.take_succ_cons, toks, if_pos hw]
      exact toks_cut f (off + 1) r g h (by omega)
    · rename_i hw
      split at h
      · rename_i h0
        obtain ⟨h1, h2⟩ := one_len c r h0
        have hb' := toks_err f (off + (oneS (c :: r)).2.1) ((c :: r).drop (oneS (c :: r)).2.1) h
        have e := one_take c r h0 (at_ - off - 1) (by omega)
        rw [show at_ - off = at_ - off - 1 + 1 from by omega, List.take_succ_cons, toks, if_neg hw, e, if_pos h0]
        simp only
        have := toks_cut f (off + (oneS (c :: r)).2.1) ((c :: r).drop (oneS (c :: r)).2.1) g h (by omega)
        rw [show (c :: r.take (at_ - off - 1)).drop (oneS (c :: r)).2.1 = ((c :: r).drop (oneS (c :: r)).2.1).take (at_ - (off + (oneS (c :: r)).2.1)) from by
          rw [← List.take_succ_cons, List.drop_take]
          congr 1
          omega]
        exact this
      · simp only [Option.some.injEq] at h
        subst h
        simp [toks]

theorem asc_loop (s : List UInt8) (hs : s.length ≤ 4000) (L : List LLexerToken) : ∀ (xs : List LLexerToken) (j lo : Nat), (∀ k x, xs[k]? = some x → L[j + k]? = some x) → Asc lo s.length xs → (∀ y, 0 < j → L[j - 1]? = some y → y.offset < (lo : Int)) → j + xs.length ≤ 100000 → (j = 0 ∨ j - 1 < L.length) →
    rangeM (σ := Unit) (ρ := Bool) (fun (j1 : Nat) (x1 : LLexerToken) (_ : Unit) =>
      cond (decide (x1.offset < (0 : Int)))
        (some (.ret false))
        (cond (decide (x1.offset ≥ (s.length : Int)))
          (some (.ret false))
          (cond (decide ((j1 : Int) > (0 : Int)))
            (bindP (getI L (IntKind.i64.wrap ((j1 : Int) - (1 : Int)))) fun (x45 : LLexerToken) =>
            cond (decide (x1.offset ≤ x45.offset))
              (some (.ret false))
              (some (.next ())))
            (some (.next ()))))) j xs () = some (.next ())
  | [], _, _, _, _, _, _, _ => rfl
  | x :: xs, j, lo, hx, ⟨o, h1, h2, h3, h4⟩, hy, hj, hjl => by
    have hrec := asc_loop s hs L xs (j + 1) (o + 1) (fun k y hk => by
      have := hx (k + 1) y (by simpa using hk)
      rw [show j + (k + 1) = j + 1 + k from by omega] at this
      exact this) h4 (fun y _ hk => by
      have h0 := hx 0 x rfl
      simp only [Nat.add_zero, Nat.add_sub_cancel] at h0 hk
      rw [h0] at hk
      cases hk
      rw [h1]
      omega) (by simp only [List.length_cons] at hj; omega) (.inr (by
      have h0 := hx 0 x rfl
      have := (List.getElem?_eq_some_iff.1 h0).1
      omega))
    rw [rangeM]
    have e1 : decide (x.offset < (0 : Int)) = false := decide_eq_false (by omega)
    have e2 : decide (x.offset ≥ (s.length : Int)) = false := decide_eq_false (by omega)
    simp only [e1, e2, cond_false]
    rcases Nat.eq_zero_or_pos j with rfl | hp
    · simp only [show ¬ (((0 : Nat) : Int) > 0) from by omega, decide_false, cond_false]
      exact hrec
    · have hl : j - 1 < L.length := by rcases hjl with h | h <;> omega
      have hg : getI L (IntKind.i64.wrap ((j : Int) - 1)) = some L[j - 1] := by
        rw [wrap_id (by omega) (by omega), show ((j : Int) - 1) = ((j - 1 : Nat) : Int) from by omega]
        exact getI_nat (List.getElem?_eq_getElem hl)
      have hlt := hy L[j - 1] hp (List.getElem?_eq_getElem hl)
      simp only [show ((j : Int) > 0) from by omega, decide_true, cond_true, hg, bindP_some]
      rw [decide_eq_false (by omega)]
      exact hrec

theorem toks_len : ∀ (f off : Nat) (s : List UInt8), (toks f off s).1.length ≤ s.length
  | 0, _, _ => by simp [toks]
  | f + 1, off, [] => by simp [toks]
  | f + 1, off, c :: r => by
    rw [toks]
    split
    · have := toks_len f (off + 1) r
      simp only [List.length_cons]; omega
    · split
      · rename_i h
        obtain ⟨h1, h2⟩ := one_len c r h
        have := toks_len f (off + (oneS (c :: r)).2.1) ((c :: r).drop (oneS (c :: r)).2.1)
        rw [List.length_drop] at this
        simp only [List.length_cons] at this h2 ⊢
        omega
      · simp

theorem offsets_law (s : List UInt8) : L_stemkeep3_LexerOffsets s = some true := by
  unfold L_stemkeep3_LexerOffsets
  rw [tokens_eq]
  simp only [bindP_some, Bool.not_true, cond_false]
  rcases Nat.lt_or_ge 4000 s.length with hs | hs
  · rw [tokenize_long s hs]
    rfl
  · rw [tokenize_eq s hs]
    have ha := toks_asc (s.length + 1) 0 s
    have hl := toks_len (s.length + 1) 0 s
    have hcut := fun at_ (h : (toks (s.length + 1) 0 s).2 = some at_) => toks_cut (s.length + 1) 0 s (at_ + 1) h (by omega)
    have herr := fun at_ (h : (toks (s.length + 1) 0 s).2 = some at_) => toks_err (s.length + 1) 0 s h
    unfold tk
    generalize toks (s.length + 1) 0 s = z at ha hl hcut herr
    obtain ⟨l, e⟩ := z
    cases e with
    | none =>
      simp only [bindP_some]
      simp only [Nat.zero_add] at ha hl
      rw [asc_loop s hs l l 0 0 (fun k x hk => by simpa using hk) ha (fun _ h => by omega) (by omega) (.inl rfl)]
      rfl
    | some x =>
      obtain ⟨h1, h2⟩ := herr x rfl
      have h3 := hcut x rfl
      simp only [Nat.zero_add, Nat.sub_zero] at h2 h3
      simp only [bindP_some]
      rw [show rangeM _ 0 ([] : List LLexerToken) () = some (.next ()) from rfl]
      simp only [bindP_some, Flow.thenR]
      rw [show ((22 : Int) != 22) = false from rfl]
      simp only [cond_false]
      rw [show (if (if (s.length : Int) < (x : Int) then (s.length : Int) else (x : Int)) > (0 : Int) then (if (s.length : Int) < (x : Int) then (s.length : Int) else (x : Int)) else (0 : Int)) = (x : Int) from by split <;> split <;> omega]
      rw [subI_ok ⟨by omega, by omega, by omega⟩]
      simp only [bindP_some, Int.toNat_natCast, Int.toNat_zero, List.drop_zero]
      rw [tokenize_eq (s.take x) (by rw [List.length_take]; omega)]
      have h4 : (tk (s.take x)).2 = none := by
        unfold tk
        rw [List.length_take, Nat.min_eq_left (by omega)]
        exact h3
      generalize tk (s.take x) = y at h4
      obtain ⟨l', e'⟩ := y
      simp only at h4
      subst h4
      simp only [bindP_some]
      rw [decide_eq_true (show (x : Int) ≥ 0 by omega), decide_eq_true (show (x : Int) < (s.length : Int) by omega)]
      rfl
end
end Go.Proofs.YtohlpijmiokkjaaDoor
