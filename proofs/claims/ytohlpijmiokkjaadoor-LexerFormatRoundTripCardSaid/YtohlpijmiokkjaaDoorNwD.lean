/- The lexer in plain Lean, part D: quoting; the law of quoted texts. -/
import Derived.Test.YtohlpijmiokkjaaDoorNwC
namespace Go.Proofs.YtohlpijmiokkjaaDoor
open Go Go.Ab
noncomputable section

/-- A text with its quotes doubled. -/
def esc : List UInt8 → List UInt8
  | [] => []
  | c :: r => if c = 39 then 39 :: 39 :: esc r else c :: esc r

theorem esc_len : ∀ s : List UInt8, (esc s).length ≤ 2 * s.length
  | [] => by simp [esc]
  | c :: r => by
    have := esc_len r
    simp only [esc]
    split <;> simp only [List.length_cons] <;> omega

theorem index_q (c : UInt8) (r : List UInt8) : Lib.index (c :: r) [39] = if c = 39 then 0 else if Lib.index r [39] == -1 then -1 else Lib.index r [39] + 1 := by
  rw [Lib.index]
  by_cases h : c = 39
  · subst h; simp [List.isPrefixOf]
  · have e : List.isPrefixOf [39] (c :: r) = false := by
      simp only [List.isPrefixOf, Bool.and_true]
      simpa using fun e => h e.symm
    rw [e, if_neg (by simp), if_neg h]

theorem index_nil_q : Lib.index [] [39] = -1 := rfl

theorem count_q : ∀ (c : UInt8) (r : List UInt8), Lib.count (c :: r) [39] = (if c = 39 then 1 else 0) + Lib.count r [39] := by
  intro c r
  by_cases h : c = 39
  · have hi : Lib.index (c :: r) [39] = ((0 : Nat) : Int) := by rw [index_q, if_pos h]; rfl
    rw [Lib.count_hit (by simp) hi, if_pos h]
    rfl
  · rw [if_neg h]
    have h0 := index_q c r
    rw [if_neg h] at h0
    by_cases hm : Lib.index r [39] = -1
    · rw [hm] at h0
      rw [Lib.count_miss hm, Lib.count_miss (by rw [h0]; rfl)]
    · have hge := Lib.index_ge r [39]
      obtain ⟨i, hi⟩ : ∃ i : Nat, Lib.index r [39] = (i : Int) := ⟨(Lib.index r [39]).toNat, by omega⟩
      have hb : (Lib.index r [39] == -1) = false := by simpa using hm
      rw [hb] at h0
      simp only [Bool.false_eq_true, if_false] at h0
      rw [hi] at h0
      have h1 : Lib.index (c :: r) [39] = ((i + 1 : Nat) : Int) := by rw [h0]; omega
      rw [Lib.count_hit (by simp) h1, Lib.count_hit (by simp) hi]
      simp

theorem replaceK_q (c : UInt8) (r : List UInt8) (h : c ≠ 39) : ∀ k, Lib.replaceK [39] [39, 39] k (c :: r) = c :: Lib.replaceK [39] [39, 39] k r
  | 0 => rfl
  | k + 1 => by
    have h0 := index_q c r
    rw [if_neg h] at h0
    by_cases hm : Lib.index r [39] = -1
    · rw [hm] at h0
      rw [Lib.replaceK, Lib.replaceK, h0, hm]
      rfl
    · have hge := Lib.index_ge r [39]
      obtain ⟨i, hi⟩ : ∃ i : Nat, Lib.index r [39] = (i : Int) := ⟨(Lib.index r [39]).toNat, by omega⟩
      have hb : (Lib.index r [39] == -1) = false := by simpa using hm
      rw [hb] at h0
      simp only [Bool.false_eq_true, if_false] at h0
      rw [hi] at h0
      have h1 : Lib.index (c :: r) [39] = ((i + 1 : Nat) : Int) := by rw [h0]; omega
      rw [Lib.replaceK_hit _ _ _ _ _ h1, Lib.replaceK_hit _ _ _ _ _ hi]
      simp [Nat.add_right_comm]

theorem replaceK_esc : ∀ s : List UInt8, Lib.replaceK [39] [39, 39] (Lib.count s [39]) s = esc s
  | [] => by rw [Lib.count_miss index_nil_q]; rfl
  | c :: r => by
    by_cases h : c = 39
    · have hi : Lib.index (c :: r) [39] = ((0 : Nat) : Int) := by rw [index_q, if_pos h]; rfl
      rw [count_q, if_pos h, Nat.add_comm, Lib.replaceK_hit _ _ _ _ _ hi, esc, if_pos h]
      simp [replaceK_esc r]
    · rw [count_q, if_neg h, Nat.zero_add, replaceK_q c r h, esc, if_neg h, replaceK_esc r]

theorem replaceAll_esc (s : List UInt8) : Lib.replaceAll s [39] [39, 39] = esc s := by
  unfold Lib.replaceAll Lib.replace Lib.replaceNum
  rw [show (([39] : List UInt8) == [39, 39]) = false from rfl]
  simp only [Bool.false_eq_true, if_false]
  rw [if_pos (.inl (by decide))]
  exact replaceK_esc s

theorem quote_eq (s : List UInt8) (hs : s.length ≤ 100000) : L_lexer_Quote s = some (39 :: (esc s ++ [39])) := by
  have hl := esc_len s
  have hm : 400000 ≤ maxStr := by decide
  have hc : Lib.countB ⟨s.toArray⟩ ⟨[39].toArray⟩ ≤ s.length + 1 := by
    have := Lib.count_le s [39]
    simpa [Lib.countB] using this
  have hr : replL s [39] [39, 39] = some (esc s) := by
    unfold replL
    rw [replaceAll_esc]
    refine guardO_pos ⟨by omega, by simp, ?_, by omega⟩
    simp only [List.length_cons, List.length_nil]
    omega
  unfold L_lexer_Quote
  rw [hr, bindP_some, catS_ok (by simp only [List.length_cons, List.length_nil]; omega), bindP_some, catS_ok (by simp only [List.length_append, List.length_cons, List.length_nil]; omega), bindP_some]
  rfl

def noQ : List UInt8 → Prop
  | [] => True
  | c :: _ => c ≠ 39

theorem qspan_esc (r : List UInt8) (hr : noQ r) : ∀ s : List UInt8, qspan (esc s ++ 39 :: r) = some (s, (esc s).length + 1)
  | [] => by
    cases r with
    | nil => rfl
    | cons d r =>
      have hd : d ≠ 39 := hr
      simp only [esc, List.nil_append, qspan, if_true, if_neg hd]
      rfl
  | c :: s => by
    have ih := qspan_esc r hr s
    by_cases h : c = 39
    · subst h
      simp only [esc, if_true, List.cons_append, qspan, ih, Option.map_some, List.length_cons]
    · simp only [esc, if_neg h, List.cons_append, List.length_cons]
      cases ht : esc s ++ 39 :: r with
      | nil => simp at ht
      | cons d t =>
        rw [ht] at ih
        simp only [qspan, if_neg h, ih, Option.map_some]

theorem oneS_quote (s r : List UInt8) (hr : noQ r) : oneS (39 :: (esc s ++ 39 :: r)) = (LLexerToken.mk 4 s 0 0, (esc s).length + 2, decide (s.length ≤ 24)) := by
  have e1 : low 39 = false := by rfl
  have e2 : dig 39 = false := by rfl
  simp only [oneS, e1, e2, Bool.false_eq_true, if_false, if_true, qspan_esc r hr s]
  rw [if_neg (by decide)]
  simp only [Prod.mk.injEq, true_and, and_true]
  omega

theorem quote_law (s : List UInt8) : L_stemkeep3_LexerQuoteRoundTrip s = some true := by
  unfold L_stemkeep3_LexerQuoteRoundTrip
  rw [tokens_eq]
  simp only [bindP_some, Bool.not_true, cond_false]
  rcases Nat.lt_or_ge 1000 s.length with hs | hs
  · rw [decide_eq_true (by omega)]
    rfl
  · rw [decide_eq_false (by omega), quote_eq s (by omega)]
    have hl := esc_len s
    simp only [cond_false, bindP_some]
    rw [tokenize_eq _ (by simp only [List.length_cons, List.length_append, List.length_nil]; omega)]
    have h1 := oneS_quote s [] trivial
    have hw : ws 39 = false := by rfl
    simp only [bindP_some]
    rcases Nat.lt_or_ge 24 s.length with h24 | h24
    · rw [decide_eq_false (by omega)] at h1
      have : tk (39 :: (esc s ++ [39])) = ([], some 0) := by
        unfold tk
        rw [toks, if_neg (by simp [hw]), h1]
        simp
      rw [this, decide_eq_true (by omega)]
      rfl
    · rw [decide_eq_true (by omega)] at h1
      have : tk (39 :: (esc s ++ [39])) = ([LLexerToken.mk 4 s 0 0], none) := by
        unfold tk
        rw [toks, if_neg (by simp [hw]), h1]
        rw [List.drop_eq_nil_of_le (by simp only [List.length_cons, List.length_append, List.length_nil]; omega)]
        simp [toks]
      rw [this, decide_eq_false (by omega)]
      simp only [cond_false]
      rw [show getI [LLexerToken.mk 4 s 0 0] (0 : Int) = some (LLexerToken.mk 4 s 0 0) from rfl]
      simp
end
end Go.Proofs.YtohlpijmiokkjaaDoor
