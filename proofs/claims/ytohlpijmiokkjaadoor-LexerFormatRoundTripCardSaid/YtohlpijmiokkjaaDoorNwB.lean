/- The lexer in plain Lean, part B: what one token is. -/
import Derived.Test.YtohlpijmiokkjaaDoorLiAll
namespace Go.Proofs.YtohlpijmiokkjaaDoor
open Go Go.Ab
noncomputable section

abbrev inn (c : UInt8) : Bool := L_lexer_inner c
abbrev dig (c : UInt8) : Bool := L_lexer_digit c
def low (c : UInt8) : Bool := cond (decide ((c.toNat : Int) ≥ (97 : Int))) (decide ((c.toNat : Int) ≤ (122 : Int))) false

theorem wrapN {n : Nat} (h : n ≤ 1000000000) : IntKind.i64.wrap (n : Int) = n := wrap_id (by omega) (by omega)
theorem wrapS {n : Nat} (h : n < 1000000000) : IntKind.i64.wrap ((n : Int) + 1) = ((n + 1 : Nat) : Int) := by
  rw [wrap_id (by omega) (by omega)]
  omega

/-- The loops that go on while a byte is of a kind. -/
theorem scan (p : UInt8 → Bool) (s : List UInt8) (hs : s.length ≤ 100000) : ∀ (m k : Nat), k + m = s.length →
    whileM (σ := Int) (ρ := Empty) (fun (s1 : Int) => cond (decide (s1 < (s.length : Int))) (bindP (getI s s1) fun (x : UInt8) => letP (p x) fun y => cond y (some (.next (IntKind.i64.wrap (s1 + (1 : Int))))) (some (.brk s1))) (some (.brk s1))) (k : Int)
      = some (.next ((k + ((s.drop k).takeWhile p).length : Nat) : Int))
  | 0, k, h => by
    refine whileM_step (fl := .brk (k : Int)) ?_ ?_
    · simp only [show ¬ ((k : Int) < (s.length : Int)) from by omega, decide_false, cond_false]
    · simp only
      rw [List.drop_eq_nil_of_le (by omega)]
      simp
  | m + 1, k, h => by
    have hk : k < s.length := by omega
    have hg : getI s (k : Int) = some s[k] := getI_nat (List.getElem?_eq_getElem hk)
    have hd : s.drop k = s[k] :: s.drop (k + 1) := List.drop_eq_getElem_cons hk
    cases hp : p s[k] with
    | true =>
      refine whileM_step (fl := .next ((k + 1 : Nat) : Int)) ?_ ?_
      · simp only [show ((k : Int) < (s.length : Int)) from by omega, decide_true, cond_true, hg, bindP, letP, hp, wrapS (show k < 1000000000 by omega)]
      · simp only
        rw [scan p s hs m (k + 1) (by omega), hd, List.takeWhile_cons, if_pos hp, List.length_cons]
        congr 2
        omega
    | false =>
      refine whileM_step (fl := .brk (k : Int)) ?_ ?_
      · simp only [show ((k : Int) < (s.length : Int)) from by omega, decide_true, cond_true, hg, bindP, letP, hp, cond_false]
      · simp only
        rw [hd, List.takeWhile_cons, if_neg (by simp [hp])]
        simp

/-- What stands behind an opening quote: the text, and how many bytes it takes, the closing quote counted. -/
def qspan : List UInt8 → Option (List UInt8 × Nat)
  | [] => none
  | [c] => if c = 39 then some ([], 1) else none
  | c :: d :: r => if c = 39 then (if d = 39 then (qspan r).map fun x => (39 :: x.1, x.2 + 2) else some ([], 1)) else (qspan (d :: r)).map fun x => (c :: x.1, x.2 + 1)

theorem u8_ne {c : UInt8} : ((c.toNat : Int) != (39 : Int)) = !decide (c = 39) := by
  by_cases h : c = 39
  · subst h; rfl
  · have : c.toNat ≠ 39 := fun e => h (UInt8.toNat_inj.1 e)
    simp [h]
    omega
theorem u8_eq (c d : UInt8) : ((c.toNat : Int) == (d.toNat : Int)) = decide (c = d) := by
  by_cases h : c = d
  · subst h; simp
  · have : c.toNat ≠ d.toNat := fun e => h (UInt8.toNat_inj.1 e)
    simp [h]
    omega

abbrev qstep (s : List UInt8) : List UInt8 × Int → Option (Flow (List UInt8 × Int) (LLexerToken × Int × Bool)) := fun (s1 : List UInt8 × Int) =>
    cond (decide (s1.2 < (s.length : Int)))
      (bindP (getI s s1.2) fun (x23 : UInt8) =>
      cond ((x23.toNat : Int) != (39 : Int))
        (bindP (subI s s1.2 (IntKind.i64.wrap (s1.2 + (1 : Int)))) fun (x30 : List UInt8) =>
        bindP (catS s1.1 x30) fun (x31 : List UInt8) =>
        some (.next (x31, (IntKind.i64.wrap (s1.2 + (1 : Int))))))
        (bindP (
          cond (decide ((IntKind.i64.wrap (s1.2 + (1 : Int))) < (s.length : Int)))
            (bindP (getI s (IntKind.i64.wrap (s1.2 + (1 : Int)))) fun (x42 : UInt8) =>
            some ((x42.toNat : Int) == (39 : Int)))
            (some false)) fun (t4 : Bool) =>
        cond t4
          (bindP (catS s1.1 ([39] : List UInt8)) fun (x46 : List UInt8) =>
          some (.next (x46, (IntKind.i64.wrap ((IntKind.i64.wrap (s1.2 + (1 : Int))) + (1 : Int))))))
          (some (.ret ((LLexerToken.mk 4 s1.1 0 0), (IntKind.i64.wrap (s1.2 + (1 : Int))), (decide ((s1.1.length : Int) ≤ (24 : Int))))))))
      (some (.brk (s1.1, s1.2)))

theorem sub1 {s : List UInt8} {k : Nat} (hk : k < s.length) : subI s (k : Int) ((k + 1 : Nat) : Int) = some [s[k]] := by
  rw [subI_ok ⟨by omega, by omega, by omega⟩]
  simp only [Int.toNat_natCast]
  rw [List.take_succ_eq_append_getElem hk, List.drop_append_of_le_length (by simp; omega)]
  simp

theorem qloop (s : List UInt8) (hs : s.length ≤ 100000) : ∀ (m k : Nat) (out : List UInt8), k + m = s.length → out.length ≤ k →
    (∀ t n, qspan (s.drop k) = some (t, n) → whileM (qstep s) (out, (k : Int)) = some (.ret (LLexerToken.mk 4 (out ++ t) 0 0, ((k + n : Nat) : Int), decide (((out ++ t).length : Int) ≤ 24)))) ∧
    (qspan (s.drop k) = none → ∃ st, whileM (qstep s) (out, (k : Int)) = some (.next st)) := by
  intro m
  induction m using Nat.strongRecOn with
  | _ m ih =>
    intro k out h ho
    rcases Nat.lt_or_ge k s.length with hk | hk
    · have hg : getI s (k : Int) = some s[k] := getI_nat (List.getElem?_eq_getElem hk)
      have hd : s.drop k = s[k] :: s.drop (k + 1) := List.drop_eq_getElem_cons hk
      have hlt : decide ((k : Int) < (s.length : Int)) = true := decide_eq_true (by omega)
      have hmx : out.length + 2 ≤ maxStr := Nat.le_trans (show out.length + 2 ≤ 200000 by omega) (by decide)
      by_cases hc : s[k] = 39
      · rcases Nat.lt_or_ge (k + 1) s.length with hk1 | hk1
        · have hg1 : getI s ((k + 1 : Nat) : Int) = some s[k + 1] := getI_nat (List.getElem?_eq_getElem hk1)
          have hd1 : s.drop (k + 1) = s[k + 1] :: s.drop (k + 2) := List.drop_eq_getElem_cons hk1
          have hlt1 : decide ((((k + 1 : Nat) : Int)) < (s.length : Int)) = true := decide_eq_true (by omega)
          by_cases hc1 : s[k + 1] = 39
          · have hst : qstep s (out, (k : Int)) = some (.next (out ++ [39], ((k + 2 : Nat) : Int))) := by
              simp only [qstep, hlt, cond_true, hg, bindP, u8_ne, hc, decide_true, Bool.not_true, cond_false, wrapS (show k < 1000000000 by omega), hlt1, hg1, hc1]
              rw [catS_ok (by simpa using by omega), wrapS (show k + 1 < 1000000000 by omega)]
              rfl
            obtain ⟨i1, i2⟩ := ih (m - 2) (by omega) (k + 2) (out ++ [39]) (by omega) (by simp; omega)
            have hq : qspan (s.drop k) = (qspan (s.drop (k + 2))).map fun x => (39 :: x.1, x.2 + 2) := by
              rw [hd, hd1, qspan, if_pos hc, if_pos hc1]
            refine ⟨fun t n hr => ?_, fun hr => ?_⟩
            · rw [hq] at hr
              cases hx : qspan (s.drop (k + 2)) with
              | none => rw [hx] at hr; cases hr
              | some x =>
                rw [hx] at hr
                simp only [Option.map_some, Option.some.injEq, Prod.mk.injEq] at hr
                obtain ⟨rfl, rfl⟩ := hr
                refine whileM_step hst ?_
                simp only
                rw [i1 x.1 x.2 hx]
                simp only [List.append_assoc, List.cons_append, List.nil_append]
                congr 4
                omega
            · rw [hq] at hr
              have hx : qspan (s.drop (k + 2)) = none := by simpa using hr
              obtain ⟨st, hst'⟩ := i2 hx
              exact ⟨st, whileM_step hst hst'⟩
          · have hst : qstep s (out, (k : Int)) = some (.ret (LLexerToken.mk 4 out 0 0, ((k + 1 : Nat) : Int), decide ((out.length : Int) ≤ 24))) := by
              simp only [qstep, hlt, cond_true, hg, bindP, u8_ne, hc, decide_true, Bool.not_true, cond_false, wrapS (show k < 1000000000 by omega), hlt1, hg1]
              rw [show ((s[k + 1].toNat : Int) == (39 : Int)) = false from by rw [show (39 : Int) = ((39 : UInt8).toNat : Int) from rfl, u8_eq, decide_eq_false hc1]]
              rfl
            have hq : qspan (s.drop k) = some ([], 1) := by
              rw [hd, hd1, qspan, if_pos hc, if_neg hc1]
            refine ⟨fun t n hr => ?_, fun hr => ?_⟩
            · rw [hq] at hr
              simp only [Option.some.injEq, Prod.mk.injEq] at hr
              obtain ⟨rfl, rfl⟩ := hr
              refine whileM_step hst ?_
              simp
            · rw [hq] at hr; cases hr
        · have hst : qstep s (out, (k : Int)) = some (.ret (LLexerToken.mk 4 out 0 0, ((k + 1 : Nat) : Int), decide ((out.length : Int) ≤ 24))) := by
            have hlt1 : decide ((((k + 1 : Nat) : Int)) < (s.length : Int)) = false := decide_eq_false (by omega)
            simp only [qstep, hlt, cond_true, hg, bindP, u8_ne, hc, decide_true, Bool.not_true, cond_false, wrapS (show k < 1000000000 by omega), hlt1]
          have hq : qspan (s.drop k) = some ([], 1) := by
            rw [hd, List.drop_eq_nil_of_le hk1, qspan, if_pos hc]
          refine ⟨fun t n hr => ?_, fun hr => ?_⟩
          · rw [hq] at hr
            simp only [Option.some.injEq, Prod.mk.injEq] at hr
            obtain ⟨rfl, rfl⟩ := hr
            refine whileM_step hst ?_
            simp
          · rw [hq] at hr; cases hr
      · have hst : qstep s (out, (k : Int)) = some (.next (out ++ [s[k]], ((k + 1 : Nat) : Int))) := by
          simp only [qstep, hlt, cond_true, hg, bindP, u8_ne, hc, decide_false, Bool.not_false, wrapS (show k < 1000000000 by omega), sub1 hk]
          rw [catS_ok (by simpa using by omega)]
        obtain ⟨i1, i2⟩ := ih (m - 1) (by omega) (k + 1) (out ++ [s[k]]) (by omega) (by simp; omega)
        have hq : qspan (s.drop k) = (qspan (s.drop (k + 1))).map fun x => (s[k] :: x.1, x.2 + 1) := by
          rw [hd]
          cases hr : s.drop (k + 1) with
          | nil => simp [qspan, hc]
          | cons d r => rw [qspan, if_neg hc]
        refine ⟨fun t n hr => ?_, fun hr => ?_⟩
        · rw [hq] at hr
          cases hx : qspan (s.drop (k + 1)) with
          | none => rw [hx] at hr; cases hr
          | some x =>
            rw [hx] at hr
            simp only [Option.map_some, Option.some.injEq, Prod.mk.injEq] at hr
            obtain ⟨rfl, rfl⟩ := hr
            refine whileM_step hst ?_
            simp only
            rw [i1 x.1 x.2 hx]
            simp only [List.append_assoc, List.cons_append, List.nil_append]
            congr 4
            omega
        · rw [hq] at hr
          have hx : qspan (s.drop (k + 1)) = none := by simpa using hr
          obtain ⟨st, hst'⟩ := i2 hx
          exact ⟨st, whileM_step hst hst'⟩
    · rw [List.drop_eq_nil_of_le hk]
      refine ⟨fun t n hr => (by cases hr), fun _ => ⟨(out, (k : Int)), whileM_step (fl := .brk (out, (k : Int))) ?_ rfl⟩⟩
      simp only [qstep, show ¬ ((k : Int) < (s.length : Int)) from by omega, decide_false, cond_false]

/-! Tokens. -/
/-- What a row of digits says; whether it is a number of the language. -/
def numV (d : List UInt8) : Int × Bool := match Lib.atoiAll d with
  | .ok v => (v, decide (v ≤ 1000000000000) && (Lib.itoa v == d))
  | .range => (Lib.atoiSat d, false)
  | _ => (0, false)

def noInn : List UInt8 → Bool
  | [] => true
  | x :: _ => !inn x

def bad : LLexerToken × Nat × Bool := (LLexerToken.mk 0 [] 0 0, 0, false)

def argS : List UInt8 → LLexerToken × Nat × Bool
  | _ :: d :: k :: r => if dig d && noInn r && decide (k = 105 ∨ k = 98 ∨ k = 116) then (LLexerToken.mk 6 [k] ((d.toNat : Int) - 48) 0, 3, true) else bad
  | _ => bad

def puncts : List (List UInt8) := [[124, 124], [60, 61], [40], [41], [44], [124], [43], [45], [42], [61], [60], [36]]

def oneS : List UInt8 → LLexerToken × Nat × Bool
  | [] => bad
  | c :: r =>
    if low c then
      (LLexerToken.mk (if L_lexer_Keywords.any ((c :: r.takeWhile inn) == ·) then 2 else 1) (c :: r.takeWhile inn) 0 0, 1 + (r.takeWhile inn).length, L_lexer_Keywords.any ((c :: r.takeWhile inn) == ·) || decide (1 + (r.takeWhile inn).length ≤ 12))
    else if dig c then
      (LLexerToken.mk 3 [] (numV ((c :: r).takeWhile dig)).1 0, ((c :: r).takeWhile dig).length, (numV ((c :: r).takeWhile dig)).2 && noInn ((c :: r).drop ((c :: r).takeWhile dig).length))
    else if c = 63 then argS (c :: r)
    else if c = 39 then (match qspan r with
      | some (t, n) => (LLexerToken.mk 4 t 0 0, 1 + n, decide (t.length ≤ 24))
      | none => bad)
    else match puncts.find? (·.isPrefixOf (c :: r)) with
      | some x => (LLexerToken.mk 5 x 0 0, x.length, true)
      | none => bad

theorem take_takeWhile {α : Type} (p : α → Bool) : ∀ l : List α, l.take (l.takeWhile p).length = l.takeWhile p
  | [] => rfl
  | a :: l => by
    rw [List.takeWhile_cons]
    cases p a with
    | true => simp [take_takeWhile p l]
    | false => simp
theorem takeWhile_len {α : Type} (p : α → Bool) (l : List α) : (l.takeWhile p).length ≤ l.length := (List.takeWhile_sublist p).length_le

theorem atoi_ok {d : List UInt8} (h : d.length ≤ 100000) : atoiL d = some (match Lib.atoiAll d with | .ok v => (v, false) | .range => (Lib.atoiSat d, true) | _ => (0, true)) := by
  unfold atoiL
  exact guardO_pos (by omega)

theorem number_eq (s : List UInt8) (hs : s.length ≤ 100000) :
    L_lexer_number s 0 = some (LLexerToken.mk 3 [] (numV (s.takeWhile dig)).1 0, ((s.takeWhile dig).length : Int), (numV (s.takeWhile dig)).2 && noInn (s.drop (s.takeWhile dig).length)) := by
  have hsc := scan dig s hs s.length 0 (by omega)
  rw [Nat.zero_add, List.drop_zero, Int.natCast_zero] at hsc
  have hn := takeWhile_len dig s
  have hsub : subI s 0 ((s.takeWhile dig).length : Int) = some (s.takeWhile dig) := by
    rw [subI_ok ⟨by omega, by omega, by omega⟩]
    simp [take_takeWhile]
  unfold L_lexer_number
  rw [hsc]
  simp only [bindP, Flow.thenP, hsub]
  rw [atoi_ok (by omega)]
  simp only [numV]
  cases ha : Lib.atoiAll (s.takeWhile dig) with
  | ok v =>
    have hb := Lib.atoiAll_bounds ha
    simp only [Bool.not_false, cond_true]
    by_cases hv : v ≤ 1000000000000
    · simp only [hv, decide_true, cond_true, Bool.true_and]
      rw [show itoaL v = some (Lib.itoa v) from guardO_pos (by omega)]
      simp only
      cases he : (Lib.itoa v == s.takeWhile dig) with
      | false => rfl
      | true =>
        simp only [cond_true, Bool.true_and]
        rcases Nat.lt_or_ge (s.takeWhile dig).length s.length with hl | hl
        · have hg : getI s ((s.takeWhile dig).length : Int) = some s[(s.takeWhile dig).length] := getI_nat (List.getElem?_eq_getElem hl)
          have hd : s.drop (s.takeWhile dig).length = s[(s.takeWhile dig).length] :: s.drop ((s.takeWhile dig).length + 1) := List.drop_eq_getElem_cons hl
          rw [show (((s.takeWhile dig).length : Int) == (s.length : Int)) = false from by simp; omega, hg, hd]
          rfl
        · rw [show (((s.takeWhile dig).length : Int) == (s.length : Int)) = true from by simp; omega, List.drop_eq_nil_of_le hl]
          rfl
    · simp only [hv, decide_false, cond_false, Bool.false_and]
  | _ => rfl

theorem idx_ibt (k : UInt8) : (decide (Lib.indexByte [105, 98, 116] k < 0)) = !decide (k = 105 ∨ k = 98 ∨ k = 116) := by
  simp only [Lib.indexByte]
  by_cases h1 : k = 105
  · subst h1; rfl
  · by_cases h2 : k = 98
    · subst h2; rfl
    · by_cases h3 : k = 116
      · subst h3; rfl
      · have e1 : ((105 : UInt8) == k) = false := by simpa using fun e => h1 e.symm
        have e2 : ((98 : UInt8) == k) = false := by simpa using fun e => h2 e.symm
        have e3 : ((116 : UInt8) == k) = false := by simpa using fun e => h3 e.symm
        simp [e1, e2, e3, h1, h2, h3]

theorem dig_range {c : UInt8} (h : dig c = true) : 48 ≤ c.toNat ∧ c.toNat ≤ 57 := by
  unfold dig L_lexer_digit at h
  cases h1 : decide ((c.toNat : Int) ≥ 48) with
  | false => rw [h1] at h; cases h
  | true =>
    rw [h1] at h
    simp only [cond_true, decide_eq_true_eq] at h h1
    omega

theorem digit_wrap {c : UInt8} (h : dig c = true) : IntKind.i64.wrap (IntKind.u8.wrap ((c.toNat : Int) - 48)) = (c.toNat : Int) - 48 := by
  obtain ⟨h1, h2⟩ := dig_range h
  have e : IntKind.u8.wrap ((c.toNat : Int) - 48) = (c.toNat : Int) - 48 := by
    simp only [IntKind.wrap, IntKind.bits, IntKind.signed]
    simp
    omega
  rw [e, wrap_id (by omega) (by omega)]

theorem argument_eq (s : List UInt8) (hs : s.length ≤ 100000) : L_lexer_argument s = some ((argS s).1, ((argS s).2.1 : Int), (argS s).2.2) := by
  unfold L_lexer_argument
  match s, hs with
  | [], _ => rfl
  | [_], _ => rfl
  | [_, _], _ => rfl
  | a :: d :: k :: r, hs =>
    have g1 : getI (a :: d :: k :: r) (1 : Int) = some d := rfl
    have g2 : getI (a :: d :: k :: r) (2 : Int) = some k := rfl
    have h3 : decide (((a :: d :: k :: r).length : Int) < 3) = false := decide_eq_false (by simp only [List.length_cons]; omega)
    have hsub : subI (a :: d :: k :: r) 2 3 = some [k] := by
      rw [subI_ok ⟨by omega, by omega, by simp only [List.length_cons]; omega⟩]
      rfl
    simp only [h3, cond_false, g1, g2, bindP_some, letP, hsub, idxByteL]
    cases hd : dig d with
    | false => simp [argS, hd, bad]
    | true =>
      have hd' : L_lexer_digit d = true := hd
      have key : (cond (decide (((a :: d :: k :: r).length : Int) > 3)) (bindP (getI (a :: d :: k :: r) (3 : Int)) fun x21 => some (L_lexer_inner x21)) (some false)) = some (!noInn r) := by
        cases r with
        | nil => rfl
        | cons x r =>
          rw [show decide (((a :: d :: k :: x :: r).length : Int) > 3) = true from decide_eq_true (by simp only [List.length_cons]; omega)]
          simp only [cond_true, noInn, Bool.not_not]
          rfl
      simp only [hd', Bool.not_true, cond_false, key, idx_ibt, bindP_some]
      cases hi : noInn r with
      | false => simp [argS, hd, hi, bad]
      | true =>
        simp only [Bool.not_true, cond_false]
        by_cases hk : k = 105 ∨ k = 98 ∨ k = 116
        · simp only [hk, decide_true, Bool.not_true, cond_false, digit_wrap hd]
          simp [argS, hd, hi, hk]
        · simp only [hk, decide_false, Bool.not_false, cond_true]
          simp [argS, hd, hi, hk, bad]

theorem quoted_eq (c : UInt8) (r : List UInt8) (hs : (c :: r).length ≤ 100000) :
    L_lexer_quoted (c :: r) = some (match qspan r with | some (t, n) => (LLexerToken.mk 4 t 0 0, ((1 + n : Nat) : Int), decide (t.length ≤ 24)) | none => (LLexerToken.mk 0 [] 0 0, 0, false)) := by
  unfold L_lexer_quoted
  obtain ⟨h1, h2⟩ := qloop (c :: r) hs r.length 1 [] (by simp; omega) (by simp)
  cases hq : qspan r with
  | none =>
    obtain ⟨st, hst⟩ := h2 (by simpa using hq)
    simp only [Int.natCast_one] at hst
    rw [hst]
    rfl
  | some x =>
    have := h1 x.1 x.2 (by simpa using hq)
    simp only [Int.natCast_one] at this
    rw [this]
    simp only [bindP, Flow.thenR, List.nil_append]
    congr 4
    exact propext (by omega)

theorem find_range {ρ : Type} (p : List UInt8 → Bool) (out : List UInt8 → ρ) (L : List (List UInt8)) (s : List UInt8) : ∀ (xs : List Nat) (j : Nat), (∀ i, i < xs.length → j + i < L.length) → j + xs.length = L.length →
    rangeM (σ := Unit) (ρ := ρ) (fun (j4 : Nat) (_ : Nat) (_ : Unit) => bindP (getI L (j4 : Int)) fun (x : List UInt8) => bindP (hasPrefixL s x) fun y => cond y (some (.ret (out x))) (some (.next ()))) j xs () =
      some (match (L.drop j).find? (·.isPrefixOf s) with | some x => .ret (out x) | none => .next ())
  | [], j, _, h => by
    rw [List.drop_eq_nil_of_le (by simp at h; omega)]
    rfl
  | x :: xs, j, hi, h => by
    have hj : j < L.length := by have := hi 0 (by simp); omega
    have hg : getI L (j : Int) = some L[j] := getI_nat (List.getElem?_eq_getElem hj)
    rw [List.drop_eq_getElem_cons hj, List.find?_cons, rangeM, hg]
    simp only [bindP, hasPrefixL]
    cases hp : List.isPrefixOf L[j] s with
    | true => rfl
    | false =>
      simp only [cond_false]
      exact find_range p out L s xs (j + 1) (fun i hi' => by have := hi (i + 1) (by simp; omega); omega) (by simp at h; omega)

theorem one_eq (s : List UInt8) (hn : s ≠ []) (hs : s.length ≤ 100000) : L_lexer_one s = some ((oneS s).1, ((oneS s).2.1 : Int), (oneS s).2.2) := by
  match s, hn with
  | c :: r, _ =>
    have g0 : getI (c :: r) (0 : Int) = some c := rfl
    unfold L_lexer_one
    rw [g0]
    simp only [bindP, letP]
    cases hl : low c with
    | true =>
      have hl' : (cond (decide ((c.toNat : Int) ≥ (97 : Int))) (decide ((c.toNat : Int) ≤ (122 : Int))) false) = true := hl
      have hsc := scan inn (c :: r) hs r.length 1 (by simp; omega)
      simp only [List.drop_succ_cons, List.drop_zero, Int.natCast_one, letP] at hsc
      have hw := takeWhile_len inn r
      have hsub : subI (c :: r) 0 ((1 + (r.takeWhile inn).length : Nat) : Int) = some (c :: r.takeWhile inn) := by
        rw [subI_ok ⟨by omega, by omega, by simp only [List.length_cons]; omega⟩]
        simp [Nat.add_comm 1, take_takeWhile]
      simp only [hl', cond_true, bindP] at hsc ⊢
      rw [hsc]
      simp only [Flow.thenP, hsub, N_L_slices_Contains_Lstring_string]
      simp only [oneS, hl, if_true]
      cases hk : L_lexer_Keywords.any ((c :: r.takeWhile inn) == ·) with
      | true => rfl
      | false =>
        simp only [cond_false, Bool.false_or, Bool.false_eq_true, if_false]
        rw [show ((1 : Int) == 2) = false from rfl]
        simp only [cond_false]
        congr 3
        rw [decide_eq_decide]
        omega
    | false =>
      have hl' : (cond (decide ((c.toNat : Int) ≥ (97 : Int))) (decide ((c.toNat : Int) ≤ (122 : Int))) false) = false := hl
      simp only [hl', cond_false]
      cases hd : dig c with
      | true =>
        have hd' : L_lexer_digit c = true := hd
        simp only [hd', cond_true, number_eq (c :: r) hs]
        simp only [oneS, hl, hd, Bool.false_eq_true, if_false, if_true]
      | false =>
        have hd' : L_lexer_digit c = false := hd
        simp only [hd', cond_false]
        by_cases h1 : c = 63
        · rw [show ((c.toNat : Int) == (63 : Int)) = true from by rw [show (63 : Int) = ((63 : UInt8).toNat : Int) from rfl, u8_eq, decide_eq_true h1]]
          simp only [cond_true, argument_eq (c :: r) hs]
          simp only [oneS, hl, hd, h1, Bool.false_eq_true, if_false, if_true]
          subst h1
          simp [hl, hd]
        · rw [show ((c.toNat : Int) == (63 : Int)) = false from by rw [show (63 : Int) = ((63 : UInt8).toNat : Int) from rfl, u8_eq, decide_eq_false h1]]
          simp only [cond_false]
          by_cases h2 : c = 39
          · rw [show ((c.toNat : Int) == (39 : Int)) = true from by rw [show (39 : Int) = ((39 : UInt8).toNat : Int) from rfl, u8_eq, decide_eq_true h2]]
            simp only [cond_true, quoted_eq c r hs]
            have : oneS (c :: r) = (match qspan r with | some (t, n) => (LLexerToken.mk 4 t 0 0, 1 + n, decide (t.length ≤ 24)) | none => bad) := by
              simp only [oneS, hl, hd, h1, h2, Bool.false_eq_true, if_false, if_true]
              subst h2
              simp [hl, hd]
            rw [this]
            cases qspan r with
            | none => rfl
            | some x => rfl
          · rw [show ((c.toNat : Int) == (39 : Int)) = false from by rw [show (39 : Int) = ((39 : UInt8).toNat : Int) from rfl, u8_eq, decide_eq_false h2]]
            simp only [cond_false]
            rw [show smallI ((([[124, 124], [60, 61], [40], [41], [44], [124], [43], [45], [42], [61], [60], [36]] : List (List UInt8)).length : Nat) : Int) = some 12 from rfl]
            simp only
            have := find_range (fun _ => true) (fun x => (LLexerToken.mk 5 x 0 0, (x.length : Int), true)) puncts (c :: r) (List.range 12) 0 (by simp [puncts]) (by simp [puncts])
            simp only [bindP, puncts, List.drop_zero] at this
            rw [this]
            have ho : oneS (c :: r) = (match puncts.find? (·.isPrefixOf (c :: r)) with | some x => (LLexerToken.mk 5 x 0 0, x.length, true) | none => bad) := by
              simp only [oneS, hl, hd, h1, h2, Bool.false_eq_true, if_false]
            rw [ho]
            simp only [puncts]
            cases List.find? (fun x => x.isPrefixOf (c :: r)) [[124, 124], [60, 61], [40], [41], [44], [124], [43], [45], [42], [61], [60], [36]] with
            | none => rfl
            | some x => rfl
end
end Go.Proofs.YtohlpijmiokkjaaDoor
