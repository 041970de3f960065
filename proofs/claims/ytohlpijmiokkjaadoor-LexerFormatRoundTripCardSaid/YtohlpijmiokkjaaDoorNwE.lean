/- The lexer in plain Lean, part E: formatting; the law of formatted tokens. -/
import Derived.Test.YtohlpijmiokkjaaDoorNwD
namespace Go.Proofs.YtohlpijmiokkjaaDoor
open Go Go.Ab
noncomputable section

/-- The text of a token. -/
def fmtOf (t : LLexerToken) : List UInt8 :=
  if t.kind = 3 then Lib.itoa t.number else if t.kind = 6 then 63 :: (Lib.itoa t.number ++ t.text) else if t.kind = 4 then 39 :: (esc t.text ++ [39]) else t.text
def strip (t : LLexerToken) : LLexerToken := LLexerToken.mk t.kind t.text t.number 0

/-- Nothing, or a space and what follows it. -/
def sp : List UInt8 → Prop
  | [] => True
  | c :: _ => c = 32

theorem sp_noInn {r : List UInt8} (h : sp r) : noInn r = true := by
  cases r with
  | nil => rfl
  | cons c r => obtain rfl : c = 32 := h; rfl
theorem sp_noQ {r : List UInt8} (h : sp r) : noQ r := by
  cases r with
  | nil => trivial
  | cons c r => obtain rfl : c = 32 := h; show (32 : UInt8) ≠ 39; decide
theorem sp_take (p : UInt8 → Bool) (hp : p 32 = false) {r : List UInt8} (h : sp r) : r.takeWhile p = [] := by
  cases r with
  | nil => rfl
  | cons c r => obtain rfl : c = 32 := h; rw [List.takeWhile_cons, hp]; rfl

theorem takeWhile_self (p : UInt8 → Bool) (hp : p 32 = false) {r : List UInt8} (hr : sp r) (l : List UInt8) : (l.takeWhile p ++ r).takeWhile p = l.takeWhile p := by
  induction l with
  | nil => exact sp_take p hp hr
  | cons a l ih =>
    rw [List.takeWhile_cons]
    cases ha : p a with
    | true => simp only [if_true, List.cons_append, List.takeWhile_cons, ha, ih]
    | false => simpa using sp_take p hp hr

/-- What is shown of each token: its text is that token, whatever follows behind a space. -/
structure Good (t : LLexerToken) : Prop where
  kind : t.kind = 1 ∨ t.kind = 2 ∨ t.kind = 3 ∨ t.kind = 4 ∨ t.kind = 5 ∨ t.kind = 6
  num : -9223372036854775808 ≤ t.number ∧ t.number ≤ 9223372036854775807
  text : t.text.length ≤ 4000
  len : (fmtOf t).length ≤ 4000
  head : ∃ c x, fmtOf t = c :: x ∧ ws c = false
  one : ∀ r, sp r → oneS (fmtOf t ++ r) = (strip t, (fmtOf t).length, true)

theorem low_ws {c : UInt8} (h : low c = true) : ws c = false := by
  unfold ws
  by_cases h1 : c = 32
  · subst h1; cases h
  · by_cases h2 : c = 10
    · subst h2; cases h
    · simp [h1, h2]
theorem dig_ws {c : UInt8} (h : dig c = true) : ws c = false := by
  unfold ws
  by_cases h1 : c = 32
  · subst h1; cases h
  · by_cases h2 : c = 10
    · subst h2; cases h
    · simp [h1, h2]

theorem itoa_digit {d : UInt8} (h : dig d = true) : Lib.itoa ((d.toNat : Int) - 48) = [d] := by
  obtain ⟨h1, h2⟩ := dig_range h
  have e : (d.toNat : Int) - 48 = ((d.toNat - 48 : Nat) : Int) := by omega
  rw [e, Lib.itoa_nonneg, Lib.decDigits, dif_pos (by omega)]
  congr 1
  apply UInt8.toNat_inj.1
  rw [UInt8.toNat_ofNat']
  omega

theorem punct_good {x : List UInt8} (hx : x ∈ puncts) : (∃ c y, x = c :: y ∧ ws c = false) ∧ x.length ≤ 2 ∧ ∀ r, sp r → oneS (x ++ r) = (LLexerToken.mk 5 x 0 0, x.length, true) := by
  have key : ∀ r, sp r → r = [] ∨ ∃ q, r = 32 :: q := fun r h => by
    cases r with
    | nil => exact .inl rfl
    | cons c q => obtain rfl : c = 32 := h; exact .inr ⟨q, rfl⟩
  simp only [puncts, List.mem_cons, List.mem_nil_iff, or_false] at hx
  rcases hx with rfl | rfl | rfl | rfl | rfl | rfl | rfl | rfl | rfl | rfl | rfl | rfl <;>
    refine ⟨⟨_, _, rfl, rfl⟩, by simp, fun r hr => ?_⟩ <;> rcases key r hr with rfl | ⟨q, rfl⟩ <;> rfl

theorem good_of (c : UInt8) (r0 : List UInt8) (hl0 : (c :: r0).length ≤ 4000) (h : (oneS (c :: r0)).2.2 = true) : Good (oneS (c :: r0)).1 ∧ strip (oneS (c :: r0)).1 = (oneS (c :: r0)).1 := by
  have hw := takeWhile_len inn r0
  have hw2 := takeWhile_len dig (c :: r0)
  simp only [List.length_cons] at hl0
  cases hl : low c with
  | true =>
    have e : oneS (c :: r0) = (LLexerToken.mk (if L_lexer_Keywords.any ((c :: r0.takeWhile inn) == ·) then 2 else 1) (c :: r0.takeWhile inn) 0 0, 1 + (r0.takeWhile inn).length, L_lexer_Keywords.any ((c :: r0.takeWhile inn) == ·) || decide (1 + (r0.takeWhile inn).length ≤ 12)) := by
      simp only [oneS, hl, if_true]
    rw [e] at h ⊢
    simp only at h ⊢
    have hk : (if L_lexer_Keywords.any ((c :: r0.takeWhile inn) == ·) then (2 : Int) else 1) = 1 ∨ (if L_lexer_Keywords.any ((c :: r0.takeWhile inn) == ·) then (2 : Int) else 1) = 2 := by split <;> simp
    generalize hkk : (if L_lexer_Keywords.any ((c :: r0.takeWhile inn) == ·) then (2 : Int) else 1) = kk at hk ⊢
    have hf : fmtOf (LLexerToken.mk kk (c :: r0.takeWhile inn) 0 0) = c :: r0.takeWhile inn := by
      simp only [fmtOf]
      rcases hk with rfl | rfl <;> rfl
    refine ⟨⟨by rcases hk with rfl | rfl <;> simp, ⟨by simp, by simp⟩, by simp; omega, by rw [hf]; simp; omega, ⟨_, _, hf, low_ws hl⟩, fun r hr => ?_⟩, rfl⟩
    rw [hf]
    rw [Nat.add_comm 1] at h
    simp only [List.cons_append, oneS, hl, if_true, takeWhile_self inn rfl hr, hkk, strip, List.length_cons, Nat.add_comm 1, h]
  | false =>
    cases hd : dig c with
    | true =>
      have e : oneS (c :: r0) = (LLexerToken.mk 3 [] (numV ((c :: r0).takeWhile dig)).1 0, ((c :: r0).takeWhile dig).length, (numV ((c :: r0).takeWhile dig)).2 && noInn ((c :: r0).drop ((c :: r0).takeWhile dig).length)) := by
        simp only [oneS, hl, hd, Bool.false_eq_true, if_false, if_true]
      rw [e] at h ⊢
      simp only [Bool.and_eq_true] at h ⊢
      have hD : (c :: r0).takeWhile dig = c :: r0.takeWhile dig := by rw [List.takeWhile_cons, if_pos hd]
      have hv : (numV ((c :: r0).takeWhile dig)).2 = true := h.1
      have hit : Lib.itoa (numV ((c :: r0).takeWhile dig)).1 = (c :: r0).takeWhile dig ∧ -9223372036854775808 ≤ (numV ((c :: r0).takeWhile dig)).1 ∧ (numV ((c :: r0).takeWhile dig)).1 ≤ 9223372036854775807 := by
        unfold numV at hv ⊢
        cases ha : Lib.atoiAll ((c :: r0).takeWhile dig) with
        | ok v =>
          rw [ha] at hv
          simp only [Bool.and_eq_true, beq_iff_eq] at hv
          have hb := Lib.atoiAll_bounds ha
          exact ⟨hv.2, by simpa using hb⟩
        | range => rw [ha] at hv; cases hv
        | _ => rw [ha] at hv; cases hv
      have hf : fmtOf (LLexerToken.mk 3 [] (numV ((c :: r0).takeWhile dig)).1 0) = (c :: r0).takeWhile dig := by
        simp only [fmtOf, if_true]
        exact hit.1
      refine ⟨⟨by simp, hit.2, by simp, by rw [hf]; simp only [List.length_cons] at hw2; omega, ⟨c, r0.takeWhile dig, by rw [hf, hD], dig_ws hd⟩, fun r hr => ?_⟩, rfl⟩
      rw [hf]
      have ht : ((c :: r0).takeWhile dig ++ r).takeWhile dig = (c :: r0).takeWhile dig := takeWhile_self dig rfl hr (c :: r0)
      generalize hDD : (c :: r0).takeWhile dig = D at *
      subst hD
      rw [List.cons_append] at ht ⊢
      simp only [oneS, hl, hd, Bool.false_eq_true, if_false, if_true, ht, hv, Bool.true_and, strip]
      rw [show List.drop (c :: r0.takeWhile dig).length (c :: (r0.takeWhile dig ++ r)) = r from by
        rw [← List.cons_append]
        exact List.drop_left' rfl]
      rw [sp_noInn hr]
    | false =>
      by_cases h1 : c = 63
      · subst h1
        have e : oneS (63 :: r0) = argS (63 :: r0) := by
          simp only [oneS, hl, hd, Bool.false_eq_true, if_false, if_true]
        rw [e] at h ⊢
        obtain ⟨a, d, k, r', e1, e2, e3, e4, e5⟩ := argS_cases _ h
        rw [e5]
        obtain ⟨b1, b2⟩ := dig_range e2
        have hf : fmtOf (LLexerToken.mk 6 [k] ((d.toNat : Int) - 48) 0) = [63, d, k] := by
          simp only [fmtOf, itoa_digit e2]
          rfl
        refine ⟨⟨by simp, ⟨by simp; omega, by simp; omega⟩, by simp, by rw [hf]; simp, ⟨_, _, hf, rfl⟩, fun r hr => ?_⟩, rfl⟩
        rw [hf]
        have g1 : low 63 = false := by rfl
        have g2 : dig 63 = false := by rfl
        simp only [List.cons_append, List.nil_append, oneS, g1, g2, Bool.false_eq_true, if_false, if_true, argS]
        rw [if_pos (by simp [e2, sp_noInn hr, e4])]
        rfl
      · by_cases h2 : c = 39
        · subst h2
          have e : oneS (39 :: r0) = (match qspan r0 with | some (t, n) => (LLexerToken.mk 4 t 0 0, 1 + n, decide (t.length ≤ 24)) | none => bad) := by
            simp only [oneS, hl, hd, h1, Bool.false_eq_true, if_false, if_true]
            cases qspan r0 <;> rfl
          rw [e] at h ⊢
          cases hq : qspan r0 with
          | none => rw [hq] at h; cases h
          | some x =>
            rw [hq] at h
            simp only [decide_eq_true_eq] at h ⊢
            have he := esc_len x.1
            have hf : fmtOf (LLexerToken.mk 4 x.1 0 0) = 39 :: (esc x.1 ++ [39]) := by
              simp only [fmtOf]
              rfl
            have hfl : (fmtOf (LLexerToken.mk 4 x.1 0 0)).length = (esc x.1).length + 2 := by rw [hf]; simp
            refine ⟨⟨by simp, ⟨by simp, by simp⟩, by simp; omega, by rw [hfl]; omega, ⟨_, _, hf, rfl⟩, fun r hr => ?_⟩, rfl⟩
            rw [hfl, hf]
            have := oneS_quote x.1 r (sp_noQ hr)
            rw [decide_eq_true h] at this
            rw [show 39 :: (esc x.1 ++ [39]) ++ r = 39 :: (esc x.1 ++ 39 :: r) from by simp]
            exact this
        · have e : oneS (c :: r0) = (match puncts.find? (·.isPrefixOf (c :: r0)) with | some x => (LLexerToken.mk 5 x 0 0, x.length, true) | none => bad) := by
            simp only [oneS, hl, hd, h1, h2, Bool.false_eq_true, if_false]
            cases puncts.find? (·.isPrefixOf (c :: r0)) <;> rfl
          rw [e] at h ⊢
          cases hq : puncts.find? (·.isPrefixOf (c :: r0)) with
          | none => rw [hq] at h; cases h
          | some x =>
            obtain ⟨g1, g2, g3⟩ := punct_good (List.mem_of_find?_eq_some hq)
            have hf : fmtOf (LLexerToken.mk 5 x 0 0) = x := by
              simp only [fmtOf]
              rfl
            refine ⟨⟨by simp, ⟨by simp, by simp⟩, by simp; omega, by rw [hf]; omega, by rw [hf]; exact g1, fun r hr => ?_⟩, rfl⟩
            rw [hf]
            exact g3 r hr

theorem Good.off {t : LLexerToken} (h : Good t) (o : Int) : Good (LLexerToken.mk t.kind t.text t.number o) := ⟨h.kind, h.num, h.text, h.len, h.head, h.one⟩

theorem toks_good : ∀ (f off : Nat) (s : List UInt8), s.length ≤ 4000 → ∀ t ∈ (toks f off s).1, Good t
  | 0, _, _, _, t, ht => by simp [toks] at ht
  | f + 1, off, [], _, t, ht => by simp [toks] at ht
  | f + 1, off, c :: r, hs, t, ht => by
    rw [toks] at ht
    split at ht
    · exact toks_good f (off + 1) r (by simp at hs; omega) t ht
    · split at ht
      · rename_i h0
        rcases List.mem_cons.1 ht with rfl | ht
        · exact (good_of c r hs h0).1.off _
        · exact toks_good f _ _ (by rw [List.length_drop]; omega) t ht
      · simp at ht

theorem toks_text (t : LLexerToken) (h : Good t) (r : List UInt8) (hr : sp r) (f off : Nat) : toks (f + 1) off (fmtOf t ++ r) = (LLexerToken.mk t.kind t.text t.number (off : Int) :: (toks f (off + (fmtOf t).length) r).1, (toks f (off + (fmtOf t).length) r).2) := by
  obtain ⟨c, x, hx, hw⟩ := h.head
  have h1 := h.one r hr
  have hd : (fmtOf t ++ r).drop (fmtOf t).length = r := List.drop_left' rfl
  rw [hx, List.cons_append] at h1 hd ⊢
  rw [toks, if_neg (by simp [hw]), h1]
  simp only [if_true, strip, hd]

theorem toks_join : ∀ (ts : List LLexerToken) (f off : Nat), (∀ t ∈ ts, Good t) → (Lib.joinTail [32] (ts.map fmtOf)).length < f → ∃ l', toks f off (Lib.joinTail [32] (ts.map fmtOf)) = (l', none) ∧ l'.map strip = ts.map strip
  | [], f, off, _, hf => by
    obtain ⟨f, rfl⟩ : ∃ g, f = g + 1 := ⟨f - 1, by omega⟩
    exact ⟨[], by simp [Lib.joinTail, toks], rfl⟩
  | t :: ts, f, off, hg, hf => by
    have e : Lib.joinTail [32] ((t :: ts).map fmtOf) = 32 :: (fmtOf t ++ Lib.joinTail [32] (ts.map fmtOf)) := by simp [Lib.joinTail]
    rw [e] at hf ⊢
    have ht := hg t (by simp)
    obtain ⟨c, x, hx, _⟩ := ht.head
    have hx1 : 1 ≤ (fmtOf t).length := by rw [hx]; simp
    simp only [List.length_cons, List.length_append] at hf
    obtain ⟨f, rfl⟩ : ∃ g, f = g + 2 := ⟨f - 2, by omega⟩
    have hr : sp (Lib.joinTail [32] (ts.map fmtOf)) := by
      cases ts with
      | nil => trivial
      | cons y ys =>
        rw [show Lib.joinTail [32] ((y :: ys).map fmtOf) = 32 :: (fmtOf y ++ Lib.joinTail [32] (ys.map fmtOf)) from by simp [Lib.joinTail]]
        rfl
    obtain ⟨l', h1, h2⟩ := toks_join ts f (off + 1 + (fmtOf t).length) (fun y hy => hg y (by simp [hy])) (by omega)
    refine ⟨LLexerToken.mk t.kind t.text t.number ((off + 1 : Nat) : Int) :: l', ?_, by simp [h2, strip]⟩
    rw [toks, if_pos (by rfl), toks_text t ht _ hr f (off + 1), h1]

theorem format_eq (t : LLexerToken) (h : Good t) : L_lexer_Format t = some (fmtOf t) := by
  have htk : L_lexer_Tokenize (fmtOf t) = some ([LLexerToken.mk t.kind t.text t.number 0], 0, 0) := by
    rw [tokenize_eq _ h.len]
    have := toks_text t h [] trivial (fmtOf t).length 0
    rw [List.append_nil] at this
    unfold tk
    rw [this]
    obtain ⟨c, x, hx, _⟩ := h.head
    rw [hx]
    simp [toks]
  have hrest : (bindP (L_lexer_Tokenize (fmtOf t)) fun x36 =>
      cond (x36.2.2 != (0 : Int))
        (some [])
        (cond ((x36.1.length : Int) != (1 : Int))
          (some [])
          (bindP (getI x36.1 0) fun (x49 : LLexerToken) =>
          cond (x49.kind != t.kind)
            (some [])
            (bindP (getI x36.1 0) fun (x58 : LLexerToken) =>
            cond (!(x58.text == t.text))
              (cond (t.kind != (3 : Int))
                (some [])
                (bindP (getI x36.1 0) fun (x72 : LLexerToken) =>
                cond (x72.number != t.number)
                  (cond (t.kind == (3 : Int))
                    (some [])
                    (cond (t.kind == (6 : Int))
                      (some [])
                      (some (fmtOf t))))
                  (some (fmtOf t))))
              (bindP (getI x36.1 0) fun (x72 : LLexerToken) =>
              cond (x72.number != t.number)
                (cond (t.kind == (3 : Int))
                  (some [])
                  (cond (t.kind == (6 : Int))
                    (some [])
                    (some (fmtOf t))))
                (some (fmtOf t))))))) = some (fmtOf t) := by
    rw [htk]
    simp only [bindP_some]
    rw [show getI [LLexerToken.mk t.kind t.text t.number 0] (0 : Int) = some (LLexerToken.mk t.kind t.text t.number 0) from rfl]
    simp
  unfold L_lexer_Format
  have hi : itoaL t.number = some (Lib.itoa t.number) := guardO_pos h.num
  have hil := itoa_len t.number h.num.1 h.num.2
  have htx := h.text
  have hmx : 100000 ≤ maxStr := by decide
  simp only [letP]
  rcases h.kind with hk | hk | hk | hk | hk | hk
  · have hf : fmtOf t = t.text := by simp [fmtOf, hk]
    simp only [hk, ← hf] at hrest ⊢
    exact hrest
  · have hf : fmtOf t = t.text := by simp [fmtOf, hk]
    simp only [hk, ← hf] at hrest ⊢
    exact hrest
  · have hf : fmtOf t = Lib.itoa t.number := by simp [fmtOf, hk]
    simp only [hk, hi, ← hf] at hrest ⊢
    exact hrest
  · have hf : fmtOf t = 39 :: (esc t.text ++ [39]) := by simp [fmtOf, hk]
    simp only [hk, quote_eq t.text (by omega), ← hf] at hrest ⊢
    exact hrest
  · have hf : fmtOf t = t.text := by simp [fmtOf, hk]
    simp only [hk, ← hf] at hrest ⊢
    exact hrest
  · have hf : fmtOf t = 63 :: (Lib.itoa t.number ++ t.text) := by simp [fmtOf, hk]
    have c1 : catS [63] (Lib.itoa t.number) = some (63 :: Lib.itoa t.number) := catS_ok (by simp only [List.length_cons, List.length_nil]; omega)
    have c2 : catS (63 :: Lib.itoa t.number) t.text = some (fmtOf t) := by
      rw [catS_ok (by simp only [List.length_cons]; omega), hf]
      rfl
    simp only [hk, hi] at hrest ⊢
    rw [show (bindP (some (Lib.itoa t.number)) fun x24 => bindP (catS ([63] : List UInt8) x24) fun (x25 : List UInt8) => bindP (catS x25 t.text) fun (x28 : List UInt8) => some x28) = some (fmtOf t) from by
      rw [bindP_some, c1, bindP_some, c2, bindP_some]]
    exact hrest

theorem joinTail_len : ∀ xs : List (List UInt8), (∀ x ∈ xs, x.length ≤ 4000) → (Lib.joinTail [32] xs).length ≤ 4001 * xs.length
  | [], _ => by simp [Lib.joinTail]
  | x :: xs, h => by
    have h1 := h x (by simp)
    have ih := joinTail_len xs fun y hy => h y (by simp [hy])
    rw [show Lib.joinTail [32] (x :: xs) = 32 :: (x ++ Lib.joinTail [32] xs) from by simp [Lib.joinTail]]
    simp only [List.length_cons, List.length_append]
    omega

theorem strip_eq {a b : LLexerToken} (h : strip a = strip b) : LLexerToken.mk a.kind a.text a.number b.offset = b := by
  cases a; cases b
  simp only [strip, LLexerToken.mk.injEq] at h ⊢
  simp [h.1, h.2.1, h.2.2.1]

theorem set_loop (l l' : List LLexerToken) (h : l'.map strip = l.map strip) :
    rangeM (σ := List LLexerToken) (ρ := Empty) (fun (j3 : Nat) (_ : Nat) (s3 : List LLexerToken) =>
          cond (decide ((j3 : Int) < (l.length : Int)))
            (bindP (getI l (j3 : Int)) fun (x65 : LLexerToken) =>
            bindP (getI s3 (j3 : Int)) fun (x68 : LLexerToken) =>
            letP (s3.set ((j3 : Int).toNat) (LLexerToken.mk x68.kind x68.text x68.number x65.offset)) fun (y6 : List LLexerToken) =>
            some (.next y6))
            (some (.next s3))) 0 (List.range l'.length) l' = some (.next l) := by
  have hlen : l'.length = l.length := by simpa using congrArg List.length h
  have := rangeM_all (ρ := Empty) (step := fun (j3 : Nat) (_ : Nat) (s3 : List LLexerToken) =>
          cond (decide ((j3 : Int) < (l.length : Int)))
            (bindP (getI l (j3 : Int)) fun (x65 : LLexerToken) =>
            bindP (getI s3 (j3 : Int)) fun (x68 : LLexerToken) =>
            letP (s3.set ((j3 : Int).toNat) (LLexerToken.mk x68.kind x68.text x68.number x65.offset)) fun (y6 : List LLexerToken) =>
            some (.next y6))
            (some (.next s3))) (xs := List.range l'.length) (s := l') (fun j => l.take j ++ l'.drop j) (by simp) (fun k x hk => by
    have hkl : k < l'.length := by simpa using (List.getElem?_eq_some_iff.1 hk).1
    have hkl2 : k < l.length := by omega
    rw [decide_eq_true (by omega)]
    simp only [cond_true]
    rw [getI_nat (List.getElem?_eq_getElem hkl2)]
    have hg : (l.take k ++ l'.drop k)[k]? = some l'[k] := by
      rw [List.getElem?_append_right (by simp; omega)]
      simp [List.length_take, Nat.min_eq_left (Nat.le_of_lt hkl2), hkl]
    rw [bindP_some, getI_nat hg, bindP_some]
    simp only [letP, Int.toNat_natCast]
    have hst : strip l'[k] = strip l[k] := by
      have := congrArg (·[k]?) h
      simpa [hkl, hkl2] using this
    rw [strip_eq hst]
    congr 2
    have hd : l'.drop k = l'[k] :: l'.drop (k + 1) := List.drop_eq_getElem_cons hkl
    rw [hd, List.set_append_right _ _ (by simp; omega), List.length_take, Nat.min_eq_left (Nat.le_of_lt hkl2), Nat.sub_self, List.set_cons_zero, List.take_succ_eq_append_getElem hkl2, List.append_assoc]
    rfl)
  rw [this]
  simp only [List.length_range, hlen, List.take_length]
  rw [List.drop_eq_nil_of_le (by omega)]
  simp

theorem equal_self (l : List LLexerToken) : L_slices_Equal_Llexer_Token_lexer_Token l l = some true := by
  unfold L_slices_Equal_Llexer_Token_lexer_Token
  rw [show ((l.length : Int) != (l.length : Int)) = false from by simp]
  simp only [cond_false]
  have := rangeM_all (σ := Unit) (ρ := Bool) (step := fun (j1 : Nat) (x1 : LLexerToken) (_ : Unit) =>
      bindP (getI l (j1 : Int)) fun (x22 : LLexerToken) =>
      cond (!(x1.kind == x22.kind && (x1.text == x22.text && (x1.number == x22.number && (x1.offset == x22.offset && true)))))
        (some (.ret false))
        (some (.next ()))) (xs := l) (s := ()) (fun _ => ()) rfl (fun k x hk => by
    rw [getI_nat hk, bindP_some]
    simp)
  rw [this]
  rfl

theorem format_law (s : List UInt8) : L_stemkeep3_LexerFormatRoundTrip s = some true := by
  unfold L_stemkeep3_LexerFormatRoundTrip
  rw [tokens_eq]
  simp only [bindP_some, Bool.not_true, cond_false, letP]
  rcases Nat.lt_or_ge 4000 s.length with hs | hs
  · rw [tokenize_long s hs]
    rfl
  · rw [tokenize_eq s hs]
    have hg := toks_good (s.length + 1) 0 s hs
    unfold tk
    generalize toks (s.length + 1) 0 s = z at hg
    obtain ⟨l, e⟩ := z
    cases e with
    | some x => rfl
    | none =>
      simp only [bindP_some] at hg ⊢
      rw [show ((0 : Int) != 0) = false from rfl]
      simp only [cond_false]
      rcases Nat.lt_or_ge 300 l.length with hl | hl
      · rw [decide_eq_true (by omega)]
        rfl
      · rw [decide_eq_false (by omega)]
        simp only [cond_false]
        have h1 := rangeM_map (ρ := Empty) (step := fun (_ : Nat) (x2 : LLexerToken) (s2 : List (List UInt8)) =>
          bindP (L_lexer_Format x2) fun x37 =>
          bindP (appI 16 s2 ([x37] : List (List UInt8))) fun (x39 : List (List UInt8)) =>
          some (.next x39)) (xs := l) fmtOf (fun k x hk => by
            have hx := hg x (List.mem_of_getElem? hk)
            have hkl := (List.getElem?_eq_some_iff.1 hk).1
            rw [format_eq x hx, bindP_some, appI_ok (by simp; omega) (by simp [maxLen]; omega), bindP_some])
        rw [h1]
        simp only [bindP_some, Flow.thenP]
        have hjl : (Lib.join (l.map fmtOf) [32]).length ≤ 4001 * (l.map fmtOf).length := by
          cases l with
          | nil => simp [Lib.join, List.intercalate]
          | cons t ts =>
            have ht := (hg t (by simp)).len
            have := joinTail_len (ts.map fmtOf) (fun x hx => by
              obtain ⟨y, hy, rfl⟩ := List.mem_map.1 hx
              exact (hg y (by simp [hy])).len)
            rw [List.map_cons, Lib.join_cons, List.length_append, List.length_cons]
            omega
        rw [List.length_map] at hjl
        rw [show joinL (l.map fmtOf) [32] = some (Lib.join (l.map fmtOf) [32]) from guardO_pos ⟨by rw [List.length_map]; omega, by omega⟩]
        simp only [bindP_some]
        rcases Nat.lt_or_ge 4000 (Lib.join (l.map fmtOf) [32]).length with hj | hj
        · rw [decide_eq_true (by omega)]
          rfl
        · rw [decide_eq_false (by omega)]
          simp only [cond_false]
          have ht : ∃ l', tk (Lib.join (l.map fmtOf) [32]) = (l', none) ∧ l'.map strip = l.map strip := by
            cases l with
            | nil => exact ⟨[], by simp [Lib.join, List.intercalate, tk, toks], rfl⟩
            | cons t ts =>
              have htg := hg t (by simp)
              rw [List.map_cons, Lib.join_cons]
              have hr : sp (Lib.joinTail [32] (ts.map fmtOf)) := by
                cases ts with
                | nil => trivial
                | cons y ys =>
                  rw [show Lib.joinTail [32] ((y :: ys).map fmtOf) = 32 :: (fmtOf y ++ Lib.joinTail [32] (ys.map fmtOf)) from by simp [Lib.joinTail]]
                  rfl
              unfold tk
              rw [toks_text t htg _ hr]
              obtain ⟨c, x, hx, _⟩ := htg.head
              have hx1 : 1 ≤ (fmtOf t).length := by rw [hx]; simp
              obtain ⟨l', h2, h3⟩ := toks_join ts (fmtOf t ++ Lib.joinTail [32] (ts.map fmtOf)).length (0 + (fmtOf t).length) (fun y hy => hg y (by simp [hy])) (by rw [List.length_append]; omega)
              rw [h2]
              exact ⟨_, rfl, by simp [h3, strip]⟩
          obtain ⟨l', h2, h3⟩ := ht
          have hlen : l'.length = l.length := by simpa using congrArg List.length h3
          rw [show L_lexer_Tokenize_T = L_lexer_Tokenize from rfl, tokenize_eq _ hj, h2]
          simp only [bindP_some]
          rw [show smallI ((l'.length : Nat) : Int) = some l'.length from by unfold smallI; rw [if_pos (by omega)]; simp]
          simp only [bindP_some]
          have hsl := set_loop l l' h3
          simp only [letP] at hsl
          rw [hsl]
          simp only [bindP_some]
          rw [equal_self l]
          rfl
end
end Go.Proofs.YtohlpijmiokkjaaDoor
