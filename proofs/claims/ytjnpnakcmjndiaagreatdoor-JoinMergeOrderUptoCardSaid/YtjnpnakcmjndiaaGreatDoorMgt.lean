/- The stable sort sorts, for elements of type LJoinalgoOne. Printed by stabgen.py. -/
import Derived.Test.YtjnpnakcmjndiaaGreatDoorMgs
namespace Go.Proofs.YtjnpnakcmjndiaaGreatDoor
open Go Go.Ab
open Go.Sort (swp insInner insOuter insertionSort siftDown size_swp SWO PermIn SortedIn permIn_refl permIn_trans permIn_mono permIn_all swp_permIn swp_get)
abbrev Rows := List (LJoinalgoOne)
abbrev Cmp := LJoinalgoOne → LJoinalgoOne → Option Int
section
variable {cmp : Cmp} {d0 : Rows}
theorem symMerge_mono {r r' : Rows → Int → Int → Int → Option Rows} (h : ∀ d a m b, LeO (r d a m b) (r' d a m b)) (d : Rows) (a m b : Int) : LeO (O_slices_symMergeCmpFunc_joinalgo_one r d a m b cmp) (O_slices_symMergeCmpFunc_joinalgo_one r' d a m b cmp) := by
  unfold O_slices_symMergeCmpFunc_joinalgo_one
  simp only [letP_eq]
  refine LeO.cond (LeO.refl _) (LeO.cond (LeO.refl _) (LeO.bind (LeO.refl _) fun fl => LeO.thenP fun s => LeO.bind (LeO.refl _) fun t => LeO.bind (LeO.cond (LeO.bind (h _ _ _ _) fun _ => LeO.refl _) (LeO.refl _)) fun u => LeO.cond (LeO.cond (LeO.bind (h _ _ _ _) fun _ => LeO.refl _) (LeO.refl _)) (LeO.refl _)))
theorem symMerge_step : ∀ (n : Nat) (d : Rows) (a m b : Int), LeO (F_slices_symMergeCmpFunc_joinalgo_one n d a m b cmp) (F_slices_symMergeCmpFunc_joinalgo_one (n + 1) d a m b cmp)
  | 0, d, a, m, b => fun r h => by simp [F_slices_symMergeCmpFunc_joinalgo_one] at h
  | n + 1, d, a, m, b => by
    rw [F_slices_symMergeCmpFunc_joinalgo_one, F_slices_symMergeCmpFunc_joinalgo_one]
    exact symMerge_mono (fun d a m b => symMerge_step n d a m b) d a m b
theorem symMerge_lim {n : Nat} {d : Rows} {a m b : Int} {r : Rows} (h : F_slices_symMergeCmpFunc_joinalgo_one n d a m b cmp = some r) : L_slices_symMergeCmpFunc_joinalgo_one d a m b cmp = some r := by
  refine limN_eq n fun k hk => ?_
  obtain ⟨j, rfl⟩ : ∃ j, k = n + j := ⟨k - n, by omega⟩
  clear hk
  induction j with
  | zero => exact h
  | succ j ih => exact symMerge_step (n + j) d a m b r ih
end
section
variable {α : Type} [Inhabited α] {v : α → LJoinalgoOne} {lt : α → α → Bool} {cmp : Cmp}
structure CmpIs (v : α → LJoinalgoOne) (lt : α → α → Bool) (cmp : Cmp) : Prop where
  is : ∀ x y, ∃ c, cmp (v x) (v y) = some c ∧ decide (c < 0) = lt x y
theorem ex_eq {β : Type} {o : Option β} {x : β} (h : ∃ r, o = some r ∧ r = x) : o = some x := by
  obtain ⟨r, h1, rfl⟩ := h
  exact h1
theorem while_runR {σ β : Type} {step : σ → Option (Flow σ β)} {k : σ → Option β} {R : β → Prop} {s : σ} (I : σ → Prop) (μ : σ → Nat) (Q : σ → Prop) (h0 : I s)
    (hs : ∀ s, I s → ∃ fl, step s = some fl ∧ (match fl with | .next s' => I s' ∧ μ s' < μ s | .brk s' => Q s' | .ret r => R r)) (hk : ∀ s', Q s' → ∃ r, k s' = some r ∧ R r) :
    ∃ r, bindP (whileM step s) (fun fl => fl.thenR k) = some r ∧ R r := by
  obtain ⟨fl, h1, h2⟩ := whileM_by (step := step) I μ Q R hs s h0
  cases fl with
  | next s' => rw [h1]; exact hk s' h2
  | brk s' => exact absurd h2 (by simp)
  | ret r => exact ⟨r, by rw [h1]; rfl, h2⟩
theorem wrapN {z : Int} {n : Nat} (h : z = n) (hn : n ≤ 1000000000) : IntKind.i64.wrap z = (n : Int) := by rw [h]; exact wrap_id (by omega) (by omega)
def rp (v : α → LJoinalgoOne) (A : Array α) : Rows := A.toList.map v
omit [Inhabited α] in
theorem rp_len (A : Array α) : (rp v A).length = A.size := by simp [rp]
theorem rp_get {A : Array α} {n : Nat} (h : n < A.size) : getI (rp v A) (n : Int) = some (v A[n]!) := by
  rw [getI_of (by rw [rp_len]; exact h)]
  simp [rp, getElem!_pos A n h]
omit [Inhabited α] in
theorem rp_set (A : Array α) (n : Nat) (x : α) : (rp v A).set n (v x) = rp v (A.setIfInBounds n x) := by simp [rp]
theorem rp_swap {β : Type} {A : Array α} {i j : Nat} (hi : i < A.size) (hj : j < A.size) (k : Rows → Option β) :
    (bindP (getI (rp v A) (j : Int)) fun (x : LJoinalgoOne) => bindP (getI (rp v A) (i : Int)) fun (y : LJoinalgoOne) => bindP (getI (rp v A) (i : Int)) fun (_ : LJoinalgoOne) => letP ((rp v A).set ((i : Int)).toNat x) fun (z : Rows) => bindP (getI z (j : Int)) fun (_ : LJoinalgoOne) => letP (z.set ((j : Int)).toNat y) fun (w : Rows) => k w) = k (rp v (swp A i j)) := by
  rw [rp_get hj, rp_get hi]
  simp only [bindP_some, letP_eq, Int.toNat_natCast]
  rw [rp_set, rp_get (A := A.setIfInBounds i A[j]!) (by simpa using hj), bindP_some, rp_set]
  rfl
theorem insInner_size (a : Nat) : ∀ (j : Nat) (D : Array α), (insInner lt a j D).size = D.size
  | 0, D => rfl
  | j + 1, D => by
    rw [insInner]
    split
    · rw [insInner_size a j, size_swp]
    · rfl
theorem ins_sim (hC : CmpIs v lt cmp) {A : Array α} {a b : Nat} (hs : A.size ≤ 1000000) (ha : a ≤ A.size) (hb : b ≤ A.size) : L_slices_insertionSortCmpFunc_joinalgo_one (rp v A) (a : Int) (b : Int) cmp = some (rp v (insertionSort lt A a b)) := by
  unfold L_slices_insertionSortCmpFunc_joinalgo_one
  rw [wrapN (z := (a : Int) + 1) (n := a + 1) (by omega) (by omega)]
  refine ex_eq (while_run (fun s => ∃ (D : Array α) (i : Nat), s = (rp v D, (i : Int)) ∧ D.size = A.size ∧ a < i ∧ insOuter lt a b i D = insertionSort lt A a b) (fun s => ((b : Int) - s.2).toNat) (fun s => s.1 = rp v (insertionSort lt A a b)) ⟨A, a + 1, rfl, rfl, by omega, rfl⟩ (fun s hI => ?_) (fun s hq => ⟨_, rfl, hq⟩))
  obtain ⟨D, i, rfl, hD, hai, hO⟩ := hI
  dsimp only
  rw [insOuter] at hO
  by_cases hlt : i < b
  · rw [decide_eq_true (show (i : Int) < (b : Int) from by omega), cond_true]
    rw [if_pos hlt] at hO
    refine while_run (fun t => ∃ (E : Array α) (j : Nat), t = (rp v E, (j : Int)) ∧ E.size = A.size ∧ j < b ∧ a ≤ j ∧ insInner lt a j E = insInner lt a i D) (fun t => t.2.toNat) (fun t => t.1 = rp v (insInner lt a i D)) ⟨D, i, rfl, hD, hlt, by omega, rfl⟩ (fun t hI => ?_) (fun t hq => ⟨_, rfl, ?_⟩)
    · obtain ⟨E, j, rfl, hE, hjb, haj, hO2⟩ := hI
      dsimp only
      by_cases hgt : a < j
      · obtain ⟨k, rfl⟩ : ∃ k, j = k + 1 := ⟨j - 1, by omega⟩
        rw [decide_eq_true (show ((k + 1 : Nat) : Int) > (a : Int) from by omega), cond_true, wrapN (z := ((k + 1 : Nat) : Int) - 1) (n := k) (by omega) (by omega)]
        obtain ⟨c, hc, hl⟩ := hC.is E[k + 1]! E[k]!
        rw [insInner] at hO2
        have hsw := rp_swap (v := v) (A := E) (i := k + 1) (j := k) (β := Flow (Rows × Int) Empty) (by omega) (by omega) (fun y => some (.next (y, (k : Int))))
        rw [rp_get (by omega), bindP_some, rp_get (by omega), bindP_some, hc, bindP_some, bindP_some, hl]
        cases hx : lt E[k + 1]! E[k]! with
        | true =>
          rw [hx] at hO2
          dsimp only
          rw [cond_true]
          refine ⟨_, hsw, ⟨swp E (k + 1) k, k, rfl, by rw [size_swp]; exact hE, by omega, by omega, ?_⟩, by show ((k : Int)).toNat < (((k + 1 : Nat) : Int)).toNat; omega⟩
          rw [← hO2, if_pos (by simp; omega)]
        | false =>
          rw [hx] at hO2
          refine ⟨_, rfl, ?_⟩
          show rp v E = rp v _
          rw [← hO2, if_neg (by simp)]
      · rw [decide_eq_false (show ¬ (j : Int) > (a : Int) from by omega), cond_false]
        refine ⟨_, rfl, ?_⟩
        show rp v E = rp v _
        rw [← hO2]
        cases j with
        | zero => rfl
        | succ k => rw [insInner, if_neg (by simp; omega)]
    · have e := wrapN (z := (i : Int) + 1) (n := i + 1) (by omega) (by omega)
      show (∃ (D : Array α) (j : Nat), (t.1, IntKind.i64.wrap ((i : Int) + 1)) = (rp v D, (j : Int)) ∧ _) ∧ ((b : Int) - IntKind.i64.wrap ((i : Int) + 1)).toNat < ((b : Int) - (i : Int)).toNat
      rw [e]
      exact ⟨⟨insInner lt a i D, i + 1, by rw [hq], by rw [insInner_size]; exact hD, by omega, hO⟩, by omega⟩
  · rw [decide_eq_false (show ¬ (i : Int) < (b : Int) from by omega), cond_false]
    rw [if_neg hlt] at hO
    exact ⟨_, rfl, by show rp v D = _; rw [hO]⟩
def swR (D : Array α) (a b n k : Nat) : α := if a ≤ k ∧ k < a + n then D[k - a + b]! else if b ≤ k ∧ k < b + n then D[k - b + a]! else D[k]!
def roT (D : Array α) (s m e k : Nat) : α := if s ≤ k ∧ k < s + (e - m) then D[k + (m - s)]! else if s + (e - m) ≤ k ∧ k < e then D[k - (e - m)]! else D[k]!
theorem swapRange_sim {A : Array α} {lo a b n : Nat} (hs : A.size ≤ 1000000) (hl : lo ≤ a) (hab : a + n ≤ b) (hb : b + n ≤ A.size) : ∃ r, L_slices_swapRangeCmpFunc_joinalgo_one (rp v A) (a : Int) (b : Int) (n : Int) cmp = some r ∧ ∃ A', r = rp v A' ∧ PermIn lo (b + n) A A' ∧ ∀ k, A'[k]! = swR A a b n k := by
  unfold L_slices_swapRangeCmpFunc_joinalgo_one
  refine while_run (fun s => ∃ (D : Array α) (i : Nat), s = (rp v D, (i : Int)) ∧ i ≤ n ∧ PermIn lo (b + n) A D ∧ ∀ k, D[k]! = swR A a b i k) (fun s => ((n : Int) - s.2).toNat) (fun s => ∃ D : Array α, s.1 = rp v D ∧ PermIn lo (b + n) A D ∧ ∀ k, D[k]! = swR A a b n k) ⟨A, 0, rfl, by omega, permIn_refl _ _ _, fun k => by unfold swR; rw [if_neg (by omega), if_neg (by omega)]⟩ (fun s hI => ?_) (fun s hq => ?_)
  · obtain ⟨D, i, rfl, hi, hP, hk⟩ := hI
    have hD := hP.1
    dsimp only
    by_cases hlt : i < n
    · rw [decide_eq_true (by omega), cond_true, wrapN (z := (b : Int) + (i : Int)) (n := b + i) (by omega) (by omega), wrapN (z := (a : Int) + (i : Int)) (n := a + i) (by omega) (by omega), wrapN (z := (i : Int) + 1) (n := i + 1) (by omega) (by omega), rp_swap (by omega) (by omega)]
      refine ⟨_, rfl, ⟨swp D (a + i) (b + i), i + 1, rfl, by omega, permIn_trans _ _ _ _ _ hP (swp_permIn D lo (b + n) (a + i) (b + i) (by omega) (by omega) (by omega) (by omega) (by omega)), fun k => ?_⟩, by show ((n : Int) - ((i + 1 : Nat) : Int)).toNat < ((n : Int) - (i : Int)).toNat; omega⟩
      rw [swp_get D (by omega) (by omega), hk, hk, hk]
      unfold swR
      by_cases h1 : k = b + i
      · subst h1
        rw [if_pos rfl, if_neg (by omega), if_neg (by omega), if_neg (by omega), if_pos (by omega)]
        congr 1; omega
      · rw [if_neg h1]
        by_cases h2 : k = a + i
        · subst h2
          rw [if_pos rfl, if_neg (by omega), if_neg (by omega), if_pos (by omega)]
          congr 1; omega
        · rw [if_neg h2]
          by_cases h3 : a ≤ k ∧ k < a + i
          · rw [if_pos h3, if_pos (by omega)]
          · by_cases h4 : b ≤ k ∧ k < b + i
            · rw [if_neg h3, if_pos h4, if_neg (by omega), if_pos (by omega)]
            · rw [if_neg h3, if_neg h4, if_neg (by omega), if_neg (by omega)]
    · rw [decide_eq_false (by omega), cond_false]
      have : i = n := by omega
      subst this
      exact ⟨_, rfl, D, rfl, hP, hk⟩
  · obtain ⟨D, h1, h2, h3⟩ := hq
    exact ⟨_, rfl, D, h1, h2, h3⟩
theorem rotate_sim {A : Array α} {s m e : Nat} (hs : A.size ≤ 1000000) (h1 : s < m) (h2 : m < e) (h3 : e ≤ A.size) : ∃ r, L_slices_rotateCmpFunc_joinalgo_one (rp v A) (s : Int) (m : Int) (e : Int) cmp = some r ∧ ∃ A', r = rp v A' ∧ PermIn s e A A' ∧ ∀ k, A'[k]! = roT A s m e k := by
  unfold L_slices_rotateCmpFunc_joinalgo_one
  rw [wrapN (z := (m : Int) - (s : Int)) (n := m - s) (by omega) (by omega), wrapN (z := (e : Int) - (m : Int)) (n := e - m) (by omega) (by omega)]
  refine while_run (fun t => ∃ (D : Array α) (i j : Nat), t = (rp v D, (i : Int), (j : Int)) ∧ 0 < i ∧ 0 < j ∧ s + i ≤ m ∧ m + j ≤ e ∧ PermIn s e A D ∧ ∀ k, roT D (m - i) m (m + j) k = roT A s m e k) (fun t => (t.2.1 + t.2.2).toNat) (fun t => ∃ (D : Array α) (i : Nat), t.1 = rp v D ∧ t.2.1 = (i : Int) ∧ 0 < i ∧ s + i ≤ m ∧ m + i ≤ e ∧ PermIn s e A D ∧ ∀ k, roT D (m - i) m (m + i) k = roT A s m e k) ⟨A, m - s, e - m, rfl, by omega, by omega, by omega, by omega, permIn_refl _ _ _, fun k => by rw [show m - (m - s) = s from by omega, show m + (e - m) = e from by omega]⟩ (fun t hI => ?_) (fun t hq => ?_)
  · obtain ⟨D, i, j, rfl, hi, hj, hsi, hje, hP, hk⟩ := hI
    have hD := hP.1
    dsimp only
    by_cases hne : i = j
    · subst hne
      rw [bneF rfl, cond_false]
      exact ⟨_, rfl, D, i, rfl, rfl, hi, hsi, hje, hP, hk⟩
    · rw [bneT (show ¬ (i : Int) = (j : Int) from by omega), cond_true, wrapN (z := (m : Int) - (i : Int)) (n := m - i) (by omega) (by omega)]
      by_cases hgt : i > j
      · rw [decide_eq_true (by omega), cond_true]
        obtain ⟨r, e1, D', rfl, hP', hk'⟩ := swapRange_sim (v := v) (cmp := cmp) (A := D) (lo := m - i) (a := m - i) (b := m) (n := j) (by omega) (by omega) (by omega) (by omega)
        have hD' := hP'.1
        rw [e1, bindP_some, guardO_pos (by rw [rp_len, rp_len, hD']), bindP_some, wrapN (z := (i : Int) - (j : Int)) (n := i - j) (by omega) (by omega)]
        refine ⟨_, rfl, ⟨D', i - j, j, rfl, by omega, hj, by omega, hje, permIn_trans _ _ _ _ _ hP (permIn_mono _ _ _ _ _ _ (by omega) (by omega) (by omega) hP'), fun k => ?_⟩, by show (((i - j : Nat) : Int) + (j : Int)).toNat < ((i : Int) + (j : Int)).toNat; omega⟩
        rw [← hk k]
        unfold roT
        rw [hk', hk', hk']
        unfold swR
        by_cases c1 : m - i ≤ k ∧ k < m - i + j
        · rw [if_neg (by omega), if_neg (by omega), if_pos c1, if_pos (by omega)]
          congr 1; omega
        · by_cases c2 : m - i + j ≤ k ∧ k < m - i + j + j
          · rw [if_pos (by omega), if_neg (by omega), if_pos (by omega), if_neg (by omega), if_pos (by omega)]
            congr 1; omega
          · by_cases c3 : m - i + j + j ≤ k ∧ k < m + j
            · rw [if_neg (by omega), if_pos (by omega), if_neg (by omega), if_neg (by omega), if_neg (by omega), if_pos (by omega)]
            · rw [if_neg (by omega), if_neg (by omega), if_neg (by omega), if_neg (by omega), if_neg (by omega), if_neg (by omega)]
      · rw [decide_eq_false (by omega), cond_false, wrapN (z := (m : Int) + (j : Int)) (n := m + j) (by omega) (by omega), wrapN (z := ((m + j : Nat) : Int) - (i : Int)) (n := m + j - i) (by omega) (by omega)]
        obtain ⟨r, e1, D', rfl, hP', hk'⟩ := swapRange_sim (v := v) (cmp := cmp) (A := D) (lo := m - i) (a := m - i) (b := m + j - i) (n := i) (by omega) (by omega) (by omega) (by omega)
        have hD' := hP'.1
        rw [e1, bindP_some, guardO_pos (by rw [rp_len, rp_len, hD']), bindP_some, wrapN (z := (j : Int) - (i : Int)) (n := j - i) (by omega) (by omega)]
        refine ⟨_, rfl, ⟨D', i, j - i, rfl, hi, by omega, hsi, by omega, permIn_trans _ _ _ _ _ hP (permIn_mono _ _ _ _ _ _ (by omega) (by omega) (by omega) hP'), fun k => ?_⟩, by show ((i : Int) + ((j - i : Nat) : Int)).toNat < ((i : Int) + (j : Int)).toNat; omega⟩
        rw [← hk k]
        unfold roT
        rw [hk', hk', hk']
        unfold swR
        by_cases c1 : m - i ≤ k ∧ k < m - i + (j - i)
        · rw [if_pos (by omega), if_neg (by omega), if_neg (by omega), if_pos (by omega)]
        · by_cases c2 : m - i + (j - i) ≤ k ∧ k < m + (j - i)
          · rw [if_neg (by omega), if_pos (by omega), if_pos (by omega), if_pos (by omega)]
            congr 1; omega
          · by_cases c3 : m + (j - i) ≤ k ∧ k < m + j
            · rw [if_neg (by omega), if_neg (by omega), if_neg (by omega), if_pos (by omega), if_neg (by omega), if_pos (by omega)]
              congr 1; omega
            · rw [if_neg (by omega), if_neg (by omega), if_neg (by omega), if_neg (by omega), if_neg (by omega), if_neg (by omega)]
  · obtain ⟨D, i, q1, q2, hi, hsi, hie, hP, hk⟩ := hq
    have hD := hP.1
    rw [q1, q2, wrapN (z := (m : Int) - (i : Int)) (n := m - i) (by omega) (by omega)]
    obtain ⟨r, e1, D', rfl, hP', hk'⟩ := swapRange_sim (v := v) (cmp := cmp) (A := D) (lo := m - i) (a := m - i) (b := m) (n := i) (by omega) (by omega) (by omega) (by omega)
    have hD' := hP'.1
    rw [e1, bindP_some, guardO_pos (by rw [rp_len, rp_len, hD']), bindP_some]
    refine ⟨_, rfl, D', rfl, permIn_trans _ _ _ _ _ hP (permIn_mono _ _ _ _ _ _ (by omega) (by omega) (by omega) hP'), fun k => ?_⟩
    rw [← hk k, hk']
    unfold roT swR
    by_cases c1 : m - i ≤ k ∧ k < m - i + i
    · rw [if_pos c1, if_pos (by omega)]
      congr 1; omega
    · by_cases c2 : m ≤ k ∧ k < m + i
      · rw [if_neg c1, if_pos c2, if_neg (by omega), if_pos (by omega)]
        congr 1; omega
      · rw [if_neg c1, if_neg c2, if_neg (by omega), if_neg (by omega)]
omit [Inhabited α] in
theorem le_trans' (hS : SWO lt) {x y z : α} (h1 : lt y x = false) (h2 : lt z y = false) : lt z x = false := hS.ntrans z y x h2 h1
omit [Inhabited α] in
theorem lt_le (hS : SWO lt) {x y : α} (h : lt x y = true) : lt y x = false := Go.Sort.SWO.asymmA hS h
theorem SortedIn.le (hS : SWO lt) {a b : Nat} {A : Array α} (h : SortedIn lt a b A) {i j : Nat} (hi : a ≤ i) (hij : i ≤ j) (hj : j < b) : lt A[j]! A[i]! = false := by
  rcases Nat.lt_or_ge i j with h1 | h1
  · exact h i j hi h1 hj
  · have : i = j := by omega
    subst this
    exact hS.irrefl _
theorem SortedIn.sub {a b a' b' : Nat} {A : Array α} (h : SortedIn lt a b A) (h1 : a ≤ a') (h2 : b' ≤ b) : SortedIn lt a' b' A := fun i j hi hij hj => h i j (by omega) hij (by omega)
theorem SortedIn.same {a b : Nat} {A B : Array α} (h : SortedIn lt a b A) (he : ∀ k, a ≤ k → k < b → B[k]! = A[k]!) : SortedIn lt a b B := fun i j hi hij hj => by
  rw [he i hi (by omega), he j (by omega) hj]
  exact h i j hi hij hj
theorem sorted_two {a m b : Nat} {C : Array α} (h1 : SortedIn lt a m C) (h2 : SortedIn lt m b C) (h : ∀ x y, a ≤ x → x < m → m ≤ y → y < b → lt C[y]! C[x]! = false) : SortedIn lt a b C := fun i j hi hij hj => by
  by_cases hjm : j < m
  · exact h1 i j hi hij hjm
  · by_cases him : i < m
    · exact h i j hi him (by omega) hj
    · exact h2 i j (by omega) hij hj
theorem up_one (hS : SWO lt) {A D : Array α} {a b i : Nat} (hi : a < i) (hib : i ≤ b) (h : SortedIn lt (a + 1) b A) (h1 : ∀ k, a < k → k < i → lt A[k]! A[a]! = true) (h2 : ∀ k, i ≤ k → k < b → lt A[k]! A[a]! = false)
    (hD : ∀ k, D[k]! = if a ≤ k ∧ k < i - 1 then A[k + 1]! else if k = i - 1 then A[a]! else A[k]!) : SortedIn lt a b D := fun x y hx hxy hy => by
  rw [hD x, hD y]
  by_cases c1 : y < i - 1
  · rw [if_pos ⟨by omega, c1⟩, if_pos ⟨hx, by omega⟩]
    exact h (x + 1) (y + 1) (by omega) (by omega) (by omega)
  · rw [if_neg (by omega : ¬ (a ≤ y ∧ y < i - 1))]
    by_cases c2 : y = i - 1
    · rw [if_pos c2, if_pos ⟨hx, by omega⟩]
      exact lt_le hS (h1 (x + 1) (by omega) (by omega))
    · rw [if_neg c2]
      by_cases c3 : x < i - 1
      · rw [if_pos ⟨hx, c3⟩]
        exact h (x + 1) y (by omega) (by omega) hy
      · rw [if_neg (by omega : ¬ (a ≤ x ∧ x < i - 1))]
        by_cases c4 : x = i - 1
        · rw [if_pos c4]
          exact h2 y (by omega) hy
        · rw [if_neg c4]
          exact h x y (by omega) hxy hy
theorem down_one (hS : SWO lt) {A D : Array α} {a m i : Nat} (hai : a ≤ i) (him : i ≤ m) (h : SortedIn lt a m A) (h1 : ∀ k, a ≤ k → k < i → lt A[m]! A[k]! = false) (h2 : ∀ k, i ≤ k → k < m → lt A[m]! A[k]! = true)
    (hD : ∀ k, D[k]! = if i < k ∧ k ≤ m then A[k - 1]! else if k = i then A[m]! else A[k]!) : SortedIn lt a (m + 1) D := fun x y hx hxy hy => by
  rw [hD x, hD y]
  by_cases c1 : i < x
  · rw [if_pos ⟨by omega, by omega⟩, if_pos ⟨by omega, by omega⟩]
    exact h (x - 1) (y - 1) (by omega) (by omega) (by omega)
  · rw [if_neg (by omega : ¬ (i < x ∧ x ≤ m))]
    by_cases c2 : x = i
    · rw [if_pos c2, if_pos ⟨by omega, by omega⟩]
      exact lt_le hS (h2 (y - 1) (by omega) (by omega))
    · rw [if_neg c2]
      by_cases c3 : i < y
      · rw [if_pos ⟨c3, by omega⟩]
        exact SortedIn.le hS h hx (by omega) (by omega)
      · rw [if_neg (by omega : ¬ (i < y ∧ y ≤ m))]
        by_cases c4 : y = i
        · rw [if_pos c4]
          exact h1 x hx (by omega)
        · rw [if_neg c4]
          exact h x y hx hxy (by omega)
theorem turned (hS : SWO lt) {A B : Array α} {a m b mid s lo hi : Nat} (h1 : SortedIn lt a m A) (h2 : SortedIn lt m b A) (ha : a ≤ lo) (hlo : lo ≤ s) (hsh : s ≤ hi) (hhm : hi ≤ m) (hhi : hi ≤ mid) (hb : mid + m - s ≤ b) (hmb : mid ≤ b)
    (hlo' : lo = a ∨ lo + b = mid + m) (hhi' : hi = m ∨ hi = mid)
    (c1 : s = lo ∨ lt A[mid + m - s]! A[s - 1]! = false) (c2 : s = hi ∨ lt A[mid + m - s - 1]! A[s]! = true) (hB : ∀ k, B[k]! = roT A s m (mid + m - s) k) :
    SortedIn lt a s B ∧ SortedIn lt s mid B ∧ SortedIn lt mid (mid + m - s) B ∧ SortedIn lt (mid + m - s) b B ∧ ∀ x y, a ≤ x → x < mid → mid ≤ y → y < b → lt B[y]! B[x]! = false := by
  have e : mid + m - s - m = mid - s := by omega
  have b1 : ∀ k, k < s → B[k]! = A[k]! := fun k hk => by rw [hB]; unfold roT; rw [if_neg (by omega), if_neg (by omega)]
  have b2 : ∀ k, s ≤ k → k < mid → B[k]! = A[k + (m - s)]! := fun k h1 h2 => by rw [hB]; unfold roT; rw [if_pos (by omega)]
  have b3 : ∀ k, mid ≤ k → k < mid + m - s → B[k]! = A[k - (mid - s)]! := fun k h1 h2 => by rw [hB]; unfold roT; rw [if_neg (by omega), if_pos (by omega), e]
  have b4 : ∀ k, mid + m - s ≤ k → B[k]! = A[k]! := fun k hk => by rw [hB]; unfold roT; rw [if_neg (by omega), if_neg (by omega)]
  refine ⟨fun i j hi hij hj => ?_, fun i j hi hij hj => ?_, fun i j hi hij hj => ?_, fun i j hi hij hj => ?_, fun x y hx hxm hy hyb => ?_⟩
  · rw [b1 i (by omega), b1 j hj]; exact h1 i j hi hij (by omega)
  · rw [b2 i hi (by omega), b2 j (by omega) hj]; exact h2 _ _ (by omega) (by omega) (by omega)
  · rw [b3 i hi (by omega), b3 j (by omega) hj]; exact h1 _ _ (by omega) (by omega) (by omega)
  · rw [b4 i hi, b4 j (by omega)]; exact h2 _ _ (by omega) hij hj
  · by_cases xs : x < s
    · rw [b1 x xs]
      by_cases ye : y < mid + m - s
      · rw [b3 y hy ye]; exact h1 _ _ hx (by omega) (by omega)
      · rw [b4 y (by omega)]
        rcases c1 with c1 | c1
        · omega
        · exact le_trans' hS (le_trans' hS (SortedIn.le hS h1 hx (by omega : x ≤ s - 1) (by omega)) c1) (SortedIn.le hS h2 (by omega) (by omega : mid + m - s ≤ y) hyb)
    · rw [b2 x (by omega) hxm]
      by_cases ye : y < mid + m - s
      · rw [b3 y hy ye]
        rcases c2 with c2 | c2
        · omega
        · exact le_trans' hS (le_trans' hS (SortedIn.le hS h2 (by omega) (by omega : x + (m - s) ≤ mid + m - s - 1) (by omega)) (lt_le hS c2)) (SortedIn.le hS h1 (by omega) (by omega : s ≤ y - (mid - s)) (by omega))
      · rw [b4 y (by omega)]
        exact SortedIn.le hS h2 (by omega) (by omega) hyb
theorem midN {i j : Nat} (h : i + j ≤ 1000000000) : IntKind.i64.wrap (Int.fdiv (IntKind.u64.wrap (IntKind.i64.wrap ((i : Int) + (j : Int)))) (2 ^ 1)) = (((i + j) / 2 : Nat) : Int) := by
  rw [show (i : Int) + (j : Int) = ((i + j : Nat) : Int) from by omega, mid_eq (by omega) (by omega)]
  omega
theorem sym_ok (hC : CmpIs v lt cmp) (hS : SWO lt) : ∀ (n : Nat) {A : Array α} {a m b : Nat}, A.size ≤ 1000000 → a < m → m < b → b ≤ A.size → SortedIn lt a m A → SortedIn lt m b A → b - a < n →
    ∃ r, F_slices_symMergeCmpFunc_joinalgo_one n (rp v A) (a : Int) (m : Int) (b : Int) cmp = some r ∧ ∃ A', r = rp v A' ∧ PermIn a b A A' ∧ SortedIn lt a b A'
  | 0, _, _, _, _, _, _, _, _, _, _, hn => by omega
  | n + 1, A, a, m, b, hs, ham, hmb, hb, hL, hR, hn => by
    rw [F_slices_symMergeCmpFunc_joinalgo_one]
    unfold O_slices_symMergeCmpFunc_joinalgo_one
    rw [wrapN (z := (m : Int) - (a : Int)) (n := m - a) (by omega) (by omega), wrapN (z := (b : Int) - (m : Int)) (n := b - m) (by omega) (by omega)]
    by_cases h1 : m - a = 1
    · rw [beqT (show ((m - a : Nat) : Int) = 1 from by omega), cond_true]
      have hm : m = a + 1 := by omega
      subst hm
      refine while_run (fun s => ∃ i j : Nat, s = (rp v A, (i : Int), (j : Int)) ∧ a + 1 ≤ i ∧ i ≤ j ∧ j ≤ b ∧ (∀ k, a < k → k < i → lt A[k]! A[a]! = true) ∧ (∀ k, j ≤ k → k < b → lt A[k]! A[a]! = false)) (fun s => (s.2.2 - s.2.1).toNat) (fun s => ∃ i : Nat, s.1 = rp v A ∧ s.2.1 = (i : Int) ∧ a + 1 ≤ i ∧ i ≤ b ∧ (∀ k, a < k → k < i → lt A[k]! A[a]! = true) ∧ (∀ k, i ≤ k → k < b → lt A[k]! A[a]! = false)) ⟨a + 1, b, rfl, Nat.le_refl _, by omega, Nat.le_refl _, fun k h1 h2 => by omega, fun k h1 h2 => by omega⟩ (fun s hI => ?_) (fun s hq => ?_)
      · obtain ⟨i, j, rfl, hi, hij, hj, hlo, hhi⟩ := hI
        dsimp only
        by_cases hlt : i < j
        · rw [decide_eq_true (by omega), cond_true, midN (by omega)]
          generalize hh : (i + j) / 2 = h
          have hh1 : i ≤ h ∧ h < j := by omega
          clear hh
          obtain ⟨c, hc, hl⟩ := hC.is A[h]! A[a]!
          rw [rp_get (by omega), bindP_some, rp_get (by omega), bindP_some, hc, bindP_some, hl]
          cases hx : lt A[h]! A[a]! with
          | true =>
            rw [cond_true, wrapN (z := (h : Int) + 1) (n := h + 1) (by omega) (by omega)]
            refine ⟨_, rfl, ⟨h + 1, j, rfl, by omega, by omega, hj, fun k h1 h2 => ?_, hhi⟩, by show ((j : Int) - ((h + 1 : Nat) : Int)).toNat < ((j : Int) - (i : Int)).toNat; omega⟩
            cases hy : lt A[k]! A[a]! with
            | true => rfl
            | false => rw [hS.ntrans _ _ _ (SortedIn.le hS hR (by omega) (by omega : k ≤ h) (by omega)) hy] at hx; cases hx
          | false =>
            rw [cond_false]
            refine ⟨_, rfl, ⟨i, h, rfl, hi, by omega, by omega, hlo, fun k h1 h2 => ?_⟩, by show ((h : Int) - (i : Int)).toNat < ((j : Int) - (i : Int)).toNat; omega⟩
            exact hS.ntrans _ _ _ (SortedIn.le hS hR (by omega) h1 h2) hx
        · rw [decide_eq_false (by omega), cond_false]
          have : i = j := by omega
          subst this
          exact ⟨_, rfl, i, rfl, rfl, hi, hj, hlo, hhi⟩
      · obtain ⟨i, q1, q2, hi, hib, hlo, hhi⟩ := hq
        rw [q1, q2, wrapN (z := (i : Int) - 1) (n := i - 1) (by omega) (by omega)]
        refine while_run (fun t => ∃ (D : Array α) (k : Nat), t = (rp v D, (k : Int)) ∧ a ≤ k ∧ k ≤ i - 1 ∧ PermIn a b A D ∧ ∀ x, D[x]! = if a ≤ x ∧ x < k then A[x + 1]! else if x = k then A[a]! else A[x]!) (fun t => (((i - 1 : Nat) : Int) - t.2).toNat) (fun t => ∃ D : Array α, t.1 = rp v D ∧ PermIn a b A D ∧ ∀ x, D[x]! = if a ≤ x ∧ x < i - 1 then A[x + 1]! else if x = i - 1 then A[a]! else A[x]!) ⟨A, a, rfl, Nat.le_refl _, by omega, permIn_refl _ _ _, fun x => by
          rw [if_neg (by omega)]
          split
          · rename_i e; rw [e]
          · rfl⟩ (fun t hI => ?_) (fun t hq => ?_)
        · obtain ⟨D, k, rfl, hak, hk, hP, hx⟩ := hI
          have hD := hP.1
          dsimp only
          by_cases hlt : k < i - 1
          · rw [decide_eq_true (by omega), cond_true, wrapN (z := (k : Int) + 1) (n := k + 1) (by omega) (by omega), rp_swap (by omega) (by omega)]
            refine ⟨_, rfl, ⟨swp D k (k + 1), k + 1, rfl, by omega, by omega, permIn_trans _ _ _ _ _ hP (swp_permIn D a b k (k + 1) (by omega) (by omega) (by omega) (by omega) (by omega)), fun x => ?_⟩, by show (((i - 1 : Nat) : Int) - ((k + 1 : Nat) : Int)).toNat < (((i - 1 : Nat) : Int) - (k : Int)).toNat; omega⟩
            rw [swp_get D (by omega) (by omega), hx, hx, hx]
            by_cases c1 : x = k + 1
            · subst c1
              rw [if_pos rfl, if_neg (by omega), if_pos rfl, if_neg (by omega), if_pos rfl]
            · rw [if_neg c1]
              by_cases c2 : x = k
              · subst c2
                rw [if_pos rfl, if_neg (by omega), if_neg (by omega), if_pos (by omega)]
              · rw [if_neg c2]
                by_cases c3 : a ≤ x ∧ x < k
                · rw [if_pos c3, if_pos (by omega)]
                · rw [if_neg c3, if_neg c2, if_neg (by omega), if_neg c1]
          · rw [decide_eq_false (by omega), cond_false]
            have : k = i - 1 := by omega
            subst this
            exact ⟨_, rfl, D, rfl, hP, hx⟩
        · obtain ⟨D, q1, hP, hx⟩ := hq
          exact ⟨_, rfl, D, q1, hP, up_one hS (by omega) hib hR hlo hhi hx⟩
    · rw [beqF (show ¬ ((m - a : Nat) : Int) = 1 from by omega), cond_false]
      by_cases h2 : b - m = 1
      · rw [beqT (show ((b - m : Nat) : Int) = 1 from by omega), cond_true]
        have hbm : b = m + 1 := by omega
        subst hbm
        refine while_run (fun s => ∃ i j : Nat, s = (rp v A, (i : Int), (j : Int)) ∧ a ≤ i ∧ i ≤ j ∧ j ≤ m ∧ (∀ k, a ≤ k → k < i → lt A[m]! A[k]! = false) ∧ (∀ k, j ≤ k → k < m → lt A[m]! A[k]! = true)) (fun s => (s.2.2 - s.2.1).toNat) (fun s => ∃ i : Nat, s.1 = rp v A ∧ s.2.1 = (i : Int) ∧ a ≤ i ∧ i ≤ m ∧ (∀ k, a ≤ k → k < i → lt A[m]! A[k]! = false) ∧ (∀ k, i ≤ k → k < m → lt A[m]! A[k]! = true)) ⟨a, m, rfl, Nat.le_refl _, by omega, Nat.le_refl _, fun k h1 h2 => by omega, fun k h1 h2 => by omega⟩ (fun s hI => ?_) (fun s hq => ?_)
        · obtain ⟨i, j, rfl, hi, hij, hj, hlo, hhi⟩ := hI
          dsimp only
          by_cases hlt : i < j
          · rw [decide_eq_true (by omega), cond_true, midN (by omega)]
            generalize hh : (i + j) / 2 = h
            have hh1 : i ≤ h ∧ h < j := by omega
            clear hh
            obtain ⟨c, hc, hl⟩ := hC.is A[m]! A[h]!
            rw [rp_get (by omega), bindP_some, rp_get (by omega), bindP_some, hc, bindP_some, hl]
            cases hx : lt A[m]! A[h]! with
            | true =>
              rw [Bool.not_true, cond_false]
              refine ⟨_, rfl, ⟨i, h, rfl, hi, by omega, by omega, hlo, fun k h1 h2 => ?_⟩, by show ((h : Int) - (i : Int)).toNat < ((j : Int) - (i : Int)).toNat; omega⟩
              cases hy : lt A[m]! A[k]! with
              | true => rfl
              | false => rw [hS.ntrans _ _ _ hy (SortedIn.le hS hL (by omega) h1 h2)] at hx; cases hx
            | false =>
              rw [Bool.not_false, cond_true, wrapN (z := (h : Int) + 1) (n := h + 1) (by omega) (by omega)]
              refine ⟨_, rfl, ⟨h + 1, j, rfl, by omega, by omega, hj, fun k h1 h2 => ?_, hhi⟩, by show ((j : Int) - ((h + 1 : Nat) : Int)).toNat < ((j : Int) - (i : Int)).toNat; omega⟩
              exact hS.ntrans _ _ _ hx (SortedIn.le hS hL h1 (by omega : k ≤ h) (by omega))
          · rw [decide_eq_false (by omega), cond_false]
            have : i = j := by omega
            subst this
            exact ⟨_, rfl, i, rfl, rfl, hi, hj, hlo, hhi⟩
        · obtain ⟨i, q1, q2, hi, him, hlo, hhi⟩ := hq
          rw [q1, q2]
          refine while_run (fun t => ∃ (D : Array α) (k : Nat), t = (rp v D, (k : Int)) ∧ i ≤ k ∧ k ≤ m ∧ PermIn a (m + 1) A D ∧ ∀ x, D[x]! = if k < x ∧ x ≤ m then A[x - 1]! else if x = k then A[m]! else A[x]!) (fun t => (t.2 - (i : Int)).toNat) (fun t => ∃ D : Array α, t.1 = rp v D ∧ PermIn a (m + 1) A D ∧ ∀ x, D[x]! = if i < x ∧ x ≤ m then A[x - 1]! else if x = i then A[m]! else A[x]!) ⟨A, m, rfl, him, Nat.le_refl _, permIn_refl _ _ _, fun x => by
            rw [if_neg (by omega)]
            split
            · rename_i e; rw [e]
            · rfl⟩ (fun t hI => ?_) (fun t hq => ?_)
          · obtain ⟨D, k, rfl, hik, hk, hP, hx⟩ := hI
            have hD := hP.1
            dsimp only
            by_cases hlt : i < k
            · rw [decide_eq_true (by omega), cond_true, wrapN (z := (k : Int) - 1) (n := k - 1) (by omega) (by omega), rp_swap (by omega) (by omega)]
              refine ⟨_, rfl, ⟨swp D k (k - 1), k - 1, rfl, by omega, by omega, permIn_trans _ _ _ _ _ hP (swp_permIn D a (m + 1) k (k - 1) (by omega) (by omega) (by omega) (by omega) (by omega)), fun x => ?_⟩, by show (((k - 1 : Nat) : Int) - (i : Int)).toNat < ((k : Int) - (i : Int)).toNat; omega⟩
              rw [swp_get D (by omega) (by omega), hx, hx, hx]
              by_cases c1 : x = k - 1
              · rw [if_pos c1, if_neg (by omega), if_pos rfl, if_neg (by omega), if_pos c1]
              · rw [if_neg c1]
                by_cases c2 : x = k
                · subst c2
                  rw [if_pos rfl, if_neg (by omega), if_neg (by omega), if_pos (by omega)]
                · rw [if_neg c2]
                  by_cases c3 : k < x ∧ x ≤ m
                  · rw [if_pos c3, if_pos (by omega)]
                  · rw [if_neg c3, if_neg c2, if_neg (by omega), if_neg c1]
            · rw [decide_eq_false (by omega), cond_false]
              have : k = i := by omega
              subst this
              exact ⟨_, rfl, D, rfl, hP, hx⟩
          · obtain ⟨D, q1, hP, hx⟩ := hq
            exact ⟨_, rfl, D, q1, hP, down_one hS hi him hL hlo hhi hx⟩
      · rw [beqF (show ¬ ((b - m : Nat) : Int) = 1 from by omega), cond_false]
        simp only [letP_eq]
        rw [midN (i := a) (j := b) (by omega)]
        generalize hmid : (a + b) / 2 = mid
        have hm2 : a < mid ∧ mid < b ∧ 2 * mid ≤ a + b ∧ a + b ≤ 2 * mid + 1 := by omega
        clear hmid
        rw [wrapN (z := (mid : Int) + (m : Int)) (n := mid + m) (by omega) (by omega), wrapN (z := ((mid + m : Nat) : Int) - 1) (n := mid + m - 1) (by omega) (by omega), wrap_id (n := ((mid + m : Nat) : Int) - (b : Int)) (by omega) (by omega)]
        obtain ⟨lo, hi, e1, l1, l2, l3, l4, l5, l6, l7⟩ : ∃ lo hi : Nat, (cond (decide ((m : Int) > (mid : Int))) ((rp v A, ((mid + m : Nat) : Int) - (b : Int), (mid : Int))) ((rp v A, (a : Int), (m : Int))) : Rows × Int × Int) = (rp v A, (lo : Int), (hi : Int)) ∧ a ≤ lo ∧ lo ≤ hi ∧ hi ≤ m ∧ hi ≤ mid ∧ mid + m ≤ lo + b ∧ (lo = a ∨ lo + b = mid + m) ∧ (hi = m ∨ hi = mid) := by
          by_cases hgt : m > mid
          · exact ⟨mid + m - b, mid, by rw [decide_eq_true (by omega), cond_true, show ((mid + m : Nat) : Int) - (b : Int) = ((mid + m - b : Nat) : Int) from by omega], by omega, by omega, by omega, by omega, by omega, by omega, by omega⟩
          · exact ⟨a, m, by rw [decide_eq_false (by omega), cond_false], by omega, by omega, by omega, by omega, by omega, by omega, by omega⟩
        rw [e1]
        clear e1
        refine while_run (fun s => ∃ i j : Nat, s = (rp v A, (i : Int), (j : Int)) ∧ lo ≤ i ∧ i ≤ j ∧ j ≤ hi ∧ (i = lo ∨ lt A[mid + m - i]! A[i - 1]! = false) ∧ (j = hi ∨ lt A[mid + m - j - 1]! A[j]! = true)) (fun s => (s.2.2 - s.2.1).toNat) (fun s => ∃ i : Nat, s.1 = rp v A ∧ s.2.1 = (i : Int) ∧ lo ≤ i ∧ i ≤ hi ∧ (i = lo ∨ lt A[mid + m - i]! A[i - 1]! = false) ∧ (i = hi ∨ lt A[mid + m - i - 1]! A[i]! = true)) ⟨lo, hi, rfl, Nat.le_refl _, l2, Nat.le_refl _, .inl rfl, .inl rfl⟩ (fun s hI => ?_) (fun s hq => ?_)
        · obtain ⟨i, j, rfl, hi1, hij, hj, hlo, hhi⟩ := hI
          dsimp only
          by_cases hlt : i < j
          · rw [decide_eq_true (by omega), cond_true, midN (by omega)]
            generalize hh : (i + j) / 2 = h
            have hh1 : i ≤ h ∧ h < j := by omega
            clear hh
            rw [wrapN (z := ((mid + m - 1 : Nat) : Int) - (h : Int)) (n := mid + m - 1 - h) (by omega) (by omega)]
            obtain ⟨c, hc, hl⟩ := hC.is A[mid + m - 1 - h]! A[h]!
            rw [rp_get (by omega), bindP_some, rp_get (by omega), bindP_some, hc, bindP_some, hl]
            cases hx : lt A[mid + m - 1 - h]! A[h]! with
            | true =>
              rw [Bool.not_true, cond_false]
              exact ⟨_, rfl, ⟨i, h, rfl, hi1, by omega, by omega, hlo, .inr (by rw [show mid + m - h - 1 = mid + m - 1 - h from by omega]; exact hx)⟩, by show ((h : Int) - (i : Int)).toNat < ((j : Int) - (i : Int)).toNat; omega⟩
            | false =>
              rw [Bool.not_false, cond_true, wrapN (z := (h : Int) + 1) (n := h + 1) (by omega) (by omega)]
              exact ⟨_, rfl, ⟨h + 1, j, rfl, by omega, by omega, hj, .inr (by rw [show mid + m - (h + 1) = mid + m - 1 - h from by omega]; exact hx), hhi⟩, by show ((j : Int) - ((h + 1 : Nat) : Int)).toNat < ((j : Int) - (i : Int)).toNat; omega⟩
          · rw [decide_eq_false (by omega), cond_false]
            have : i = j := by omega
            subst this
            exact ⟨_, rfl, i, rfl, rfl, hi1, hj, hlo, hhi⟩
        · obtain ⟨s, q1, q2, hs1, hs2, c1, c2⟩ := hq
          rw [q1, q2]
          clear q1 q2
          rw [wrapN (z := ((mid + m : Nat) : Int) - (s : Int)) (n := mid + m - s) (by omega) (by omega)]
          -- the rotation
          refine bind_ex (P := fun t => ∃ B, t = rp v B ∧ PermIn a b A B ∧ ∀ k, B[k]! = roT A s m (mid + m - s) k) ?_ (fun t ht => ?_)
          · have stay : s = m ∨ m = mid + m - s → ∃ B, rp v A = rp v B ∧ PermIn a b A B ∧ ∀ k, B[k]! = roT A s m (mid + m - s) k := fun h => ⟨A, rfl, permIn_refl _ _ _, fun k => by
              unfold roT
              by_cases d1 : s ≤ k ∧ k < s + (mid + m - s - m)
              · rw [if_pos d1, show k + (m - s) = k from by omega]
              · rw [if_neg d1]
                by_cases d2 : s + (mid + m - s - m) ≤ k ∧ k < mid + m - s
                · rw [if_pos d2, show k - (mid + m - s - m) = k from by omega]
                · rw [if_neg d2]⟩
            by_cases d1 : s < m
            · rw [decide_eq_true (show (s : Int) < (m : Int) from by omega), cond_true]
              dsimp only
              by_cases d2 : m < mid + m - s
              · rw [decide_eq_true (show (m : Int) < ((mid + m - s : Nat) : Int) from by omega), cond_true]
                obtain ⟨r, e, B, rfl, hP, hk⟩ := rotate_sim (v := v) (cmp := cmp) (A := A) (s := s) (m := m) (e := mid + m - s) hs d1 d2 (by omega)
                rw [e, bindP_some, guardO_pos (by rw [rp_len, rp_len, hP.1])]
                exact ⟨_, rfl, B, rfl, permIn_mono _ _ _ _ _ _ (by omega) (by omega) (by omega) hP, hk⟩
              · rw [decide_eq_false (show ¬ (m : Int) < ((mid + m - s : Nat) : Int) from by omega), cond_false]
                exact ⟨_, rfl, stay (by omega)⟩
            · rw [decide_eq_false (show ¬ (s : Int) < (m : Int) from by omega), cond_false]
              exact ⟨_, rfl, stay (by omega)⟩
          obtain ⟨B, rfl, hPB, hk⟩ := ht
          have hBs := hPB.1
          obtain ⟨t1, t2, t3, t4, t5⟩ := turned hS hL hR l1 hs1 hs2 l3 l4 (by omega) (by omega) l6 l7 c1 c2 hk
          -- the left part
          refine bind_ex (P := fun t => ∃ C, t = rp v C ∧ PermIn a mid B C ∧ SortedIn lt a mid C) ?_ (fun t ht => ?_)
          · by_cases d1 : a < s
            · rw [decide_eq_true (show (a : Int) < (s : Int) from by omega), cond_true]
              dsimp only
              by_cases d2 : s < mid
              · rw [decide_eq_true (show (s : Int) < (mid : Int) from by omega), cond_true]
                obtain ⟨r, e, C, rfl, hP, hC'⟩ := sym_ok hC hS n (A := B) (a := a) (m := s) (b := mid) (by omega) d1 d2 (by omega) t1 t2 (by omega)
                rw [e, bindP_some, guardO_pos (by rw [rp_len, rp_len, hP.1])]
                exact ⟨_, rfl, C, rfl, hP, hC'⟩
              · rw [decide_eq_false (show ¬ (s : Int) < (mid : Int) from by omega), cond_false]
                have : s = mid := by omega
                exact ⟨_, rfl, B, rfl, permIn_refl _ _ _, by rw [← this]; exact t1⟩
            · rw [decide_eq_false (show ¬ (a : Int) < (s : Int) from by omega), cond_false]
              have : s = a := by omega
              exact ⟨_, rfl, B, rfl, permIn_refl _ _ _, by rw [← this]; exact t2⟩
          obtain ⟨C, rfl, hPC, hCs⟩ := ht
          have hCz := hPC.1
          have sameC : ∀ k, mid ≤ k → C[k]! = B[k]! := fun k hk => hPC.2.1 k (.inr hk)
          have t3' : SortedIn lt mid (mid + m - s) C := SortedIn.same t3 fun k h1 _ => sameC k h1
          have t4' : SortedIn lt (mid + m - s) b C := SortedIn.same t4 fun k h1 _ => sameC k (by omega)
          have crossC : ∀ x, a ≤ x → x < mid → ∀ y, mid ≤ y → y < b → lt C[y]! C[x]! = false := permIn_all B C a mid (fun z => ∀ y, mid ≤ y → y < b → lt C[y]! z = false) (by omega) hPC (fun x hx hxm y hy hyb => by rw [sameC y hy]; exact t5 x y hx hxm hy hyb)
          have fin : ∀ E, PermIn mid b C E → SortedIn lt mid b E → PermIn a b A E ∧ SortedIn lt a b E := fun E hPE hEs => by
            have sameE : ∀ k, k < mid → E[k]! = C[k]! := fun k hk => hPE.2.1 k (.inl hk)
            refine ⟨permIn_trans _ _ _ _ _ hPB (permIn_trans _ _ _ _ _ (permIn_mono _ _ _ _ _ _ (Nat.le_refl _) (by omega) (by omega) hPC) (permIn_mono _ _ _ _ _ _ (by omega) (Nat.le_refl _) (by omega) hPE)), sorted_two (SortedIn.same hCs fun k _ h2 => sameE k h2) hEs fun x y hx hxm hy hyb => ?_⟩
            rw [sameE x hxm]
            exact permIn_all C E mid b (fun z => lt z C[x]! = false) (by omega) hPE (fun y hy hyb => crossC x hx hxm y hy hyb) y hy hyb
          by_cases d1 : mid < mid + m - s
          · rw [decide_eq_true (show (mid : Int) < ((mid + m - s : Nat) : Int) from by omega), cond_true]
            by_cases d2 : mid + m - s < b
            · rw [decide_eq_true (show ((mid + m - s : Nat) : Int) < (b : Int) from by omega), cond_true]
              obtain ⟨r, e, E, rfl, hP, hE⟩ := sym_ok hC hS n (A := C) (a := mid) (m := mid + m - s) (b := b) (by omega) d1 d2 (by omega) t3' t4' (by omega)
              rw [e, bindP_some, guardO_pos (by rw [rp_len, rp_len, hP.1])]
              exact ⟨_, rfl, E, rfl, fin E hP hE⟩
            · rw [decide_eq_false (show ¬ ((mid + m - s : Nat) : Int) < (b : Int) from by omega), cond_false]
              have : mid + m - s = b := by omega
              exact ⟨_, rfl, C, rfl, fin C (permIn_refl _ _ _) (by rw [← this]; exact t3')⟩
          · rw [decide_eq_false (show ¬ (mid : Int) < ((mid + m - s : Nat) : Int) from by omega), cond_false]
            have : mid + m - s = mid := by omega
            exact ⟨_, rfl, C, rfl, fin C (permIn_refl _ _ _) (by rw [this] at t4'; exact t4')⟩
theorem blk_eq {c t w x y : Nat} (h1 : c * w ≤ x) (h2 : x < t * w + w) (h3 : t * w ≤ y) (h4 : y < c * w + w) : c = t := by
  rcases Nat.lt_trichotomy c t with h | h | h
  · have := Nat.mul_le_mul_right w (Nat.succ_le_of_lt h)
    rw [Nat.succ_mul] at this
    omega
  · exact h
  · have := Nat.mul_le_mul_right w (Nat.succ_le_of_lt h)
    rw [Nat.succ_mul] at this
    omega
def Gr (lt : α → α → Bool) (w : Nat) (D : Array α) (lo hi : Nat) : Prop := ∀ c i j, lo ≤ c * w → c * w ≤ i → i < j → j < c * w + w → j < hi → lt D[j]! D[i]! = false
theorem stable_srt (hC : CmpIs v lt cmp) (hS : SWO lt) {A : Array α} (hs : A.size ≤ 1000000) : ∃ r, L_slices_stableCmpFunc_joinalgo_one (rp v A) (A.size : Int) cmp = some r ∧ ∃ A', r = rp v A' ∧ PermIn 0 A.size A A' ∧ SortedIn lt 0 A.size A' := by
  unfold L_slices_stableCmpFunc_joinalgo_one
  refine while_run (fun s => ∃ (D : Array α) (t : Nat), s = (rp v D, ((t * 20 : Nat) : Int), ((t * 20 + 20 : Nat) : Int)) ∧ t * 20 ≤ A.size ∧ PermIn 0 A.size A D ∧ Gr lt 20 D 0 (t * 20)) (fun s => ((A.size : Int) + 20 - s.2.2).toNat) (fun s => ∃ (D : Array α) (t : Nat), s.1 = rp v D ∧ s.2.1 = ((t * 20 : Nat) : Int) ∧ t * 20 ≤ A.size ∧ A.size < t * 20 + 20 ∧ PermIn 0 A.size A D ∧ Gr lt 20 D 0 (t * 20)) ⟨A, 0, rfl, by omega, permIn_refl _ _ _, fun c i j h1 h2 h3 h4 h5 => by omega⟩ (fun s hI => ?_) (fun s hq => ?_)
  · obtain ⟨D, t, rfl, ht, hP, hG⟩ := hI
    have hD := hP.1
    dsimp only
    by_cases hle : t * 20 + 20 ≤ A.size
    · rw [decide_eq_true (by omega), cond_true, ins_sim hC (by omega) (by omega) (by omega), bindP_some]
      have hi := Go.Sort.insertionSort_holds (lt := lt) hS D (t * 20) (t * 20 + 20) (by omega) (by omega)
      rw [guardO_pos (by rw [rp_len, rp_len, hi.1.1]), bindP_some, wrapN (z := ((t * 20 + 20 : Nat) : Int) + 20) (n := (t + 1) * 20 + 20) (by omega) (by omega), show t * 20 + 20 = (t + 1) * 20 from by omega]
      rw [show t * 20 + 20 = (t + 1) * 20 from by omega] at hi
      refine ⟨_, rfl, ⟨_, t + 1, rfl, by omega, permIn_trans _ _ _ _ _ hP (permIn_mono _ _ _ _ _ _ (Nat.zero_le _) (by omega) (by omega) hi.1), fun c i j h1 h2 h3 h4 h5 => ?_⟩, by show ((A.size : Int) + 20 - (((t + 1) * 20 + 20 : Nat) : Int)).toNat < ((A.size : Int) + 20 - (((t + 1) * 20 : Nat) : Int)).toNat; omega⟩
      by_cases hj : j < t * 20
      · rw [hi.1.2.1 j (.inl hj), hi.1.2.1 i (.inl (by omega))]
        exact hG c i j h1 h2 h3 h4 hj
      · exact hi.2 i j (by omega) h3 (by omega)
    · rw [decide_eq_false (by omega), cond_false]
      exact ⟨_, rfl, D, t, rfl, rfl, ht, by omega, hP, hG⟩
  · obtain ⟨D, t, q1, q2, ht, hlt, hP, hG⟩ := hq
    have hD := hP.1
    rw [q1, q2, ins_sim hC (by omega) (by omega) (by omega), bindP_some]
    have hi := Go.Sort.insertionSort_holds (lt := lt) hS D (t * 20) A.size (by omega) (by omega)
    rw [guardO_pos (by rw [rp_len, rp_len, hi.1.1]), bindP_some]
    have hP2 : PermIn 0 A.size A (insertionSort lt D (t * 20) A.size) := permIn_trans _ _ _ _ _ hP (permIn_mono _ _ _ _ _ _ (Nat.zero_le _) (by omega) (by omega) hi.1)
    have hG2 : Gr lt 20 (insertionSort lt D (t * 20) A.size) 0 A.size := fun c i j h1 h2 h3 h4 h5 => by
      by_cases hj : j < t * 20
      · rw [hi.1.2.1 j (.inl hj), hi.1.2.1 i (.inl (by omega))]
        exact hG c i j h1 h2 h3 h4 hj
      · exact hi.2 i j (by omega) h3 (by omega)
    generalize insertionSort lt D (t * 20) A.size = E at hP2 hG2 ⊢
    clear q1 q2 hi hP hG hD hlt ht
    refine while_run (fun s => ∃ (D : Array α) (w : Nat), s = (rp v D, (w : Int)) ∧ 20 ≤ w ∧ w ≤ 2000000 ∧ PermIn 0 A.size A D ∧ Gr lt w D 0 A.size) (fun s => ((A.size : Int) - s.2).toNat) (fun s => ∃ D : Array α, s.1 = rp v D ∧ PermIn 0 A.size A D ∧ SortedIn lt 0 A.size D) ⟨E, 20, rfl, by omega, by omega, hP2, hG2⟩ (fun s hI => ?_) (fun s hq => ?_)
    · obtain ⟨D, w, rfl, hw, hw2, hP, hG⟩ := hI
      dsimp only
      by_cases hlt : w < A.size
      · rw [decide_eq_true (by omega), cond_true, wrapN (z := 2 * (w : Int)) (n := 2 * w) (by omega) (by omega)]
        have e0 : ∀ t : Nat, 2 * t * w = t * (2 * w) := fun t => by rw [Nat.mul_comm 2 t, Nat.mul_assoc]
        have e1 : ∀ t : Nat, (2 * t + 1) * w = t * (2 * w) + w := fun t => by rw [Nat.succ_mul, e0]
        have low : ∀ {F : Array α} {x y z : Nat} (_ : Gr lt w F x y) (t : Nat), x = t * (2 * w) → z ≤ x + w → z ≤ y → SortedIn lt x z F := fun hF t h1 h2 h3 i j hi hij hj => hF (2 * t) i j (by rw [e0]; omega) (by rw [e0]; omega) hij (by rw [e0]; omega) (by omega)
        have high : ∀ {F : Array α} {x y z : Nat} (_ : Gr lt w F x y) (t : Nat), x = t * (2 * w) → z ≤ x + 2 * w → z ≤ y → SortedIn lt (x + w) z F := fun hF t h1 h2 h3 i j hi hij hj => hF (2 * t + 1) i j (by rw [e1]; omega) (by rw [e1]; omega) hij (by rw [e1]; omega) (by omega)
        refine while_run (fun s => ∃ (F : Array α) (t : Nat), s = (rp v F, ((t * (2 * w) : Nat) : Int), ((t * (2 * w) + 2 * w : Nat) : Int)) ∧ t * (2 * w) ≤ A.size ∧ PermIn 0 A.size A F ∧ Gr lt (2 * w) F 0 (t * (2 * w)) ∧ Gr lt w F (t * (2 * w)) A.size) (fun s => ((A.size : Int) + 2 * w - s.2.2).toNat) (fun s => ∃ (F : Array α) (t : Nat), s.1 = rp v F ∧ s.2.1 = ((t * (2 * w) : Nat) : Int) ∧ t * (2 * w) ≤ A.size ∧ A.size < t * (2 * w) + 2 * w ∧ PermIn 0 A.size A F ∧ Gr lt (2 * w) F 0 (t * (2 * w)) ∧ Gr lt w F (t * (2 * w)) A.size) ⟨D, 0, by simp, by omega, hP, fun c i j h1 h2 h3 h4 h5 => by omega, fun c i j h1 h2 h3 h4 h5 => hG c i j (Nat.zero_le _) h2 h3 h4 h5⟩ (fun s hI => ?_) (fun s hq => ?_)
        · obtain ⟨F, t, rfl, ht, hPF, hF1, hF2⟩ := hI
          have hFz := hPF.1
          dsimp only
          generalize hx : t * (2 * w) = x at ht hF1 hF2 ⊢
          by_cases hle : x + 2 * w ≤ A.size
          · rw [decide_eq_true (by omega), cond_true, wrapN (z := (x : Int) + (w : Int)) (n := x + w) (by omega) (by omega)]
            obtain ⟨r, e, F', rfl, hP', hS'⟩ := sym_ok hC hS (2 * w + 1) (A := F) (a := x) (m := x + w) (b := x + 2 * w) (by omega) (by omega) (by omega) (by omega) (low hF2 t hx.symm (by omega) (by omega)) (high hF2 t hx.symm (by omega) (by omega)) (by omega)
            rw [symMerge_lim e, bindP_some, guardO_pos (by rw [rp_len, rp_len, hP'.1]), bindP_some, wrapN (z := ((x + 2 * w : Nat) : Int) + ((2 * w : Nat) : Int)) (n := x + 2 * w + 2 * w) (by omega) (by omega)]
            have hx1 : (t + 1) * (2 * w) = x + 2 * w := by rw [Nat.succ_mul, hx]
            refine ⟨_, rfl, ⟨F', t + 1, by rw [hx1], by rw [hx1]; omega, permIn_trans _ _ _ _ _ hPF (permIn_mono _ _ _ _ _ _ (Nat.zero_le _) (by omega) (by omega) hP'), ?_, ?_⟩, by show ((A.size : Int) + 2 * w - ((x + 2 * w + 2 * w : Nat) : Int)).toNat < ((A.size : Int) + 2 * w - ((x + 2 * w : Nat) : Int)).toNat; omega⟩
            · rw [hx1]
              intro c i j h1 h2 h3 h4 h5
              by_cases hj : j < x
              · rw [hP'.2.1 j (.inl hj), hP'.2.1 i (.inl (by omega))]
                exact hF1 c i j h1 h2 h3 h4 hj
              · have hct : c = t := blk_eq h2 (by rw [hx]; omega) (by rw [hx]; omega) h4
                subst hct
                rw [hx] at h2
                exact hS' i j h2 h3 h5
            · rw [hx1]
              intro c i j h1 h2 h3 h4 h5
              rw [hP'.2.1 j (.inr (by omega)), hP'.2.1 i (.inr (by omega))]
              exact hF2 c i j (by omega) h2 h3 h4 h5
          · rw [decide_eq_false (by omega), cond_false]
            exact ⟨_, rfl, F, t, rfl, by rw [hx], by rw [hx]; exact ht, by rw [hx]; omega, hPF, by rw [hx]; exact hF1, by rw [hx]; exact hF2⟩
        · obtain ⟨F, t, q1, q2, ht, hgt, hPF, hF1, hF2⟩ := hq
          have hFz := hPF.1
          rw [q1, q2]
          clear q1 q2
          generalize hx : t * (2 * w) = x at ht hF1 hF2 hgt ⊢
          rw [wrapN (z := (x : Int) + (w : Int)) (n := x + w) (by omega) (by omega), wrapN (z := (w : Int) * 2) (n := w * 2) (by omega) (by omega)]
          by_cases hm : x + w < A.size
          · rw [decide_eq_true (by omega), cond_true]
            obtain ⟨r, e, F', rfl, hP', hS'⟩ := sym_ok hC hS (A.size + 1) (A := F) (a := x) (m := x + w) (b := A.size) (by omega) (by omega) hm (by omega) (low hF2 t hx.symm (by omega) (by omega)) (high hF2 t hx.symm (by omega) (by omega)) (by omega)
            rw [symMerge_lim e, bindP_some, guardO_pos (by rw [rp_len, rp_len, hP'.1]), bindP_some]
            refine ⟨_, rfl, ⟨F', w * 2, rfl, by omega, by omega, permIn_trans _ _ _ _ _ hPF (permIn_mono _ _ _ _ _ _ (Nat.zero_le _) (by omega) (by omega) hP'), fun c i j h1 h2 h3 h4 h5 => ?_⟩, by show ((A.size : Int) - ((w * 2 : Nat) : Int)).toNat < ((A.size : Int) - (w : Int)).toNat; omega⟩
            rw [Nat.mul_comm w 2] at h2 h4
            by_cases hj : j < x
            · rw [hP'.2.1 j (.inl hj), hP'.2.1 i (.inl (by omega))]
              exact hF1 c i j (Nat.zero_le _) h2 h3 h4 hj
            · have hct : c = t := blk_eq h2 (by rw [hx]; omega) (by rw [hx]; omega) h4
              subst hct
              rw [hx] at h2
              exact hS' i j h2 h3 h5
          · rw [decide_eq_false (by omega), cond_false]
            refine ⟨_, rfl, ⟨F, w * 2, rfl, by omega, by omega, hPF, fun c i j h1 h2 h3 h4 h5 => ?_⟩, by show ((A.size : Int) - ((w * 2 : Nat) : Int)).toNat < ((A.size : Int) - (w : Int)).toNat; omega⟩
            rw [Nat.mul_comm w 2] at h2 h4
            by_cases hj : j < x
            · exact hF1 c i j (Nat.zero_le _) h2 h3 h4 hj
            · have hct : c = t := blk_eq h2 (by rw [hx]; omega) (by rw [hx]; omega) h4
              subst hct
              rw [hx] at h2
              exact low hF2 c hx.symm (show A.size ≤ x + w by omega) (Nat.le_refl _) i j h2 h3 h5
      · rw [decide_eq_false (by omega), cond_false]
        exact ⟨_, rfl, D, rfl, hP, fun i j hi hij hj => hG 0 i j (by omega) (by omega) hij (by omega) hj⟩
    · obtain ⟨D, q1, h1, h2⟩ := hq
      exact ⟨_, rfl, D, q1, h1, h2⟩
end
end Go.Proofs.YtjnpnakcmjndiaaGreatDoor
/- Joins: keys, what is checked, what is sorted. -/
namespace Go.Proofs.YtjnpnakcmjndiaaGreatDoor
open Go Go.Ab
open Go.Sort (SWO PermIn SortedIn)

theorem rangeM_collect {α β ρ : Type} {step : Nat → α → List β → Option (Flow (List β) ρ)} {xs : List α} (f : α → β) (p : α → Bool) (out : ρ) (hs : ∀ k x, xs[k]? = some x → step k x ((xs.take k).map f) = some (if p x then .ret out else .next ((xs.take k).map f ++ [f x]))) :
    rangeM step 0 xs [] = some (if xs.any p then .ret out else .next (xs.map f)) := by
  obtain ⟨fl, h1, h2⟩ := rangeM_by (step := step) (fun j s => s = (xs.take j).map f ∧ (xs.take j).any p = false) (fun r => r = out ∧ xs.any p = true) xs 0 [] ⟨by simp, by simp⟩ (fun k x s hk hI => by
    rw [Nat.zero_add] at hI ⊢
    obtain ⟨rfl, hn⟩ := hI
    refine ⟨_, hs k x hk, ?_⟩
    have e1 : xs.take (k + 1) = xs.take k ++ [x] := by rw [List.take_add_one, hk]; rfl
    cases hp : p x with
    | true => exact ⟨rfl, List.any_eq_true.2 ⟨x, List.mem_of_getElem? hk, hp⟩⟩
    | false => exact ⟨by rw [e1]; simp, by rw [e1]; simp [hn, hp]⟩)
  rw [h1]
  cases fl with
  | next s =>
    simp only [Nat.zero_add, List.take_length] at h2
    rw [h2.1, if_neg (by rw [h2.2]; simp)]
  | brk s => exact absurd h2 (by simp)
  | ret r => rw [h2.1, if_pos h2.2]

theorem rangeM_unit {α ρ : Type} {step : Nat → α → Unit → Option (Flow Unit ρ)} {xs : List α} (p : α → Bool) (out : ρ) (hs : ∀ k x, xs[k]? = some x → step k x () = some (if p x then .ret out else .next ())) :
    rangeM step 0 xs () = some (if xs.any p then .ret out else .next ()) := by
  obtain ⟨fl, h1, h2⟩ := rangeM_by (step := step) (fun j s => (xs.take j).any p = false) (fun r => r = out ∧ xs.any p = true) xs 0 () (by simp) (fun k x s hk hI => by
    rw [Nat.zero_add] at hI ⊢
    refine ⟨_, hs k x hk, ?_⟩
    have e1 : xs.take (k + 1) = xs.take k ++ [x] := by rw [List.take_add_one, hk]; rfl
    cases hp : p x with
    | true => exact ⟨rfl, List.any_eq_true.2 ⟨x, List.mem_of_getElem? hk, hp⟩⟩
    | false => simp only [Bool.false_eq_true, if_false]; rw [e1]; simp [hI, hp])
  rw [h1]
  cases fl with
  | next s =>
    simp only [Nat.zero_add, List.take_length] at h2
    rw [if_neg (by rw [h2]; simp)]
  | brk s => exact absurd h2 (by simp)
  | ret r => rw [h2.1, if_pos h2.2]

def vat (r : List LVal) (k : Int) : LVal := r.getD k.toNat (LVal.mk 0 0 [])
def Idx (r : List LVal) (at_ : List Int) : Prop := ∀ k ∈ at_, 0 ≤ k ∧ k < r.length
def keyN (r : List LVal) (at_ : List Int) : List LVal × Bool := if at_.any (fun k => (vat r k).kind == (0 : Int)) then ([], false) else (at_.map (vat r), true)

theorem vat_get {r : List LVal} {k : Int} (h0 : 0 ≤ k) (h1 : k < r.length) : getI r k = some (vat r k) := by
  have hlt : k.toNat < r.length := by omega
  rw [getI_ok h0 (List.getElem?_eq_getElem hlt)]
  simp [vat, hlt]

theorem key_eq {r : List LVal} {at_ : List Int} (hi : Idx r at_) (hl : at_.length ≤ 1000000) : L_joinalgo_key r at_ = some (keyN r at_) := by
  unfold L_joinalgo_key
  rw [rangeM_collect (vat r) (fun k => (vat r k).kind == (0 : Int)) ([], false) (fun k x hk => ?_)]
  · unfold keyN
    split
    · rename_i h; simp
    · rename_i h; simp
  · obtain ⟨h0, h1⟩ := hi x (List.mem_of_getElem? hk)
    have hkl : k < at_.length := (List.getElem?_eq_some_iff.1 hk).1
    rw [vat_get h0 h1, bindP_some]
    cases hz : (vat r x).kind == (0 : Int) with
    | true => simp
    | false =>
      rw [cond_false, bindP_some, appI_ok (by simp; omega) (by simp; unfold maxLen; omega), bindP_some]
      simp

theorem lawKey_eq {r : List LVal} {on : LJoinalgoCondition} (hi : Idx r on.left) (hl : on.left.length ≤ 1000000) : L_stemkeep3_JoinMergeOrder_1 r on = some (keyN r on.left) := by
  unfold L_stemkeep3_JoinMergeOrder_1
  rw [rangeM_collect (vat r) (fun k => (vat r k).kind == (0 : Int)) ([], false) (fun k x hk => ?_)]
  · unfold keyN
    split
    · rename_i h; simp
    · rename_i h; simp
  · obtain ⟨h0, h1⟩ := hi x (List.mem_of_getElem? hk)
    have hkl : k < on.left.length := (List.getElem?_eq_some_iff.1 hk).1
    rw [decide_eq_false (show ¬ x ≥ (r.length : Int) from by omega), cond_false, vat_get h0 h1, bindP_some, bindP_some]
    cases hz : (vat r x).kind == (0 : Int) with
    | true => simp
    | false =>
      rw [cond_false, bindP_some, appI_ok (by simp; omega) (by simp; unfold maxLen; omega), bindP_some]
      simp

structure ValidJ (a b : List (List LVal)) (on : LJoinalgoCondition) : Prop where
  lens : on.left.length = on.right.length
  w0 : 0 ≤ on.rightWidth
  w1 : on.rightWidth ≤ 20
  left : ∀ r ∈ a, Idx r on.left
  right : ∀ r ∈ b, Idx r on.right
  width : ∀ r ∈ b, (r.length : Int) = on.rightWidth

def badIdx (rows : List (List LVal)) (x : Int) : Bool := decide (x < 0) || rows.any fun r => decide (x ≥ (r.length : Int))

theorem badIdx_ok {rows : List (List LVal)} {at_ : List Int} (h : at_.any (badIdx rows) = false) : ∀ r ∈ rows, Idx r at_ := by
  intro r hr k hk
  have h1 := List.any_eq_false.1 h k hk
  simp only [badIdx, Bool.or_eq_true, decide_eq_true_eq, not_or, List.any_eq_true, not_exists, not_and] at h1
  have h2 := h1.2 r hr
  omega

theorem validate_eq (a b : List (List LVal)) (on : LJoinalgoCondition) : ∃ e, L_joinalgo_Validate a b on = some e ∧ (e = 0 → ValidJ a b on) := by
  unfold L_joinalgo_Validate
  simp only [letP_eq]
  generalize hc1 : (bif decide ((a.length : Int) > 400) then true else bif decide ((b.length : Int) > 400) then true else decide (on.rightWidth > 20)) = c1
  cases c1 with
  | true => exact ⟨2, rfl, fun h => by cases h⟩
  | false =>
    rw [cond_false]
    generalize hc2 : (bif (on.left.length : Int) != (on.right.length : Int) then true else decide (on.rightWidth < 0)) = c2
    cases c2 with
    | true => exact ⟨3, rfl, fun h => by cases h⟩
    | false =>
      rw [cond_false, smallI_ok (by simp), bindP_some]
      have inner : ∀ (rows : List (List LVal)) (at_ : List Int), rangeM (σ := Unit) (ρ := Int) (fun (_ : Nat) (x5 : Int) (_ : Unit) => cond (decide (x5 < (0 : Int))) (some (.ret 3)) (bindP (L_slices_ContainsFunc_Lapi_Row_api_Row rows (fun a0 => some (L_joinalgo_Validate_1 a0 x5))) fun x63 => cond x63 (some (.ret 3)) (some (.next ())))) 0 at_ () = some (if at_.any (badIdx rows) then .ret 3 else .next ()) := by
        intro rows at_
        refine rangeM_unit (badIdx rows) 3 fun k x hk => ?_
        rw [N_L_slices_ContainsFunc_Lapi_Row_api_Row, bindP_some]
        unfold badIdx L_joinalgo_Validate_1
        cases decide (x < 0) <;> cases rows.any (fun r => decide (x ≥ (r.length : Int))) <;> simp
      have e2 : (List.range ((([LAnon181.mk a on.left, LAnon181.mk b on.right] : List LAnon181).length : Int)).toNat) = [0, 1] := rfl
      rw [e2]
      rw [rangeM_unit (fun x => if x = 0 then on.left.any (badIdx a) else on.right.any (badIdx b)) 3 (fun k x hk => ?_)]
      · rw [N_L_slices_ContainsFunc_Lapi_Row_api_Row]
        cases hA : on.left.any (badIdx a) with
        | true => exact ⟨3, by simp, fun h => by cases h⟩
        | false =>
          cases hB : on.right.any (badIdx b) with
          | true => exact ⟨3, by simp, fun h => by cases h⟩
          | false =>
            simp only [bindP_some]
            cases hW : b.any (fun a0 => L_joinalgo_Validate_2 a0 on) with
            | true => exact ⟨3, by simp, fun h => by cases h⟩
            | false =>
              refine ⟨0, by simp, fun _ => ?_⟩
              have h2 : ¬ (on.left.length : Int) ≠ on.right.length ∧ ¬ on.rightWidth < 0 := by
                cases h : ((on.left.length : Int) != (on.right.length : Int)) with
                | true => rw [h] at hc2; cases hc2
                | false =>
                  rw [h, cond_false] at hc2
                  have e1 := of_decide_eq_false hc2
                  have e3 : (on.left.length : Int) = on.right.length := by simpa using h
                  exact ⟨fun h => h e3, e1⟩
              have h1 : ¬ on.rightWidth > 20 := by
                cases h : decide ((a.length : Int) > 400) with
                | true => rw [h] at hc1; cases hc1
                | false =>
                  cases h' : decide ((b.length : Int) > 400) with
                  | true => rw [h, h'] at hc1; cases hc1
                  | false => rw [h, h', cond_false, cond_false] at hc1; exact of_decide_eq_false hc1
              refine ⟨by omega, by omega, by omega, badIdx_ok hA, badIdx_ok hB, fun r hr => ?_⟩
              have h3 := List.any_eq_false.1 hW r hr
              simp only [L_joinalgo_Validate_2] at h3
              simpa using h3
      · match k, hk with
        | 0, hk =>
          obtain rfl : 0 = x := by simpa using hk
          have g0 : getI [LAnon181.mk a on.left, LAnon181.mk b on.right] ((0 : Nat) : Int) = some (LAnon181.mk a on.left) := rfl
          simp only [g0, bindP_some, inner]
          cases on.left.any (badIdx a) <;> rfl
        | 1, hk =>
          obtain rfl : 1 = x := by simpa using hk
          have g1 : getI [LAnon181.mk a on.left, LAnon181.mk b on.right] ((1 : Nat) : Int) = some (LAnon181.mk b on.right) := rfl
          simp only [g1, bindP_some, inner]
          cases on.right.any (badIdx b) <;> rfl
        | k + 2, hk => simp at hk

/-! Sorting. -/
/-- The order of rows with keys. -/
def ltO (x y : LJoinalgoOne) : Bool := if x.ok = y.ok then ltL x.key y.key else y.ok

/-- Rows with keys of one length. -/
def KeyOk (n : Nat) (x : LJoinalgoOne) : Prop := if x.ok = true then x.key.length = n else x.key = []
abbrev OneN (n : Nat) := { x : LJoinalgoOne // KeyOk n x }
instance (n : Nat) : Inhabited (OneN n) := ⟨⟨⟨[], [], false⟩, by simp [KeyOk]⟩⟩

theorem KeyOk.len {n : Nat} {x y : LJoinalgoOne} (hx : KeyOk n x) (hy : KeyOk n y) (h : x.ok = y.ok) : x.key.length = y.key.length := by
  unfold KeyOk at hx hy
  cases hk : y.ok with
  | true => rw [if_pos (h.trans hk)] at hx; rw [if_pos hk] at hy; omega
  | false =>
    rw [if_neg (by rw [h, hk]; simp)] at hx
    rw [if_neg (by rw [hk]; simp)] at hy
    rw [hx, hy]

theorem ltO_cmp {n : Nat} (x y : OneN n) : ∃ c, L_joinalgo_sorted_1 x.1 y.1 = some c ∧ decide (c < 0) = ltO x.1 y.1 := by
  obtain ⟨x, hx⟩ := x
  obtain ⟨y, hy⟩ := y
  unfold L_joinalgo_sorted_1 ltO
  simp only
  by_cases h : x.ok = y.ok
  · rw [if_pos h, h, compare_eq (hx.len hy h)]
    exact ⟨cmpL x.key y.key, by simp, rfl⟩
  · rw [if_neg h]
    have e : (!(x.ok == y.ok)) = true := by simp [h]
    rw [e, cond_true]
    cases y.ok with
    | true => exact ⟨-1, rfl, rfl⟩
    | false => exact ⟨1, rfl, rfl⟩

theorem ltO_irrefl (x : LJoinalgoOne) : ltO x x = false := by unfold ltO; rw [if_pos rfl, row_irrefl]
theorem ltO_swo (n : Nat) : SWO (fun x y : OneN n => ltO x.1 y.1) where
  irrefl := fun x => ltO_irrefl x.1
  trans := fun x y z h1 h2 => by
    obtain ⟨x, hx⟩ := x
    obtain ⟨y, hy⟩ := y
    obtain ⟨z, hz⟩ := z
    simp only at h1 h2 ⊢
    cases hxo : x.ok <;> cases hyo : y.ok <;> cases hzo : z.ok <;> simp [ltO, hxo, hyo, hzo] at h1 h2 ⊢ <;> exact row_trans _ _ _ (hx.len hy (by rw [hxo, hyo])) (hy.len hz (by rw [hyo, hzo])) h1 h2
  ntrans := fun x y z h1 h2 => by
    obtain ⟨x, hx⟩ := x
    obtain ⟨y, hy⟩ := y
    obtain ⟨z, hz⟩ := z
    simp only at h1 h2 ⊢
    cases hxo : x.ok <;> cases hyo : y.ok <;> cases hzo : z.ok <;> simp [ltO, hxo, hyo, hzo] at h1 h2 ⊢ <;>
      exact (row_sto x.key.length).swo.ntrans ⟨x.key, rfl⟩ ⟨y.key, (hx.len hy (by rw [hxo, hyo])).symm⟩ ⟨z.key, ((hx.len hy (by rw [hxo, hyo])).trans (hy.len hz (by rw [hyo, hzo]))).symm⟩ h1 h2

def onesN (l : List (List LVal)) (at_ : List Int) : List LJoinalgoOne := l.map fun r => LJoinalgoOne.mk (keyN r at_).1 r (keyN r at_).2

theorem keyN_ok (r : List LVal) (at_ : List Int) : if (keyN r at_).2 then (keyN r at_).1.length = at_.length else (keyN r at_).1 = [] := by
  unfold keyN
  split <;> simp

/-- What sorting by key comes to. -/
structure SortedJ (l : List (List LVal)) (at_ : List Int) (m : List LJoinalgoOne) : Prop where
  perm : m.Perm (onesN l at_)
  asc : ∀ (i j : Nat) (x y : LJoinalgoOne), i < j → m[i]? = some x → m[j]? = some y → ltO y x = false

theorem sorted_eq {l : List (List LVal)} {at_ : List Int} (hl : l.length ≤ 400) (ha : at_.length ≤ 1000000) (hi : ∀ r ∈ l, Idx r at_) : ∃ m, L_joinalgo_sorted l at_ = some m ∧ SortedJ l at_ m := by
  unfold L_joinalgo_sorted
  rw [rangeM_map (fun r => LJoinalgoOne.mk (keyN r at_).1 r (keyN r at_).2) (fun k x hk => ?_)]
  · simp only [bindP_some, thenP_nextS]
    -- the elements, with what is known of their keys
    have hmem : ∀ r, KeyOk at_.length (LJoinalgoOne.mk (keyN r at_).1 r (keyN r at_).2) := fun r => keyN_ok r at_
    obtain ⟨A, hA⟩ : ∃ A : Array (OneN at_.length), A = (l.map fun r => (⟨LJoinalgoOne.mk (keyN r at_).1 r (keyN r at_).2, hmem r⟩ : OneN at_.length)).toArray := ⟨_, rfl⟩
    have hrp : l.map (fun r => LJoinalgoOne.mk (keyN r at_).1 r (keyN r at_).2) = rp (α := OneN at_.length) (fun x => x.1) A := by
      rw [hA]
      simp only [rp, List.map_map]
      rfl
    have hC : CmpIs (fun x : OneN at_.length => x.1) (fun x y => ltO x.1 y.1) (fun a0 a1 => L_joinalgo_sorted_1 a0 a1) := ⟨fun x y => ltO_cmp x y⟩
    have hsz : A.size = l.length := by rw [hA]; simp
    obtain ⟨r, h1, A', rfl, h2, h3⟩ := stable_srt hC (ltO_swo at_.length) (A := A) (by omega)
    have e1 : ((l.map fun r => LJoinalgoOne.mk (keyN r at_).1 r (keyN r at_).2).length : Int) = (A.size : Int) := by simp [hsz]
    have hlen : (rp (α := OneN at_.length) (fun x => x.1) A').length = (l.map fun r => LJoinalgoOne.mk (keyN r at_).1 r (keyN r at_).2).length := by rw [rp_len, h2.1, hsz]; simp
    refine ⟨rp (fun x => x.1) A', ?_, ?_, ?_⟩
    · unfold L_slices_SortStableFunc_Ljoinalgo_one_joinalgo_one
      rw [e1, hrp, h1]
      rw [hrp] at hlen
      simp only [bindP_some, guardO_pos hlen]
    · have hp := h2.2.2
      have ex : ∀ D : Array (OneN at_.length), D.size = A.size → (D.extract 0 A.size) = D := fun D hD => by rw [← hD]; simp
      rw [ex A' h2.1, ex A rfl] at hp
      have := hp.map (fun x : OneN at_.length => x.1)
      rw [← show (rp (fun x : OneN at_.length => x.1) A') = A'.toList.map (fun x => x.1) from by simp [rp], ← show (rp (fun x : OneN at_.length => x.1) A) = A.toList.map (fun x => x.1) from by simp [rp], ← hrp] at this
      exact this
    · intro i j x y hij hx hy
      have hj : j < A'.size := by
        have := (List.getElem?_eq_some_iff.1 hy).1
        rwa [rp_len] at this
      have g : ∀ k z, k < A'.size → (rp (α := OneN at_.length) (fun x => x.1) A')[k]? = some z → z = (A'[k]!).1 := by
        intro k z hk hz
        simp only [rp, List.getElem?_map, Array.getElem?_toList] at hz
        rw [Array.getElem?_eq_getElem hk] at hz
        simp only [Option.map_some, Option.some.injEq] at hz
        rw [← hz, getElem!_pos A' k hk]
      rw [g i x (by omega) hx, g j y hj hy]
      exact h3 i j (Nat.zero_le _) hij (by rw [← h2.1]; exact hj)
  · rw [key_eq (hi x (List.mem_of_getElem? hk)) ha, bindP_some, appI_ok (by
      have := (List.getElem?_eq_some_iff.1 hk).1
      simp; omega) (by
      have := (List.getElem?_eq_some_iff.1 hk).1
      simp; unfold maxLen; omega), bindP_some]
end Go.Proofs.YtjnpnakcmjndiaaGreatDoor
