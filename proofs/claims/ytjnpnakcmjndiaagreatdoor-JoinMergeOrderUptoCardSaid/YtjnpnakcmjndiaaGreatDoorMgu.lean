/- Joins: the sort-merge join hands out its rows in the order of their keys. -/
import Derived.Test.YtjnpnakcmjndiaaGreatDoorMgt
namespace Go.Proofs.YtjnpnakcmjndiaaGreatDoor
open Go Go.Ab

theorem pair_eq {x y : List LVal} (h : x.length + y.length ≤ 2000000) : L_joinalgo_pair x y = some (x ++ y) := by
  unfold L_joinalgo_pair
  rw [N_L_slices_Concat_api_Row_api_Value _ (by simp; omega) (by simp; unfold maxLen; omega)]
  simp
theorem alone_eq {x : List LVal} {on : LJoinalgoCondition} (h : x.length ≤ 1100000) (h0 : 0 ≤ on.rightWidth) (h1 : on.rightWidth ≤ 20) : ∃ y, L_joinalgo_alone x on = some (x ++ y) := by
  unfold L_joinalgo_alone
  rw [growI_ok (by unfold maxLen; omega), bindP_some, N_L_slices_Concat_api_Row_api_Value _ (by simp; omega) (by simp; unfold maxLen; omega)]
  exact ⟨List.replicate on.rightWidth.toNat (LVal.mk 0 0 []), by simp⟩

theorem pairOf {A : Type} {o : Option (A × Int)} {P : A → Int → Prop} (h : ∃ q, o = some q ∧ P q.1 q.2) : ∃ out e, o = some (out, e) ∧ P out e :=
  let ⟨q, h1, h2⟩ := h
  ⟨q.1, q.2, h1, h2⟩

/-- A round that goes on. -/
def NextIs {σ ρ : Type} (P : σ → Prop) : Flow σ ρ → Prop
  | .next s => P s
  | .brk _ => False
  | .ret _ => False
theorem range_then {α σ β : Type} {step : Nat → α → σ → Option (Flow σ Empty)} {k : Flow σ Empty → Option β} {R : β → Prop} {xs : List α} {s0 : σ} (I : Nat → σ → Prop) (h0 : I 0 s0)
    (hk : ∀ s, I xs.length s → ∃ r, k (.next s) = some r ∧ R r) (hs : ∀ j x s, xs[j]? = some x → I j s → ∃ fl, step j x s = some fl ∧ NextIs (I (j + 1)) fl) :
    ∃ r, bindP (rangeM step 0 xs s0) k = some r ∧ R r := by
  obtain ⟨fl, h1, h2⟩ := rangeM_by (step := step) I (fun _ => False) xs 0 s0 h0 (fun j x s hj hI => by
    rw [Nat.zero_add] at hI ⊢
    obtain ⟨fl, h1, h2⟩ := hs j x s hj hI
    refine ⟨fl, h1, ?_⟩
    cases fl with
    | next s => exact h2
    | brk s => exact h2
    | ret r => exact r.elim)
  rw [h1]
  cases fl with
  | next s => exact hk s (by simpa using h2)
  | brk s => exact absurd h2 (by simp)
  | ret r => exact r.elim

theorem equal_tot (x y : List LVal) : ∃ b, L_slices_Equal_api_Row_api_Value x y = some b := by
  unfold L_slices_Equal_api_Row_api_Value
  cases hl : ((x.length : Int) != (y.length : Int)) with
  | true => exact ⟨false, rfl⟩
  | false =>
    rw [cond_false]
    have hl' : x.length = y.length := by have : (x.length : Int) = y.length := by simpa using hl
                                         omega
    obtain ⟨fl, h1, h2⟩ := rangeM_by (step := fun (j1 : Nat) (x1 : LVal) (_ : Unit) => bindP (getI y (j1 : Int)) fun (x22 : LVal) => cond (!(x1.kind == x22.kind && (x1.int == x22.int && (x1.text == x22.text && true)))) (some (Flow.ret (σ := Unit) false)) (some (.next ()))) (fun _ _ => True) (fun _ => True) x 0 () trivial (fun k w s hk _ => by
      have hky : k < y.length := by rw [← hl']; exact (List.getElem?_eq_some_iff.1 hk).1
      rw [Nat.zero_add, getI_of hky, bindP_some]
      cases (w.kind == y[k].kind && (w.int == y[k].int && (w.text == y[k].text && true))) with
      | true => exact ⟨_, rfl, trivial⟩
      | false => exact ⟨_, rfl, trivial⟩)
    rw [h1]
    cases fl with
    | next s => exact ⟨true, rfl⟩
    | brk s => exact absurd h2 (by simp)
    | ret r => exact ⟨r, rfl⟩

/-- Rows that were handed out for the first j rows on the left, in their order. -/
def OutOk (l : List LJoinalgoOne) (j : Nat) (out : List (List LVal)) : Prop :=
  ∃ ps : List (LJoinalgoOne × List LVal), out = ps.map (fun p => p.1.row ++ p.2) ∧ ps.Pairwise (fun p q => ltO q.1 p.1 = false) ∧ ∀ p ∈ ps, ∃ i, i < j ∧ l[i]? = some p.1

theorem OutOk.up {l : List LJoinalgoOne} {j : Nat} {out : List (List LVal)} (h : OutOk l j out) : OutOk l (j + 1) out :=
  let ⟨ps, h1, h2, h3⟩ := h
  ⟨ps, h1, h2, fun p hp => let ⟨i, hi, e⟩ := h3 p hp; ⟨i, by omega, e⟩⟩

theorem OutOk.push {l : List LJoinalgoOne} {j : Nat} {out : List (List LVal)} (h : OutOk l (j + 1) out) (asc : ∀ (i j : Nat) (x y : LJoinalgoOne), i < j → l[i]? = some x → l[j]? = some y → ltO y x = false) {x : LJoinalgoOne} (hx : l[j]? = some x) (y : List LVal) : OutOk l (j + 1) (out ++ [x.row ++ y]) := by
  obtain ⟨ps, rfl, h2, h3⟩ := h
  refine ⟨ps ++ [(x, y)], by simp, ?_, fun p hp => ?_⟩
  · rw [List.pairwise_append]
    refine ⟨h2, by simp, fun p hp q hq => ?_⟩
    simp only [List.mem_singleton] at hq
    subst hq
    obtain ⟨i, hi, e⟩ := h3 p hp
    rcases Nat.lt_succ_iff_lt_or_eq.1 hi with hi | rfl
    · exact asc i j p.1 x hi e hx
    · rw [hx] at e
      rw [← Option.some.inj e]
      exact ltO_irrefl x
  · rcases List.mem_append.1 hp with hp | hp
    · exact h3 p hp
    · simp only [List.mem_singleton] at hp
      subst hp
      exact ⟨j, Nat.lt_succ_self _, hx⟩

theorem join_ok {a b : List (List LVal)} {on : LJoinalgoCondition} (ha : a.length ≤ 80) (hb : b.length ≤ 80) (hl : on.left.length + on.right.length ≤ 20) (hra : ∀ r ∈ a, r.length ≤ 1048576) :
    ∃ out e, L_joinalgo_SortMergeJoin a b on = some (out, e) ∧ (e ≠ 0 → out = []) ∧ (e = 0 → ValidJ a b on ∧ ∃ l, SortedJ a on.left l ∧ OutOk l l.length out ∧ out.length ≤ 1000000) := by
  unfold L_joinalgo_SortMergeJoin
  obtain ⟨e, he, hv⟩ := validate_eq a b on
  rw [he, bindP_some]
  cases hz : e != (0 : Int) with
  | true => exact ⟨[], e, rfl, fun _ => rfl, fun h => by rw [h] at hz; cases hz⟩
  | false =>
    rw [cond_false]
    have hv := hv (by simpa using hz)
    obtain ⟨l, h1, hs⟩ := sorted_eq (l := a) (at_ := on.left) (by omega) (by omega) hv.left
    obtain ⟨m, h2, hsm⟩ := sorted_eq (l := b) (at_ := on.right) (by omega) (by omega) hv.right
    rw [h1, bindP_some, h2, bindP_some]
    have hll : l.length = a.length := by have := hs.perm.length_eq; simpa [onesN] using this
    have hml : m.length = b.length := by have := hsm.perm.length_eq; simpa [onesN] using this
    have hlr : ∀ x ∈ l, x.row.length ≤ 1048576 := fun x hx => by
      obtain ⟨r, hr, rfl⟩ := List.mem_map.1 (hs.perm.mem_iff.1 hx)
      exact hra r hr
    have hmr : ∀ x ∈ m, x.row.length ≤ 20 := fun x hx => by
      obtain ⟨r, hr, rfl⟩ := List.mem_map.1 (hsm.perm.mem_iff.1 hx)
      have := hv.width r hr
      have := hv.w1
      simp only
      omega
    refine pairOf (P := fun out e => (e ≠ 0 → out = []) ∧ (e = 0 → ValidJ a b on ∧ ∃ l, SortedJ a on.left l ∧ OutOk l l.length out ∧ out.length ≤ 1000000)) ?_
    have wrapR : ∀ o : Option (List (List LVal) × Int), (∃ q, o = some q ∧ q.2 = 0 ∧ OutOk l l.length q.1 ∧ q.1.length ≤ 1000000) → ∃ q, o = some q ∧ ((q.2 ≠ 0 → q.1 = []) ∧ (q.2 = 0 → ValidJ a b on ∧ ∃ l, SortedJ a on.left l ∧ OutOk l l.length q.1 ∧ q.1.length ≤ 1000000)) := fun o ⟨q, q1, q2, q3⟩ => ⟨q, q1, fun h => absurd q2 h, fun _ => ⟨hv, l, hs, q3⟩⟩
    apply wrapR
    · refine while_run (R := fun q : List (List LVal) × Int => q.2 = 0 ∧ OutOk l l.length q.1 ∧ q.1.length ≤ 1000000) (fun s : List LJoinalgoOne => s.length ≤ 80 ∧ ∀ x ∈ s, x.row.length ≤ 20) (fun s => s.length) (fun s => s.length ≤ 80 ∧ ∀ x ∈ s, x.row.length ≤ 20) ⟨by omega, hmr⟩ (fun s hI => ?_) (fun s hI => ?_)
      · cases s with
        | nil => exact ⟨.brk [], rfl, hI⟩
        | cons x s =>
          have g0 : getI (x :: s) 0 = some x := rfl
          rw [decide_eq_true (by simp), cond_true, g0, bindP_some]
          cases x.ok with
          | true => exact ⟨_, rfl, hI⟩
          | false =>
            rw [Bool.not_false, cond_true, subI_ok (by simp; omega), bindP_some]
            refine ⟨_, rfl, ⟨?_, fun y hy => hI.2 y ?_⟩, ?_⟩
            · have := hI.1; simp at this ⊢; omega
            · simp at hy; simp [hy]
            · simp
      · refine range_then (fun j (t : List (List LVal) × Int) => OutOk l j t.1 ∧ t.1.length ≤ j * 81 ∧ 0 ≤ t.2 ∧ t.2 ≤ s.length) ⟨⟨[], rfl, by simp, by simp⟩, by simp, by simp, by simp⟩ (fun t ht => ⟨(t.1, 0), rfl, rfl, ht.1, by have := ht.2.1; simp only; omega⟩) (fun j x t hj hI2 => ?_)
        -- one row on the left
        obtain ⟨hO, hlen, hat0, hat1⟩ := hI2
        have hjl : j < l.length := (List.getElem?_eq_some_iff.1 hj).1
        have hj80 : j < 80 := by omega
        have hxr := hlr x (List.mem_of_getElem? hj)
        refine while_run (R := NextIs (ρ := Empty) fun s' : List (List LVal) × Int => OutOk l (j + 1) s'.1 ∧ s'.1.length ≤ (j + 1) * 81 ∧ 0 ≤ s'.2 ∧ s'.2 ≤ s.length) (fun i : Int => 0 ≤ i ∧ i ≤ s.length) (fun i => ((s.length : Int) - i).toNat) (fun i => 0 ≤ i ∧ i ≤ s.length) ⟨hat0, hat1⟩ (fun i hi => ?_) (fun i hi => ?_)
        · cases x.ok with
          | false => exact ⟨_, rfl, hi⟩
          | true =>
            rw [cond_true]
            by_cases hlt : i < s.length
            · have hn : i.toNat < s.length := by omega
              rw [decide_eq_true hlt, cond_true, getI_ok hi.1 (List.getElem?_eq_getElem hn), bindP_some]
              obtain ⟨c, hc⟩ := compare_tot (s[i.toNat]).key x.key []
              rw [hc, bindP_some]
              cases decide (c < 0) with
              | true =>
                rw [cond_true, wrap_id (by omega) (by omega)]
                exact ⟨_, rfl, ⟨by omega, by omega⟩, by omega⟩
              | false => exact ⟨_, rfl, hi⟩
            · rw [decide_eq_false hlt]
              exact ⟨_, rfl, hi⟩
        · refine while_run (fun u : List (List LVal) × Bool × Int => OutOk l (j + 1) u.1 ∧ i ≤ u.2.2 ∧ u.2.2 ≤ s.length ∧ (u.1.length : Int) ≤ j * 81 + (u.2.2 - i)) (fun u => ((s.length : Int) - u.2.2).toNat) (fun u => OutOk l (j + 1) u.1 ∧ (u.1.length : Int) ≤ j * 81 + 80) ⟨hO.up, Int.le_refl i, hi.2, by simp; omega⟩ (fun u hu => ?_) (fun u hu => ?_)
          · obtain ⟨u1, u2, u3⟩ := u
            obtain ⟨hu1, hu2, hu3, hu4⟩ := hu
            simp only at hu1 hu2 hu3 hu4 ⊢
            have hend : OutOk l (j + 1) u1 ∧ (u1.length : Int) ≤ j * 81 + 80 := ⟨hu1, by omega⟩
            cases x.ok with
            | false => exact ⟨_, rfl, hend⟩
            | true =>
              rw [cond_true]
              by_cases hlt : u3 < s.length
              · have hn : u3.toNat < s.length := by omega
                have hg : getI s u3 = some s[u3.toNat] := getI_ok (by omega) (List.getElem?_eq_getElem hn)
                rw [decide_eq_true hlt, cond_true, hg, bindP_some]
                obtain ⟨c, hc⟩ := equal_tot (s[u3.toNat]).key x.key
                rw [hc, bindP_some, bindP_some]
                cases c with
                | false => exact ⟨_, rfl, hend⟩
                | true =>
                  have hsr := hI.2 s[u3.toNat] (List.getElem_mem _)
                  rw [cond_true, bindP_some, pair_eq (by omega), bindP_some, appI_ok (by simp; omega) (by simp; unfold maxLen; omega), bindP_some, wrap_id (by omega) (by omega)]
                  exact ⟨_, rfl, ⟨hu1.push hs.asc hj _, by simp; omega, by simp; omega, by simp; omega⟩, by simp; omega⟩
              · rw [decide_eq_false hlt]
                exact ⟨_, rfl, hend⟩
          · obtain ⟨u1, u2, u3⟩ := u
            obtain ⟨hu1, hu2⟩ := hu
            simp only at hu1 hu2 ⊢
            have keep : (OutOk l (j + 1) u1 ∧ u1.length ≤ (j + 1) * 81 ∧ 0 ≤ i ∧ i ≤ s.length) := ⟨hu1, by omega, hi.1, hi.2⟩
            simp only [letP_eq]
            cases u2 with
            | true => exact ⟨_, rfl, keep⟩
            | false =>
              cases on.outer with
              | false => exact ⟨_, rfl, keep⟩
              | true =>
                obtain ⟨y, hy⟩ := alone_eq (x := x.row) (on := on) (by omega) hv.w0 hv.w1
                simp only [Bool.not_false, cond_true]
                rw [hy, bindP_some, appI_ok (by simp; omega) (by simp; unfold maxLen; omega), bindP_some]
                exact ⟨_, rfl, hu1.push hs.asc hj _, by simp; omega, hi.1, hi.2⟩
end Go.Proofs.YtjnpnakcmjndiaaGreatDoor
/- Joins: the law on the order of a sort-merge join's rows. -/
namespace Go.Proofs.YtjnpnakcmjndiaaGreatDoor
open Go Go.Ab

theorem vat_app {r s : List LVal} {k : Int} (h0 : 0 ≤ k) (h1 : k < r.length) : vat (r ++ s) k = vat r k := by
  unfold vat
  have : k.toNat < r.length := by omega
  rw [List.getD_eq_getElem?_getD, List.getD_eq_getElem?_getD, List.getElem?_append_left this]

theorem keyN_app {r s : List LVal} {at_ : List Int} (h : Idx r at_) : keyN (r ++ s) at_ = keyN r at_ := by
  unfold keyN
  have e1 : at_.any (fun k => (vat (r ++ s) k).kind == (0 : Int)) = at_.any (fun k => (vat r k).kind == (0 : Int)) := by
    rw [Bool.eq_iff_iff, List.any_eq_true, List.any_eq_true]
    constructor
    · rintro ⟨k, hk, e⟩
      exact ⟨k, hk, by rw [vat_app (h k hk).1 (h k hk).2] at e; exact e⟩
    · rintro ⟨k, hk, e⟩
      exact ⟨k, hk, by rw [vat_app (h k hk).1 (h k hk).2]; exact e⟩
  have e2 : at_.map (vat (r ++ s)) = at_.map (vat r) := List.map_congr_left fun k hk => vat_app (h k hk).1 (h k hk).2
  rw [e1, e2]

theorem idx_app {r s : List LVal} {at_ : List Int} (h : Idx r at_) : Idx (r ++ s) at_ := fun k hk => ⟨(h k hk).1, by have := (h k hk).2; simp; omega⟩

theorem cmpL_neg {x y : List LVal} (hl : x.length = y.length) (h : ltL y x = false) : ¬ cmpL x y > 0 := by
  intro hp
  have h1 : ltL x y = false := by unfold ltL; exact decide_eq_false (by omega)
  have := row_tri x y hl h1 h
  subst this
  have e : ∀ z : List LVal, cmpL z z = 0 := fun z => by
    induction z with
    | nil => simp [cmpL]
    | cons a z ih => simp [cmpL, ih]
  rw [e] at hp
  omega

theorem joinMergeOrder_law (a b : List (List LVal)) (on : LJoinalgoCondition) (hll : on.left.length ≤ 1048576) (hlr : on.right.length ≤ 1048576) (hra : ∀ r ∈ a, r.length ≤ 1048576) : L_stemkeep3_JoinMergeOrder a b on = some true := by
  unfold L_stemkeep3_JoinMergeOrder
  have es : sampleV = true := rfl
  rw [es]
  simp only [letP_eq, Bool.not_true, cond_false]
  rw [wrap_id (by omega) (by omega)]
  generalize hg : (bif decide ((a.length : Int) > 80) then true else bif decide ((b.length : Int) > 80) then true else decide ((on.left.length : Int) + (on.right.length : Int) > 20)) = g
  cases g with
  | true => rfl
  | false =>
    rw [cond_false]
    have hA : ¬ (a.length : Int) > 80 := by
      intro h
      rw [decide_eq_true h] at hg
      cases hg
    rw [decide_eq_false hA, cond_false] at hg
    have hB : ¬ (b.length : Int) > 80 := by
      intro h
      rw [decide_eq_true h] at hg
      cases hg
    rw [decide_eq_false hB, cond_false] at hg
    have hC := of_decide_eq_false hg
    obtain ⟨out, e, h1, h2, h3⟩ := join_ok (a := a) (b := b) (on := on) (by omega) (by omega) (by omega) hra
    rw [h1, bindP_some]
    simp only
    cases he : (e != (0 : Int)) with
    | true =>
      have : e ≠ 0 := by simpa using he
      rw [cond_true, h2 this]
      rfl
    | false =>
      rw [cond_false]
      obtain ⟨hv, l, hs, ⟨ps, rfl, hp, hm⟩, hsz⟩ := h3 (by simpa using he)
      rw [List.length_map] at hsz
      -- what each row's key is
      have hkey : ∀ p ∈ ps, Idx (p.1.row ++ p.2) on.left ∧ keyN (p.1.row ++ p.2) on.left = (p.1.key, p.1.ok) ∧ (p.1.ok = true → p.1.key.length = on.left.length) := fun p hpm => by
        obtain ⟨i, _, hi⟩ := hm p hpm
        obtain ⟨r, hr, e⟩ := List.mem_map.1 (hs.perm.mem_iff.1 (List.mem_of_getElem? hi))
        have hI := hv.left r hr
        rw [← e]
        refine ⟨idx_app hI, keyN_app hI, fun ho => ?_⟩
        have := keyN_ok r on.left
        rw [if_pos ho] at this
        exact this
      have hn : (ps.map fun p => p.1.row ++ p.2).length = ps.length := by simp
      have hfin : ∀ o : Option Bool, (∃ r, o = some r ∧ r = true) → o = some true := fun o ⟨r, q1, q2⟩ => by rw [q1, q2]
      apply hfin
      refine while_runR (R := fun r : Bool => r = true) (fun i : Int => 1 ≤ i) (fun i => ((ps.length : Int) - i).toNat) (fun _ => True) (by omega) (fun i hi => ?_) (fun _ _ => ⟨true, rfl, rfl⟩)
      rw [hn]
      by_cases hlt : i < ps.length
      · have hi0 : i.toNat < ps.length := by omega
        have hi1 : (i - 1).toNat < ps.length := by omega
        have g1 : getI (ps.map fun p => p.1.row ++ p.2) (i - 1) = some (ps[(i - 1).toNat].1.row ++ ps[(i - 1).toNat].2) := getI_ok (by omega) (by rw [List.getElem?_map, List.getElem?_eq_getElem hi1]; rfl)
        have g2 : getI (ps.map fun p => p.1.row ++ p.2) i = some (ps[i.toNat].1.row ++ ps[i.toNat].2) := getI_ok (by omega) (by rw [List.getElem?_map, List.getElem?_eq_getElem hi0]; rfl)
        obtain ⟨a1, a2, a3⟩ := hkey ps[(i - 1).toNat] (List.getElem_mem _)
        obtain ⟨b1, b2, b3⟩ := hkey ps[i.toNat] (List.getElem_mem _)
        have hlt2 := List.pairwise_iff_getElem.1 hp (i - 1).toNat i.toNat hi1 hi0 (by omega)
        rw [decide_eq_true hlt, cond_true, wrap_id (show (-9223372036854775808 : Int) ≤ i - 1 from by omega) (by omega), g1, bindP_some, lawKey_eq a1 (by omega), bindP_some, g2, bindP_some, lawKey_eq b1 (by omega), bindP_some, a2, b2, wrap_id (show (-9223372036854775808 : Int) ≤ i + 1 from by omega) (by omega)]
        simp only
        revert a3 b3 hlt2
        generalize ps[(i - 1).toNat].1 = p
        generalize ps[i.toNat].1 = q
        intro a3 b3 hlt2
        cases ha : p.ok with
        | false => exact ⟨_, rfl, by omega, by omega⟩
        | true =>
          cases hb : q.ok with
          | false => simp [ltO, ha, hb] at hlt2
          | true =>
            simp only [cond_true, Bool.not_true, cond_false]
            have hlen : p.key.length = q.key.length := by rw [a3 ha, b3 hb]
            rw [compare_eq hlen, bindP_some, decide_eq_false (cmpL_neg hlen (by simpa [ltO, ha, hb] using hlt2)), cond_false]
            exact ⟨_, rfl, by omega, by omega⟩
      · rw [decide_eq_false hlt, cond_false]
        exact ⟨_, rfl, trivial⟩
end Go.Proofs.YtjnpnakcmjndiaaGreatDoor
