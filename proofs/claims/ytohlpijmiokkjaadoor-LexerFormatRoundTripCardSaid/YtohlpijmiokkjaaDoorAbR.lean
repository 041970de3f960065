/- The abstract layer, part R: what loops come to; facts on sizes that come with the arguments. -/
import Derived.Test.YtohlpijmiokkjaaDoorAbQ
namespace Go.Ab

@[simp] theorem bindP_some {α β : Type} (a : α) (k : α → Option β) : bindP (some a) k = k a := rfl
@[simp] theorem bindP_none {α β : Type} (k : α → Option β) : bindP none k = none := rfl
@[simp] theorem letP_eq {α β : Type} (a : α) (k : α → β) : letP a k = k a := rfl
@[simp] theorem thenP_nextS {σ β : Type} (s : σ) (k : σ → Option β) : Flow.thenP (.next s) k = k s := rfl
@[simp] theorem thenR_nextS {σ ρ : Type} (s : σ) (k : σ → Option ρ) : Flow.thenR (.next s) k = k s := rfl
@[simp] theorem thenR_retS {σ ρ : Type} (r : ρ) (k : σ → Option ρ) : Flow.thenR (.ret r) k = some r := rfl
@[simp] theorem thenF_nextS {σ τ ρ : Type} (s : σ) (k : σ → Option (Flow τ ρ)) : Flow.thenF (.next s) k = k s := rfl
@[simp] theorem thenF_retS {σ τ ρ : Type} (r : ρ) (k : σ → Option (Flow τ ρ)) : Flow.thenF (.ret r) k = some (.ret r) := rfl
theorem bindP_assoc {α β γ : Type} (o : Option α) (k : α → Option β) (l : β → Option γ) : bindP (bindP o k) l = bindP o fun a => bindP (k a) l := by cases o <;> rfl

theorem appI_ok {α : Type} {bytes : Nat} {xs ys : List α} (h1 : (xs.length + ys.length) * bytes ≤ 2 ^ 47) (h2 : xs.length + ys.length ≤ maxLen) : appI bytes xs ys = some (xs ++ ys) := by
  unfold appI; rw [if_pos ⟨h1, h2⟩]
theorem getI_ok {α : Type} {xs : List α} {i : Int} {x : α} (h0 : 0 ≤ i) (h : xs[i.toNat]? = some x) : getI xs i = some x := by unfold getI; rw [if_pos h0, h]
theorem getI_nat {α : Type} {xs : List α} {j : Nat} {x : α} (h : xs[j]? = some x) : getI xs (j : Int) = some x := getI_ok (by omega) (by simpa using h)
theorem getI_lt {α : Type} [Inhabited α] {xs : List α} {i : Int} (h0 : 0 ≤ i) (h : i < xs.length) : ∃ x, getI xs i = some x ∧ xs[i.toNat]? = some x := by
  have : i.toNat < xs.length := by omega
  exact ⟨xs[i.toNat], getI_ok h0 (List.getElem?_eq_getElem this), List.getElem?_eq_getElem this⟩
theorem subI_ok {α : Type} {xs : List α} {a b : Int} (h : 0 ≤ a ∧ a ≤ b ∧ b ≤ xs.length) : subI xs a b = some ((xs.take b.toNat).drop a.toNat) := by unfold subI; rw [if_pos h]
theorem catS_ok {a b : List UInt8} (h : a.length + b.length ≤ maxStr) : catS a b = some (a ++ b) := by unfold catS; rw [if_pos h]
theorem growI_ok {bytes : Nat} {n : Int} (h : 0 ≤ n ∧ n.toNat * bytes ≤ 2 ^ 47 ∧ n.toNat ≤ maxLen) : growI bytes n = some () := by unfold growI; rw [if_pos h]
theorem smallI_ok {n : Int} (h : n ≤ 2 ^ 62) : smallI n = some n.toNat := by unfold smallI; rw [if_pos h]

/-- A loop, by what holds at the head of its rounds: either all rounds are gone through, or one of them returns. -/
theorem rangeM_by {α σ ρ : Type} {step : Nat → α → σ → Option (Flow σ ρ)} (I : Nat → σ → Prop) (Q : ρ → Prop) :
    ∀ (xs : List α) (j : Nat) (s : σ), I j s → (∀ k x s, xs[k]? = some x → I (j + k) s → ∃ fl, step (j + k) x s = some fl ∧ (match fl with | .next s' => I (j + k + 1) s' | .brk _ => False | .ret r => Q r)) →
      ∃ fl, rangeM step j xs s = some fl ∧ (match fl with | .next s' => I (j + xs.length) s' | .brk _ => False | .ret r => Q r)
  | [], j, s, h, _ => ⟨.next s, rfl, by simpa using h⟩
  | x :: xs, j, s, h, hs => by
    obtain ⟨fl, h1, h2⟩ := hs 0 x s rfl (by simpa using h)
    rw [Nat.add_zero] at h1
    cases fl with
    | next s' =>
      obtain ⟨fl, h3, h4⟩ := rangeM_by I Q xs (j + 1) s' (by simpa using h2) (fun k y t hk hI => by
        obtain ⟨fl, h5, h6⟩ := hs (k + 1) y t (by simpa using hk) (by rw [show j + (k + 1) = j + 1 + k from by omega]; exact hI)
        rw [show j + (k + 1) = j + 1 + k from by omega] at h5 h6
        exact ⟨fl, h5, h6⟩)
      refine ⟨fl, by rw [rangeM, h1]; exact h3, ?_⟩
      rw [show j + (x :: xs).length = j + 1 + xs.length from by simp; omega]
      exact h4
    | brk s' => exact absurd h2 (by simp)
    | ret r => exact ⟨.ret r, by rw [rangeM, h1], h2⟩

/-- A loop that goes through all its rounds. -/
theorem rangeM_all {α σ ρ : Type} {step : Nat → α → σ → Option (Flow σ ρ)} {xs : List α} {s : σ} (S : Nat → σ) (h0 : S 0 = s) (hs : ∀ k x, xs[k]? = some x → step k x (S k) = some (.next (S (k + 1)))) : rangeM step 0 xs s = some (.next (S xs.length)) := by
  subst h0
  obtain ⟨fl, h1, h2⟩ := rangeM_by (step := step) (fun j s => s = S j) (fun _ => False) xs 0 (S 0) rfl (fun k x s hk hI => by
    simp only [Nat.zero_add] at hI
    subst hI
    exact ⟨_, by rw [Nat.zero_add]; exact hs k x hk, by simp⟩)
  cases fl with
  | next s' => simp only [Nat.zero_add] at h2; rw [h1, h2]
  | brk s' => exact absurd h2 (by simp)
  | ret r => exact absurd h2 (by simp)

/-- A loop that collects one element each round. -/
theorem rangeM_map {α β ρ : Type} {step : Nat → α → List β → Option (Flow (List β) ρ)} {xs : List α} (f : α → β) (hs : ∀ k x, xs[k]? = some x → step k x ((xs.take k).map f) = some (.next ((xs.take k).map f ++ [f x]))) :
    rangeM step 0 xs [] = some (.next (xs.map f)) := by
  have := rangeM_all (step := step) (xs := xs) (fun k => (xs.take k).map f) rfl (fun k x hk => by
    rw [hs k x hk, List.take_add_one, hk]
    simp)
  simpa using this

/-- A loop that folds. -/
theorem rangeM_fold {α σ ρ : Type} {step : Nat → α → σ → Option (Flow σ ρ)} {xs : List α} {s : σ} (g : σ → α → σ) (hs : ∀ k x, xs[k]? = some x → step k x ((xs.take k).foldl g s) = some (.next (g ((xs.take k).foldl g s) x))) :
    rangeM step 0 xs s = some (.next (xs.foldl g s)) := by
  have := rangeM_all (step := step) (xs := xs) (fun k => (xs.take k).foldl g s) rfl (fun k x hk => by
    rw [hs k x hk, List.take_add_one, hk, List.foldl_append]
    rfl)
  simpa using this

/-- A loop that looks for the first element of a kind. -/
theorem rangeM_find {α ρ : Type} {step : Nat → α → Unit → Option (Flow Unit ρ)} (p : α → Bool) (out : Nat → α → ρ) : ∀ (xs : List α) (j : Nat), (∀ k x, xs[k]? = some x → step (j + k) x () = some (if p x then .ret (out (j + k) x) else .next ())) →
    rangeM step j xs () = some (match xs.findIdx? p with | some i => (match xs[i]? with | some x => .ret (out (j + i) x) | none => .next ()) | none => .next ())
  | [], j, _ => rfl
  | x :: xs, j, hs => by
    have h0 := hs 0 x rfl
    rw [Nat.add_zero] at h0
    rw [rangeM, h0, List.findIdx?_cons]
    cases hp : p x with
    | true => simp
    | false =>
      simp only [Bool.false_eq_true, if_false]
      rw [rangeM_find p out xs (j + 1) (fun k y hk => by
        have := hs (k + 1) y (by simpa using hk)
        rw [show j + (k + 1) = j + 1 + k from by omega] at this
        exact this)]
      cases xs.findIdx? p with
      | none => simp
      | some i =>
        simp only [Option.map_some, List.getElem?_cons_succ]
        rw [show j + 1 + i = j + (i + 1) from by omega]

/-! Sizes. -/
mutual
def PV.fits (T : TT) : PV → Prop
  | .str l => l.length ≤ maxStr
  | .list e rows => rows.length ≤ maxLen ∧ (∀ ti, T.get e = some ti → rows.length * ti.bytes ≤ 2 ^ 47) ∧ fitsR T rows
  | .agg cs => fitsL T cs
  | .tup cs => fitsL T cs
  | .ptr cs => fitsL T cs
  | .fn _ cs => fitsL T cs
  | _ => True
def fitsL (T : TT) : List PV → Prop
  | [] => True
  | p :: ps => p.fits T ∧ fitsL T ps
def fitsR (T : TT) : List (List PV) → Prop
  | [] => True
  | r :: rs => fitsL T r ∧ fitsR T rs
end

section
variable {P : Program} {T : TT} {M : Mem}
mutual
theorem Rep.fits (hT : T.Ok P) : ∀ {p : PV} {s : Bool} {x : Value}, Rep P M s p x → p.fits T
  | .str l, _, _, h => by simp only [Rep] at h; simpa only [PV.fits] using h.2
  | .list e rows, _, x, h => by
    have h' := h
    simp only [Rep] at h
    obtain ⟨a, c, i, _, h1, h2, h3, h4, h5⟩ := h
    simp only [PV.fits]
    refine ⟨by omega, fun ti hti => ?_, ?_⟩
    · obtain ⟨i', h6, _, h7, _⟩ := (hT.get hti).info
      rw [h3] at h6
      cases h6
      rw [← h7]
      exact h4
    · by_cases hr : rows = []
      · subst hr; simp [fitsR]
      · obtain ⟨b, o, _, h6⟩ := h5 hr
        exact RepRows.fits hT h6
  | .agg cs, _, _, h => by simp only [Rep] at h; obtain ⟨_, _, h⟩ := h; simpa only [PV.fits] using RepAll.fits hT h
  | .tup cs, _, _, h => by simp only [Rep] at h; obtain ⟨_, _, h⟩ := h; simpa only [PV.fits] using RepAll.fits hT h
  | .ptr cs, _, _, h => by simp only [Rep] at h; obtain ⟨_, _, _, h⟩ := h; simpa only [PV.fits] using RepAt.fits hT h
  | .fn _ cs, _, _, h => by simp only [Rep] at h; obtain ⟨_, _, h⟩ := h; simpa only [PV.fits] using RepAll.fits hT h
  | .any, _, _, _ => by simp only [PV.fits]
  | .val _, _, _, _ => by simp only [PV.fits]
  | .box .., _, _, _ => by simp only [PV.fits]
  | .own .., _, _, _ => by simp only [PV.fits]
  | .optr .., _, _, _ => by simp only [PV.fits]
  | .err _, _, _, _ => by simp only [PV.fits]
theorem RepAll.fits (hT : T.Ok P) : ∀ {ps : List PV} {s : Bool} {xs : List Value}, RepAll P M s ps xs → fitsL T ps
  | [], _, _, _ => by simp only [fitsL]
  | p :: ps, _, _, h => by
    simp only [RepAll] at h
    obtain ⟨x, xs, _, h1, h2⟩ := h
    simp only [fitsL]
    exact ⟨Rep.fits hT h1, RepAll.fits hT h2⟩
theorem RepAt.fits (hT : T.Ok P) : ∀ {ps : List PV} {b o : Nat}, RepAt P M b o ps → fitsL T ps
  | [], _, _, _ => by simp only [fitsL]
  | p :: ps, _, _, h => by
    simp only [RepAt] at h
    obtain ⟨⟨x, _, _, h1⟩, h2⟩ := h
    simp only [fitsL]
    exact ⟨Rep.fits hT h1, RepAt.fits hT h2⟩
theorem RepRows.fits (hT : T.Ok P) : ∀ {rs : List (List PV)} {k b o : Nat}, RepRows P M k b o rs → fitsR T rs
  | [], _, _, _, _ => by simp only [fitsR]
  | r :: rs, _, _, _, h => by
    simp only [RepRows] at h
    simp only [fitsR]
    exact ⟨RepAt.fits hT h.2.1, RepRows.fits hT h.2.2⟩
end
end

theorem PCalls.fits {P : Program} {T : TT} (hT : T.Ok P) {f : FuncId} {args : List PV} {R : PV → Heap → Prop} (h : fitsL T args → PCalls P f args R) : PCalls P f args R :=
  PCalls.fact (fun _ _ hr => RepAll.fits hT hr) h

theorem fitsL_append {T : TT} : ∀ {a b : List PV}, fitsL T (a ++ b) ↔ fitsL T a ∧ fitsL T b
  | [], b => by simp [fitsL]
  | p :: a, b => by simp [fitsL, fitsL_append (a := a) (b := b), and_assoc]
theorem fitsR_map {T : TT} {α : Type} {f : α → List PV} : ∀ {xs : List α}, fitsR T (xs.map f) ↔ ∀ x ∈ xs, fitsL T (f x)
  | [] => by simp [fitsR]
  | x :: xs => by simp [fitsR, fitsR_map (xs := xs)]

def guardO {α : Type} (p : Prop) [Decidable p] (a : α) : Option α := if p then some a else none
theorem guardO_some {α : Type} {p : Prop} [Decidable p] {a b : α} (h : guardO p a = some b) : p ∧ a = b := by
  unfold guardO at h
  split at h
  · rename_i hp; exact ⟨hp, Option.some.inj h⟩
  · cases h
@[simp] theorem guardO_pos {α : Type} {p : Prop} [Decidable p] {a : α} (h : p) : guardO p a = some a := by unfold guardO; rw [if_pos h]

/-- Recursion: what is shown with the smaller ones given, holds. -/
theorem recCloseO {α β : Type} (m : α → Nat) (f : α → Option β) (Fit : α → Prop) (spec : α → β → Prop) (L : (α → Option β) → α → Option β) (hfit : ∀ e r, (Fit e → spec e r) → spec e r) (hW : ∀ rec : α → Option β, (∀ a r, rec a = some r → spec a r) → ∀ e r, L rec e = some r → spec e r)
    (hL : ∀ e r, Fit e → f e = some r → L (fun a => if m a < m e then f a else none) e = some r) : ∀ e r, f e = some r → spec e r := by
  intro e
  generalize hn : m e = k
  induction k using Nat.strongRecOn generalizing e with
  | _ k ih =>
    intro r hr
    refine hfit e r fun hF => hW (fun a => if m a < m e then f a else none) ?_ e r (hL e r hF hr)
    intro a q h
    split at h
    · rename_i h1
      exact ih (m a) (hn ▸ h1) a rfl q h
    · cases h

theorem recClose {α β : Type} (m : α → Nat) (f : α → β) (Fit : α → Prop) (spec : α → β → Prop) (L : (α → Option β) → α → Option β) (hfit : ∀ e r, (Fit e → spec e r) → spec e r) (hW : ∀ rec : α → Option β, (∀ a r, rec a = some r → spec a r) → ∀ e r, L rec e = some r → spec e r)
    (hL : ∀ e, Fit e → L (fun a => if m a < m e then some (f a) else none) e = some (f e)) : ∀ e, spec e (f e) := fun e =>
  recCloseO m (fun a => some (f a)) Fit spec L hfit hW (fun e r hF hr => by rw [← hr]; exact hL e hF) e (f e) rfl
end Go.Ab
