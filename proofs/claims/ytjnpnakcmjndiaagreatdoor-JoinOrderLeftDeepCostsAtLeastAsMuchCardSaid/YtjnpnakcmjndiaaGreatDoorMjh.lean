/- The abstract layer, part R: what loops come to; facts on sizes that come with the arguments. -/
import Derived.Test.YtjnpnakcmjndiaaGreatDoorMjg
import Derived.Test.YtjnpnakcmjndiaaGreatDoorMja
import Derived.Test.YtjnpnakcmjndiaaGreatDoorProg
import Derived.KernelRfl
import Derived.Test.YtjnpnakcmjndiaaGreatDoorMjd
namespace Go.Ab

@[simp] theorem bindP_some {α β : Type} (a : α) (k : α → Option β) : bindP (some a) k = k a := rfl
@[simp] theorem bindP_none {α β : Type} (k : α → Option β) : bindP none k = none := rfl
@[simp] theorem letP_eq {α β : Type} (a : α) (k : α → β) : letP a k = k a := rfl
@[simp] theorem thenP_nextS {σ β : Type} (s : σ) (k : σ → Option β) : Flow.thenP (.next s) k = k s := rfl
@[simp] theorem thenR_nextS {σ ρ : Type} (s : σ) (k : σ → Option ρ) : Flow.thenR (.next s) k = k s := rfl
@[simp] theorem thenR_retS {σ ρ : Type} (r : ρ) (k : σ → Option ρ) : Flow.thenR (.ret r) k = some r := rfl
@[simp] theorem thenF_nextS {σ τ ρ : Type} (s : σ) (k : σ → Option (Flow τ ρ)) : Flow.thenF (.next s) k = k s := rfl
@[simp] theorem thenF_retS {σ τ ρ : Type} (r : ρ) (k : σ → Option (Flow τ ρ)) : Flow.thenF (.ret r) k = some (.ret r) := rfl
theorem bindP_assoc {α β γ : Type} (o : Option α) (k : α → Option β) (l : β → Option γ) : bindP (bindP o k) l = bindP o fun a => bindP (k a) l := by cases o <;> rfl

theorem appI_ok {α : Type} {bytes : Nat} {xs ys : List α} (h1 : (xs.length + ys.length) * bytes ≤ 2 ^ 47) (h2 : xs.length + ys.length ≤ maxLen) : appI bytes xs ys = some (xs ++ ys) := by
  unfold appI; rw [if_pos ⟨h1, h2⟩]
theorem getI_ok {α : Type} {xs : List α} {i : Int} {x : α} (h0 : 0 ≤ i) (h : xs[i.toNat]? = some x) : getI xs i = some x := by unfold getI; rw [if_pos h0, h]
theorem getI_nat {α : Type} {xs : List α} {j : Nat} {x : α} (h : xs[j]? = some x) : getI xs (j : Int) = some x := getI_ok (by omega) (by simpa using h)
theorem getI_lt {α : Type} [Inhabited α] {xs : List α} {i : Int} (h0 : 0 ≤ i) (h : i < xs.length) : ∃ x, getI xs i = some x ∧ xs[i.toNat]? = some x := by
  have : i.toNat < xs.length := by omega
  exact ⟨xs[i.toNat], getI_ok h0 (List.getElem?_eq_getElem this), List.getElem?_eq_getElem this⟩
theorem subI_ok {α : Type} {xs : List α} {a b : Int} (h : 0 ≤ a ∧ a ≤ b ∧ b ≤ xs.length) : subI xs a b = some ((xs.take b.toNat).drop a.toNat) := by unfold subI; rw [if_pos h]
theorem catS_ok {a b : List UInt8} (h : a.length + b.length ≤ maxStr) : catS a b = some (a ++ b) := by unfold catS; rw [if_pos h]
theorem growI_ok {bytes : Nat} {n : Int} (h : 0 ≤ n ∧ n.toNat * bytes ≤ 2 ^ 47 ∧ n.toNat ≤ maxLen) : growI bytes n = some () := by unfold growI; rw [if_pos h]
theorem smallI_ok {n : Int} (h : n ≤ 2 ^ 62) : smallI n = some n.toNat := by unfold smallI; rw [if_pos h]

/-- A loop, by what holds at the head of its rounds: either all rounds are gone through, or one of them returns. -/
theorem rangeM_by {α σ ρ : Type} {step : Nat → α → σ → Option (Flow σ ρ)} (I : Nat → σ → Prop) (Q : ρ → Prop) :
    ∀ (xs : List α) (j : Nat) (s : σ), I j s → (∀ k x s, xs[k]? = some x → I (j + k) s → ∃ fl, step (j + k) x s = some fl ∧ (match fl with | .next s' => I (j + k + 1) s' | .brk _ => False | .ret r => Q r)) →
      ∃ fl, rangeM step j xs s = some fl ∧ (match fl with | .next s' => I (j + xs.length) s' | .brk _ => False | .ret r => Q r)
  | [], j, s, h, _ => ⟨.next s, rfl, by simpa using h⟩
  | x :: xs, j, s, h, hs => by
    obtain ⟨fl, h1, h2⟩ := hs 0 x s rfl (by simpa using h)
    rw [Nat.add_zero] at h1
    cases fl with
    | next s' =>
      obtain ⟨fl, h3, h4⟩ := rangeM_by I Q xs (j + 1) s' (by simpa using h2) (fun k y t hk hI => by
        obtain ⟨fl, h5, h6⟩ := hs (k + 1) y t (by simpa using hk) (by rw [show j + (k + 1) = j + 1 + k from by omega]; exact hI)
        rw [show j + (k + 1) = j + 1 + k from by omega] at h5 h6
        exact ⟨fl, h5, h6⟩)
      refine ⟨fl, by rw [rangeM, h1]; exact h3, ?_⟩
      rw [show j + (x :: xs).length = j + 1 + xs.length from by simp; omega]
      exact h4
    | brk s' => exact absurd h2 (by simp)
    | ret r => exact ⟨.ret r, by rw [rangeM, h1], h2⟩

/-- A loop that goes through all its rounds. -/
theorem rangeM_all {α σ ρ : Type} {step : Nat → α → σ → Option (Flow σ ρ)} {xs : List α} {s : σ} (S : Nat → σ) (h0 : S 0 = s) (hs : ∀ k x, xs[k]? = some x → step k x (S k) = some (.next (S (k + 1)))) : rangeM step 0 xs s = some (.next (S xs.length)) := by
  subst h0
  obtain ⟨fl, h1, h2⟩ := rangeM_by (step := step) (fun j s => s = S j) (fun _ => False) xs 0 (S 0) rfl (fun k x s hk hI => by
    simp only [Nat.zero_add] at hI
    subst hI
    exact ⟨_, by rw [Nat.zero_add]; exact hs k x hk, by simp⟩)
  cases fl with
  | next s' => simp only [Nat.zero_add] at h2; rw [h1, h2]
  | brk s' => exact absurd h2 (by simp)
  | ret r => exact absurd h2 (by simp)

/-- A loop that collects one element each round. -/
theorem rangeM_map {α β ρ : Type} {step : Nat → α → List β → Option (Flow (List β) ρ)} {xs : List α} (f : α → β) (hs : ∀ k x, xs[k]? = some x → step k x ((xs.take k).map f) = some (.next ((xs.take k).map f ++ [f x]))) :
    rangeM step 0 xs [] = some (.next (xs.map f)) := by
  have := rangeM_all (step := step) (xs := xs) (fun k => (xs.take k).map f) rfl (fun k x hk => by
    rw [hs k x hk, List.take_add_one, hk]
    simp)
  simpa using this

/-- A loop that folds. -/
theorem rangeM_fold {α σ ρ : Type} {step : Nat → α → σ → Option (Flow σ ρ)} {xs : List α} {s : σ} (g : σ → α → σ) (hs : ∀ k x, xs[k]? = some x → step k x ((xs.take k).foldl g s) = some (.next (g ((xs.take k).foldl g s) x))) :
    rangeM step 0 xs s = some (.next (xs.foldl g s)) := by
  have := rangeM_all (step := step) (xs := xs) (fun k => (xs.take k).foldl g s) rfl (fun k x hk => by
    rw [hs k x hk, List.take_add_one, hk, List.foldl_append]
    rfl)
  simpa using this

/-- A loop that looks for the first element of a kind. -/
theorem rangeM_find {α ρ : Type} {step : Nat → α → Unit → Option (Flow Unit ρ)} (p : α → Bool) (out : Nat → α → ρ) : ∀ (xs : List α) (j : Nat), (∀ k x, xs[k]? = some x → step (j + k) x () = some (if p x then .ret (out (j + k) x) else .next ())) →
    rangeM step j xs () = some (match xs.findIdx? p with | some i => (match xs[i]? with | some x => .ret (out (j + i) x) | none => .next ()) | none => .next ())
  | [], j, _ => rfl
  | x :: xs, j, hs => by
    have h0 := hs 0 x rfl
    rw [Nat.add_zero] at h0
    rw [rangeM, h0, List.findIdx?_cons]
    cases hp : p x with
    | true => simp
    | false =>
      simp only [Bool.false_eq_true, if_false]
      rw [rangeM_find p out xs (j + 1) (fun k y hk => by
        have := hs (k + 1) y (by simpa using hk)
        rw [show j + (k + 1) = j + 1 + k from by omega] at this
        exact this)]
      cases xs.findIdx? p with
      | none => simp
      | some i =>
        simp only [Option.map_some, List.getElem?_cons_succ]
        rw [show j + 1 + i = j + (i + 1) from by omega]

/-! Sizes. -/
mutual
def PV.fits (T : TT) : PV → Prop
  | .str l => l.length ≤ maxStr
  | .list e rows => rows.length ≤ maxLen ∧ (∀ ti, T.get e = some ti → rows.length * ti.bytes ≤ 2 ^ 47) ∧ fitsR T rows
  | .agg cs => fitsL T cs
  | .tup cs => fitsL T cs
  | .ptr cs => fitsL T cs
  | .fn _ cs => fitsL T cs
  | _ => True
def fitsL (T : TT) : List PV → Prop
  | [] => True
  | p :: ps => p.fits T ∧ fitsL T ps
def fitsR (T : TT) : List (List PV) → Prop
  | [] => True
  | r :: rs => fitsL T r ∧ fitsR T rs
end

section
variable {P : Program} {T : TT} {M : Mem}
mutual
theorem Rep.fits (hT : T.Ok P) : ∀ {p : PV} {s : Bool} {x : Value}, Rep P M s p x → p.fits T
  | .str l, _, _, h => by simp only [Rep] at h; simpa only [PV.fits] using h.2
  | .list e rows, _, x, h => by
    have h' := h
    simp only [Rep] at h
    obtain ⟨a, c, i, _, h1, h2, h3, h4, h5⟩ := h
    simp only [PV.fits]
    refine ⟨by omega, fun ti hti => ?_, ?_⟩
    · obtain ⟨i', h6, _, h7, _⟩ := (hT.get hti).info
      rw [h3] at h6
      cases h6
      rw [← h7]
      exact h4
    · by_cases hr : rows = []
      · subst hr; simp [fitsR]
      · obtain ⟨b, o, _, h6⟩ := h5 hr
        exact RepRows.fits hT h6
  | .agg cs, _, _, h => by simp only [Rep] at h; obtain ⟨_, _, h⟩ := h; simpa only [PV.fits] using RepAll.fits hT h
  | .tup cs, _, _, h => by simp only [Rep] at h; obtain ⟨_, _, h⟩ := h; simpa only [PV.fits] using RepAll.fits hT h
  | .ptr cs, _, _, h => by simp only [Rep] at h; obtain ⟨_, _, _, h⟩ := h; simpa only [PV.fits] using RepAt.fits hT h
  | .fn _ cs, _, _, h => by simp only [Rep] at h; obtain ⟨_, _, h⟩ := h; simpa only [PV.fits] using RepAll.fits hT h
  | .any, _, _, _ => by simp only [PV.fits]
  | .val _, _, _, _ => by simp only [PV.fits]
  | .box .., _, _, _ => by simp only [PV.fits]
  | .own .., _, _, _ => by simp only [PV.fits]
  | .optr .., _, _, _ => by simp only [PV.fits]
  | .err _, _, _, _ => by simp only [PV.fits]
theorem RepAll.fits (hT : T.Ok P) : ∀ {ps : List PV} {s : Bool} {xs : List Value}, RepAll P M s ps xs → fitsL T ps
  | [], _, _, _ => by simp only [fitsL]
  | p :: ps, _, _, h => by
    simp only [RepAll] at h
    obtain ⟨x, xs, _, h1, h2⟩ := h
    simp only [fitsL]
    exact ⟨Rep.fits hT h1, RepAll.fits hT h2⟩
theorem RepAt.fits (hT : T.Ok P) : ∀ {ps : List PV} {b o : Nat}, RepAt P M b o ps → fitsL T ps
  | [], _, _, _ => by simp only [fitsL]
  | p :: ps, _, _, h => by
    simp only [RepAt] at h
    obtain ⟨⟨x, _, _, h1⟩, h2⟩ := h
    simp only [fitsL]
    exact ⟨Rep.fits hT h1, RepAt.fits hT h2⟩
theorem RepRows.fits (hT : T.Ok P) : ∀ {rs : List (List PV)} {k b o : Nat}, RepRows P M k b o rs → fitsR T rs
  | [], _, _, _, _ => by simp only [fitsR]
  | r :: rs, _, _, _, h => by
    simp only [RepRows] at h
    simp only [fitsR]
    exact ⟨RepAt.fits hT h.2.1, RepRows.fits hT h.2.2⟩
end
end

theorem PCalls.fits {P : Program} {T : TT} (hT : T.Ok P) {f : FuncId} {args : List PV} {R : PV → Heap → Prop} (h : fitsL T args → PCalls P f args R) : PCalls P f args R :=
  PCalls.fact (fun _ _ hr => RepAll.fits hT hr) h

theorem fitsL_append {T : TT} : ∀ {a b : List PV}, fitsL T (a ++ b) ↔ fitsL T a ∧ fitsL T b
  | [], b => by simp [fitsL]
  | p :: a, b => by simp [fitsL, fitsL_append (a := a) (b := b), and_assoc]
theorem fitsR_map {T : TT} {α : Type} {f : α → List PV} : ∀ {xs : List α}, fitsR T (xs.map f) ↔ ∀ x ∈ xs, fitsL T (f x)
  | [] => by simp [fitsR]
  | x :: xs => by simp [fitsR, fitsR_map (xs := xs)]

def guardO {α : Type} (p : Prop) [Decidable p] (a : α) : Option α := if p then some a else none
theorem guardO_some {α : Type} {p : Prop} [Decidable p] {a b : α} (h : guardO p a = some b) : p ∧ a = b := by
  unfold guardO at h
  split at h
  · rename_i hp; exact ⟨hp, Option.some.inj h⟩
  · cases h
@[simp] theorem guardO_pos {α : Type} {p : Prop} [Decidable p] {a : α} (h : p) : guardO p a = some a := by unfold guardO; rw [if_pos h]

/-- Recursion: what is shown with the smaller ones given, holds. -/
theorem recCloseO {α β : Type} (m : α → Nat) (f : α → Option β) (Fit : α → Prop) (spec : α → β → Prop) (L : (α → Option β) → α → Option β) (hfit : ∀ e r, (Fit e → spec e r) → spec e r) (hW : ∀ rec : α → Option β, (∀ a r, rec a = some r → spec a r) → ∀ e r, L rec e = some r → spec e r)
    (hL : ∀ e r, Fit e → f e = some r → L (fun a => if m a < m e then f a else none) e = some r) : ∀ e r, f e = some r → spec e r := by
  intro e
  generalize hn : m e = k
  induction k using Nat.strongRecOn generalizing e with
  | _ k ih =>
    intro r hr
    refine hfit e r fun hF => hW (fun a => if m a < m e then f a else none) ?_ e r (hL e r hF hr)
    intro a q h
    split at h
    · rename_i h1
      exact ih (m a) (hn ▸ h1) a rfl q h
    · cases h

theorem recClose {α β : Type} (m : α → Nat) (f : α → β) (Fit : α → Prop) (spec : α → β → Prop) (L : (α → Option β) → α → Option β) (hfit : ∀ e r, (Fit e → spec e r) → spec e r) (hW : ∀ rec : α → Option β, (∀ a r, rec a = some r → spec a r) → ∀ e r, L rec e = some r → spec e r)
    (hL : ∀ e, Fit e → L (fun a => if m a < m e then some (f a) else none) e = some (f e)) : ∀ e, spec e (f e) := fun e =>
  recCloseO m (fun a => some (f a)) Fit spec L hfit hW (fun e r hF hr => by rw [← hr]; exact hL e hF) e (f e) rfl
end Go.Ab
/- The types of the seat, and that this table fits the program. Made by wip/gen_tab.py. -/
namespace Go.Ab
open Go.Proofs
def tS (d : TypeDesc) : TInfo := ⟨d, 1, 24, .slice none 0 0, []⟩
def tP (d : TypeDesc) : TInfo := ⟨d, 1, 8, .pointer none, []⟩
def tF (d : TypeDesc) : TInfo := ⟨d, 1, 8, .nilFunc, []⟩
theorem tO {P : Program} {k : Nat} {v : TInfo} (i : TypeInfo) (h : P.info? k = some i) (e : (i.size, i.bytes, i.zero, v.eqf) = (v.size, v.bytes, some v.zero, [])) (u : P.underlying k = some v.desc) : v.Ok P k := by
  simp only [Prod.mk.injEq] at e
  exact ⟨⟨i, h, e.1, e.2.1, e.2.2.1⟩, u, fun hn => absurd e.2.2.2 hn⟩
noncomputable def ti46 : TInfo := ⟨Tryz.t46.desc, 3, 32, .agg #[.int .i64 0, .int .i64 0, .string ⟨#[]⟩], [(3, 0), (3, 1), (9, 2)]⟩
noncomputable def ti47 : TInfo := ⟨Tryz.t46.desc, 3, 32, .agg #[.int .i64 0, .int .i64 0, .string ⟨#[]⟩], [(3, 0), (3, 1), (9, 2)]⟩
noncomputable def ti62 : TInfo := ⟨Tryz.t62.desc, 3, 24, .agg #[.int .i64 0, .int .i64 0, .int .i64 0], [(3, 0), (3, 1), (3, 2)]⟩
noncomputable def ti63 : TInfo := ⟨Tryz.t62.desc, 3, 24, .agg #[.int .i64 0, .int .i64 0, .int .i64 0], [(3, 0), (3, 1), (3, 2)]⟩
noncomputable def ti90 : TInfo := ⟨Tryz.t90.desc, 3, 32, .agg #[.string ⟨#[]⟩, .int .i64 0, .bool false], [(9, 0), (3, 1), (4, 2)]⟩
noncomputable def ti91 : TInfo := ⟨Tryz.t90.desc, 3, 32, .agg #[.string ⟨#[]⟩, .int .i64 0, .bool false], [(9, 0), (3, 1), (4, 2)]⟩
noncomputable def ti107 : TInfo := ⟨Tryz.t107.desc, 4, 40, .agg #[.int .i64 0, .string ⟨#[]⟩, .int .i64 0, .int .i64 0], [(3, 0), (9, 1), (3, 2), (3, 3)]⟩
noncomputable def ti108 : TInfo := ⟨Tryz.t107.desc, 4, 40, .agg #[.int .i64 0, .string ⟨#[]⟩, .int .i64 0, .int .i64 0], [(3, 0), (9, 1), (3, 2), (3, 3)]⟩
noncomputable def ti171 : TInfo := ⟨Tryz.t171.desc, 1, 8, .agg #[.int .i64 0], [(3, 0)]⟩
noncomputable def ti172 : TInfo := ⟨Tryz.t171.desc, 1, 8, .agg #[.int .i64 0], [(3, 0)]⟩
noncomputable def ti372 : TInfo := ⟨Tryz.t372.desc, 1, 16, .agg #[.string ⟨#[]⟩], [(9, 0)]⟩
noncomputable def ti373 : TInfo := ⟨Tryz.t372.desc, 1, 16, .agg #[.string ⟨#[]⟩], [(9, 0)]⟩
noncomputable def ti378 : TInfo := ⟨Tryz.t378.desc, 2, 2, .agg #[.int .u8 0, .int .u8 0], [(5, 0), (5, 1)]⟩
noncomputable def ti379 : TInfo := ⟨Tryz.t378.desc, 2, 2, .agg #[.int .u8 0, .int .u8 0], [(5, 0), (5, 1)]⟩
theorem ti46_ok : ti46.Ok Tryz.prog 46 := ⟨⟨Tryz.t46, by kernel_rfl, rfl, rfl, rfl⟩, Tryz.underlying46, fun _ => ⟨Tryz.stoodInHeld46, Tryz.eqGuardType46, by simp [fieldsMeet, Program.fieldsOf, Tryz.underlying46, ti46], by kernel_rfl⟩⟩
theorem ti47_ok : ti47.Ok Tryz.prog 47 := ⟨⟨Tryz.t47, by kernel_rfl, rfl, rfl, rfl⟩, Tryz.underlying47, fun _ => ⟨Tryz.stoodInHeld47, Tryz.eqGuardType47, by simp [fieldsMeet, Program.fieldsOf, Tryz.underlying47, ti47], by kernel_rfl⟩⟩
theorem ti62_ok : ti62.Ok Tryz.prog 62 := ⟨⟨Tryz.t62, by kernel_rfl, rfl, rfl, rfl⟩, Tryz.underlying62, fun _ => ⟨Tryz.stoodInHeld62, Tryz.eqGuardType62, by simp [fieldsMeet, Program.fieldsOf, Tryz.underlying62, ti62], by kernel_rfl⟩⟩
theorem ti63_ok : ti63.Ok Tryz.prog 63 := ⟨⟨Tryz.t63, by kernel_rfl, rfl, rfl, rfl⟩, Tryz.underlying63, fun _ => ⟨Tryz.stoodInHeld63, Tryz.eqGuardType63, by simp [fieldsMeet, Program.fieldsOf, Tryz.underlying63, ti63], by kernel_rfl⟩⟩
theorem ti90_ok : ti90.Ok Tryz.prog 90 := ⟨⟨Tryz.t90, by kernel_rfl, rfl, rfl, rfl⟩, Tryz.underlying90, fun _ => ⟨Tryz.stoodInHeld90, Tryz.eqGuardType90, by simp [fieldsMeet, Program.fieldsOf, Tryz.underlying90, ti90], by kernel_rfl⟩⟩
theorem ti91_ok : ti91.Ok Tryz.prog 91 := ⟨⟨Tryz.t91, by kernel_rfl, rfl, rfl, rfl⟩, Tryz.underlying91, fun _ => ⟨Tryz.stoodInHeld91, Tryz.eqGuardType91, by simp [fieldsMeet, Program.fieldsOf, Tryz.underlying91, ti91], by kernel_rfl⟩⟩
theorem ti107_ok : ti107.Ok Tryz.prog 107 := ⟨⟨Tryz.t107, by kernel_rfl, rfl, rfl, rfl⟩, Tryz.underlying107, fun _ => ⟨Tryz.stoodInHeld107, Tryz.eqGuardType107, by simp [fieldsMeet, Program.fieldsOf, Tryz.underlying107, ti107], by kernel_rfl⟩⟩
theorem ti108_ok : ti108.Ok Tryz.prog 108 := ⟨⟨Tryz.t108, by kernel_rfl, rfl, rfl, rfl⟩, Tryz.underlying108, fun _ => ⟨Tryz.stoodInHeld108, Tryz.eqGuardType108, by simp [fieldsMeet, Program.fieldsOf, Tryz.underlying108, ti108], by kernel_rfl⟩⟩
theorem ti171_ok : ti171.Ok Tryz.prog 171 := ⟨⟨Tryz.t171, by kernel_rfl, rfl, rfl, rfl⟩, Tryz.underlying171, fun _ => ⟨Tryz.stoodInHeld171, Tryz.eqGuardType171, by simp [fieldsMeet, Program.fieldsOf, Tryz.underlying171, ti171], by kernel_rfl⟩⟩
theorem ti172_ok : ti172.Ok Tryz.prog 172 := ⟨⟨Tryz.t172, by kernel_rfl, rfl, rfl, rfl⟩, Tryz.underlying172, fun _ => ⟨Tryz.stoodInHeld172, Tryz.eqGuardType172, by simp [fieldsMeet, Program.fieldsOf, Tryz.underlying172, ti172], by kernel_rfl⟩⟩
theorem ti372_ok : ti372.Ok Tryz.prog 372 := ⟨⟨Tryz.t372, by kernel_rfl, rfl, rfl, rfl⟩, Tryz.underlying372, fun _ => ⟨Tryz.stoodInHeld372, Tryz.eqGuardType372, by simp [fieldsMeet, Program.fieldsOf, Tryz.underlying372, ti372], by kernel_rfl⟩⟩
theorem ti373_ok : ti373.Ok Tryz.prog 373 := ⟨⟨Tryz.t373, by kernel_rfl, rfl, rfl, rfl⟩, Tryz.underlying373, fun _ => ⟨Tryz.stoodInHeld373, Tryz.eqGuardType373, by simp [fieldsMeet, Program.fieldsOf, Tryz.underlying373, ti373], by kernel_rfl⟩⟩
theorem ti378_ok : ti378.Ok Tryz.prog 378 := ⟨⟨Tryz.t378, by kernel_rfl, rfl, rfl, rfl⟩, Tryz.underlying378, fun _ => ⟨Tryz.stoodInHeld378, Tryz.eqGuardType378, by simp [fieldsMeet, Program.fieldsOf, Tryz.underlying378, ti378], by kernel_rfl⟩⟩
theorem ti379_ok : ti379.Ok Tryz.prog 379 := ⟨⟨Tryz.t379, by kernel_rfl, rfl, rfl, rfl⟩, Tryz.underlying379, fun _ => ⟨Tryz.stoodInHeld379, Tryz.eqGuardType379, by simp [fieldsMeet, Program.fieldsOf, Tryz.underlying379, ti379], by kernel_rfl⟩⟩
noncomputable def tt : TT := (.node 196 ⟨Tryz.t195.desc, 3, 56, .agg #[.slice none 0 0, .int .i64 0, .slice none 0 0], []⟩ (.node 108 ti108 (.node 61 (tF Tryz.t61.desc) (.node 37 (tS Tryz.t37.desc) (.node 24 (tS Tryz.t24.desc) (.node 9 ⟨Tryz.t9.desc, 1, 16, .string ⟨#[]⟩, []⟩ (.node 3 ⟨Tryz.t3.desc, 1, 8, .int .i64 0, []⟩ (.node 2 ⟨Tryz.t2.desc, 1, 8, .int .i64 0, []⟩ (.node 1 (tF Tryz.t1.desc) .leaf .leaf) .leaf) (.node 5 ⟨Tryz.t5.desc, 1, 1, .int .u8 0, []⟩ (.node 4 ⟨Tryz.t4.desc, 1, 1, .bool false, []⟩ .leaf .leaf) .leaf)) (.node 22 (tF Tryz.t22.desc) (.node 21 ⟨Tryz.t21.desc, 1, 4, .int .i32 0, []⟩ (.node 20 ⟨Tryz.t20.desc, 1, 16, .nilIface, []⟩ .leaf .leaf) .leaf) (.node 23 (tS Tryz.t23.desc) .leaf .leaf))) (.node 30 ⟨Tryz.t3.desc, 1, 8, .int .i64 0, []⟩ (.node 27 (tS Tryz.t27.desc) (.node 26 (tS Tryz.t26.desc) (.node 25 (tS Tryz.t25.desc) .leaf .leaf) .leaf) (.node 29 ⟨Tryz.t28.desc, 9, 160, .agg #[.int .i64 0, .string ⟨#[]⟩, .slice none 0 0, .slice none 0 0, .slice none 0 0, .slice none 0 0, .int .i64 0, .int .i64 0, .slice none 0 0], []⟩ (.node 28 ⟨Tryz.t28.desc, 9, 160, .agg #[.int .i64 0, .string ⟨#[]⟩, .slice none 0 0, .slice none 0 0, .slice none 0 0, .slice none 0 0, .int .i64 0, .int .i64 0, .slice none 0 0], []⟩ .leaf .leaf) .leaf)) (.node 35 (tF Tryz.t35.desc) (.node 33 (tS Tryz.t33.desc) (.node 32 (tF Tryz.t32.desc) .leaf .leaf) .leaf) (.node 36 (tF Tryz.t36.desc) .leaf .leaf)))) (.node 49 (tF Tryz.t49.desc) (.node 44 (tS Tryz.t43.desc) (.node 40 ⟨Tryz.t39.desc, 4, 64, .agg #[.slice none 0 0, .slice none 0 0, .bool false, .int .i64 0], []⟩ (.node 39 ⟨Tryz.t39.desc, 4, 64, .agg #[.slice none 0 0, .slice none 0 0, .bool false, .int .i64 0], []⟩ (.node 38 (tS Tryz.t38.desc) .leaf .leaf) .leaf) (.node 43 (tS Tryz.t43.desc) (.node 42 (tF Tryz.t42.desc) .leaf .leaf) .leaf)) (.node 47 ti47 (.node 46 ti46 (.node 45 (tF Tryz.t45.desc) .leaf .leaf) .leaf) (.node 48 (tF Tryz.t48.desc) .leaf .leaf))) (.node 55 ⟨Tryz.t54.desc, 2, 48, .agg #[.slice none 0 0, .slice none 0 0], []⟩ (.node 53 (tS Tryz.t53.desc) (.node 52 (tF Tryz.t52.desc) (.node 50 (tF Tryz.t50.desc) .leaf .leaf) .leaf) (.node 54 ⟨Tryz.t54.desc, 2, 48, .agg #[.slice none 0 0, .slice none 0 0], []⟩ .leaf .leaf)) (.node 58 ⟨Tryz.t57.desc, 2, 32, .agg #[.int .i64 0, .slice none 0 0], []⟩ (.node 57 ⟨Tryz.t57.desc, 2, 32, .agg #[.int .i64 0, .slice none 0 0], []⟩ (.node 56 (tS Tryz.t56.desc) .leaf .leaf) .leaf) (.node 60 (tF Tryz.t60.desc) .leaf .leaf))))) (.node 84 ⟨Tryz.t84.desc, 3, 72, .agg #[.slice none 0 0, .slice none 0 0, .slice none 0 0], []⟩ (.node 74 (tF Tryz.t74.desc) (.node 68 (tF Tryz.t68.desc) (.node 64 (tF Tryz.t64.desc) (.node 63 ti63 (.node 62 ti62 .leaf .leaf) .leaf) (.node 66 ⟨Tryz.t65.desc, 2, 48, .agg #[.slice none 0 0, .slice none 0 0], []⟩ (.node 65 ⟨Tryz.t65.desc, 2, 48, .agg #[.slice none 0 0, .slice none 0 0], []⟩ .leaf .leaf) .leaf)) (.node 71 (tS Tryz.t71.desc) (.node 70 (tF Tryz.t70.desc) (.node 69 (tF Tryz.t69.desc) .leaf .leaf) .leaf) (.node 73 (tF Tryz.t73.desc) .leaf .leaf))) (.node 79 ⟨Tryz.t79.desc, 2, 48, .agg #[.slice none 0 0, .slice none 0 0], []⟩ (.node 77 (tF Tryz.t77.desc) (.node 76 (tF Tryz.t76.desc) (.node 75 (tF Tryz.t75.desc) .leaf .leaf) .leaf) (.node 78 (tS Tryz.t78.desc) .leaf .leaf)) (.node 82 (tS Tryz.t82.desc) (.node 81 (tS Tryz.t81.desc) (.node 80 ⟨Tryz.t79.desc, 2, 48, .agg #[.slice none 0 0, .slice none 0 0], []⟩ .leaf .leaf) .leaf) (.node 83 (tS Tryz.t83.desc) .leaf .leaf)))) (.node 95 ⟨Tryz.t95.desc, 2, 40, .agg #[.string ⟨#[]⟩, .slice none 0 0], []⟩ (.node 90 ti90 (.node 87 (tF Tryz.t87.desc) (.node 86 (tF Tryz.t86.desc) (.node 85 ⟨Tryz.t84.desc, 3, 72, .agg #[.slice none 0 0, .slice none 0 0, .slice none 0 0], []⟩ .leaf .leaf) .leaf) (.node 89 (tF Tryz.t89.desc) (.node 88 (tF Tryz.t88.desc) .leaf .leaf) .leaf)) (.node 93 ⟨Tryz.t92.desc, 3, 64, .agg #[.string ⟨#[]⟩, .slice none 0 0, .slice none 0 0], []⟩ (.node 92 ⟨Tryz.t92.desc, 3, 64, .agg #[.string ⟨#[]⟩, .slice none 0 0, .slice none 0 0], []⟩ (.node 91 ti91 .leaf .leaf) .leaf) (.node 94 (tF Tryz.t94.desc) .leaf .leaf))) (.node 101 (tP Tryz.t101.desc) (.node 98 (tS Tryz.t97.desc) (.node 97 (tS Tryz.t97.desc) (.node 96 ⟨Tryz.t95.desc, 2, 40, .agg #[.string ⟨#[]⟩, .slice none 0 0], []⟩ .leaf .leaf) .leaf) (.node 100 (tF Tryz.t100.desc) .leaf .leaf)) (.node 106 (tF Tryz.t106.desc) (.node 105 (tF Tryz.t105.desc) (.node 103 (tF Tryz.t103.desc) .leaf .leaf) .leaf) (.node 107 ti107 .leaf .leaf)))))) (.node 152 ⟨Tryz.t151.desc, 3, 56, .agg #[.string ⟨#[]⟩, .string ⟨#[]⟩, .slice none 0 0], []⟩ (.node 131 (tF Tryz.t130.desc) (.node 120 (tF Tryz.t120.desc) (.node 115 (tF Tryz.t115.desc) (.node 112 ⟨Tryz.t112.desc, 1, 8, .map none, []⟩ (.node 111 (tF Tryz.t111.desc) (.node 110 (tF Tryz.t110.desc) .leaf .leaf) .leaf) (.node 114 (tF Tryz.t114.desc) (.node 113 (tF Tryz.t113.desc) .leaf .leaf) .leaf)) (.node 118 ⟨Tryz.t118.desc, 3, 56, .agg #[.slice none 0 0, .slice none 0 0, .bool false], []⟩ (.node 117 (tF Tryz.t117.desc) (.node 116 (tS Tryz.t116.desc) .leaf .leaf) .leaf) (.node 119 ⟨Tryz.t118.desc, 3, 56, .agg #[.slice none 0 0, .slice none 0 0, .bool false], []⟩ .leaf .leaf))) (.node 126 ⟨Tryz.t126.desc, 4, 48, .agg #[.int .i64 0, .slice none 0 0, .int .i64 0, .bool false], []⟩ (.node 123 (tS Tryz.t123.desc) (.node 122 (tF Tryz.t122.desc) (.node 121 (tF Tryz.t121.desc) .leaf .leaf) .leaf) (.node 125 ⟨Tryz.t125.desc, 1, 8, .int .u64 0, []⟩ (.node 124 (tF Tryz.t124.desc) .leaf .leaf) .leaf)) (.node 129 (tF Tryz.t129.desc) (.node 128 (tF Tryz.t128.desc) (.node 127 ⟨Tryz.t126.desc, 4, 48, .agg #[.int .i64 0, .slice none 0 0, .int .i64 0, .bool false], []⟩ .leaf .leaf) .leaf) (.node 130 (tF Tryz.t130.desc) .leaf .leaf)))) (.node 142 (tF Tryz.t142.desc) (.node 137 (tF Tryz.t137.desc) (.node 134 (tF Tryz.t134.desc) (.node 133 (tF Tryz.t133.desc) (.node 132 (tF Tryz.t132.desc) .leaf .leaf) .leaf) (.node 136 (tF Tryz.t136.desc) (.node 135 (tF Tryz.t135.desc) .leaf .leaf) .leaf)) (.node 140 (tF Tryz.t139.desc) (.node 139 (tF Tryz.t139.desc) (.node 138 (tF Tryz.t138.desc) .leaf .leaf) .leaf) (.node 141 (tF Tryz.t141.desc) .leaf .leaf))) (.node 147 (tF Tryz.t147.desc) (.node 145 (tF Tryz.t145.desc) (.node 144 (tF Tryz.t144.desc) (.node 143 (tF Tryz.t143.desc) .leaf .leaf) .leaf) (.node 146 (tF Tryz.t146.desc) .leaf .leaf)) (.node 150 (tF Tryz.t150.desc) (.node 149 ⟨Tryz.t148.desc, 7, 88, .agg #[.int .i64 0, .string ⟨#[]⟩, .int .i64 0, .int .i64 0, .int .i64 0, .string ⟨#[]⟩, .slice none 0 0], []⟩ (.node 148 ⟨Tryz.t148.desc, 7, 88, .agg #[.int .i64 0, .string ⟨#[]⟩, .int .i64 0, .int .i64 0, .int .i64 0, .string ⟨#[]⟩, .slice none 0 0], []⟩ .leaf .leaf) .leaf) (.node 151 ⟨Tryz.t151.desc, 3, 56, .agg #[.string ⟨#[]⟩, .string ⟨#[]⟩, .slice none 0 0], []⟩ .leaf .leaf))))) (.node 175 (tF Tryz.t175.desc) (.node 164 (tF Tryz.t164.desc) (.node 158 (tF Tryz.t158.desc) (.node 155 (tF Tryz.t155.desc) (.node 154 (tF Tryz.t154.desc) (.node 153 (tF Tryz.t153.desc) .leaf .leaf) .leaf) (.node 157 (tF Tryz.t157.desc) (.node 156 (tF Tryz.t156.desc) .leaf .leaf) .leaf)) (.node 161 (tF Tryz.t161.desc) (.node 160 ⟨Tryz.t160.desc, 1, 8, .map none, []⟩ (.node 159 (tF Tryz.t159.desc) .leaf .leaf) .leaf) (.node 162 (tF Tryz.t162.desc) .leaf .leaf))) (.node 169 ⟨Tryz.t169.desc, 3, 40, .agg #[.slice none 0 0, .int .i64 0, .int .i64 0], []⟩ (.node 167 (tF Tryz.t167.desc) (.node 166 (tF Tryz.t166.desc) (.node 165 (tF Tryz.t165.desc) .leaf .leaf) .leaf) (.node 168 (tF Tryz.t168.desc) .leaf .leaf)) (.node 172 ti172 (.node 171 ti171 (.node 170 ⟨Tryz.t169.desc, 3, 40, .agg #[.slice none 0 0, .int .i64 0, .int .i64 0], []⟩ .leaf .leaf) .leaf) (.node 174 (tF Tryz.t174.desc) .leaf .leaf)))) (.node 186 (tF Tryz.t186.desc) (.node 181 ⟨Tryz.t181.desc, 2, 48, .agg #[.slice none 0 0, .slice none 0 0], []⟩ (.node 178 (tF Tryz.t178.desc) (.node 177 (tF Tryz.t177.desc) (.node 176 (tF Tryz.t176.desc) .leaf .leaf) .leaf) (.node 180 (tF Tryz.t180.desc) (.node 179 (tF Tryz.t179.desc) .leaf .leaf) .leaf)) (.node 184 (tF Tryz.t184.desc) (.node 183 (tF Tryz.t183.desc) (.node 182 (tS Tryz.t182.desc) .leaf .leaf) .leaf) (.node 185 (tF Tryz.t185.desc) .leaf .leaf))) (.node 191 (tP Tryz.t191.desc) (.node 189 ⟨Tryz.t189.desc, 1, 8, .int .u64 0, []⟩ (.node 188 (tF Tryz.t188.desc) (.node 187 ⟨Tryz.t187.desc, 1, 4, .int .u32 0, []⟩ .leaf .leaf) .leaf) (.node 190 (tF Tryz.t190.desc) .leaf .leaf)) (.node 194 ⟨Tryz.t193.desc, 3, 72, .agg #[.slice none 0 0, .slice none 0 0, .slice none 0 0], []⟩ (.node 193 ⟨Tryz.t193.desc, 3, 72, .agg #[.slice none 0 0, .slice none 0 0, .slice none 0 0], []⟩ (.node 192 (tS Tryz.t192.desc) .leaf .leaf) .leaf) (.node 195 ⟨Tryz.t195.desc, 3, 56, .agg #[.slice none 0 0, .int .i64 0, .slice none 0 0], []⟩ .leaf .leaf))))))) (.node 286 ⟨Tryz.t286.desc, 5, 120, .agg #[.slice none 0 0, .slice none 0 0, .slice none 0 0, .slice none 0 0, .slice none 0 0], []⟩ (.node 240 (tF Tryz.t240.desc) (.node 218 ⟨Tryz.t217.desc, 7, 80, .agg #[.string ⟨#[]⟩, .int .i64 0, .string ⟨#[]⟩, .int .i64 0, .int .i64 0, .int .i64 0, .string ⟨#[]⟩], []⟩ (.node 207 (tF Tryz.t207.desc) (.node 202 (tF Tryz.t202.desc) (.node 199 (tF Tryz.t199.desc) (.node 198 (tF Tryz.t198.desc) (.node 197 (tF Tryz.t197.desc) .leaf .leaf) .leaf) (.node 201 (tF Tryz.t201.desc) (.node 200 (tF Tryz.t200.desc) .leaf .leaf) .leaf)) (.node 205 (tF Tryz.t205.desc) (.node 204 (tF Tryz.t204.desc) (.node 203 (tF Tryz.t203.desc) .leaf .leaf) .leaf) (.node 206 (tF Tryz.t206.desc) .leaf .leaf))) (.node 213 (tF Tryz.t213.desc) (.node 210 (tF Tryz.t210.desc) (.node 209 (tF Tryz.t209.desc) (.node 208 (tF Tryz.t208.desc) .leaf .leaf) .leaf) (.node 212 ⟨Tryz.t211.desc, 3, 56, .agg #[.string ⟨#[]⟩, .slice none 0 0, .string ⟨#[]⟩], []⟩ (.node 211 ⟨Tryz.t211.desc, 3, 56, .agg #[.string ⟨#[]⟩, .slice none 0 0, .string ⟨#[]⟩], []⟩ .leaf .leaf) .leaf)) (.node 216 (tF Tryz.t216.desc) (.node 215 (tF Tryz.t215.desc) (.node 214 (tF Tryz.t214.desc) .leaf .leaf) .leaf) (.node 217 ⟨Tryz.t217.desc, 7, 80, .agg #[.string ⟨#[]⟩, .int .i64 0, .string ⟨#[]⟩, .int .i64 0, .int .i64 0, .int .i64 0, .string ⟨#[]⟩], []⟩ .leaf .leaf)))) (.node 229 (tF Tryz.t229.desc) (.node 224 (tF Tryz.t224.desc) (.node 221 (tF Tryz.t221.desc) (.node 220 (tF Tryz.t220.desc) (.node 219 (tF Tryz.t219.desc) .leaf .leaf) .leaf) (.node 223 (tF Tryz.t223.desc) (.node 222 (tF Tryz.t222.desc) .leaf .leaf) .leaf)) (.node 227 (tF Tryz.t227.desc) (.node 226 ⟨Tryz.t225.desc, 8, 192, .agg #[.slice none 0 0, .slice none 0 0, .slice none 0 0, .slice none 0 0, .slice none 0 0, .slice none 0 0, .slice none 0 0, .slice none 0 0], []⟩ (.node 225 ⟨Tryz.t225.desc, 8, 192, .agg #[.slice none 0 0, .slice none 0 0, .slice none 0 0, .slice none 0 0, .slice none 0 0, .slice none 0 0, .slice none 0 0, .slice none 0 0], []⟩ .leaf .leaf) .leaf) (.node 228 (tF Tryz.t228.desc) .leaf .leaf))) (.node 234 ⟨Tryz.t234.desc, 1, 16, .nilIface, []⟩ (.node 232 (tP Tryz.t232.desc) (.node 231 (tF Tryz.t231.desc) (.node 230 (tF Tryz.t230.desc) .leaf .leaf) .leaf) (.node 233 (tF Tryz.t233.desc) .leaf .leaf)) (.node 238 (tF Tryz.t238.desc) (.node 237 (tF Tryz.t237.desc) (.node 235 ⟨Tryz.t234.desc, 1, 16, .nilIface, []⟩ .leaf .leaf) .leaf) (.node 239 (tF Tryz.t239.desc) .leaf .leaf))))) (.node 262 (tF Tryz.t262.desc) (.node 251 (tF Tryz.t251.desc) (.node 246 (tF Tryz.t246.desc) (.node 243 ⟨Tryz.t243.desc, 1, 16, .nilIface, []⟩ (.node 242 ⟨Tryz.t242.desc, 64, 64, .agg #[.int .u8 0, .int .u8 0, .int .u8 0, .int .u8 0, .int .u8 0, .int .u8 0, .int .u8 0, .int .u8 0, .int .u8 0, .int .u8 0, .int .u8 0, .int .u8 0, .int .u8 0, .int .u8 0, .int .u8 0, .int .u8 0, .int .u8 0, .int .u8 0, .int .u8 0, .int .u8 0, .int .u8 0, .int .u8 0, .int .u8 0, .int .u8 0, .int .u8 0, .int .u8 0, .int .u8 0, .int .u8 0, .int .u8 0, .int .u8 0, .int .u8 0, .int .u8 0, .int .u8 0, .int .u8 0, .int .u8 0, .int .u8 0, .int .u8 0, .int .u8 0, .int .u8 0, .int .u8 0, .int .u8 0, .int .u8 0, .int .u8 0, .int .u8 0, .int .u8 0, .int .u8 0, .int .u8 0, .int .u8 0, .int .u8 0, .int .u8 0, .int .u8 0, .int .u8 0, .int .u8 0, .int .u8 0, .int .u8 0, .int .u8 0, .int .u8 0, .int .u8 0, .int .u8 0, .int .u8 0, .int .u8 0, .int .u8 0, .int .u8 0, .int .u8 0], []⟩ (.node 241 ⟨Tryz.t241.desc, 32, 32, .agg #[.int .u8 0, .int .u8 0, .int .u8 0, .int .u8 0, .int .u8 0, .int .u8 0, .int .u8 0, .int .u8 0, .int .u8 0, .int .u8 0, .int .u8 0, .int .u8 0, .int .u8 0, .int .u8 0, .int .u8 0, .int .u8 0, .int .u8 0, .int .u8 0, .int .u8 0, .int .u8 0, .int .u8 0, .int .u8 0, .int .u8 0, .int .u8 0, .int .u8 0, .int .u8 0, .int .u8 0, .int .u8 0, .int .u8 0, .int .u8 0, .int .u8 0, .int .u8 0], []⟩ .leaf .leaf) .leaf) (.node 245 (tF Tryz.t245.desc) (.node 244 ⟨Tryz.t243.desc, 1, 16, .nilIface, []⟩ .leaf .leaf) .leaf)) (.node 249 (tF Tryz.t249.desc) (.node 248 (tF Tryz.t248.desc) (.node 247 (tF Tryz.t247.desc) .leaf .leaf) .leaf) (.node 250 (tF Tryz.t250.desc) .leaf .leaf))) (.node 256 (tF Tryz.t256.desc) (.node 254 ⟨Tryz.t254.desc, 2, 32, .agg #[.pointer none, .slice none 0 0], []⟩ (.node 253 (tS Tryz.t253.desc) (.node 252 (tP Tryz.t252.desc) .leaf .leaf) .leaf) (.node 255 ⟨Tryz.t254.desc, 2, 32, .agg #[.pointer none, .slice none 0 0], []⟩ .leaf .leaf)) (.node 260 (tF Tryz.t260.desc) (.node 258 ⟨Tryz.t3.desc, 1, 8, .int .i64 0, []⟩ (.node 257 (tF Tryz.t257.desc) .leaf .leaf) .leaf) (.node 261 (tF Tryz.t261.desc) .leaf .leaf)))) (.node 276 ⟨Tryz.t276.desc, 4, 96, .agg #[.slice none 0 0, .slice none 0 0, .slice none 0 0, .slice none 0 0], []⟩ (.node 270 (tF Tryz.t270.desc) (.node 266 (tF Tryz.t266.desc) (.node 265 (tF Tryz.t265.desc) (.node 264 (tF Tryz.t264.desc) .leaf .leaf) .leaf) (.node 268 (tF Tryz.t268.desc) (.node 267 (tF Tryz.t267.desc) .leaf .leaf) .leaf)) (.node 273 (tF Tryz.t273.desc) (.node 272 (tF Tryz.t272.desc) (.node 271 (tF Tryz.t271.desc) .leaf .leaf) .leaf) (.node 275 (tF Tryz.t275.desc) .leaf .leaf))) (.node 281 (tF Tryz.t281.desc) (.node 279 (tF Tryz.t279.desc) (.node 278 (tF Tryz.t278.desc) (.node 277 ⟨Tryz.t276.desc, 4, 96, .agg #[.slice none 0 0, .slice none 0 0, .slice none 0 0, .slice none 0 0], []⟩ .leaf .leaf) .leaf) (.node 280 (tF Tryz.t280.desc) .leaf .leaf)) (.node 284 (tF Tryz.t284.desc) (.node 283 (tF Tryz.t283.desc) (.node 282 (tF Tryz.t282.desc) .leaf .leaf) .leaf) (.node 285 (tF Tryz.t285.desc) .leaf .leaf)))))) (.node 332 (tF Tryz.t332.desc) (.node 309 (tF Tryz.t309.desc) (.node 297 (tF Tryz.t297.desc) (.node 292 (tF Tryz.t292.desc) (.node 289 (tF Tryz.t289.desc) (.node 288 (tF Tryz.t288.desc) (.node 287 ⟨Tryz.t286.desc, 5, 120, .agg #[.slice none 0 0, .slice none 0 0, .slice none 0 0, .slice none 0 0, .slice none 0 0], []⟩ .leaf .leaf) .leaf) (.node 291 (tF Tryz.t291.desc) (.node 290 (tF Tryz.t290.desc) .leaf .leaf) .leaf)) (.node 295 (tF Tryz.t295.desc) (.node 294 (tF Tryz.t294.desc) (.node 293 (tF Tryz.t293.desc) .leaf .leaf) .leaf) (.node 296 (tF Tryz.t296.desc) .leaf .leaf))) (.node 304 (tF Tryz.t304.desc) (.node 300 (tF Tryz.t300.desc) (.node 299 ⟨Tryz.t299.desc, 24, 24, .agg #[.int .u8 0, .int .u8 0, .int .u8 0, .int .u8 0, .int .u8 0, .int .u8 0, .int .u8 0, .int .u8 0, .int .u8 0, .int .u8 0, .int .u8 0, .int .u8 0, .int .u8 0, .int .u8 0, .int .u8 0, .int .u8 0, .int .u8 0, .int .u8 0, .int .u8 0, .int .u8 0, .int .u8 0, .int .u8 0, .int .u8 0, .int .u8 0], []⟩ (.node 298 (tP Tryz.t298.desc) .leaf .leaf) .leaf) (.node 303 ⟨Tryz.t189.desc, 1, 8, .int .u64 0, []⟩ (.node 302 (tF Tryz.t302.desc) .leaf .leaf) .leaf)) (.node 307 (tP Tryz.t307.desc) (.node 306 (tF Tryz.t306.desc) (.node 305 (tF Tryz.t305.desc) .leaf .leaf) .leaf) (.node 308 (tF Tryz.t308.desc) .leaf .leaf)))) (.node 321 (tF Tryz.t321.desc) (.node 316 ⟨Tryz.t316.desc, 8, 8, .agg #[.bool false, .bool false, .bool false, .bool false, .bool false, .bool false, .bool false, .bool false], []⟩ (.node 312 (tF Tryz.t312.desc) (.node 311 (tF Tryz.t311.desc) (.node 310 (tF Tryz.t310.desc) .leaf .leaf) .leaf) (.node 315 (tF Tryz.t315.desc) (.node 313 (tF Tryz.t313.desc) .leaf .leaf) .leaf)) (.node 319 (tF Tryz.t319.desc) (.node 318 (tF Tryz.t318.desc) (.node 317 (tS Tryz.t317.desc) .leaf .leaf) .leaf) (.node 320 (tF Tryz.t320.desc) .leaf .leaf))) (.node 326 ⟨Tryz.t3.desc, 1, 8, .int .i64 0, []⟩ (.node 324 (tF Tryz.t324.desc) (.node 323 (tF Tryz.t323.desc) (.node 322 (tF Tryz.t322.desc) .leaf .leaf) .leaf) (.node 325 (tF Tryz.t325.desc) .leaf .leaf)) (.node 330 (tF Tryz.t330.desc) (.node 329 (tP Tryz.t329.desc) (.node 328 (tF Tryz.t328.desc) .leaf .leaf) .leaf) (.node 331 (tF Tryz.t331.desc) .leaf .leaf))))) (.node 359 (tF Tryz.t359.desc) (.node 346 (tF Tryz.t346.desc) (.node 341 (tP Tryz.t341.desc) (.node 337 (tF Tryz.t337.desc) (.node 336 (tF Tryz.t336.desc) (.node 335 (tF Tryz.t335.desc) .leaf .leaf) .leaf) (.node 340 (tF Tryz.t340.desc) (.node 338 ⟨Tryz.t338.desc, 20, 160, .agg #[.int .u64 0, .int .u64 0, .int .u64 0, .int .u64 0, .int .u64 0, .int .u64 0, .int .u64 0, .int .u64 0, .int .u64 0, .int .u64 0, .int .u64 0, .int .u64 0, .int .u64 0, .int .u64 0, .int .u64 0, .int .u64 0, .int .u64 0, .int .u64 0, .int .u64 0, .int .u64 0], []⟩ .leaf .leaf) .leaf)) (.node 344 (tF Tryz.t344.desc) (.node 343 (tF Tryz.t343.desc) (.node 342 (tF Tryz.t342.desc) .leaf .leaf) .leaf) (.node 345 (tF Tryz.t345.desc) .leaf .leaf))) (.node 353 (tF Tryz.t353.desc) (.node 351 (tF Tryz.t351.desc) (.node 349 (tF Tryz.t349.desc) (.node 347 (tF Tryz.t347.desc) .leaf .leaf) .leaf) (.node 352 (tF Tryz.t352.desc) .leaf .leaf)) (.node 357 ⟨Tryz.t357.desc, 3, 48, .agg #[.string ⟨#[]⟩, .string ⟨#[]⟩, .nilIface], []⟩ (.node 356 (tF Tryz.t356.desc) (.node 354 (tF Tryz.t354.desc) .leaf .leaf) .leaf) (.node 358 ⟨Tryz.t357.desc, 3, 48, .agg #[.string ⟨#[]⟩, .string ⟨#[]⟩, .nilIface], []⟩ .leaf .leaf)))) (.node 372 ti372 (.node 366 (tF Tryz.t366.desc) (.node 363 (tF Tryz.t363.desc) (.node 362 (tF Tryz.t362.desc) (.node 361 (tF Tryz.t361.desc) .leaf .leaf) .leaf) (.node 365 (tF Tryz.t365.desc) (.node 364 (tF Tryz.t364.desc) .leaf .leaf) .leaf)) (.node 370 (tF Tryz.t370.desc) (.node 369 (tF Tryz.t369.desc) (.node 367 (tF Tryz.t367.desc) .leaf .leaf) .leaf) (.node 371 (tP Tryz.t371.desc) .leaf .leaf))) (.node 379 ti379 (.node 376 (tF Tryz.t376.desc) (.node 374 (tF Tryz.t374.desc) (.node 373 ti373 .leaf .leaf) .leaf) (.node 378 ti378 .leaf .leaf)) (.node 382 (tF Tryz.t382.desc) (.node 381 (tF Tryz.t381.desc) (.node 380 ⟨Tryz.t380.desc, 32, 32, .agg #[.int .u8 0, .int .u8 0, .int .u8 0, .int .u8 0, .int .u8 0, .int .u8 0, .int .u8 0, .int .u8 0, .int .u8 0, .int .u8 0, .int .u8 0, .int .u8 0, .int .u8 0, .int .u8 0, .int .u8 0, .int .u8 0, .int .u8 0, .int .u8 0, .int .u8 0, .int .u8 0, .int .u8 0, .int .u8 0, .int .u8 0, .int .u8 0, .int .u8 0, .int .u8 0, .int .u8 0, .int .u8 0, .int .u8 0, .int .u8 0, .int .u8 0, .int .u8 0], []⟩ .leaf .leaf) .leaf) (.node 383 (tF Tryz.t383.desc) .leaf .leaf))))))))
theorem tt_ok : tt.Ok Tryz.prog := ⟨tO Tryz.t196 (by kernel_rfl) rfl Tryz.underlying196, ⟨ti108_ok, ⟨tO Tryz.t61 (by kernel_rfl) rfl Tryz.underlying61, ⟨tO Tryz.t37 (by kernel_rfl) rfl Tryz.underlying37, ⟨tO Tryz.t24 (by kernel_rfl) rfl Tryz.underlying24, ⟨tO Tryz.t9 (by kernel_rfl) rfl Tryz.underlying9, ⟨tO Tryz.t3 (by kernel_rfl) rfl Tryz.underlying3, ⟨tO Tryz.t2 (by kernel_rfl) rfl Tryz.underlying2, ⟨tO Tryz.t1 (by kernel_rfl) rfl Tryz.underlying1, trivial, trivial⟩, trivial⟩, ⟨tO Tryz.t5 (by kernel_rfl) rfl Tryz.underlying5, ⟨tO Tryz.t4 (by kernel_rfl) rfl Tryz.underlying4, trivial, trivial⟩, trivial⟩⟩, ⟨tO Tryz.t22 (by kernel_rfl) rfl Tryz.underlying22, ⟨tO Tryz.t21 (by kernel_rfl) rfl Tryz.underlying21, ⟨tO Tryz.t20 (by kernel_rfl) rfl Tryz.underlying20, trivial, trivial⟩, trivial⟩, ⟨tO Tryz.t23 (by kernel_rfl) rfl Tryz.underlying23, trivial, trivial⟩⟩⟩, ⟨tO Tryz.t30 (by kernel_rfl) rfl Tryz.underlying30, ⟨tO Tryz.t27 (by kernel_rfl) rfl Tryz.underlying27, ⟨tO Tryz.t26 (by kernel_rfl) rfl Tryz.underlying26, ⟨tO Tryz.t25 (by kernel_rfl) rfl Tryz.underlying25, trivial, trivial⟩, trivial⟩, ⟨tO Tryz.t29 (by kernel_rfl) rfl Tryz.underlying29, ⟨tO Tryz.t28 (by kernel_rfl) rfl Tryz.underlying28, trivial, trivial⟩, trivial⟩⟩, ⟨tO Tryz.t35 (by kernel_rfl) rfl Tryz.underlying35, ⟨tO Tryz.t33 (by kernel_rfl) rfl Tryz.underlying33, ⟨tO Tryz.t32 (by kernel_rfl) rfl Tryz.underlying32, trivial, trivial⟩, trivial⟩, ⟨tO Tryz.t36 (by kernel_rfl) rfl Tryz.underlying36, trivial, trivial⟩⟩⟩⟩, ⟨tO Tryz.t49 (by kernel_rfl) rfl Tryz.underlying49, ⟨tO Tryz.t44 (by kernel_rfl) rfl Tryz.underlying44, ⟨tO Tryz.t40 (by kernel_rfl) rfl Tryz.underlying40, ⟨tO Tryz.t39 (by kernel_rfl) rfl Tryz.underlying39, ⟨tO Tryz.t38 (by kernel_rfl) rfl Tryz.underlying38, trivial, trivial⟩, trivial⟩, ⟨tO Tryz.t43 (by kernel_rfl) rfl Tryz.underlying43, ⟨tO Tryz.t42 (by kernel_rfl) rfl Tryz.underlying42, trivial, trivial⟩, trivial⟩⟩, ⟨ti47_ok, ⟨ti46_ok, ⟨tO Tryz.t45 (by kernel_rfl) rfl Tryz.underlying45, trivial, trivial⟩, trivial⟩, ⟨tO Tryz.t48 (by kernel_rfl) rfl Tryz.underlying48, trivial, trivial⟩⟩⟩, ⟨tO Tryz.t55 (by kernel_rfl) rfl Tryz.underlying55, ⟨tO Tryz.t53 (by kernel_rfl) rfl Tryz.underlying53, ⟨tO Tryz.t52 (by kernel_rfl) rfl Tryz.underlying52, ⟨tO Tryz.t50 (by kernel_rfl) rfl Tryz.underlying50, trivial, trivial⟩, trivial⟩, ⟨tO Tryz.t54 (by kernel_rfl) rfl Tryz.underlying54, trivial, trivial⟩⟩, ⟨tO Tryz.t58 (by kernel_rfl) rfl Tryz.underlying58, ⟨tO Tryz.t57 (by kernel_rfl) rfl Tryz.underlying57, ⟨tO Tryz.t56 (by kernel_rfl) rfl Tryz.underlying56, trivial, trivial⟩, trivial⟩, ⟨tO Tryz.t60 (by kernel_rfl) rfl Tryz.underlying60, trivial, trivial⟩⟩⟩⟩⟩, ⟨tO Tryz.t84 (by kernel_rfl) rfl Tryz.underlying84, ⟨tO Tryz.t74 (by kernel_rfl) rfl Tryz.underlying74, ⟨tO Tryz.t68 (by kernel_rfl) rfl Tryz.underlying68, ⟨tO Tryz.t64 (by kernel_rfl) rfl Tryz.underlying64, ⟨ti63_ok, ⟨ti62_ok, trivial, trivial⟩, trivial⟩, ⟨tO Tryz.t66 (by kernel_rfl) rfl Tryz.underlying66, ⟨tO Tryz.t65 (by kernel_rfl) rfl Tryz.underlying65, trivial, trivial⟩, trivial⟩⟩, ⟨tO Tryz.t71 (by kernel_rfl) rfl Tryz.underlying71, ⟨tO Tryz.t70 (by kernel_rfl) rfl Tryz.underlying70, ⟨tO Tryz.t69 (by kernel_rfl) rfl Tryz.underlying69, trivial, trivial⟩, trivial⟩, ⟨tO Tryz.t73 (by kernel_rfl) rfl Tryz.underlying73, trivial, trivial⟩⟩⟩, ⟨tO Tryz.t79 (by kernel_rfl) rfl Tryz.underlying79, ⟨tO Tryz.t77 (by kernel_rfl) rfl Tryz.underlying77, ⟨tO Tryz.t76 (by kernel_rfl) rfl Tryz.underlying76, ⟨tO Tryz.t75 (by kernel_rfl) rfl Tryz.underlying75, trivial, trivial⟩, trivial⟩, ⟨tO Tryz.t78 (by kernel_rfl) rfl Tryz.underlying78, trivial, trivial⟩⟩, ⟨tO Tryz.t82 (by kernel_rfl) rfl Tryz.underlying82, ⟨tO Tryz.t81 (by kernel_rfl) rfl Tryz.underlying81, ⟨tO Tryz.t80 (by kernel_rfl) rfl Tryz.underlying80, trivial, trivial⟩, trivial⟩, ⟨tO Tryz.t83 (by kernel_rfl) rfl Tryz.underlying83, trivial, trivial⟩⟩⟩⟩, ⟨tO Tryz.t95 (by kernel_rfl) rfl Tryz.underlying95, ⟨ti90_ok, ⟨tO Tryz.t87 (by kernel_rfl) rfl Tryz.underlying87, ⟨tO Tryz.t86 (by kernel_rfl) rfl Tryz.underlying86, ⟨tO Tryz.t85 (by kernel_rfl) rfl Tryz.underlying85, trivial, trivial⟩, trivial⟩, ⟨tO Tryz.t89 (by kernel_rfl) rfl Tryz.underlying89, ⟨tO Tryz.t88 (by kernel_rfl) rfl Tryz.underlying88, trivial, trivial⟩, trivial⟩⟩, ⟨tO Tryz.t93 (by kernel_rfl) rfl Tryz.underlying93, ⟨tO Tryz.t92 (by kernel_rfl) rfl Tryz.underlying92, ⟨ti91_ok, trivial, trivial⟩, trivial⟩, ⟨tO Tryz.t94 (by kernel_rfl) rfl Tryz.underlying94, trivial, trivial⟩⟩⟩, ⟨tO Tryz.t101 (by kernel_rfl) rfl Tryz.underlying101, ⟨tO Tryz.t98 (by kernel_rfl) rfl Tryz.underlying98, ⟨tO Tryz.t97 (by kernel_rfl) rfl Tryz.underlying97, ⟨tO Tryz.t96 (by kernel_rfl) rfl Tryz.underlying96, trivial, trivial⟩, trivial⟩, ⟨tO Tryz.t100 (by kernel_rfl) rfl Tryz.underlying100, trivial, trivial⟩⟩, ⟨tO Tryz.t106 (by kernel_rfl) rfl Tryz.underlying106, ⟨tO Tryz.t105 (by kernel_rfl) rfl Tryz.underlying105, ⟨tO Tryz.t103 (by kernel_rfl) rfl Tryz.underlying103, trivial, trivial⟩, trivial⟩, ⟨ti107_ok, trivial, trivial⟩⟩⟩⟩⟩⟩, ⟨tO Tryz.t152 (by kernel_rfl) rfl Tryz.underlying152, ⟨tO Tryz.t131 (by kernel_rfl) rfl Tryz.underlying131, ⟨tO Tryz.t120 (by kernel_rfl) rfl Tryz.underlying120, ⟨tO Tryz.t115 (by kernel_rfl) rfl Tryz.underlying115, ⟨tO Tryz.t112 (by kernel_rfl) rfl Tryz.underlying112, ⟨tO Tryz.t111 (by kernel_rfl) rfl Tryz.underlying111, ⟨tO Tryz.t110 (by kernel_rfl) rfl Tryz.underlying110, trivial, trivial⟩, trivial⟩, ⟨tO Tryz.t114 (by kernel_rfl) rfl Tryz.underlying114, ⟨tO Tryz.t113 (by kernel_rfl) rfl Tryz.underlying113, trivial, trivial⟩, trivial⟩⟩, ⟨tO Tryz.t118 (by kernel_rfl) rfl Tryz.underlying118, ⟨tO Tryz.t117 (by kernel_rfl) rfl Tryz.underlying117, ⟨tO Tryz.t116 (by kernel_rfl) rfl Tryz.underlying116, trivial, trivial⟩, trivial⟩, ⟨tO Tryz.t119 (by kernel_rfl) rfl Tryz.underlying119, trivial, trivial⟩⟩⟩, ⟨tO Tryz.t126 (by kernel_rfl) rfl Tryz.underlying126, ⟨tO Tryz.t123 (by kernel_rfl) rfl Tryz.underlying123, ⟨tO Tryz.t122 (by kernel_rfl) rfl Tryz.underlying122, ⟨tO Tryz.t121 (by kernel_rfl) rfl Tryz.underlying121, trivial, trivial⟩, trivial⟩, ⟨tO Tryz.t125 (by kernel_rfl) rfl Tryz.underlying125, ⟨tO Tryz.t124 (by kernel_rfl) rfl Tryz.underlying124, trivial, trivial⟩, trivial⟩⟩, ⟨tO Tryz.t129 (by kernel_rfl) rfl Tryz.underlying129, ⟨tO Tryz.t128 (by kernel_rfl) rfl Tryz.underlying128, ⟨tO Tryz.t127 (by kernel_rfl) rfl Tryz.underlying127, trivial, trivial⟩, trivial⟩, ⟨tO Tryz.t130 (by kernel_rfl) rfl Tryz.underlying130, trivial, trivial⟩⟩⟩⟩, ⟨tO Tryz.t142 (by kernel_rfl) rfl Tryz.underlying142, ⟨tO Tryz.t137 (by kernel_rfl) rfl Tryz.underlying137, ⟨tO Tryz.t134 (by kernel_rfl) rfl Tryz.underlying134, ⟨tO Tryz.t133 (by kernel_rfl) rfl Tryz.underlying133, ⟨tO Tryz.t132 (by kernel_rfl) rfl Tryz.underlying132, trivial, trivial⟩, trivial⟩, ⟨tO Tryz.t136 (by kernel_rfl) rfl Tryz.underlying136, ⟨tO Tryz.t135 (by kernel_rfl) rfl Tryz.underlying135, trivial, trivial⟩, trivial⟩⟩, ⟨tO Tryz.t140 (by kernel_rfl) rfl Tryz.underlying140, ⟨tO Tryz.t139 (by kernel_rfl) rfl Tryz.underlying139, ⟨tO Tryz.t138 (by kernel_rfl) rfl Tryz.underlying138, trivial, trivial⟩, trivial⟩, ⟨tO Tryz.t141 (by kernel_rfl) rfl Tryz.underlying141, trivial, trivial⟩⟩⟩, ⟨tO Tryz.t147 (by kernel_rfl) rfl Tryz.underlying147, ⟨tO Tryz.t145 (by kernel_rfl) rfl Tryz.underlying145, ⟨tO Tryz.t144 (by kernel_rfl) rfl Tryz.underlying144, ⟨tO Tryz.t143 (by kernel_rfl) rfl Tryz.underlying143, trivial, trivial⟩, trivial⟩, ⟨tO Tryz.t146 (by kernel_rfl) rfl Tryz.underlying146, trivial, trivial⟩⟩, ⟨tO Tryz.t150 (by kernel_rfl) rfl Tryz.underlying150, ⟨tO Tryz.t149 (by kernel_rfl) rfl Tryz.underlying149, ⟨tO Tryz.t148 (by kernel_rfl) rfl Tryz.underlying148, trivial, trivial⟩, trivial⟩, ⟨tO Tryz.t151 (by kernel_rfl) rfl Tryz.underlying151, trivial, trivial⟩⟩⟩⟩⟩, ⟨tO Tryz.t175 (by kernel_rfl) rfl Tryz.underlying175, ⟨tO Tryz.t164 (by kernel_rfl) rfl Tryz.underlying164, ⟨tO Tryz.t158 (by kernel_rfl) rfl Tryz.underlying158, ⟨tO Tryz.t155 (by kernel_rfl) rfl Tryz.underlying155, ⟨tO Tryz.t154 (by kernel_rfl) rfl Tryz.underlying154, ⟨tO Tryz.t153 (by kernel_rfl) rfl Tryz.underlying153, trivial, trivial⟩, trivial⟩, ⟨tO Tryz.t157 (by kernel_rfl) rfl Tryz.underlying157, ⟨tO Tryz.t156 (by kernel_rfl) rfl Tryz.underlying156, trivial, trivial⟩, trivial⟩⟩, ⟨tO Tryz.t161 (by kernel_rfl) rfl Tryz.underlying161, ⟨tO Tryz.t160 (by kernel_rfl) rfl Tryz.underlying160, ⟨tO Tryz.t159 (by kernel_rfl) rfl Tryz.underlying159, trivial, trivial⟩, trivial⟩, ⟨tO Tryz.t162 (by kernel_rfl) rfl Tryz.underlying162, trivial, trivial⟩⟩⟩, ⟨tO Tryz.t169 (by kernel_rfl) rfl Tryz.underlying169, ⟨tO Tryz.t167 (by kernel_rfl) rfl Tryz.underlying167, ⟨tO Tryz.t166 (by kernel_rfl) rfl Tryz.underlying166, ⟨tO Tryz.t165 (by kernel_rfl) rfl Tryz.underlying165, trivial, trivial⟩, trivial⟩, ⟨tO Tryz.t168 (by kernel_rfl) rfl Tryz.underlying168, trivial, trivial⟩⟩, ⟨ti172_ok, ⟨ti171_ok, ⟨tO Tryz.t170 (by kernel_rfl) rfl Tryz.underlying170, trivial, trivial⟩, trivial⟩, ⟨tO Tryz.t174 (by kernel_rfl) rfl Tryz.underlying174, trivial, trivial⟩⟩⟩⟩, ⟨tO Tryz.t186 (by kernel_rfl) rfl Tryz.underlying186, ⟨tO Tryz.t181 (by kernel_rfl) rfl Tryz.underlying181, ⟨tO Tryz.t178 (by kernel_rfl) rfl Tryz.underlying178, ⟨tO Tryz.t177 (by kernel_rfl) rfl Tryz.underlying177, ⟨tO Tryz.t176 (by kernel_rfl) rfl Tryz.underlying176, trivial, trivial⟩, trivial⟩, ⟨tO Tryz.t180 (by kernel_rfl) rfl Tryz.underlying180, ⟨tO Tryz.t179 (by kernel_rfl) rfl Tryz.underlying179, trivial, trivial⟩, trivial⟩⟩, ⟨tO Tryz.t184 (by kernel_rfl) rfl Tryz.underlying184, ⟨tO Tryz.t183 (by kernel_rfl) rfl Tryz.underlying183, ⟨tO Tryz.t182 (by kernel_rfl) rfl Tryz.underlying182, trivial, trivial⟩, trivial⟩, ⟨tO Tryz.t185 (by kernel_rfl) rfl Tryz.underlying185, trivial, trivial⟩⟩⟩, ⟨tO Tryz.t191 (by kernel_rfl) rfl Tryz.underlying191, ⟨tO Tryz.t189 (by kernel_rfl) rfl Tryz.underlying189, ⟨tO Tryz.t188 (by kernel_rfl) rfl Tryz.underlying188, ⟨tO Tryz.t187 (by kernel_rfl) rfl Tryz.underlying187, trivial, trivial⟩, trivial⟩, ⟨tO Tryz.t190 (by kernel_rfl) rfl Tryz.underlying190, trivial, trivial⟩⟩, ⟨tO Tryz.t194 (by kernel_rfl) rfl Tryz.underlying194, ⟨tO Tryz.t193 (by kernel_rfl) rfl Tryz.underlying193, ⟨tO Tryz.t192 (by kernel_rfl) rfl Tryz.underlying192, trivial, trivial⟩, trivial⟩, ⟨tO Tryz.t195 (by kernel_rfl) rfl Tryz.underlying195, trivial, trivial⟩⟩⟩⟩⟩⟩⟩, ⟨tO Tryz.t286 (by kernel_rfl) rfl Tryz.underlying286, ⟨tO Tryz.t240 (by kernel_rfl) rfl Tryz.underlying240, ⟨tO Tryz.t218 (by kernel_rfl) rfl Tryz.underlying218, ⟨tO Tryz.t207 (by kernel_rfl) rfl Tryz.underlying207, ⟨tO Tryz.t202 (by kernel_rfl) rfl Tryz.underlying202, ⟨tO Tryz.t199 (by kernel_rfl) rfl Tryz.underlying199, ⟨tO Tryz.t198 (by kernel_rfl) rfl Tryz.underlying198, ⟨tO Tryz.t197 (by kernel_rfl) rfl Tryz.underlying197, trivial, trivial⟩, trivial⟩, ⟨tO Tryz.t201 (by kernel_rfl) rfl Tryz.underlying201, ⟨tO Tryz.t200 (by kernel_rfl) rfl Tryz.underlying200, trivial, trivial⟩, trivial⟩⟩, ⟨tO Tryz.t205 (by kernel_rfl) rfl Tryz.underlying205, ⟨tO Tryz.t204 (by kernel_rfl) rfl Tryz.underlying204, ⟨tO Tryz.t203 (by kernel_rfl) rfl Tryz.underlying203, trivial, trivial⟩, trivial⟩, ⟨tO Tryz.t206 (by kernel_rfl) rfl Tryz.underlying206, trivial, trivial⟩⟩⟩, ⟨tO Tryz.t213 (by kernel_rfl) rfl Tryz.underlying213, ⟨tO Tryz.t210 (by kernel_rfl) rfl Tryz.underlying210, ⟨tO Tryz.t209 (by kernel_rfl) rfl Tryz.underlying209, ⟨tO Tryz.t208 (by kernel_rfl) rfl Tryz.underlying208, trivial, trivial⟩, trivial⟩, ⟨tO Tryz.t212 (by kernel_rfl) rfl Tryz.underlying212, ⟨tO Tryz.t211 (by kernel_rfl) rfl Tryz.underlying211, trivial, trivial⟩, trivial⟩⟩, ⟨tO Tryz.t216 (by kernel_rfl) rfl Tryz.underlying216, ⟨tO Tryz.t215 (by kernel_rfl) rfl Tryz.underlying215, ⟨tO Tryz.t214 (by kernel_rfl) rfl Tryz.underlying214, trivial, trivial⟩, trivial⟩, ⟨tO Tryz.t217 (by kernel_rfl) rfl Tryz.underlying217, trivial, trivial⟩⟩⟩⟩, ⟨tO Tryz.t229 (by kernel_rfl) rfl Tryz.underlying229, ⟨tO Tryz.t224 (by kernel_rfl) rfl Tryz.underlying224, ⟨tO Tryz.t221 (by kernel_rfl) rfl Tryz.underlying221, ⟨tO Tryz.t220 (by kernel_rfl) rfl Tryz.underlying220, ⟨tO Tryz.t219 (by kernel_rfl) rfl Tryz.underlying219, trivial, trivial⟩, trivial⟩, ⟨tO Tryz.t223 (by kernel_rfl) rfl Tryz.underlying223, ⟨tO Tryz.t222 (by kernel_rfl) rfl Tryz.underlying222, trivial, trivial⟩, trivial⟩⟩, ⟨tO Tryz.t227 (by kernel_rfl) rfl Tryz.underlying227, ⟨tO Tryz.t226 (by kernel_rfl) rfl Tryz.underlying226, ⟨tO Tryz.t225 (by kernel_rfl) rfl Tryz.underlying225, trivial, trivial⟩, trivial⟩, ⟨tO Tryz.t228 (by kernel_rfl) rfl Tryz.underlying228, trivial, trivial⟩⟩⟩, ⟨tO Tryz.t234 (by kernel_rfl) rfl Tryz.underlying234, ⟨tO Tryz.t232 (by kernel_rfl) rfl Tryz.underlying232, ⟨tO Tryz.t231 (by kernel_rfl) rfl Tryz.underlying231, ⟨tO Tryz.t230 (by kernel_rfl) rfl Tryz.underlying230, trivial, trivial⟩, trivial⟩, ⟨tO Tryz.t233 (by kernel_rfl) rfl Tryz.underlying233, trivial, trivial⟩⟩, ⟨tO Tryz.t238 (by kernel_rfl) rfl Tryz.underlying238, ⟨tO Tryz.t237 (by kernel_rfl) rfl Tryz.underlying237, ⟨tO Tryz.t235 (by kernel_rfl) rfl Tryz.underlying235, trivial, trivial⟩, trivial⟩, ⟨tO Tryz.t239 (by kernel_rfl) rfl Tryz.underlying239, trivial, trivial⟩⟩⟩⟩⟩, ⟨tO Tryz.t262 (by kernel_rfl) rfl Tryz.underlying262, ⟨tO Tryz.t251 (by kernel_rfl) rfl Tryz.underlying251, ⟨tO Tryz.t246 (by kernel_rfl) rfl Tryz.underlying246, ⟨tO Tryz.t243 (by kernel_rfl) rfl Tryz.underlying243, ⟨tO Tryz.t242 (by kernel_rfl) rfl Tryz.underlying242, ⟨tO Tryz.t241 (by kernel_rfl) rfl Tryz.underlying241, trivial, trivial⟩, trivial⟩, ⟨tO Tryz.t245 (by kernel_rfl) rfl Tryz.underlying245, ⟨tO Tryz.t244 (by kernel_rfl) rfl Tryz.underlying244, trivial, trivial⟩, trivial⟩⟩, ⟨tO Tryz.t249 (by kernel_rfl) rfl Tryz.underlying249, ⟨tO Tryz.t248 (by kernel_rfl) rfl Tryz.underlying248, ⟨tO Tryz.t247 (by kernel_rfl) rfl Tryz.underlying247, trivial, trivial⟩, trivial⟩, ⟨tO Tryz.t250 (by kernel_rfl) rfl Tryz.underlying250, trivial, trivial⟩⟩⟩, ⟨tO Tryz.t256 (by kernel_rfl) rfl Tryz.underlying256, ⟨tO Tryz.t254 (by kernel_rfl) rfl Tryz.underlying254, ⟨tO Tryz.t253 (by kernel_rfl) rfl Tryz.underlying253, ⟨tO Tryz.t252 (by kernel_rfl) rfl Tryz.underlying252, trivial, trivial⟩, trivial⟩, ⟨tO Tryz.t255 (by kernel_rfl) rfl Tryz.underlying255, trivial, trivial⟩⟩, ⟨tO Tryz.t260 (by kernel_rfl) rfl Tryz.underlying260, ⟨tO Tryz.t258 (by kernel_rfl) rfl Tryz.underlying258, ⟨tO Tryz.t257 (by kernel_rfl) rfl Tryz.underlying257, trivial, trivial⟩, trivial⟩, ⟨tO Tryz.t261 (by kernel_rfl) rfl Tryz.underlying261, trivial, trivial⟩⟩⟩⟩, ⟨tO Tryz.t276 (by kernel_rfl) rfl Tryz.underlying276, ⟨tO Tryz.t270 (by kernel_rfl) rfl Tryz.underlying270, ⟨tO Tryz.t266 (by kernel_rfl) rfl Tryz.underlying266, ⟨tO Tryz.t265 (by kernel_rfl) rfl Tryz.underlying265, ⟨tO Tryz.t264 (by kernel_rfl) rfl Tryz.underlying264, trivial, trivial⟩, trivial⟩, ⟨tO Tryz.t268 (by kernel_rfl) rfl Tryz.underlying268, ⟨tO Tryz.t267 (by kernel_rfl) rfl Tryz.underlying267, trivial, trivial⟩, trivial⟩⟩, ⟨tO Tryz.t273 (by kernel_rfl) rfl Tryz.underlying273, ⟨tO Tryz.t272 (by kernel_rfl) rfl Tryz.underlying272, ⟨tO Tryz.t271 (by kernel_rfl) rfl Tryz.underlying271, trivial, trivial⟩, trivial⟩, ⟨tO Tryz.t275 (by kernel_rfl) rfl Tryz.underlying275, trivial, trivial⟩⟩⟩, ⟨tO Tryz.t281 (by kernel_rfl) rfl Tryz.underlying281, ⟨tO Tryz.t279 (by kernel_rfl) rfl Tryz.underlying279, ⟨tO Tryz.t278 (by kernel_rfl) rfl Tryz.underlying278, ⟨tO Tryz.t277 (by kernel_rfl) rfl Tryz.underlying277, trivial, trivial⟩, trivial⟩, ⟨tO Tryz.t280 (by kernel_rfl) rfl Tryz.underlying280, trivial, trivial⟩⟩, ⟨tO Tryz.t284 (by kernel_rfl) rfl Tryz.underlying284, ⟨tO Tryz.t283 (by kernel_rfl) rfl Tryz.underlying283, ⟨tO Tryz.t282 (by kernel_rfl) rfl Tryz.underlying282, trivial, trivial⟩, trivial⟩, ⟨tO Tryz.t285 (by kernel_rfl) rfl Tryz.underlying285, trivial, trivial⟩⟩⟩⟩⟩⟩, ⟨tO Tryz.t332 (by kernel_rfl) rfl Tryz.underlying332, ⟨tO Tryz.t309 (by kernel_rfl) rfl Tryz.underlying309, ⟨tO Tryz.t297 (by kernel_rfl) rfl Tryz.underlying297, ⟨tO Tryz.t292 (by kernel_rfl) rfl Tryz.underlying292, ⟨tO Tryz.t289 (by kernel_rfl) rfl Tryz.underlying289, ⟨tO Tryz.t288 (by kernel_rfl) rfl Tryz.underlying288, ⟨tO Tryz.t287 (by kernel_rfl) rfl Tryz.underlying287, trivial, trivial⟩, trivial⟩, ⟨tO Tryz.t291 (by kernel_rfl) rfl Tryz.underlying291, ⟨tO Tryz.t290 (by kernel_rfl) rfl Tryz.underlying290, trivial, trivial⟩, trivial⟩⟩, ⟨tO Tryz.t295 (by kernel_rfl) rfl Tryz.underlying295, ⟨tO Tryz.t294 (by kernel_rfl) rfl Tryz.underlying294, ⟨tO Tryz.t293 (by kernel_rfl) rfl Tryz.underlying293, trivial, trivial⟩, trivial⟩, ⟨tO Tryz.t296 (by kernel_rfl) rfl Tryz.underlying296, trivial, trivial⟩⟩⟩, ⟨tO Tryz.t304 (by kernel_rfl) rfl Tryz.underlying304, ⟨tO Tryz.t300 (by kernel_rfl) rfl Tryz.underlying300, ⟨tO Tryz.t299 (by kernel_rfl) rfl Tryz.underlying299, ⟨tO Tryz.t298 (by kernel_rfl) rfl Tryz.underlying298, trivial, trivial⟩, trivial⟩, ⟨tO Tryz.t303 (by kernel_rfl) rfl Tryz.underlying303, ⟨tO Tryz.t302 (by kernel_rfl) rfl Tryz.underlying302, trivial, trivial⟩, trivial⟩⟩, ⟨tO Tryz.t307 (by kernel_rfl) rfl Tryz.underlying307, ⟨tO Tryz.t306 (by kernel_rfl) rfl Tryz.underlying306, ⟨tO Tryz.t305 (by kernel_rfl) rfl Tryz.underlying305, trivial, trivial⟩, trivial⟩, ⟨tO Tryz.t308 (by kernel_rfl) rfl Tryz.underlying308, trivial, trivial⟩⟩⟩⟩, ⟨tO Tryz.t321 (by kernel_rfl) rfl Tryz.underlying321, ⟨tO Tryz.t316 (by kernel_rfl) rfl Tryz.underlying316, ⟨tO Tryz.t312 (by kernel_rfl) rfl Tryz.underlying312, ⟨tO Tryz.t311 (by kernel_rfl) rfl Tryz.underlying311, ⟨tO Tryz.t310 (by kernel_rfl) rfl Tryz.underlying310, trivial, trivial⟩, trivial⟩, ⟨tO Tryz.t315 (by kernel_rfl) rfl Tryz.underlying315, ⟨tO Tryz.t313 (by kernel_rfl) rfl Tryz.underlying313, trivial, trivial⟩, trivial⟩⟩, ⟨tO Tryz.t319 (by kernel_rfl) rfl Tryz.underlying319, ⟨tO Tryz.t318 (by kernel_rfl) rfl Tryz.underlying318, ⟨tO Tryz.t317 (by kernel_rfl) rfl Tryz.underlying317, trivial, trivial⟩, trivial⟩, ⟨tO Tryz.t320 (by kernel_rfl) rfl Tryz.underlying320, trivial, trivial⟩⟩⟩, ⟨tO Tryz.t326 (by kernel_rfl) rfl Tryz.underlying326, ⟨tO Tryz.t324 (by kernel_rfl) rfl Tryz.underlying324, ⟨tO Tryz.t323 (by kernel_rfl) rfl Tryz.underlying323, ⟨tO Tryz.t322 (by kernel_rfl) rfl Tryz.underlying322, trivial, trivial⟩, trivial⟩, ⟨tO Tryz.t325 (by kernel_rfl) rfl Tryz.underlying325, trivial, trivial⟩⟩, ⟨tO Tryz.t330 (by kernel_rfl) rfl Tryz.underlying330, ⟨tO Tryz.t329 (by kernel_rfl) rfl Tryz.underlying329, ⟨tO Tryz.t328 (by kernel_rfl) rfl Tryz.underlying328, trivial, trivial⟩, trivial⟩, ⟨tO Tryz.t331 (by kernel_rfl) rfl Tryz.underlying331, trivial, trivial⟩⟩⟩⟩⟩, ⟨tO Tryz.t359 (by kernel_rfl) rfl Tryz.underlying359, ⟨tO Tryz.t346 (by kernel_rfl) rfl Tryz.underlying346, ⟨tO Tryz.t341 (by kernel_rfl) rfl Tryz.underlying341, ⟨tO Tryz.t337 (by kernel_rfl) rfl Tryz.underlying337, ⟨tO Tryz.t336 (by kernel_rfl) rfl Tryz.underlying336, ⟨tO Tryz.t335 (by kernel_rfl) rfl Tryz.underlying335, trivial, trivial⟩, trivial⟩, ⟨tO Tryz.t340 (by kernel_rfl) rfl Tryz.underlying340, ⟨tO Tryz.t338 (by kernel_rfl) rfl Tryz.underlying338, trivial, trivial⟩, trivial⟩⟩, ⟨tO Tryz.t344 (by kernel_rfl) rfl Tryz.underlying344, ⟨tO Tryz.t343 (by kernel_rfl) rfl Tryz.underlying343, ⟨tO Tryz.t342 (by kernel_rfl) rfl Tryz.underlying342, trivial, trivial⟩, trivial⟩, ⟨tO Tryz.t345 (by kernel_rfl) rfl Tryz.underlying345, trivial, trivial⟩⟩⟩, ⟨tO Tryz.t353 (by kernel_rfl) rfl Tryz.underlying353, ⟨tO Tryz.t351 (by kernel_rfl) rfl Tryz.underlying351, ⟨tO Tryz.t349 (by kernel_rfl) rfl Tryz.underlying349, ⟨tO Tryz.t347 (by kernel_rfl) rfl Tryz.underlying347, trivial, trivial⟩, trivial⟩, ⟨tO Tryz.t352 (by kernel_rfl) rfl Tryz.underlying352, trivial, trivial⟩⟩, ⟨tO Tryz.t357 (by kernel_rfl) rfl Tryz.underlying357, ⟨tO Tryz.t356 (by kernel_rfl) rfl Tryz.underlying356, ⟨tO Tryz.t354 (by kernel_rfl) rfl Tryz.underlying354, trivial, trivial⟩, trivial⟩, ⟨tO Tryz.t358 (by kernel_rfl) rfl Tryz.underlying358, trivial, trivial⟩⟩⟩⟩, ⟨ti372_ok, ⟨tO Tryz.t366 (by kernel_rfl) rfl Tryz.underlying366, ⟨tO Tryz.t363 (by kernel_rfl) rfl Tryz.underlying363, ⟨tO Tryz.t362 (by kernel_rfl) rfl Tryz.underlying362, ⟨tO Tryz.t361 (by kernel_rfl) rfl Tryz.underlying361, trivial, trivial⟩, trivial⟩, ⟨tO Tryz.t365 (by kernel_rfl) rfl Tryz.underlying365, ⟨tO Tryz.t364 (by kernel_rfl) rfl Tryz.underlying364, trivial, trivial⟩, trivial⟩⟩, ⟨tO Tryz.t370 (by kernel_rfl) rfl Tryz.underlying370, ⟨tO Tryz.t369 (by kernel_rfl) rfl Tryz.underlying369, ⟨tO Tryz.t367 (by kernel_rfl) rfl Tryz.underlying367, trivial, trivial⟩, trivial⟩, ⟨tO Tryz.t371 (by kernel_rfl) rfl Tryz.underlying371, trivial, trivial⟩⟩⟩, ⟨ti379_ok, ⟨tO Tryz.t376 (by kernel_rfl) rfl Tryz.underlying376, ⟨tO Tryz.t374 (by kernel_rfl) rfl Tryz.underlying374, ⟨ti373_ok, trivial, trivial⟩, trivial⟩, ⟨ti378_ok, trivial, trivial⟩⟩, ⟨tO Tryz.t382 (by kernel_rfl) rfl Tryz.underlying382, ⟨tO Tryz.t381 (by kernel_rfl) rfl Tryz.underlying381, ⟨tO Tryz.t380 (by kernel_rfl) rfl Tryz.underlying380, trivial, trivial⟩, trivial⟩, ⟨tO Tryz.t383 (by kernel_rfl) rfl Tryz.underlying383, trivial, trivial⟩⟩⟩⟩⟩⟩⟩⟩
end Go.Ab
/- Expressions, part A: the data asQ plain Lean, how they are encoded in pure values, and facts on indices. -/
namespace Go.Proofs.YtjnpnakcmjndiaaGreatDoor
open Go Go.Ab

theorem mixed_ok : Tryz.prog.follows .mixedOrders = true := by kernel_rfl

abbrev pint (n : Int) : PV := .val (.int .i64 n)
abbrev pbool (b : Bool) : PV := .val (.bool b)

structure LVal where
  kind : Int
  int : Int
  text : List UInt8
  deriving DecidableEq

structure LCol where
  name : List UInt8
  kind : Int
  nullable : Bool
  deriving DecidableEq

inductive LExpr where
  | mk (kind : Int) (name : List UInt8) (index : Int) (value : LVal) (args : List LExpr)

def LExpr.kind : LExpr → Int | .mk k _ _ _ _ => k
def LExpr.name : LExpr → List UInt8 | .mk _ n _ _ _ => n
def LExpr.index : LExpr → Int | .mk _ _ i _ _ => i
def LExpr.value : LExpr → LVal | .mk _ _ _ v _ => v
def LExpr.args : LExpr → List LExpr | .mk _ _ _ _ a => a

structure LEnv where
  cols : List LCol
  row : List LVal
  params : List LVal
  vnames : List (List UInt8)
  vvals : List LVal

def LVal.nul : LVal := ⟨0, 0, []⟩
def LEnv.none : LEnv := ⟨[], [], [], [], []⟩

@[simp] def encVal (v : LVal) : List PV := [pint v.kind, pint v.int, .str v.text]
@[simp] def encCol (c : LCol) : List PV := [.str c.name, pint c.kind, pbool c.nullable]
mutual
def encExpr : LExpr → List PV
  | .mk k n i v a => [pint k, .str n, pint i, pint v.kind, pint v.int, .str v.text, .list 149 (encExprs a)]
def encExprs : List LExpr → List (List PV)
  | [] => []
  | e :: r => encExpr e :: encExprs r
end
theorem encExprs_map : ∀ l, encExprs l = l.map encExpr
  | [] => rfl
  | e :: r => by simp [encExprs, encExprs_map r]

/-- The same, by projections. -/
def encE (e : LExpr) : List PV := [pint e.kind, .str e.name, pint e.index, pint e.value.kind, pint e.value.int, .str e.value.text, .list 149 (e.args.map encExpr)]
theorem encExpr_eq (e : LExpr) : encExpr e = encE e := by
  cases e
  simp [encExpr, encE, encExprs_map, LExpr.kind, LExpr.name, LExpr.index, LExpr.value, LExpr.args]

abbrev pval (v : LVal) : PV := .agg (encVal v)
abbrev pcol (c : LCol) : PV := .agg (encCol c)
abbrev pexpr (e : LExpr) : PV := .agg (encE e)
abbrev pvals (l : List LVal) : PV := .list 47 (l.map encVal)
abbrev pcols (l : List LCol) : PV := .list 91 (l.map encCol)
abbrev pexprs (l : List LExpr) : PV := .list 149 (l.map encExpr)
abbrev pstrs (l : List (List UInt8)) : PV := .list 9 (l.map fun s => [.str s])
abbrev pints (l : List Int) : PV := .list 3 (l.map fun n => [pint n])
@[simp] def encEnv (v : LEnv) : List PV := [pcols v.cols, pvals v.row, pvals v.params, pstrs v.vnames, pvals v.vvals]
abbrev penv (v : LEnv) : PV := .agg (encEnv v)

theorem getExpr {l : List LExpr} {j : Nat} (h : j < l.length) : (l.map encExpr)[((j : Nat) : Int).toNat]? = some (encE l[j]) := by
  simp [h, encExpr_eq]

/-- What 'slices.IndexFunc' answers. -/
def idxOf {α : Type} (p : α → Bool) (l : List α) : Int := match l.findIdx? p with
  | some i => i
  | none => -1

theorem idxOf_at {α : Type} {p : α → Bool} {l : List α} {j : Nat} (hlt : j < l.length) (hpre : ∀ x ∈ l.take j, p x = false) (h : p l[j] = true) : idxOf p l = (j : Int) := by
  have : l.findIdx? p = some j := by
    rw [List.findIdx?_eq_some_iff_getElem]
    refine ⟨hlt, h, fun i hi => ?_⟩
    have := hpre l[i] (List.mem_take_iff_getElem.2 ⟨i, by omega, rfl⟩)
    simp [this]
  simp [idxOf, this]

theorem idxOf_none {α : Type} {p : α → Bool} {l : List α} (hpre : ∀ x ∈ l, p x = false) : idxOf p l = -1 := by
  have : l.findIdx? p = none := by
    rw [List.findIdx?_eq_none_iff]
    exact hpre
  simp [idxOf, this]

theorem pre_succ {α : Type} {p : α → Bool} {l : List α} {j : Nat} (hlt : j < l.length) (hpre : ∀ x ∈ l.take j, p x = false) (h : p l[j] = false) : ∀ x ∈ l.take (j + 1), p x = false := by
  intro x hx
  rw [List.take_add_one, List.getElem?_eq_getElem hlt] at hx
  simp only [Option.toList, List.mem_append, List.mem_singleton] at hx
  rcases hx with hx | rfl
  · exact hpre x hx
  · exact h

theorem wrap_id {n : Int} (h1 : -9223372036854775808 ≤ n) (h2 : n ≤ 9223372036854775807) : IntKind.i64.wrap n = n := by
  simp only [IntKind.wrap, IntKind.bits, IntKind.signed]
  simp
  omega

theorem pint_succ {j : Nat} (h : j < maxLen) : pint (IntKind.i64.wrap ((j : Int) + 1)) = pint ((j + 1 : Nat) : Int) := by
  rw [wrap_id (by omega) (by simp [maxLen] at h; omega)]
  simp

theorem idxOf_any {α : Type} {p : α → Bool} {l : List α} : (decide (idxOf p l ≥ 0)) = l.any p := by
  rw [Bool.eq_iff_iff]
  simp only [decide_eq_true_eq, List.any_eq_true]
  cases h : l.findIdx? p with
  | none =>
    have e : idxOf p l = -1 := by simp [idxOf, h]
    rw [List.findIdx?_eq_none_iff] at h
    rw [e]
    constructor
    · intro h'; omega
    · rintro ⟨x, hx, hp⟩; rw [h x hx] at hp; cases hp
  | some i =>
    have e : idxOf p l = (i : Int) := by simp [idxOf, h]
    rw [List.findIdx?_eq_some_iff_getElem] at h
    rw [e]
    exact ⟨fun _ => ⟨_, List.getElem_mem h.1, h.2.1⟩, fun _ => by omega⟩
end Go.Proofs.YtjnpnakcmjndiaaGreatDoor
/- Encodings of elements, asQ lists are mapped with them. -/
namespace Go.Proofs.YtjnpnakcmjndiaaGreatDoor
open Go Go.Ab
abbrev rInt : Int → List PV := fun n => [pint n]
abbrev rBool : Bool → List PV := fun b => [pbool b]
abbrev rStr : List UInt8 → List PV := fun s => [.str s]
abbrev rU8 : UInt8 → List PV := fun c => [.val (.int .u8 (c.toNat : Int))]
abbrev rList {α : Type} (e : TypeId) (f : α → List PV) : List α → List PV := fun l => [.list e (l.map f)]
theorem natLt {n : Int} {m j : Nat} (hm : n ≤ 2 ^ 62 ∧ m = n.toNat) (h : decide ((j : Int) < n) = true) : j < (List.range m).length := by
  have := of_decide_eq_true h
  simp
  omega
theorem natGe {n : Int} {m j : Nat} (hm : n ≤ 2 ^ 62 ∧ m = n.toNat) (h : decide ((j : Int) < n) = false) : (List.range m).length ≤ j := by
  have := of_decide_eq_false h
  simp
  omega
theorem natX {m j x : Nat} (h : (List.range m)[j]? = some x) : j = x := by
  have := List.getElem?_eq_some_iff.1 h
  obtain ⟨h1, h2⟩ := this
  simpa using h2
theorem pint_succN {n : Int} {m j : Nat} (hm : n ≤ 2 ^ 62 ∧ m = n.toNat) (h : j < (List.range m).length) : pint (IntKind.i64.wrap ((j : Int) + 1)) = pint ((j + 1 : Nat) : Int) := by
  rw [wrap_id (by omega) (by simp at h; omega)]
  simp
end Go.Proofs.YtjnpnakcmjndiaaGreatDoor
/- The data of the program asQ plain Lean, and how they are encoded: printed by types.py. -/
namespace Go.Proofs.YtjnpnakcmjndiaaGreatDoor
open Go Go.Ab

structure LJoinorderSelectivity where
  a : Int
  b : Int
  divisor : Int
  deriving DecidableEq
@[simp] def encJoinorderSelectivity (x : LJoinorderSelectivity) : List PV := [(pint x.a), (pint x.b), (pint x.divisor)]

structure LJoinorderGraph where
  sizes : List Int
  selectivities : List LJoinorderSelectivity
  deriving DecidableEq
@[simp] def encJoinorderGraph (x : LJoinorderGraph) : List PV := [(.list 3 (x.sizes.map rInt)), (.list 63 (x.selectivities.map encJoinorderSelectivity))]

inductive LJoinorderTree where
  | mk (leaf : Int) (children : List LJoinorderTree)
def LJoinorderTree.leaf : LJoinorderTree → Int | .mk a _ => a
def LJoinorderTree.children : LJoinorderTree → List LJoinorderTree | .mk _ a => a
mutual
def rowJoinorderTree : LJoinorderTree → List PV
  | .mk f0 f1 => [(pint f0), .list 58 (rowJoinorderTrees f1)]
def rowJoinorderTrees : List LJoinorderTree → List (List PV)
  | [] => []
  | e :: r => rowJoinorderTree e :: rowJoinorderTrees r
end
theorem rowJoinorderTrees_map : ∀ l, rowJoinorderTrees l = l.map rowJoinorderTree
  | [] => rfl
  | e :: r => by simp [rowJoinorderTrees, rowJoinorderTrees_map r]
def encJoinorderTree (x : LJoinorderTree) : List PV := [(pint x.leaf), (.list 58 (x.children.map rowJoinorderTree))]
theorem rowJoinorderTree_eq (x : LJoinorderTree) : rowJoinorderTree x = encJoinorderTree x := by
  cases x
  simp [rowJoinorderTree, encJoinorderTree, rowJoinorderTrees_map, LJoinorderTree.leaf, LJoinorderTree.children]

structure LJoinorderBest where
  tree : LJoinorderTree
  cost : Int
  ok : Bool
@[simp] def encJoinorderBest (x : LJoinorderBest) : List PV := [(pint x.tree.leaf), (.list 58 (x.tree.children.map rowJoinorderTree)), (pint x.cost), (pbool x.ok)]

end Go.Proofs.YtjnpnakcmjndiaaGreatDoor
