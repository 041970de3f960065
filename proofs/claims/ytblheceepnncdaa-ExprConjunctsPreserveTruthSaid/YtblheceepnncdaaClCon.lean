/- The claim: the law ExprConjunctsPreserveTruth holds of every input. -/
import Derived.Test.YtblheceepnncdaaRows
import Derived.Test.YtblheceepnncdaaAbU
import Derived.Test.YtblheceepnncdaaNtC
namespace Go.Proofs.Ytblheceepnncdaa
open Go Go.Ab

theorem own_knob : ownKnob Try.prog.godebug = none := by kernel_rfl
theorem laid_out : laidOutB Try.prog = true := by kernel_rfl

def lawTypes : List TypeId := [35, 3, 9, 23, 33, 29, 28]
theorem lawTypes_ok : lawTypes.all (okT Try.prog lawTypes) = true := by kernel_rfl
theorem lawTypes_info : ∀ t ∈ lawTypes, ∃ i, Try.prog.info? t = some i ∧ i.bytes = Try.prog.bytesOf t ∧ i.size = Try.prog.cellsOf t := by
  intro t ht
  simp only [lawTypes, List.mem_cons, List.mem_nil_iff, or_false] at ht
  rcases ht with rfl | rfl | rfl | rfl | rfl | rfl | rfl <;> exact ⟨_, rfl, rfl, rfl⟩

theorem rowsOf {α : Type} {f : α → List PV} : ∀ {rows : List (List PV)}, (∀ r ∈ rows, ∃ x, r = f x) → ∃ xs : List α, rows = xs.map f
  | [], _ => ⟨[], rfl⟩
  | r :: rs, h => by
    obtain ⟨x, rfl⟩ := h r (by simp)
    obtain ⟨xs, rfl⟩ := rowsOf (rows := rs) fun q hq => h q (by simp [hq])
    exact ⟨x :: xs, rfl⟩

theorem shUp {n : Nat} : ∀ {t : TypeId} {pvs : List PV}, Sh Try.prog n t pvs → Sh Try.prog (n + 1) t pvs := by
  induction n with
  | zero => intro t pvs h; simp [Sh] at h
  | succ n ih =>
    intro t pvs h
    unfold Sh at h ⊢
    split at h
    · simp_all
    · simp_all
    · simp_all
    · rename_i hu
      obtain ⟨rows, rfl, hr⟩ := h
      exact ⟨rows, rfl, fun r hq => ih (hr r hq)⟩
    · rename_i fs hu
      have key : ∀ (ts : List TypeId) (l : List PV), ShEach (Sh Try.prog n) ts l → ShEach (Sh Try.prog (n + 1)) ts l := by
        intro ts
        induction ts with
        | nil => intro l h; exact h
        | cons t ts iht =>
          intro l h
          simp only [ShEach] at h ⊢
          obtain ⟨a, b, h1, h2, h3⟩ := h
          exact ⟨a, b, h1, ih h2, iht b h3⟩
      exact key _ _ h
    · cases h

theorem sh3 {n : Nat} {pvs : List PV} (h : Sh Try.prog n 3 pvs) : ∃ v : Int, pvs = [pint v] := by
  cases n with
  | zero => simp [Sh] at h
  | succ n => simp only [Sh, Try.underlying3] at h; obtain ⟨m, rfl, _⟩ := h; exact ⟨m, rfl⟩

theorem sh9 {n : Nat} {pvs : List PV} (h : Sh Try.prog n 9 pvs) : ∃ v : List UInt8, pvs = [.str v] := by
  cases n with
  | zero => simp [Sh] at h
  | succ n => simp only [Sh, Try.underlying9] at h; obtain ⟨m, rfl, _⟩ := h; exact ⟨m, rfl⟩

theorem sh23 {n : Nat} {pvs : List PV} (h : Sh Try.prog n 23 pvs) : ∃ v : LVal, pvs = encVal v := by
  cases n with
  | zero => simp [Sh] at h
  | succ n =>
    simp only [Sh, Try.underlying23, List.map_cons, List.map_nil, ShEach] at h
    obtain ⟨p0, r0, rfl, h0, p1, r1, rfl, h1, p2, r2, rfl, h2, rfl⟩ := h
    obtain ⟨v0, rfl⟩ := sh3 h0
    obtain ⟨v1, rfl⟩ := sh3 h1
    obtain ⟨v2, rfl⟩ := sh9 h2
    exact ⟨LVal.mk v0 v1 v2, rfl⟩

theorem sh35 {n : Nat} {pvs : List PV} (h : Sh Try.prog n 35 pvs) : ∃ v : LExpr, pvs = encExpr v := by
  induction n generalizing pvs with
  | zero => simp [Sh] at h
  | succ n ih =>
    simp only [Sh, Try.underlying35, List.map_cons, List.map_nil, ShEach] at h
    obtain ⟨p0, r0, rfl, h0, p1, r1, rfl, h1, p2, r2, rfl, h2, p3, r3, rfl, h3, p4, r4, rfl, h4, rfl⟩ := h
    obtain ⟨v0, rfl⟩ := sh3 h0
    obtain ⟨v1, rfl⟩ := sh9 h1
    obtain ⟨v2, rfl⟩ := sh3 h2
    obtain ⟨v3, rfl⟩ := sh23 h3
    cases n with
    | zero => simp [Sh] at h4
    | succ n =>
    simp only [Sh, Try.underlying33] at h4
    obtain ⟨rows, rfl, hr4⟩ := h4
    obtain ⟨v4, rfl⟩ := rowsOf (f := encExpr) (fun r hq => ih (shUp (hr4 r hq)))
    exact ⟨LExpr.mk v0 v1 v2 v3 v4, by rw [encExpr_eq]; rfl⟩

theorem sh29 {n : Nat} {pvs : List PV} (h : Sh Try.prog n 29 pvs) : ∃ v : List LVal, pvs = [.list 23 (v.map encVal)] := by
  cases n with
  | zero => simp [Sh] at h
  | succ n =>
    simp only [Sh, Try.underlying29] at h
    obtain ⟨rows, rfl, hr⟩ := h
    obtain ⟨xs, rfl⟩ := rowsOf (f := encVal) (fun r hq => sh23 (hr r hq))
    exact ⟨xs, rfl⟩

theorem sh28 {n : Nat} {pvs : List PV} (h : Sh Try.prog n 28 pvs) : ∃ v : List LVal, pvs = [.list 23 (v.map encVal)] := by
  cases n with
  | zero => simp [Sh] at h
  | succ n =>
    simp only [Sh, Try.underlying28] at h
    obtain ⟨rows, rfl, hr⟩ := h
    obtain ⟨xs, rfl⟩ := rowsOf (f := encVal) (fun r hq => sh23 (hr r hq))
    exact ⟨xs, rfl⟩

theorem law_args : ∀ args, ArgsSh Try.prog Try.f7.params.toList args → PFun Try.prog 7 args (.val (.bool true)) := by
  intro args h
  rw [Try.params7] at h
  simp only [ArgsSh] at h
  obtain ⟨n0, p0, r0, rfl, h0, n1, p1, r1, rfl, h1, n2, p2, r2, rfl, h2, rfl⟩ := h
  obtain ⟨v0, rfl⟩ := sh35 h0
  obtain ⟨v1, rfl⟩ := sh29 h1
  obtain ⟨v2, rfl⟩ := sh28 h2
  have key := conj_law_spec v0 v1 v2
  have e0 : argPV Try.prog 35 (encExpr v0) = .agg (encExpr v0) := by simp only [argPV, Try.underlying35]
  rw [encExpr_eq] at e0
  rw [encExpr_eq v0, e0]
  have e1 : argPV Try.prog 29 [.list 23 (v1.map encVal)] = .list 23 (v1.map encVal) := by simp only [argPV, Try.underlying29]; rfl
  rw [e1]
  have e2 : argPV Try.prog 28 [.list 23 (v2.map encVal)] = .list 23 (v2.map encVal) := by simp only [argPV, Try.underlying28]; rfl
  rw [e2]
  exact key

set_option maxRecDepth 100000 in
theorem law_lifted (os : Os) (started : os.Started) (H : Type) (enc : TypeId × Value → H) :
    ReturnsInHanded {} Try.checked os 7 .any (Rows.exprConjunctsPreserveTruthSpec.pre6 enc Try.prog Try.f7 Rows.exprConjunctsPreserveTruthRow.domain false) (Rows.exprConjunctsPreserveTruthSpec.post enc Try.prog Try.f7 false true false false) := by
  refine returnsInHanded_of_change_sized (C := Try.checked) own_knob started (by kernel_rfl) Try.func7
    (ChangeSpec.witness6 (enc := enc) (C := Try.checked) false ⟨#[], #[.agg #[.int .i64 0, .string ⟨#[]⟩, .int .i64 0, .int .i64 0, .int .i64 0, .string ⟨#[]⟩, .slice none 0 0], .slice none 0 0, .slice none 0 0], []⟩ 8 (by kernel_rfl) (by kernel_rfl) (by kernel_rfl) (by kernel_rfl)) ?_
  intro W base args ds gs before hval hW _ hsz _
  refine law_calls laid_out (tb := 4) rfl ?_ rfl Try.underlying4 ?_ lawTypes_ok lawTypes_info ?_ law_args hval hW hsz
  · rw [Try.params7]
    intro t ht
    simp only [List.mem_cons, List.mem_nil_iff, or_false] at ht
    rcases ht with rfl | rfl | rfl <;> exact ⟨by kernel_rfl, of_decide_eq_true (by kernel_rfl)⟩
  · intro ds hlen
    rw [Try.params7] at hlen
    match ds, hlen with
    | [d0, d1, d2], _ => rfl
  · rw [Try.params7]
    intro t ht
    simp only [List.mem_cons, List.mem_nil_iff, or_false] at ht
    rcases ht with rfl | rfl | rfl <;> simp [lawTypes]

theorem exprConjunctsPreserveTruth_holds : Rows.ExprConjunctsPreserveTruthSaid :=
  OpenClaim.holds_of_wide 7 Try.f7 rfl rfl rfl rfl rfl rfl rfl ⟨rfl, rfl, rfl, rfl, rfl⟩ rfl rfl rfl rfl rfl (by kernel_rfl) Try.func7 (by kernel_rfl)
    (of_decide_eq_true (by kernel_rfl)) (by unfold Func.isWrapper; rw [if_neg (by decide +kernel)]; exact ⟨rfl, rfl⟩)
    (fun os started H enc _ => law_lifted os started H enc)
end Go.Proofs.Ytblheceepnncdaa

