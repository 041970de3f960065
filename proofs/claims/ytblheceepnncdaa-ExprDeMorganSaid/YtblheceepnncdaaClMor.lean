/- The claim: the law of De Morgan, proved. -/
import Derived.Test.YtblheceepnncdaaRows
import Derived.Test.YtblheceepnncdaaAbU
import Derived.Test.YtblheceepnncdaaExK
namespace Go.Proofs.Ytblheceepnncdaa
open Go Go.Ab

theorem own_knob : ownKnob Try.prog.godebug = none := by kernel_rfl
theorem laid_out : laidOutB Try.prog = true := by kernel_rfl

def cmpTypes : List TypeId := [3, 9, 23]

theorem cmpTypes_ok : cmpTypes.all (okT Try.prog cmpTypes) = true := by kernel_rfl
theorem cmpTypes_info : ∀ t ∈ cmpTypes, ∃ i, Try.prog.info? t = some i ∧ i.bytes = Try.prog.bytesOf t ∧ i.size = Try.prog.cellsOf t := by
  intro t ht
  simp only [cmpTypes, List.mem_cons, List.mem_nil_iff, or_false] at ht
  rcases ht with rfl | rfl | rfl <;> exact ⟨_, rfl, rfl, rfl⟩

theorem sh_int {n : Nat} {pvs : List PV} (h : Sh Try.prog n 3 pvs) : ∃ m, pvs = [pint m] := by
  cases n with
  | zero => simp [Sh] at h
  | succ n => simp only [Sh, Try.underlying3] at h; obtain ⟨m, rfl, _⟩ := h; exact ⟨m, rfl⟩

theorem sh_str {n : Nat} {pvs : List PV} (h : Sh Try.prog n 9 pvs) : ∃ l, pvs = [.str l] := by
  cases n with
  | zero => simp [Sh] at h
  | succ n => simp only [Sh, Try.underlying9] at h; obtain ⟨l, rfl, _⟩ := h; exact ⟨l, rfl⟩

theorem sh_val {n : Nat} {pvs : List PV} (h : Sh Try.prog n 23 pvs) : ∃ v : LVal, pvs = encVal v := by
  cases n with
  | zero => simp [Sh] at h
  | succ n =>
    simp only [Sh, Try.underlying23, List.map_cons, List.map_nil, ShEach] at h
    obtain ⟨a, r1, rfl, ha, b, r2, rfl, hb, c, r3, rfl, hc, rfl⟩ := h
    obtain ⟨k, rfl⟩ := sh_int ha
    obtain ⟨i, rfl⟩ := sh_int hb
    obtain ⟨t, rfl⟩ := sh_str hc
    exact ⟨⟨k, i, t⟩, rfl⟩

theorem arg_val (pvs : List PV) : argPV Try.prog 23 pvs = .agg pvs := by simp only [argPV, Try.underlying23]

theorem morgan_args : ∀ args, ArgsSh Try.prog Try.f6.params.toList args → PFun Try.prog 6 args (.val (.bool true)) := by
  intro args h
  rw [Try.params6] at h
  simp only [ArgsSh] at h
  obtain ⟨n, pa, r1, rfl, ha, m, pb, r2, rfl, hb, rfl⟩ := h
  obtain ⟨a, rfl⟩ := sh_val ha
  obtain ⟨b, rfl⟩ := sh_val hb
  rw [arg_val, arg_val]
  exact morgan_spec a b

set_option maxRecDepth 100000 in
theorem morgan_lifted (os : Os) (started : os.Started) (H : Type) (enc : TypeId × Value → H) :
    ReturnsInHanded {} Try.checked os 6 .any (Rows.exprDeMorganSpec.pre6 enc Try.prog Try.f6 Rows.exprDeMorganRow.domain false) (Rows.exprDeMorganSpec.post enc Try.prog Try.f6 false true false false) := by
  refine returnsInHanded_of_change_sized (C := Try.checked) own_knob started (by kernel_rfl) Try.func6
    (ChangeSpec.witness6 (enc := enc) (C := Try.checked) false ⟨#[], #[.agg #[.int .i64 0, .int .i64 0, .string ⟨#[]⟩], .agg #[.int .i64 0, .int .i64 0, .string ⟨#[]⟩]], []⟩ 8 (by kernel_rfl) (by kernel_rfl) (by kernel_rfl) (by kernel_rfl)) ?_
  intro W base args ds gs before hval hW _ hsz _
  refine law_calls laid_out (tb := 4) rfl ?_ rfl Try.underlying4 ?_ cmpTypes_ok cmpTypes_info ?_ morgan_args hval hW hsz
  · rw [Try.params6]
    intro t ht
    simp only [List.mem_cons, List.mem_nil_iff, or_false, or_self] at ht
    subst ht
    exact ⟨by kernel_rfl, of_decide_eq_true (by kernel_rfl)⟩
  · intro ds hlen
    rw [Try.params6] at hlen
    obtain ⟨d1, d2, rfl⟩ := len2 hlen
    rfl
  · rw [Try.params6]
    intro t ht
    simp only [List.mem_cons, List.mem_nil_iff, or_false, or_self] at ht
    subst ht
    simp [cmpTypes]

theorem exprDeMorgan_holds : Rows.ExprDeMorganSaid :=
  OpenClaim.holds_of_wide 6 Try.f6 rfl rfl rfl rfl rfl rfl rfl ⟨rfl, rfl, rfl, rfl, rfl⟩ rfl rfl rfl rfl rfl (by kernel_rfl) Try.func6 (by kernel_rfl)
    (of_decide_eq_true (by kernel_rfl)) (by unfold Func.isWrapper; rw [if_neg (by decide +kernel)]; exact ⟨rfl, rfl⟩)
    (fun os started H enc _ => morgan_lifted os started H enc)
end Go.Proofs.Ytblheceepnncdaa
