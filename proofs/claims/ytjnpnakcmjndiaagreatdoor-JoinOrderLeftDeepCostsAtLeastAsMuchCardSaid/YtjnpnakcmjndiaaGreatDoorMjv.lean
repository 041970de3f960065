/- The claim: the law JoinOrderLeftDeepCostsAtLeastAsMuch holds of every input; its listed variables are tied to the program's text. -/
import Derived.Test.YtjnpnakcmjndiaaGreatDoorRows
import Derived.Test.YtjnpnakcmjndiaaGreatDoorMje
import Derived.Test.YtjnpnakcmjndiaaGreatDoorClJof
import Derived.Test.YtjnpnakcmjndiaaGreatDoorCards
import Derived.Test.YtjnpnakcmjndiaaGreatDoorTie
import Derived.WalkKit
import Derived.ProofKit
import Derived.OpenShut
import Derived.Deep.DeepHandedRow
import Derived.Lib.LaidTab
import Derived.Stop.LaidErr
import Derived.Test.YtjnpnakcmjndiaaGreatDoorMju
namespace Go.Proofs.YtjnpnakcmjndiaaGreatDoor
open Go Go.Ab

theorem own_knob : ownKnob Tryz.prog.godebug = none := by kernel_rfl
theorem laid_out : laidOutB Tryz.prog = true := by kernel_rfl

def lawTypes : List TypeId := [55, 38, 3, 53, 63]
theorem lawTypes_ok : lawTypes.all (okT Tryz.prog lawTypes) = true := by kernel_rfl
theorem lawTypes_info : ∀ t ∈ lawTypes, ∃ i, Tryz.prog.info? t = some i ∧ i.bytes = Tryz.prog.bytesOf t ∧ i.size = Tryz.prog.cellsOf t := infos_of (by kernel_rfl)

theorem sh3 {n : Nat} {pvs : List PV} (h : Sh Tryz.prog n 3 pvs) : ∃ v : Int, pvs = [pint v] := by
  cases n with
  | zero => simp [Sh] at h
  | succ n => simp only [Sh, Tryz.underlying3] at h; obtain ⟨m, rfl, _⟩ := h; exact ⟨m, rfl⟩

theorem sh38 {n : Nat} {pvs : List PV} (h : Sh Tryz.prog n 38 pvs) : ∃ v : List Int, pvs = [.list 3 (v.map rInt)] := by
  cases n with
  | zero => simp [Sh] at h
  | succ n =>
    simp only [Sh, Tryz.underlying38] at h
    obtain ⟨rows, rfl, hr⟩ := h
    obtain ⟨xs, rfl⟩ := rowsOf (f := rInt) (fun r hq => let ⟨v, e⟩ := sh3 (hr r hq); ⟨v, e⟩)
    exact ⟨xs, rfl⟩

theorem sh63 {n : Nat} {pvs : List PV} (h : Sh Tryz.prog n 63 pvs) : ∃ v : LJoinorderSelectivity, pvs = encJoinorderSelectivity v := by
  cases n with
  | zero => simp [Sh] at h
  | succ n =>
    simp only [Sh, Tryz.underlying63, List.map_cons, List.map_nil, ShEach] at h
    obtain ⟨p0, r0, rfl, h0, p1, r1, rfl, h1, p2, r2, rfl, h2, rfl⟩ := h
    obtain ⟨v0, rfl⟩ := sh3 h0
    obtain ⟨v1, rfl⟩ := sh3 h1
    obtain ⟨v2, rfl⟩ := sh3 h2
    exact ⟨LJoinorderSelectivity.mk v0 v1 v2, rfl⟩

theorem sh53 {n : Nat} {pvs : List PV} (h : Sh Tryz.prog n 53 pvs) : ∃ v : List LJoinorderSelectivity, pvs = [.list 63 (v.map encJoinorderSelectivity)] := by
  cases n with
  | zero => simp [Sh] at h
  | succ n =>
    simp only [Sh, Tryz.underlying53] at h
    obtain ⟨rows, rfl, hr⟩ := h
    obtain ⟨xs, rfl⟩ := rowsOf (f := encJoinorderSelectivity) (fun r hq => sh63 (hr r hq))
    exact ⟨xs, rfl⟩

theorem sh55 {n : Nat} {pvs : List PV} (h : Sh Tryz.prog n 55 pvs) : ∃ v : LJoinorderGraph, pvs = encJoinorderGraph v := by
  cases n with
  | zero => simp [Sh] at h
  | succ n =>
    simp only [Sh, Tryz.underlying55, List.map_cons, List.map_nil, ShEach] at h
    obtain ⟨p0, r0, rfl, h0, p1, r1, rfl, h1, rfl⟩ := h
    obtain ⟨v0, rfl⟩ := sh38 h0
    obtain ⟨v1, rfl⟩ := sh53 h1
    exact ⟨LJoinorderGraph.mk v0 v1, rfl⟩

theorem law_args : ∀ args, ArgsSh Tryz.prog Tryz.f6.params.toList args → PFun Tryz.prog 6 args (.val (.bool true)) := by
  intro args h
  rw [Tryz.params6] at h
  simp only [ArgsSh] at h
  obtain ⟨n0, p0, r0, rfl, h0, rfl⟩ := h
  obtain ⟨v0, rfl⟩ := sh55 h0
  have e0 : argPV Tryz.prog 55 (encJoinorderGraph v0) = .agg (encJoinorderGraph v0) := by simp only [argPV, Tryz.underlying55]
  rw [e0]
  exact W_stemkeep3_JoinOrderLeftDeepCostsAtLeastAsMuch v0 true (joinOrder_law v0)

set_option maxRecDepth 20000 in
theorem g_bru : Tryz.prog.globalNamed "math/bits.deBruijn64tab" = some 1 := by kernel_rfl
theorem gl_of {W : World} (hL : laidMet Tryz.prog Rows.joinOrderLeftDeepCostsAtLeastAsMuchRow.laid W) : Gl W [] := by
  have h0 : laidMet Tryz.prog Rows.joinOrderLeftDeepCostsAtLeastAsMuchRow.laid W := hL
  have hp : Lib.TabIs Tryz.prog W "math/bits.deBruijn64tab" .u8 tab64 :=
    Lib.tabIs_of_head (t := 242) (e := 5) (n := 64) (g := 1) (by kernel_rfl) (by kernel_rfl) Tryz.underlying242 Tryz.underlying5 (by kernel_rfl) (by kernel_rfl) h0.tail
  have ht : ∃ t fz, W.heap[1]? = some (.cells (tab64.map fun v => Value.int .u8 v).toArray t fz) := by
    simp only [Lib.TabIs, World.var?, g_bru, Option.bind_some] at hp
    split at hp
    · rename_i cs t fz hc
      exact ⟨t, fz, by rw [hc, Option.some.inj hp]⟩
    · cases hp
  refine ⟨⟨?_, ?_, ?_⟩, ?_⟩
  · intro b hb; simp [glI] at hb
  · intro x hx
    simp only [glT, List.mem_singleton] at hx
    subst hx
    exact ht
  · intro b hb; simp [glN] at hb
  · intro b hb
    refine ⟨?_, by simp⟩
    simp only [glB, glI, glT, glN, List.map_cons, List.map_nil, List.nil_append, List.append_nil, List.mem_cons, List.mem_nil_iff, or_false] at hb
    obtain ⟨t, fz, ht⟩ := ht
    subst hb
    exact (Array.getElem?_eq_some_iff.1 ht).1

set_option maxRecDepth 100000 in
theorem law_lifted (os : Os) (started : os.Started) (H : Type) (enc : TypeId × Value → H) (F : Stop.Interp) :
    ReturnsInHanded {} Tryz.checked os 6 .any ((OpenSpec.ofChange Rows.joinOrderLeftDeepCostsAtLeastAsMuchSpec).preRow enc Tryz.prog Tryz.f6 Rows.joinOrderLeftDeepCostsAtLeastAsMuchRow.domain false Rows.joinOrderLeftDeepCostsAtLeastAsMuchRow.laid) (((OpenSpec.ofChange Rows.joinOrderLeftDeepCostsAtLeastAsMuchSpec).at F).post enc Tryz.prog Tryz.f6 false true false false) := by
  obtain ⟨places, hx⟩ := law_reads os enc
  refine returnsInHanded_of_row (C := Tryz.checked) (s := OpenSpec.ofChange Rows.joinOrderLeftDeepCostsAtLeastAsMuchSpec) own_knob started (by kernel_rfl) Tryz.func6
    (witness_row_at (enc := enc) (C := Tryz.checked) false (laidWorld os) #[.agg #[.slice none 0 0, .slice none 0 0]] rfl (by kernel_rfl) (by kernel_rfl) (by kernel_rfl)
      (OpenSpec.preRow_of_cond 8 hx (by kernel_rfl) (fun k hk => by cases hk) (by kernel_rfl) (laid_met os))) ?_
  intro W base args ds gs before hval hW _ _ hsz hL _ _
  refine law_calls (s := Rows.joinOrderLeftDeepCostsAtLeastAsMuchSpec) laid_out (tb := 4) rfl ?_ rfl Tryz.underlying4 ?_ lawTypes_ok lawTypes_info ?_ law_args hval hW (gl_of hL) hsz
  · rw [Tryz.params6]
    intro t ht
    simp only [List.mem_cons, List.mem_nil_iff, or_false] at ht
    rcases ht with rfl <;> exact ⟨by kernel_rfl, of_decide_eq_true (by kernel_rfl)⟩
  · intro ds hlen
    rw [Tryz.params6] at hlen
    match ds, hlen with
    | [d0], _ => rfl
  · rw [Tryz.params6]
    intro t ht
    simp only [List.mem_cons, List.mem_nil_iff, or_false] at ht
    rcases ht with rfl <;> simp [lawTypes]

theorem law_said : Rows.JoinOrderLeftDeepCostsAtLeastAsMuchSaid :=
  OpenClaim.holds_of_cond 6 Tryz.f6 rfl rfl rfl rfl rfl rfl rfl ⟨rfl, rfl, rfl, rfl, rfl⟩ rfl rfl rfl rfl rfl (by kernel_rfl) Tryz.func6 law_facts
    (of_decide_eq_true (by kernel_rfl)) (by unfold Func.isWrapper; first | (rw [if_pos (by decide +kernel)]; kernel_rfl) | (rw [if_neg (by decide +kernel)]; exact ⟨rfl, rfl⟩))
    (fun os started H enc _ F => by rw [OpenClaim.pre_eq_preRow]; exact law_lifted os started H enc F)

theorem law_plain (f : FuncId) (fn : Func) (hf : Tryz.pinned.checked.prog.funcNamed "stemma/stemkeep3.JoinOrderLeftDeepCostsAtLeastAsMuch" = some f) (hfn : Tryz.pinned.checked.prog.funcs[f]? = some fn) :
    true = Tryz.pinned.checked.prog.looks [] ∧ ∀ (j : Nat) t, fn.params[j]? = some t → Tryz.pinned.checked.prog.wantsStandIn t = false := by
  obtain rfl : f = 6 := Option.some.inj ((show Tryz.prog.funcNamed "stemma/stemkeep3.JoinOrderLeftDeepCostsAtLeastAsMuch" = some 6 by kernel_rfl).symm.trans hf) |>.symm
  obtain rfl : fn = Tryz.f6 := (Option.some.inj (Tryz.func6.symm.trans hfn)).symm
  refine ⟨by kernel_rfl, fun j t ht => ?_⟩
  have hall : (Tryz.f6.params.toList.all fun u => !Tryz.prog.wantsStandIn u) = true := by kernel_rfl
  have hm : t ∈ Tryz.f6.params.toList := by simpa using Array.mem_of_getElem? ht
  exact (show Tryz.prog.wantsStandIn t = false by simpa using List.all_eq_true.1 hall t hm)

/-- The card. -/
theorem joinOrderLeftDeepCostsAtLeastAsMuch_holds : Rows.JoinOrderLeftDeepCostsAtLeastAsMuchCardSaid :=
  Claim7.holds_tied_plain_at .later [] _ _ _ _ law_said (fun _ h => by cases h) (by kernel_rfl) (fun _ h => by cases h) joinOrderLeftDeepCostsAtLeastAsMuch_row_tie rfl ⟨rfl, rfl⟩ (by kernel_rfl) rfl law_plain (by kernel_rfl)
end Go.Proofs.YtjnpnakcmjndiaaGreatDoor
