/- The claim: the law LexerQuoteRoundTrip holds of every input; its listed variables are tied to the program's text. -/
import Derived.Test.YtohlpijmiokkjaaDoorCards
import Derived.Test.YtohlpijmiokkjaaDoorTie
import Derived.Test.YtohlpijmiokkjaaDoorAbU
import Derived.Test.YtohlpijmiokkjaaDoorNwD
import Derived.WalkKit
import Derived.ProofKit
import Derived.OpenShut
import Derived.Deep.DeepHandedRow
import Derived.Lib.LaidTab
import Derived.Stop.LaidErr
namespace Go.Proofs.YtohlpijmiokkjaaDoor
open Go Go.Ab

theorem own_knob : ownKnob Tryd.prog.godebug = none := by kernel_rfl
theorem laid_out : laidOutB Tryd.prog = true := by kernel_rfl
def lawTypes : List TypeId := [9]
theorem lawTypes_ok : lawTypes.all (okT Tryd.prog lawTypes) = true := by kernel_rfl
theorem lawTypes_info : ∀ t ∈ lawTypes, ∃ i, Tryd.prog.info? t = some i ∧ i.bytes = Tryd.prog.bytesOf t ∧ i.size = Tryd.prog.cellsOf t := by
  intro t ht
  simp only [lawTypes, List.mem_cons, List.mem_nil_iff, or_false] at ht
  rcases ht with rfl <;> exact ⟨_, rfl, rfl, rfl⟩

theorem sh9 {n : Nat} {pvs : List PV} (h : Sh Tryd.prog n 9 pvs) : ∃ v : List UInt8, pvs = [.str v] ∧ v.length ≤ 2 ^ 47 := by
  cases n with
  | zero => simp [Sh] at h
  | succ n => simp only [Sh, Tryd.underlying9] at h; obtain ⟨m, rfl, hm⟩ := h; exact ⟨m, rfl, hm⟩

theorem law_args : ∀ args, ArgsSh Tryd.prog Tryd.f4.params.toList args → PFun Tryd.prog 4 args (.val (.bool true)) := by
  intro args h
  rw [Tryd.params4] at h
  simp only [ArgsSh] at h
  obtain ⟨n0, p0, r0, rfl, h0, rfl⟩ := h
  obtain ⟨v0, rfl, hv0⟩ := sh9 h0
  have key := W_stemkeep3_LexerQuoteRoundTrip v0 true (quote_law v0)
  have e0 : argPV Tryd.prog 9 [.str v0] = .str v0 := by simp only [argPV, Tryd.underlying9]; rfl
  rw [e0]
  exact key

/-! What the listed variables give. -/
theorem star_name : "*" ++ "errors.errorString" = "*errors.errorString" := by decide
theorem row100 (u : TypeId) (h : Tryd.prog.typeName? 3 u = some "*errors.errorString") : u = 100 :=
  typeName_ptr_named (nm := "errors.errorString") (by rw [star_name]; kernel_rfl) (by kernel_rfl) (by decide) u (by rw [star_name]; exact h)
theorem gl_of {W : World} (hL : laidMet Tryd.prog Rows.lexerQuoteRoundTripRow.laid W) (hs : W.ShapedOpen Tryd.prog) : Gl W [] := by
  have h0 : laidMet Tryd.prog Rows.lexerQuoteRoundTripRow.laid W := hL
  have hp : Lib.TabIs Tryd.prog W "internal/strconv.uint64pow10" .u64 Lib.pow10Tab :=
    Lib.tabIs_of_head (t := 86) (e := 68) (n := 20) (g := 3) (by kernel_rfl) (by kernel_rfl) Tryd.underlying86 Tryd.underlying68 (by kernel_rfl) (by kernel_rfl) h0.tail.tail
  obtain ⟨a1, s1, hr, _⟩ := laid_sentinel (g := 5) (ti := 45) (tp := 100) (te := 102) (ts := 9) h0.tail.tail.tail.tail (by kernel_rfl) (by kernel_rfl) Tryd.underlying45 row100 Tryd.underlying100 Tryd.underlying102 rfl rfl Tryd.underlying9 (by kernel_rfl) (by kernel_rfl)
  obtain ⟨a2, s2, hy, _⟩ := laid_sentinel (g := 4) (ti := 45) (tp := 100) (te := 102) (ts := 9) h0.tail.tail.tail.tail.tail (by kernel_rfl) (by kernel_rfl) Tryd.underlying45 row100 Tryd.underlying100 Tryd.underlying102 rfl rfl Tryd.underlying9 (by kernel_rfl) (by kernel_rfl)
  have cr : W.cell? ⟨5, 0, none⟩ = some (.iface 100 (.pointer (some a1))) := by simpa using World.var?_cell (g := 5) (by kernel_rfl) hr 0
  have cy : W.cell? ⟨4, 0, none⟩ = some (.iface 100 (.pointer (some a2))) := by simpa using World.var?_cell (g := 4) (by kernel_rfl) hy 0
  obtain ⟨m, cm⟩ := Tryd.laysM155.s1_3 W hs
  have cm' : W.cell? ⟨0, 0, none⟩ = some (.int .i64 m) := cm
  have ht : ∃ t fz, W.heap[3]? = some (.cells (Lib.pow10Tab.map fun v => Value.int .u64 v).toArray t fz) := by
    simp only [Lib.TabIs, World.var?, g_pow, Option.bind_some] at hp
    split at hp
    · rename_i cs t fz hc
      exact ⟨t, fz, by rw [hc, Option.some.inj hp]⟩
    · cases hp
  refine ⟨⟨?_, ?_, ?_⟩, ?_⟩
  · intro b hb
    simp only [glI, List.mem_cons, List.mem_nil_iff, or_false] at hb
    rcases hb with rfl | rfl
    · exact ⟨_, _, cy⟩
    · exact ⟨_, _, cr⟩
  · intro x hx
    simp only [glT, List.mem_singleton] at hx
    subst hx
    exact ht
  · intro b hb
    simp only [glN, List.mem_singleton] at hb
    subst hb
    exact ⟨m, cm'⟩
  · intro b hb
    refine ⟨?_, by simp⟩
    simp only [glB, glI, glT, glN, List.map_cons, List.map_nil, List.cons_append, List.nil_append, List.mem_cons, List.mem_nil_iff, or_false] at hb
    obtain ⟨t, fz, ht⟩ := ht
    rcases hb with rfl | rfl | rfl | rfl
    · exact Lib.lt_of_cell cy
    · exact Lib.lt_of_cell cr
    · exact (Array.getElem?_eq_some_iff.1 ht).1
    · exact Lib.lt_of_cell cm'

/-! A world for the witness. -/
def putVar (h : Array Go.Obj) (g : Nat) (cs : Array Value) : Array Go.Obj := h.modify g fun
  | .cells _ t fz => .cells cs t fz
  | o => o
/-- The table's cells, as the pinned constant has them. -/
def utf8FirstCells : Array Value := match (Go.Pinned.utf8First : DataW Unit) with
  | .agg l => (l.filterMap fun d => match d with | .lit (.int k n) => some (Value.int k n) | _ => none).toArray
  | _ => #[]
noncomputable def lowBlk : Nat := (World.holding Tryd.prog default ⟨#[], #[], []⟩).heap.size
noncomputable def laidWorld (os : Os) : World :=
  let w0 := World.holding Tryd.prog os ⟨#[.cells #[.string ⟨#[118, 97, 108, 117, 101, 32, 111, 117, 116, 32, 111, 102, 32, 114, 97, 110, 103, 101]⟩] 102, .cells #[.string ⟨#[105, 110, 118, 97, 108, 105, 100, 32, 115, 121, 110, 116, 97, 120]⟩] 102], #[], []⟩
  { w0 with heap := (putVar (putVar (putVar (putVar (putVar (putVar (putVar w0.heap 6 #[.int .u8 0, .int .u8 1, .int .u8 28, .int .u8 2, .int .u8 29, .int .u8 14, .int .u8 24, .int .u8 3, .int .u8 30, .int .u8 22, .int .u8 20, .int .u8 15, .int .u8 25, .int .u8 17, .int .u8 4, .int .u8 8, .int .u8 31, .int .u8 27, .int .u8 13, .int .u8 23, .int .u8 21, .int .u8 19, .int .u8 16, .int .u8 7, .int .u8 26, .int .u8 12, .int .u8 18, .int .u8 6, .int .u8 11, .int .u8 5, .int .u8 10, .int .u8 9]) 7 #[.int .u8 0, .int .u8 1, .int .u8 56, .int .u8 2, .int .u8 57, .int .u8 49, .int .u8 28, .int .u8 3, .int .u8 61, .int .u8 58, .int .u8 42, .int .u8 50, .int .u8 38, .int .u8 29, .int .u8 17, .int .u8 4, .int .u8 62, .int .u8 47, .int .u8 59, .int .u8 36, .int .u8 45, .int .u8 43, .int .u8 51, .int .u8 22, .int .u8 53, .int .u8 39, .int .u8 33, .int .u8 30, .int .u8 24, .int .u8 18, .int .u8 12, .int .u8 5, .int .u8 63, .int .u8 55, .int .u8 48, .int .u8 27, .int .u8 60, .int .u8 41, .int .u8 37, .int .u8 16, .int .u8 46, .int .u8 35, .int .u8 44, .int .u8 21, .int .u8 52, .int .u8 32, .int .u8 23, .int .u8 11, .int .u8 54, .int .u8 26, .int .u8 40, .int .u8 15, .int .u8 34, .int .u8 20, .int .u8 31, .int .u8 10, .int .u8 25, .int .u8 14, .int .u8 19, .int .u8 9, .int .u8 13, .int .u8 8, .int .u8 7, .int .u8 6]) 3 #[.int .u64 1, .int .u64 10, .int .u64 100, .int .u64 1000, .int .u64 10000, .int .u64 100000, .int .u64 1000000, .int .u64 10000000, .int .u64 100000000, .int .u64 1000000000, .int .u64 10000000000, .int .u64 100000000000, .int .u64 1000000000000, .int .u64 10000000000000, .int .u64 100000000000000, .int .u64 1000000000000000, .int .u64 10000000000000000, .int .u64 100000000000000000, .int .u64 1000000000000000000, .int .u64 10000000000000000000]) 2 #[.int .u8 128, .int .u8 191, .int .u8 160, .int .u8 191, .int .u8 128, .int .u8 159, .int .u8 144, .int .u8 191, .int .u8 128, .int .u8 143, .int .u8 0, .int .u8 0, .int .u8 0, .int .u8 0, .int .u8 0, .int .u8 0, .int .u8 0, .int .u8 0, .int .u8 0, .int .u8 0, .int .u8 0, .int .u8 0, .int .u8 0, .int .u8 0, .int .u8 0, .int .u8 0, .int .u8 0, .int .u8 0, .int .u8 0, .int .u8 0, .int .u8 0, .int .u8 0]) 5 #[.iface 100 (.pointer (some ⟨lowBlk, 0, none⟩))]) 4 #[.iface 100 (.pointer (some ⟨lowBlk + 1, 0, none⟩))]) 1 (utf8FirstCells)) }
set_option maxRecDepth 100000 in
theorem laid_met (os : Os) : laidMet Tryd.prog Rows.lexerQuoteRoundTripRow.laid ((laidWorld os).forCall (fun _ _ => 0) ⟨#[], #[.string ⟨#[]⟩], []⟩).memory :=
  laidMet_of_run' 8 (by kernel_rfl) (by kernel_rfl)
theorem law_reads (os : Os) {H : Type} (enc : TypeId × Value → H) : ∃ places, DataW.whole enc Tryd.prog ((laidWorld os).forCall (fun _ _ => 0) ⟨#[], #[.string ⟨#[]⟩], []⟩).memory Tryd.f4.params.toList Rows.lexerQuoteRoundTripSpec.vars false #[Value.string ⟨#[]⟩].toList 8 = some ([.lit (.string [])], [], places) :=
  ⟨[], by kernel_rfl⟩

set_option maxRecDepth 100000 in
theorem law_lifted (os : Os) (started : os.Started) (H : Type) (enc : TypeId × Value → H) (F : Stop.Interp) :
    ReturnsInHanded {} Tryd.checked os 4 .any ((OpenSpec.ofChange Rows.lexerQuoteRoundTripSpec).preRow enc Tryd.prog Tryd.f4 Rows.lexerQuoteRoundTripRow.domain false Rows.lexerQuoteRoundTripRow.laid) (((OpenSpec.ofChange Rows.lexerQuoteRoundTripSpec).at F).post enc Tryd.prog Tryd.f4 false true false false) := by
  obtain ⟨places, hx⟩ := law_reads os enc
  refine returnsInHanded_of_row (C := Tryd.checked) (s := OpenSpec.ofChange Rows.lexerQuoteRoundTripSpec) own_knob started (by kernel_rfl) Tryd.func4
    (witness_row_at (enc := enc) (C := Tryd.checked) false (laidWorld os) #[.string ⟨#[]⟩] rfl (by kernel_rfl) (by kernel_rfl) (by kernel_rfl)
      (OpenSpec.preRow_of_cond 8 hx (by kernel_rfl) (fun k hk => by cases hk) (by kernel_rfl) (laid_met os))) ?_
  intro W base args ds gs before hval hW _ _ hsz hL hsh _
  refine law_calls (s := Rows.lexerQuoteRoundTripSpec) laid_out (tb := 4) rfl ?_ rfl Tryd.underlying4 ?_ lawTypes_ok lawTypes_info ?_ law_args hval hW (gl_of hL hsh) hsz
  · rw [Tryd.params4]
    intro t ht
    simp only [List.mem_cons, List.mem_nil_iff, or_false] at ht
    rcases ht with rfl <;> exact ⟨by kernel_rfl, of_decide_eq_true (by kernel_rfl)⟩
  · intro ds hlen
    rw [Tryd.params4] at hlen
    match ds, hlen with
    | [d0], _ => rfl
  · rw [Tryd.params4]
    intro t ht
    simp only [List.mem_cons, List.mem_nil_iff, or_false] at ht
    rcases ht with rfl <;> simp [lawTypes]

theorem law_said : Rows.LexerQuoteRoundTripSaid :=
  OpenClaim.holds_of_cond 4 Tryd.f4 rfl rfl rfl rfl rfl rfl rfl ⟨rfl, rfl, rfl, rfl, rfl⟩ rfl rfl rfl rfl rfl (by kernel_rfl) Tryd.func4 (by kernel_rfl)
    (of_decide_eq_true (by kernel_rfl)) (by unfold Func.isWrapper; first | (rw [if_pos (by decide +kernel)]; kernel_rfl) | (rw [if_neg (by decide +kernel)]; exact ⟨rfl, rfl⟩))
    (fun os started H enc _ F => by rw [OpenClaim.pre_eq_preRow]; exact law_lifted os started H enc F)

theorem law_plain (f : FuncId) (fn : Func) (hf : Tryd.pinned.checked.prog.funcNamed "stemma/stemkeep3.LexerQuoteRoundTrip" = some f) (hfn : Tryd.pinned.checked.prog.funcs[f]? = some fn) :
    true = Tryd.pinned.checked.prog.looks [] ∧ ∀ (j : Nat) t, fn.params[j]? = some t → Tryd.pinned.checked.prog.wantsStandIn t = false := by
  obtain rfl : f = 4 := Option.some.inj ((show Tryd.prog.funcNamed "stemma/stemkeep3.LexerQuoteRoundTrip" = some 4 by kernel_rfl).symm.trans hf) |>.symm
  obtain rfl : fn = Tryd.f4 := (Option.some.inj (Tryd.func4.symm.trans hfn)).symm
  refine ⟨by kernel_rfl, fun j t ht => ?_⟩
  rw [Tryd.params4] at ht
  obtain rfl : t = 9 := by simpa using Array.mem_of_getElem? ht
  exact (show Tryd.prog.wantsStandIn 9 = false by kernel_rfl)

/-- The card. -/
theorem lexerQuoteRoundTrip_holds : Rows.LexerQuoteRoundTripCardSaid :=
  Claim7.holds_tied_plain_at .later [] _ _ _ _ law_said (fun _ h => by cases h) (by kernel_rfl) (fun _ h => by cases h) lexerQuoteRoundTrip_row_tie rfl ⟨rfl, rfl⟩ (by kernel_rfl) rfl law_plain (by kernel_rfl)
end Go.Proofs.YtohlpijmiokkjaaDoor

