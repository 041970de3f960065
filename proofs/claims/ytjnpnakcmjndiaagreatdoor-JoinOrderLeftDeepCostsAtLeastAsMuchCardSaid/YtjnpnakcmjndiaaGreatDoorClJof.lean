/- The facts of the row of JoinOrderLeftDeepCostsAtLeastAsMuch, and a world for its witness. -/
import Derived.Test.YtjnpnakcmjndiaaGreatDoorRows
import Derived.Test.YtjnpnakcmjndiaaGreatDoorChecked
import Derived.Test.YtjnpnakcmjndiaaGreatDoorMje
import Derived.Test.YtjnpnakcmjndiaaGreatDoorCards
import Derived.Test.YtjnpnakcmjndiaaGreatDoorTie
import Derived.WalkKit
import Derived.ProofKit
import Derived.OpenShut
import Derived.Deep.DeepHandedRow
import Derived.Lib.LaidTab
import Derived.Stop.LaidErr
namespace Go.Proofs.YtjnpnakcmjndiaaGreatDoor
open Go Go.Ab
set_option maxRecDepth 100000 in
theorem law_wf : (fun (P : Program) (f : FuncId) (fn : Func) (s : ChangeSpec) (c : OpenClaim) => (P.funcs.size, f, fn.params.size, s.name, c.func, c.wf (OpenSpec.ofChange s)).2.2.2.2.2) Tryz.prog 6 Tryz.f6 (OpenSpec.ofChange Rows.joinOrderLeftDeepCostsAtLeastAsMuchSpec).bare Rows.joinOrderLeftDeepCostsAtLeastAsMuchRow = true := by kernel_rfl
set_option maxRecDepth 100000 in
theorem law_laid : (fun (P : Program) (f : FuncId) (fn : Func) (s : ChangeSpec) (c : OpenClaim) => (P.funcs.size, f, fn.params.size, s.name, c.func, laidOutB P).2.2.2.2.2) Tryz.prog 6 Tryz.f6 (OpenSpec.ofChange Rows.joinOrderLeftDeepCostsAtLeastAsMuchSpec).bare Rows.joinOrderLeftDeepCostsAtLeastAsMuchRow = true := by kernel_rfl
set_option maxRecDepth 100000 in
theorem law_mapsRowed : (fun (P : Program) (f : FuncId) (fn : Func) (s : ChangeSpec) (c : OpenClaim) => (P.funcs.size, f, fn.params.size, s.name, c.func, mapsRowed P).2.2.2.2.2) Tryz.prog 6 Tryz.f6 (OpenSpec.ofChange Rows.joinOrderLeftDeepCostsAtLeastAsMuchSpec).bare Rows.joinOrderLeftDeepCostsAtLeastAsMuchRow = true := by kernel_rfl
set_option maxRecDepth 100000 in
theorem law_rr : (fun (P : Program) (f : FuncId) (fn : Func) (s : ChangeSpec) (c : OpenClaim) => (P.funcs.size, f, fn.params.size, s.name, c.func, fn.params.all (P.readableRec ·)).2.2.2.2.2) Tryz.prog 6 Tryz.f6 (OpenSpec.ofChange Rows.joinOrderLeftDeepCostsAtLeastAsMuchSpec).bare Rows.joinOrderLeftDeepCostsAtLeastAsMuchRow = true := by kernel_rfl
set_option maxRecDepth 100000 in
theorem law_nt : (fun (P : Program) (f : FuncId) (fn : Func) (s : ChangeSpec) (c : OpenClaim) => (P.funcs.size, f, fn.params.size, s.name, c.func, namedTie P c.named s.vars).2.2.2.2.2) Tryz.prog 6 Tryz.f6 (OpenSpec.ofChange Rows.joinOrderLeftDeepCostsAtLeastAsMuchSpec).bare Rows.joinOrderLeftDeepCostsAtLeastAsMuchRow = true := by kernel_rfl
set_option maxRecDepth 100000 in
theorem law_st : (fun (P : Program) (f : FuncId) (fn : Func) (s : ChangeSpec) (c : OpenClaim) => (P.funcs.size, f, fn.params.size, s.name, c.func, (c.stops == []) && (P.stops == []) && (c.knobs == []) && (P.stopKnobs == [])).2.2.2.2.2) Tryz.prog 6 Tryz.f6 (OpenSpec.ofChange Rows.joinOrderLeftDeepCostsAtLeastAsMuchSpec).bare Rows.joinOrderLeftDeepCostsAtLeastAsMuchRow = true := by kernel_rfl
set_option maxRecDepth 100000 in
theorem law_inPlace : (fun (P : Program) (f : FuncId) (fn : Func) (s : ChangeSpec) (c : OpenClaim) => (P.funcs.size, f, fn.params.size, s.name, c.func, c.inPlace == P.inPlace f).2.2.2.2.2) Tryz.prog 6 Tryz.f6 (OpenSpec.ofChange Rows.joinOrderLeftDeepCostsAtLeastAsMuchSpec).bare Rows.joinOrderLeftDeepCostsAtLeastAsMuchRow = true := by kernel_rfl
set_option maxRecDepth 100000 in
theorem law_unf : (fun (P : Program) (f : FuncId) (fn : Func) (s : ChangeSpec) (c : OpenClaim) => (P.funcs.size, f, fn.params.size, s.name, c.func, c.unfollowed == P.unfollowed f).2.2.2.2.2) Tryz.prog 6 Tryz.f6 (OpenSpec.ofChange Rows.joinOrderLeftDeepCostsAtLeastAsMuchSpec).bare Rows.joinOrderLeftDeepCostsAtLeastAsMuchRow = true := by kernel_rfl
set_option maxRecDepth 100000 in
theorem law_rec : (fun (P : Program) (f : FuncId) (fn : Func) (s : ChangeSpec) (c : OpenClaim) => (P.funcs.size, f, fn.params.size, s.name, c.func, c.recurses == P.recurses f).2.2.2.2.2) Tryz.prog 6 Tryz.f6 (OpenSpec.ofChange Rows.joinOrderLeftDeepCostsAtLeastAsMuchSpec).bare Rows.joinOrderLeftDeepCostsAtLeastAsMuchRow = true := by kernel_rfl
set_option maxRecDepth 100000 in
theorem law_named : (fun (P : Program) (f : FuncId) (fn : Func) (s : ChangeSpec) (c : OpenClaim) => (P.funcs.size, f, fn.params.size, s.name, c.func, c.named == P.varsNamed f).2.2.2.2.2) Tryz.prog 6 Tryz.f6 (OpenSpec.ofChange Rows.joinOrderLeftDeepCostsAtLeastAsMuchSpec).bare Rows.joinOrderLeftDeepCostsAtLeastAsMuchRow = true := by kernel_rfl
set_option maxRecDepth 100000 in
theorem law_maps : (fun (P : Program) (f : FuncId) (fn : Func) (s : ChangeSpec) (c : OpenClaim) => (P.funcs.size, f, fn.params.size, s.name, c.func, (c.maps == (fn.params.toList ++ s.plain.varTypes P).any (P.mapsRec ·)) && (c.ifaces == (fn.params.toList ++ s.plain.varTypes P).any (P.ifacesRec ·)) && (c.mapsOut == P.mapsAmong fn.resultTypes.toList)).2.2.2.2.2) Tryz.prog 6 Tryz.f6 (OpenSpec.ofChange Rows.joinOrderLeftDeepCostsAtLeastAsMuchSpec).bare Rows.joinOrderLeftDeepCostsAtLeastAsMuchRow = true := by kernel_rfl
set_option maxRecDepth 100000 in
theorem law_loops : (fun (P : Program) (f : FuncId) (fn : Func) (s : ChangeSpec) (c : OpenClaim) => (P.funcs.size, f, fn.params.size, s.name, c.func, (c.loops == (fn.params.toList ++ s.plain.varTypes P).any (P.loopsFrom ·))).2.2.2.2.2) Tryz.prog 6 Tryz.f6 (OpenSpec.ofChange Rows.joinOrderLeftDeepCostsAtLeastAsMuchSpec).bare Rows.joinOrderLeftDeepCostsAtLeastAsMuchRow = true := by kernel_rfl
set_option maxRecDepth 100000 in
theorem law_wide : (fun (P : Program) (f : FuncId) (fn : Func) (s : ChangeSpec) (c : OpenClaim) => (P.funcs.size, f, fn.params.size, s.name, c.func, (c.wideKeys == (fn.params.toList ++ s.plain.varTypes P ++ fn.resultTypes.toList).any (P.wideKeysFrom ·))).2.2.2.2.2) Tryz.prog 6 Tryz.f6 (OpenSpec.ofChange Rows.joinOrderLeftDeepCostsAtLeastAsMuchSpec).bare Rows.joinOrderLeftDeepCostsAtLeastAsMuchRow = true := by kernel_rfl
set_option maxRecDepth 100000 in
theorem law_rest1 : (fun (P : Program) (f : FuncId) (fn : Func) (s : ChangeSpec) (c : OpenClaim) => (P.funcs.size, f, fn.params.size, s.name, c.func, s.vars.all (P.varReadable ·) && fn.resultTypes.all (fun t => P.readableRec t && decide (t < P.types.size)) && (c.ifacesOut == fn.resultTypes.toList.any (P.ifacesRec ·)) && (c.loopsOut == fn.resultTypes.toList.any (P.loopsFrom ·))).2.2.2.2.2) Tryz.prog 6 Tryz.f6 (OpenSpec.ofChange Rows.joinOrderLeftDeepCostsAtLeastAsMuchSpec).bare Rows.joinOrderLeftDeepCostsAtLeastAsMuchRow = true := by kernel_rfl
set_option maxRecDepth 100000 in
theorem law_plainKeys : (fun (P : Program) (f : FuncId) (fn : Func) (s : ChangeSpec) (c : OpenClaim) => (P.funcs.size, f, fn.params.size, s.name, c.func, c.plainKeys == P.plainKeys).2.2.2.2.2) Tryz.prog 6 Tryz.f6 (OpenSpec.ofChange Rows.joinOrderLeftDeepCostsAtLeastAsMuchSpec).bare Rows.joinOrderLeftDeepCostsAtLeastAsMuchRow = true := by kernel_rfl
set_option maxRecDepth 100000 in
theorem law_rest2 : (fun (P : Program) (f : FuncId) (fn : Func) (s : ChangeSpec) (c : OpenClaim) => (P.funcs.size, f, fn.params.size, s.name, c.func, c.shortTexts.isNone && P.stopsHeard && P.mayEnter && (c.lifted == P.liftsFinal) && (P.make == some c.make)).2.2.2.2.2) Tryz.prog 6 Tryz.f6 (OpenSpec.ofChange Rows.joinOrderLeftDeepCostsAtLeastAsMuchSpec).bare Rows.joinOrderLeftDeepCostsAtLeastAsMuchRow = true := by kernel_rfl
set_option maxRecDepth 100000 in
theorem law_kinds : (fun (P : Program) (f : FuncId) (fn : Func) (s : ChangeSpec) (c : OpenClaim) => (P.funcs.size, f, fn.params.size, s.name, c.func, (c.kinds == (if c.domain.isEmpty then [] else fn.params.toList.map fun t => match P.underlying t with | some (.int k) => some k | _ => none)) && (c.pinned == c.pinnedBy)).2.2.2.2.2) Tryz.prog 6 Tryz.f6 (OpenSpec.ofChange Rows.joinOrderLeftDeepCostsAtLeastAsMuchSpec).bare Rows.joinOrderLeftDeepCostsAtLeastAsMuchRow = true := by kernel_rfl
set_option maxRecDepth 100000 in
theorem law_veil : (fun (P : Program) (f : FuncId) (fn : Func) (s : ChangeSpec) (c : OpenClaim) => (P.funcs.size, f, fn.params.size, s.name, c.func, (c.veiled == (fn.params.toList ++ s.plain.varTypes P ++ fn.resultTypes.toList).any (P.veiledRec ·)) && c.veiledFits P fn.params.toList (fn.params.toList ++ s.plain.varTypes P ++ fn.resultTypes.toList)).2.2.2.2.2) Tryz.prog 6 Tryz.f6 (OpenSpec.ofChange Rows.joinOrderLeftDeepCostsAtLeastAsMuchSpec).bare Rows.joinOrderLeftDeepCostsAtLeastAsMuchRow = true := by kernel_rfl
set_option maxRecDepth 100000 in
theorem law_facts : joinedFacts Tryz.prog 6 Tryz.f6 (OpenSpec.ofChange Rows.joinOrderLeftDeepCostsAtLeastAsMuchSpec).bare Rows.joinOrderLeftDeepCostsAtLeastAsMuchRow = true := joined_of law_wf law_laid law_mapsRowed law_rr law_nt law_st law_inPlace law_unf law_rec law_named law_maps law_loops law_wide law_rest1 law_plainKeys law_rest2 law_kinds law_veil

/-! A world for the witness. -/
def putVar (h : Array Go.Obj) (g : Nat) (cs : Array Value) : Array Go.Obj := h.modify g fun
  | .cells _ t fz => .cells cs t fz
  | o => o
noncomputable def lowBlk : Nat := (World.holding Tryz.prog default ⟨#[], #[], []⟩).heap.size
noncomputable def laidWorld (os : Os) : World :=
  let w0 := World.holding Tryz.prog os ⟨#[.cells #[.string ⟨#[118, 97, 108, 117, 101, 32, 111, 117, 116, 32, 111, 102, 32, 114, 97, 110, 103, 101]⟩] 373, .cells #[.string ⟨#[105, 110, 118, 97, 108, 105, 100, 32, 115, 121, 110, 116, 97, 120]⟩] 373], #[], []⟩
  { w0 with heap := (putVar (putVar (putVar (putVar (putVar w0.heap 0 #[.int .u8 0, .int .u8 1, .int .u8 28, .int .u8 2, .int .u8 29, .int .u8 14, .int .u8 24, .int .u8 3, .int .u8 30, .int .u8 22, .int .u8 20, .int .u8 15, .int .u8 25, .int .u8 17, .int .u8 4, .int .u8 8, .int .u8 31, .int .u8 27, .int .u8 13, .int .u8 23, .int .u8 21, .int .u8 19, .int .u8 16, .int .u8 7, .int .u8 26, .int .u8 12, .int .u8 18, .int .u8 6, .int .u8 11, .int .u8 5, .int .u8 10, .int .u8 9]) 1 #[.int .u8 0, .int .u8 1, .int .u8 56, .int .u8 2, .int .u8 57, .int .u8 49, .int .u8 28, .int .u8 3, .int .u8 61, .int .u8 58, .int .u8 42, .int .u8 50, .int .u8 38, .int .u8 29, .int .u8 17, .int .u8 4, .int .u8 62, .int .u8 47, .int .u8 59, .int .u8 36, .int .u8 45, .int .u8 43, .int .u8 51, .int .u8 22, .int .u8 53, .int .u8 39, .int .u8 33, .int .u8 30, .int .u8 24, .int .u8 18, .int .u8 12, .int .u8 5, .int .u8 63, .int .u8 55, .int .u8 48, .int .u8 27, .int .u8 60, .int .u8 41, .int .u8 37, .int .u8 16, .int .u8 46, .int .u8 35, .int .u8 44, .int .u8 21, .int .u8 52, .int .u8 32, .int .u8 23, .int .u8 11, .int .u8 54, .int .u8 26, .int .u8 40, .int .u8 15, .int .u8 34, .int .u8 20, .int .u8 31, .int .u8 10, .int .u8 25, .int .u8 14, .int .u8 19, .int .u8 9, .int .u8 13, .int .u8 8, .int .u8 7, .int .u8 6]) 2 #[.int .u64 1, .int .u64 10, .int .u64 100, .int .u64 1000, .int .u64 10000, .int .u64 100000, .int .u64 1000000, .int .u64 10000000, .int .u64 100000000, .int .u64 1000000000, .int .u64 10000000000, .int .u64 100000000000, .int .u64 1000000000000, .int .u64 10000000000000, .int .u64 100000000000000, .int .u64 1000000000000000, .int .u64 10000000000000000, .int .u64 100000000000000000, .int .u64 1000000000000000000, .int .u64 10000000000000000000]) 5 #[.iface 371 (.pointer (some ⟨lowBlk, 0, none⟩))]) 4 #[.iface 371 (.pointer (some ⟨lowBlk + 1, 0, none⟩))]) }
set_option maxRecDepth 100000 in
theorem laid_met (os : Os) : laidMet Tryz.prog Rows.joinOrderLeftDeepCostsAtLeastAsMuchRow.laid ((laidWorld os).forCall (fun _ _ => 0) ⟨#[], #[.agg #[.slice none 0 0, .slice none 0 0]], []⟩).memory :=
  laidMet_of_run' 8 (by kernel_rfl) (by kernel_rfl)
theorem law_reads (os : Os) {H : Type} (enc : TypeId × Value → H) : ∃ places, DataW.whole enc Tryz.prog ((laidWorld os).forCall (fun _ _ => 0) ⟨#[], #[.agg #[.slice none 0 0, .slice none 0 0]], []⟩).memory Tryz.f6.params.toList (OpenSpec.ofChange Rows.joinOrderLeftDeepCostsAtLeastAsMuchSpec).vars false (#[.agg #[.slice none 0 0, .slice none 0 0]] : Array Value).toList 8 = some ([.agg [.nil, .nil]], [], places) :=
  ⟨[], by kernel_rfl⟩

end Go.Proofs.YtjnpnakcmjndiaaGreatDoor
