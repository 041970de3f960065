/- The claim: the law JoinMergeOrder holds of every input of bulk at most 1048576. -/
import Derived.Test.YtjnpnakcmjndiaaGreatDoorRows
import Derived.Test.YtjnpnakcmjndiaaGreatDoorMge
import Derived.Test.YtjnpnakcmjndiaaGreatDoorCards
import Derived.Test.YtjnpnakcmjndiaaGreatDoorTie
import Derived.Deep.CondSized
import Derived.WalkKit
import Derived.ProofKit
import Derived.OpenShut
import Derived.Deep.DeepHandedRow
import Derived.Lib.LaidTab
import Derived.Stop.LaidErr
import Derived.Test.YtjnpnakcmjndiaaGreatDoorMgu
namespace Go.Proofs.YtjnpnakcmjndiaaGreatDoor
open Go Go.Ab

theorem own_knob : ownKnob Tryz.prog.godebug = none := by kernel_rfl
theorem laid_out : laidOutB Tryz.prog = true := by kernel_rfl

def lawTypes : List TypeId := [37, 44, 47, 3, 9, 40, 38, 4]
theorem lawTypes_ok : lawTypes.all (okT Tryz.prog lawTypes) = true := by kernel_rfl
theorem lawTypes_info : ∀ t ∈ lawTypes, ∃ i, Tryz.prog.info? t = some i ∧ i.bytes = Tryz.prog.bytesOf t ∧ i.size = Tryz.prog.cellsOf t := infos_of (by kernel_rfl)

theorem sh3 {n : Nat} {pvs : List PV} (h : Sh Tryz.prog n 3 pvs) : ∃ v : Int, pvs = [pint v] := by
  cases n with
  | zero => simp [Sh] at h
  | succ n => simp only [Sh, Tryz.underlying3] at h; obtain ⟨m, rfl, _⟩ := h; exact ⟨m, rfl⟩

theorem sh9 {n : Nat} {pvs : List PV} (h : Sh Tryz.prog n 9 pvs) : ∃ v : List UInt8, pvs = [.str v] := by
  cases n with
  | zero => simp [Sh] at h
  | succ n => simp only [Sh, Tryz.underlying9] at h; obtain ⟨m, rfl, _⟩ := h; exact ⟨m, rfl⟩

theorem sh47 {n : Nat} {pvs : List PV} (h : Sh Tryz.prog n 47 pvs) : ∃ v : LVal, pvs = encVal v := by
  cases n with
  | zero => simp [Sh] at h
  | succ n =>
    simp only [Sh, Tryz.underlying47, List.map_cons, List.map_nil, ShEach] at h
    obtain ⟨p0, r0, rfl, h0, p1, r1, rfl, h1, p2, r2, rfl, h2, rfl⟩ := h
    obtain ⟨v0, rfl⟩ := sh3 h0
    obtain ⟨v1, rfl⟩ := sh3 h1
    obtain ⟨v2, rfl⟩ := sh9 h2
    exact ⟨LVal.mk v0 v1 v2, rfl⟩

theorem sh44 {n : Nat} {pvs : List PV} (h : Sh Tryz.prog n 44 pvs) : ∃ v : List LVal, pvs = [.list 47 (v.map encVal)] := by
  cases n with
  | zero => simp [Sh] at h
  | succ n =>
    simp only [Sh, Tryz.underlying44] at h
    obtain ⟨rows, rfl, hr⟩ := h
    obtain ⟨xs, rfl⟩ := rowsOf (f := encVal) (fun r hq => sh47 (hr r hq))
    exact ⟨xs, rfl⟩

theorem sh37 {n : Nat} {pvs : List PV} (h : Sh Tryz.prog n 37 pvs) : ∃ v : List (List LVal), pvs = [.list 44 (v.map (rList 47 encVal))] := by
  cases n with
  | zero => simp [Sh] at h
  | succ n =>
    simp only [Sh, Tryz.underlying37] at h
    obtain ⟨rows, rfl, hr⟩ := h
    obtain ⟨xs, rfl⟩ := rowsOf (f := (rList 47 encVal)) (fun r hq => let ⟨v, e⟩ := sh44 (hr r hq); ⟨v, e⟩)
    exact ⟨xs, rfl⟩

theorem sh38 {n : Nat} {pvs : List PV} (h : Sh Tryz.prog n 38 pvs) : ∃ v : List Int, pvs = [.list 3 (v.map rInt)] := by
  cases n with
  | zero => simp [Sh] at h
  | succ n =>
    simp only [Sh, Tryz.underlying38] at h
    obtain ⟨rows, rfl, hr⟩ := h
    obtain ⟨xs, rfl⟩ := rowsOf (f := rInt) (fun r hq => let ⟨v, e⟩ := sh3 (hr r hq); ⟨v, e⟩)
    exact ⟨xs, rfl⟩

theorem sh4 {n : Nat} {pvs : List PV} (h : Sh Tryz.prog n 4 pvs) : ∃ v : Bool, pvs = [pbool v] := by
  cases n with
  | zero => simp [Sh] at h
  | succ n => simp only [Sh, Tryz.underlying4] at h; obtain ⟨m, rfl⟩ := h; exact ⟨m, rfl⟩

theorem sh40 {n : Nat} {pvs : List PV} (h : Sh Tryz.prog n 40 pvs) : ∃ v : LJoinalgoCondition, pvs = encJoinalgoCondition v := by
  cases n with
  | zero => simp [Sh] at h
  | succ n =>
    simp only [Sh, Tryz.underlying40, List.map_cons, List.map_nil, ShEach] at h
    obtain ⟨p0, r0, rfl, h0, p1, r1, rfl, h1, p2, r2, rfl, h2, p3, r3, rfl, h3, rfl⟩ := h
    obtain ⟨v0, rfl⟩ := sh38 h0
    obtain ⟨v1, rfl⟩ := sh38 h1
    obtain ⟨v2, rfl⟩ := sh4 h2
    obtain ⟨v3, rfl⟩ := sh3 h3
    exact ⟨LJoinalgoCondition.mk v0 v1 v2 v3, rfl⟩

theorem law_args : ∀ args, ArgsSh Tryz.prog Tryz.f5.params.toList args → bulkAll args ≤ 1048576 → PFun Tryz.prog 5 args (.val (.bool true)) := by
  intro args h hN
  rw [Tryz.params5] at h
  simp only [ArgsSh] at h
  obtain ⟨n0, p0, r0, rfl, h0, n1, p1, r1, rfl, h1, n2, p2, r2, rfl, h2, rfl⟩ := h
  obtain ⟨v0, rfl⟩ := sh37 h0
  obtain ⟨v1, rfl⟩ := sh37 h1
  obtain ⟨v2, rfl⟩ := sh40 h2
  have e0 : argPV Tryz.prog 37 [.list 44 (v0.map (rList 47 encVal))] = .list 44 (v0.map (rList 47 encVal)) := by simp only [argPV, Tryz.underlying37]; rfl
  rw [e0] at hN ⊢
  have e1 : argPV Tryz.prog 37 [.list 44 (v1.map (rList 47 encVal))] = .list 44 (v1.map (rList 47 encVal)) := by simp only [argPV, Tryz.underlying37]; rfl
  rw [e1] at hN ⊢
  have e2 : argPV Tryz.prog 40 (encJoinalgoCondition v2) = .agg (encJoinalgoCondition v2) := by simp only [argPV, Tryz.underlying40]
  rw [e2] at hN ⊢
  simp only [bulkAll, PV.bulk] at hN
  simp only [encJoinalgoCondition, bulkAll, PV.bulk] at hN
  have hl2 := bulkRows_len (f := rInt) (k := 1) (fun x => by simp only [bulkAll, PV.bulk]; omega) v2.left
  have hr2 := bulkRows_len (f := rInt) (k := 1) (fun x => by simp only [bulkAll, PV.bulk]; omega) v2.right
  have hra : ∀ r ∈ v0, r.length ≤ 1048576 := fun r hr => by
    have h1 := bulkRows_mem (List.mem_map_of_mem (f := rList 47 encVal) hr)
    have h2 := bulkRows_len (f := encVal) (k := 1) (fun x => by simp only [encVal, bulkAll, PV.bulk]; omega) r
    simp only [bulkAll, PV.bulk] at h1
    omega
  exact W_stemkeep3_JoinMergeOrder v0 v1 v2 true (joinMergeOrder_law v0 v1 v2 (by omega) (by omega) hra)

set_option maxRecDepth 100000 in
theorem law_wf : (fun (P : Program) (f : FuncId) (fn : Func) (s : ChangeSpec) (c : OpenClaim) => (P.funcs.size, f, fn.params.size, s.name, c.func, c.wf (OpenSpec.ofChange s)).2.2.2.2.2) Tryz.prog 5 Tryz.f5 (Rows.OpenSpec.upto Rows.joinMergeOrderSpec).bare Rows.joinMergeOrderUptoRow = true := by kernel_rfl
set_option maxRecDepth 100000 in
theorem law_laid : (fun (P : Program) (f : FuncId) (fn : Func) (s : ChangeSpec) (c : OpenClaim) => (P.funcs.size, f, fn.params.size, s.name, c.func, laidOutB P).2.2.2.2.2) Tryz.prog 5 Tryz.f5 (Rows.OpenSpec.upto Rows.joinMergeOrderSpec).bare Rows.joinMergeOrderUptoRow = true := by kernel_rfl
set_option maxRecDepth 100000 in
theorem law_mapsRowed : (fun (P : Program) (f : FuncId) (fn : Func) (s : ChangeSpec) (c : OpenClaim) => (P.funcs.size, f, fn.params.size, s.name, c.func, mapsRowed P).2.2.2.2.2) Tryz.prog 5 Tryz.f5 (Rows.OpenSpec.upto Rows.joinMergeOrderSpec).bare Rows.joinMergeOrderUptoRow = true := by kernel_rfl
set_option maxRecDepth 100000 in
theorem law_rr : (fun (P : Program) (f : FuncId) (fn : Func) (s : ChangeSpec) (c : OpenClaim) => (P.funcs.size, f, fn.params.size, s.name, c.func, fn.params.all (P.readableRec ·)).2.2.2.2.2) Tryz.prog 5 Tryz.f5 (Rows.OpenSpec.upto Rows.joinMergeOrderSpec).bare Rows.joinMergeOrderUptoRow = true := by kernel_rfl
set_option maxRecDepth 100000 in
theorem law_nt : (fun (P : Program) (f : FuncId) (fn : Func) (s : ChangeSpec) (c : OpenClaim) => (P.funcs.size, f, fn.params.size, s.name, c.func, namedTie P c.named s.vars).2.2.2.2.2) Tryz.prog 5 Tryz.f5 (Rows.OpenSpec.upto Rows.joinMergeOrderSpec).bare Rows.joinMergeOrderUptoRow = true := by kernel_rfl
set_option maxRecDepth 100000 in
theorem law_st : (fun (P : Program) (f : FuncId) (fn : Func) (s : ChangeSpec) (c : OpenClaim) => (P.funcs.size, f, fn.params.size, s.name, c.func, (c.stops == []) && (P.stops == []) && (c.knobs == []) && (P.stopKnobs == [])).2.2.2.2.2) Tryz.prog 5 Tryz.f5 (Rows.OpenSpec.upto Rows.joinMergeOrderSpec).bare Rows.joinMergeOrderUptoRow = true := by kernel_rfl
set_option maxRecDepth 100000 in
theorem law_inPlace : (fun (P : Program) (f : FuncId) (fn : Func) (s : ChangeSpec) (c : OpenClaim) => (P.funcs.size, f, fn.params.size, s.name, c.func, c.inPlace == P.inPlace f).2.2.2.2.2) Tryz.prog 5 Tryz.f5 (Rows.OpenSpec.upto Rows.joinMergeOrderSpec).bare Rows.joinMergeOrderUptoRow = true := by kernel_rfl
set_option maxRecDepth 100000 in
theorem law_unf : (fun (P : Program) (f : FuncId) (fn : Func) (s : ChangeSpec) (c : OpenClaim) => (P.funcs.size, f, fn.params.size, s.name, c.func, c.unfollowed == P.unfollowed f).2.2.2.2.2) Tryz.prog 5 Tryz.f5 (Rows.OpenSpec.upto Rows.joinMergeOrderSpec).bare Rows.joinMergeOrderUptoRow = true := by kernel_rfl
set_option maxRecDepth 100000 in
theorem law_rec : (fun (P : Program) (f : FuncId) (fn : Func) (s : ChangeSpec) (c : OpenClaim) => (P.funcs.size, f, fn.params.size, s.name, c.func, c.recurses == P.recurses f).2.2.2.2.2) Tryz.prog 5 Tryz.f5 (Rows.OpenSpec.upto Rows.joinMergeOrderSpec).bare Rows.joinMergeOrderUptoRow = true := by kernel_rfl
set_option maxRecDepth 100000 in
theorem law_named : (fun (P : Program) (f : FuncId) (fn : Func) (s : ChangeSpec) (c : OpenClaim) => (P.funcs.size, f, fn.params.size, s.name, c.func, c.named == P.varsNamed f).2.2.2.2.2) Tryz.prog 5 Tryz.f5 (Rows.OpenSpec.upto Rows.joinMergeOrderSpec).bare Rows.joinMergeOrderUptoRow = true := by kernel_rfl
set_option maxRecDepth 100000 in
theorem law_maps : (fun (P : Program) (f : FuncId) (fn : Func) (s : ChangeSpec) (c : OpenClaim) => (P.funcs.size, f, fn.params.size, s.name, c.func, (c.maps == (fn.params.toList ++ s.plain.varTypes P).any (P.mapsRec ·)) && (c.ifaces == (fn.params.toList ++ s.plain.varTypes P).any (P.ifacesRec ·)) && (c.mapsOut == P.mapsAmong fn.resultTypes.toList)).2.2.2.2.2) Tryz.prog 5 Tryz.f5 (Rows.OpenSpec.upto Rows.joinMergeOrderSpec).bare Rows.joinMergeOrderUptoRow = true := by kernel_rfl
set_option maxRecDepth 100000 in
theorem law_loops : (fun (P : Program) (f : FuncId) (fn : Func) (s : ChangeSpec) (c : OpenClaim) => (P.funcs.size, f, fn.params.size, s.name, c.func, (c.loops == (fn.params.toList ++ s.plain.varTypes P).any (P.loopsFrom ·))).2.2.2.2.2) Tryz.prog 5 Tryz.f5 (Rows.OpenSpec.upto Rows.joinMergeOrderSpec).bare Rows.joinMergeOrderUptoRow = true := by kernel_rfl
set_option maxRecDepth 100000 in
theorem law_wide : (fun (P : Program) (f : FuncId) (fn : Func) (s : ChangeSpec) (c : OpenClaim) => (P.funcs.size, f, fn.params.size, s.name, c.func, (c.wideKeys == (fn.params.toList ++ s.plain.varTypes P ++ fn.resultTypes.toList).any (P.wideKeysFrom ·))).2.2.2.2.2) Tryz.prog 5 Tryz.f5 (Rows.OpenSpec.upto Rows.joinMergeOrderSpec).bare Rows.joinMergeOrderUptoRow = true := by kernel_rfl
set_option maxRecDepth 100000 in
theorem law_rest1 : (fun (P : Program) (f : FuncId) (fn : Func) (s : ChangeSpec) (c : OpenClaim) => (P.funcs.size, f, fn.params.size, s.name, c.func, s.vars.all (P.varReadable ·) && fn.resultTypes.all (fun t => P.readableRec t && decide (t < P.types.size)) && (c.ifacesOut == fn.resultTypes.toList.any (P.ifacesRec ·)) && (c.loopsOut == fn.resultTypes.toList.any (P.loopsFrom ·))).2.2.2.2.2) Tryz.prog 5 Tryz.f5 (Rows.OpenSpec.upto Rows.joinMergeOrderSpec).bare Rows.joinMergeOrderUptoRow = true := by kernel_rfl
set_option maxRecDepth 100000 in
theorem law_plainKeys : (fun (P : Program) (f : FuncId) (fn : Func) (s : ChangeSpec) (c : OpenClaim) => (P.funcs.size, f, fn.params.size, s.name, c.func, c.plainKeys == P.plainKeys).2.2.2.2.2) Tryz.prog 5 Tryz.f5 (Rows.OpenSpec.upto Rows.joinMergeOrderSpec).bare Rows.joinMergeOrderUptoRow = true := by kernel_rfl
set_option maxRecDepth 100000 in
theorem law_rest2 : (fun (P : Program) (f : FuncId) (fn : Func) (s : ChangeSpec) (c : OpenClaim) => (P.funcs.size, f, fn.params.size, s.name, c.func, c.shortTexts.isNone && P.stopsHeard && P.mayEnter && (c.lifted == P.liftsFinal) && (P.make == some c.make)).2.2.2.2.2) Tryz.prog 5 Tryz.f5 (Rows.OpenSpec.upto Rows.joinMergeOrderSpec).bare Rows.joinMergeOrderUptoRow = true := by kernel_rfl
set_option maxRecDepth 100000 in
theorem law_kinds : (fun (P : Program) (f : FuncId) (fn : Func) (s : ChangeSpec) (c : OpenClaim) => (P.funcs.size, f, fn.params.size, s.name, c.func, (c.kinds == (if c.domain.isEmpty then [] else fn.params.toList.map fun t => match P.underlying t with | some (.int k) => some k | _ => none)) && (c.pinned == c.pinnedBy)).2.2.2.2.2) Tryz.prog 5 Tryz.f5 (Rows.OpenSpec.upto Rows.joinMergeOrderSpec).bare Rows.joinMergeOrderUptoRow = true := by kernel_rfl
set_option maxRecDepth 100000 in
theorem law_veil : (fun (P : Program) (f : FuncId) (fn : Func) (s : ChangeSpec) (c : OpenClaim) => (P.funcs.size, f, fn.params.size, s.name, c.func, (c.veiled == (fn.params.toList ++ s.plain.varTypes P ++ fn.resultTypes.toList).any (P.veiledRec ·)) && c.veiledFits P fn.params.toList (fn.params.toList ++ s.plain.varTypes P ++ fn.resultTypes.toList)).2.2.2.2.2) Tryz.prog 5 Tryz.f5 (Rows.OpenSpec.upto Rows.joinMergeOrderSpec).bare Rows.joinMergeOrderUptoRow = true := by kernel_rfl
set_option maxRecDepth 100000 in
theorem law_facts : joinedFacts Tryz.prog 5 Tryz.f5 (Rows.OpenSpec.upto Rows.joinMergeOrderSpec).bare Rows.joinMergeOrderUptoRow = true := joined_of law_wf law_laid law_mapsRowed law_rr law_nt law_st law_inPlace law_unf law_rec law_named law_maps law_loops law_wide law_rest1 law_plainKeys law_rest2 law_kinds law_veil

theorem gl_all (W : World) : Gl W [] := by
  refine ⟨⟨?_, ?_, ?_⟩, ?_⟩
  · intro b hb; simp [glI] at hb
  · intro b hb; simp [glT] at hb
  · intro b hb; simp [glN] at hb
  · intro b hb; simp [glB, glI, glT, glN] at hb

/-! A world for the witness. -/
def putVar (h : Array Go.Obj) (g : Nat) (cs : Array Value) : Array Go.Obj := h.modify g fun
  | .cells _ t fz => .cells cs t fz
  | o => o
noncomputable def lowBlk : Nat := (World.holding Tryz.prog default ⟨#[], #[], []⟩).heap.size
noncomputable def laidWorld (os : Os) : World :=
  let w0 := World.holding Tryz.prog os ⟨#[.cells #[.string ⟨#[118, 97, 108, 117, 101, 32, 111, 117, 116, 32, 111, 102, 32, 114, 97, 110, 103, 101]⟩] 373, .cells #[.string ⟨#[105, 110, 118, 97, 108, 105, 100, 32, 115, 121, 110, 116, 97, 120]⟩] 373], #[], []⟩
  { w0 with heap := (putVar (putVar (putVar (putVar (putVar w0.heap 0 #[.int .u8 0, .int .u8 1, .int .u8 28, .int .u8 2, .int .u8 29, .int .u8 14, .int .u8 24, .int .u8 3, .int .u8 30, .int .u8 22, .int .u8 20, .int .u8 15, .int .u8 25, .int .u8 17, .int .u8 4, .int .u8 8, .int .u8 31, .int .u8 27, .int .u8 13, .int .u8 23, .int .u8 21, .int .u8 19, .int .u8 16, .int .u8 7, .int .u8 26, .int .u8 12, .int .u8 18, .int .u8 6, .int .u8 11, .int .u8 5, .int .u8 10, .int .u8 9]) 1 #[.int .u8 0, .int .u8 1, .int .u8 56, .int .u8 2, .int .u8 57, .int .u8 49, .int .u8 28, .int .u8 3, .int .u8 61, .int .u8 58, .int .u8 42, .int .u8 50, .int .u8 38, .int .u8 29, .int .u8 17, .int .u8 4, .int .u8 62, .int .u8 47, .int .u8 59, .int .u8 36, .int .u8 45, .int .u8 43, .int .u8 51, .int .u8 22, .int .u8 53, .int .u8 39, .int .u8 33, .int .u8 30, .int .u8 24, .int .u8 18, .int .u8 12, .int .u8 5, .int .u8 63, .int .u8 55, .int .u8 48, .int .u8 27, .int .u8 60, .int .u8 41, .int .u8 37, .int .u8 16, .int .u8 46, .int .u8 35, .int .u8 44, .int .u8 21, .int .u8 52, .int .u8 32, .int .u8 23, .int .u8 11, .int .u8 54, .int .u8 26, .int .u8 40, .int .u8 15, .int .u8 34, .int .u8 20, .int .u8 31, .int .u8 10, .int .u8 25, .int .u8 14, .int .u8 19, .int .u8 9, .int .u8 13, .int .u8 8, .int .u8 7, .int .u8 6]) 2 #[.int .u64 1, .int .u64 10, .int .u64 100, .int .u64 1000, .int .u64 10000, .int .u64 100000, .int .u64 1000000, .int .u64 10000000, .int .u64 100000000, .int .u64 1000000000, .int .u64 10000000000, .int .u64 100000000000, .int .u64 1000000000000, .int .u64 10000000000000, .int .u64 100000000000000, .int .u64 1000000000000000, .int .u64 10000000000000000, .int .u64 100000000000000000, .int .u64 1000000000000000000, .int .u64 10000000000000000000]) 5 #[.iface 371 (.pointer (some ⟨lowBlk, 0, none⟩))]) 4 #[.iface 371 (.pointer (some ⟨lowBlk + 1, 0, none⟩))]) }
set_option maxRecDepth 100000 in
theorem laid_met (os : Os) : laidMet Tryz.prog Rows.joinMergeOrderUptoRow.laid ((laidWorld os).forCall (fun _ _ => 0) ⟨#[], #[.slice none 0 0, .slice none 0 0, .agg #[.slice none 0 0, .slice none 0 0, .bool false, .int .i64 0]], []⟩).memory :=
  laidMet_of_run' 8 (by kernel_rfl) (by kernel_rfl)
theorem law_reads (os : Os) {H : Type} (enc : TypeId × Value → H) : ∃ places, DataW.whole enc Tryz.prog ((laidWorld os).forCall (fun _ _ => 0) ⟨#[], #[.slice none 0 0, .slice none 0 0, .agg #[.slice none 0 0, .slice none 0 0, .bool false, .int .i64 0]], []⟩).memory Tryz.f5.params.toList (Rows.OpenSpec.upto Rows.joinMergeOrderSpec).vars false (#[.slice none 0 0, .slice none 0 0, .agg #[.slice none 0 0, .slice none 0 0, .bool false, .int .i64 0]] : Array Value).toList 8 = some ([.nil, .nil, .agg [.nil, .nil, .lit (.bool false), .lit (.int .i64 0)]], [], places) :=
  ⟨[], by kernel_rfl⟩

set_option maxRecDepth 100000 in
theorem law_lifted (os : Os) (started : os.Started) (H : Type) (enc : TypeId × Value → H) (F : Stop.Interp) :
    ReturnsInHanded {} Tryz.checked os 5 .any ((Rows.OpenSpec.upto Rows.joinMergeOrderSpec).preRow enc Tryz.prog Tryz.f5 Rows.joinMergeOrderUptoRow.domain false Rows.joinMergeOrderUptoRow.laid) (((Rows.OpenSpec.upto Rows.joinMergeOrderSpec).at F).post enc Tryz.prog Tryz.f5 false true false false) := by
  obtain ⟨places, hx⟩ := law_reads os enc
  refine returnsInHanded_of_row (C := Tryz.checked) (s := Rows.OpenSpec.upto Rows.joinMergeOrderSpec) own_knob started (by kernel_rfl) Tryz.func5
    (witness_row_at (enc := enc) (C := Tryz.checked) false (laidWorld os) #[.slice none 0 0, .slice none 0 0, .agg #[.slice none 0 0, .slice none 0 0, .bool false, .int .i64 0]] rfl (by kernel_rfl) (by kernel_rfl) (by kernel_rfl)
      (OpenSpec.preRow_of_cond 8 hx (by kernel_rfl) (fun k hk => by obtain rfl := Option.some.inj hk; kernel_rfl) (by kernel_rfl) (laid_met os))) ?_
  intro W base args ds gs before hval hW _ hk hsz _ _ _
  have hN : ((ds ++ gs).map (fun d => Rows.uptoBulk d)).sum ≤ 1048576 := by
    rw [bulks_all]; exact of_decide_eq_true (hk Rows.uptoSmall rfl)
  refine law_callsB (s := Rows.joinMergeOrderSpec) (tb := 4) bulk_is laid_out rfl ?_ rfl Tryz.underlying4 ?_ lawTypes_ok lawTypes_info ?_ law_args hval hW (gl_all W) hsz hN
  · rw [Tryz.params5]
    intro t ht
    simp only [List.mem_cons, List.mem_nil_iff, or_false] at ht
    rcases ht with rfl | rfl | rfl <;> exact ⟨by kernel_rfl, of_decide_eq_true (by kernel_rfl)⟩
  · intro ds hlen
    rw [Tryz.params5] at hlen
    match ds, hlen with
    | [d0, d1, d2], _ => rfl
  · rw [Tryz.params5]
    intro t ht
    simp only [List.mem_cons, List.mem_nil_iff, or_false] at ht
    rcases ht with rfl | rfl | rfl <;> simp [lawTypes]

theorem law_said : Rows.JoinMergeOrderUptoSaid :=
  OpenClaim.holds_of_cond 5 Tryz.f5 rfl rfl rfl rfl rfl rfl rfl ⟨rfl, rfl, rfl, rfl, rfl⟩ rfl rfl rfl rfl rfl (by kernel_rfl) Tryz.func5 law_facts
    (of_decide_eq_true (by kernel_rfl)) (by unfold Func.isWrapper; first | (rw [if_pos (by decide +kernel)]; kernel_rfl) | (rw [if_neg (by decide +kernel)]; exact ⟨rfl, rfl⟩))
    (fun os started H enc _ F => by rw [OpenClaim.pre_eq_preRow]; exact law_lifted os started H enc F)

theorem law_plain (f : FuncId) (fn : Func) (hf : Tryz.pinned.checked.prog.funcNamed "stemma/stemkeep3.JoinMergeOrder" = some f) (hfn : Tryz.pinned.checked.prog.funcs[f]? = some fn) :
    true = Tryz.pinned.checked.prog.looks [] ∧ ∀ (j : Nat) t, fn.params[j]? = some t → Tryz.pinned.checked.prog.wantsStandIn t = false := by
  obtain rfl : f = 5 := Option.some.inj ((show Tryz.prog.funcNamed "stemma/stemkeep3.JoinMergeOrder" = some 5 by kernel_rfl).symm.trans hf) |>.symm
  obtain rfl : fn = Tryz.f5 := (Option.some.inj (Tryz.func5.symm.trans hfn)).symm
  refine ⟨by kernel_rfl, fun j t ht => ?_⟩
  have hall : (Tryz.f5.params.toList.all fun u => !Tryz.prog.wantsStandIn u) = true := by kernel_rfl
  have hm : t ∈ Tryz.f5.params.toList := by simpa using Array.mem_of_getElem? ht
  exact (show Tryz.prog.wantsStandIn t = false by simpa using List.all_eq_true.1 hall t hm)

/-- The card. -/
theorem joinMergeOrderUpto_holds : Rows.JoinMergeOrderUptoCardSaid :=
  Claim7.holds_tied_plain_at .later [] _ _ _ _ law_said (fun _ h => by cases h) (by kernel_rfl) (fun _ h => by cases h) joinMergeOrderUpto_row_tie rfl ⟨rfl, rfl⟩ (by kernel_rfl) rfl law_plain (by kernel_rfl)
end Go.Proofs.YtjnpnakcmjndiaaGreatDoor
