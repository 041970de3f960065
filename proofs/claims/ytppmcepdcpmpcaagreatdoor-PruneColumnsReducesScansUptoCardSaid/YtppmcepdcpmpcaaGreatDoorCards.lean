/-
  DERIVED. GIVEN WITH THE SEED: THE CARDS: each row of YtppmcepdcpmpcaaGreatDoorRows.lean that lists a variable, with what it lists TIED to the program's text (the seventh form; the later family's looks); each row that meets fmt, with fmt's text TOLD by the authors' own Lean function (tested against real Go, not proved from fmt's source: count such statements apart). THE CARD IS WHAT COUNTS. Prove the row's statement (the work); the ties are given (YtppmcepdcpmpcaaGreatDoorTie.lean); close each card by the builder's one call (the guide's Derived/Test/ToyasCard.lean, 'card_holds'). Laid BY PROGRAM, IN A SANDBOX (cutbox-door.mjs). By AI agents, Wed Nov 11 2026. No macro, syntax, notation, axiom, sorry.
-/
import Derived.Test.YtppmcepdcpmpcaaGreatDoorRows
import GoSem.ClaimSeven
namespace Go.Proofs.YtppmcepdcpmpcaaGreatDoor
namespace Rows

/-- THE TIED CARD OF 'stemkeep3.PushFiltersReachesFixpoint'. -/
def pushFiltersReachesFixpointCard : Claim7 := { stood := { row := pushFiltersReachesFixpointRow, standIns := [], harness := (true, "1569bde7abe9b6c1129793f866ff1d950541631221813046e5e6b50022e931d3"), looks := true }, kinds := [], alts := [], laidByText := true, laidKinds := [.data, .data, .data, .sentinel, .sentinel], laidTests := true, laidLooks := .later }
def PushFiltersReachesFixpointCardSaid : Prop := Claim7.holds Tryz.pinned (.plain (OpenSpec.ofChange pushFiltersReachesFixpointSpec)) pushFiltersReachesFixpointCard

/-- THE TIED CARD OF 'stemkeep3.PruneColumnsReducesScans'. -/
def pruneColumnsReducesScansCard : Claim7 := { stood := { row := pruneColumnsReducesScansRow, standIns := [], harness := (true, "1569bde7abe9b6c1129793f866ff1d950541631221813046e5e6b50022e931d3"), looks := true }, kinds := [], alts := [], laidByText := true, laidKinds := [.data, .data, .data, .sentinel, .sentinel], laidTests := true, laidLooks := .later }
def PruneColumnsReducesScansCardSaid : Prop := Claim7.holds Tryz.pinned (.plain (OpenSpec.ofChange pruneColumnsReducesScansSpec)) pruneColumnsReducesScansCard

/-- THE TIED CARD OF 'stemkeep3.ProcedureEmitMatchesQuery'. -/
def procedureEmitMatchesQueryCard : Claim7 := { stood := { row := procedureEmitMatchesQueryRow, standIns := [], harness := (true, "1569bde7abe9b6c1129793f866ff1d950541631221813046e5e6b50022e931d3"), looks := true }, kinds := [], alts := [], laidByText := true, laidKinds := [.data, .data, .data, .sentinel, .sentinel], laidTests := true, laidLooks := .later }
def ProcedureEmitMatchesQueryCardSaid : Prop := Claim7.holds Tryz.pinned (.plain (OpenSpec.ofChange procedureEmitMatchesQuerySpec)) procedureEmitMatchesQueryCard

/-- THE SECOND FORM's CARD OF 'stemkeep3.PushFiltersReachesFixpoint'. -/
def pushFiltersReachesFixpointUptoCard : Claim7 := { stood := { row := pushFiltersReachesFixpointUptoRow, standIns := [], harness := (true, "1569bde7abe9b6c1129793f866ff1d950541631221813046e5e6b50022e931d3"), looks := true }, kinds := [], alts := [], laidByText := true, laidKinds := [.data, .data, .data, .sentinel, .sentinel], laidTests := true, laidLooks := .later }
def PushFiltersReachesFixpointUptoCardSaid : Prop := Claim7.holds Tryz.pinned (.plain (OpenSpec.upto pushFiltersReachesFixpointSpec)) pushFiltersReachesFixpointUptoCard

/-- THE SECOND FORM's CARD OF 'stemkeep3.PruneColumnsReducesScans'. -/
def pruneColumnsReducesScansUptoCard : Claim7 := { stood := { row := pruneColumnsReducesScansUptoRow, standIns := [], harness := (true, "1569bde7abe9b6c1129793f866ff1d950541631221813046e5e6b50022e931d3"), looks := true }, kinds := [], alts := [], laidByText := true, laidKinds := [.data, .data, .data, .sentinel, .sentinel], laidTests := true, laidLooks := .later }
def PruneColumnsReducesScansUptoCardSaid : Prop := Claim7.holds Tryz.pinned (.plain (OpenSpec.upto pruneColumnsReducesScansSpec)) pruneColumnsReducesScansUptoCard

/-- THE SECOND FORM's CARD OF 'stemkeep3.ProcedureEmitMatchesQuery'. -/
def procedureEmitMatchesQueryUptoCard : Claim7 := { stood := { row := procedureEmitMatchesQueryUptoRow, standIns := [], harness := (true, "1569bde7abe9b6c1129793f866ff1d950541631221813046e5e6b50022e931d3"), looks := true }, kinds := [], alts := [], laidByText := true, laidKinds := [.data, .data, .data, .sentinel, .sentinel], laidTests := true, laidLooks := .later }
def ProcedureEmitMatchesQueryUptoCardSaid : Prop := Claim7.holds Tryz.pinned (.plain (OpenSpec.upto procedureEmitMatchesQuerySpec)) procedureEmitMatchesQueryUptoCard
end Rows
end Go.Proofs.YtppmcepdcpmpcaaGreatDoor
