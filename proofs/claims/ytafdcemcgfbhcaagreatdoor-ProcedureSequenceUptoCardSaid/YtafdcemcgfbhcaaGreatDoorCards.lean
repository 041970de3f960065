/-
  DERIVED. GIVEN WITH THE SEED: THE CARDS: each row of YtafdcemcgfbhcaaGreatDoorRows.lean that lists a variable, with what it lists TIED to the program's text (the seventh form; the later family's looks); each row that meets fmt, with fmt's text TOLD by the authors' own Lean function (tested against real Go, not proved from fmt's source: count such statements apart). THE CARD IS WHAT COUNTS. Prove the row's statement (the work); the ties are given (YtafdcemcgfbhcaaGreatDoorTie.lean); close each card by the builder's one call (the guide's Derived/Test/ToyasCard.lean, 'card_holds'). Laid BY PROGRAM, IN A SANDBOX (cutbox-door.mjs). By AI agents, Wed Nov 11 2026. No macro, syntax, notation, axiom, sorry.
-/
import Derived.Test.YtafdcemcgfbhcaaGreatDoorRows
import GoSem.ClaimSeven
namespace Go.Proofs.YtafdcemcgfbhcaaGreatDoor
namespace Rows

/-- THE TIED CARD OF 'stemkeep3.ProcedureSequence'. -/
def procedureSequenceCard : Claim7 := { stood := { row := procedureSequenceRow, standIns := [], harness := (true, "2df2965b5af0c9693c4bda0f55d2ad61f046ca4b14c46386c37087082b58ed87"), looks := true }, kinds := [], alts := [], laidByText := true, laidKinds := [.data, .data, .data, .sentinel, .sentinel], laidTests := true, laidLooks := .later }
def ProcedureSequenceCardSaid : Prop := Claim7.holds Tryz.pinned (.plain (OpenSpec.ofChange procedureSequenceSpec)) procedureSequenceCard

/-- THE TIED CARD OF 'stemkeep3.ProcedureReturnEnds'. -/
def procedureReturnEndsCard : Claim7 := { stood := { row := procedureReturnEndsRow, standIns := [], harness := (true, "2df2965b5af0c9693c4bda0f55d2ad61f046ca4b14c46386c37087082b58ed87"), looks := true }, kinds := [], alts := [], laidByText := true, laidKinds := [.data, .data, .data, .sentinel, .sentinel], laidTests := true, laidLooks := .later }
def ProcedureReturnEndsCardSaid : Prop := Claim7.holds Tryz.pinned (.plain (OpenSpec.ofChange procedureReturnEndsSpec)) procedureReturnEndsCard

/-- THE TIED CARD OF 'stemkeep3.ProcedureDeleteRemovesMatchingRows'. -/
def procedureDeleteRemovesMatchingRowsCard : Claim7 := { stood := { row := procedureDeleteRemovesMatchingRowsRow, standIns := [], harness := (true, "2df2965b5af0c9693c4bda0f55d2ad61f046ca4b14c46386c37087082b58ed87"), looks := true }, kinds := [], alts := [], laidByText := true, laidKinds := [.data, .data, .data, .sentinel, .sentinel], laidTests := true, laidLooks := .later }
def ProcedureDeleteRemovesMatchingRowsCardSaid : Prop := Claim7.holds Tryz.pinned (.plain (OpenSpec.ofChange procedureDeleteRemovesMatchingRowsSpec)) procedureDeleteRemovesMatchingRowsCard

/-- THE TIED CARD OF 'stemkeep3.ProcedureReadsOnlyItsTables'. -/
def procedureReadsOnlyItsTablesCard : Claim7 := { stood := { row := procedureReadsOnlyItsTablesRow, standIns := [], harness := (true, "2df2965b5af0c9693c4bda0f55d2ad61f046ca4b14c46386c37087082b58ed87"), looks := true }, kinds := [], alts := [], laidByText := true, laidKinds := [.data, .data, .data, .sentinel, .sentinel], laidTests := true, laidLooks := .later }
def ProcedureReadsOnlyItsTablesCardSaid : Prop := Claim7.holds Tryz.pinned (.plain (OpenSpec.ofChange procedureReadsOnlyItsTablesSpec)) procedureReadsOnlyItsTablesCard

/-- THE SECOND FORM's CARD OF 'stemkeep3.ProcedureSequence'. -/
def procedureSequenceUptoCard : Claim7 := { stood := { row := procedureSequenceUptoRow, standIns := [], harness := (true, "2df2965b5af0c9693c4bda0f55d2ad61f046ca4b14c46386c37087082b58ed87"), looks := true }, kinds := [], alts := [], laidByText := true, laidKinds := [.data, .data, .data, .sentinel, .sentinel], laidTests := true, laidLooks := .later }
def ProcedureSequenceUptoCardSaid : Prop := Claim7.holds Tryz.pinned (.plain (OpenSpec.upto procedureSequenceSpec)) procedureSequenceUptoCard

/-- THE SECOND FORM's CARD OF 'stemkeep3.ProcedureReturnEnds'. -/
def procedureReturnEndsUptoCard : Claim7 := { stood := { row := procedureReturnEndsUptoRow, standIns := [], harness := (true, "2df2965b5af0c9693c4bda0f55d2ad61f046ca4b14c46386c37087082b58ed87"), looks := true }, kinds := [], alts := [], laidByText := true, laidKinds := [.data, .data, .data, .sentinel, .sentinel], laidTests := true, laidLooks := .later }
def ProcedureReturnEndsUptoCardSaid : Prop := Claim7.holds Tryz.pinned (.plain (OpenSpec.upto procedureReturnEndsSpec)) procedureReturnEndsUptoCard

/-- THE SECOND FORM's CARD OF 'stemkeep3.ProcedureDeleteRemovesMatchingRows'. -/
def procedureDeleteRemovesMatchingRowsUptoCard : Claim7 := { stood := { row := procedureDeleteRemovesMatchingRowsUptoRow, standIns := [], harness := (true, "2df2965b5af0c9693c4bda0f55d2ad61f046ca4b14c46386c37087082b58ed87"), looks := true }, kinds := [], alts := [], laidByText := true, laidKinds := [.data, .data, .data, .sentinel, .sentinel], laidTests := true, laidLooks := .later }
def ProcedureDeleteRemovesMatchingRowsUptoCardSaid : Prop := Claim7.holds Tryz.pinned (.plain (OpenSpec.upto procedureDeleteRemovesMatchingRowsSpec)) procedureDeleteRemovesMatchingRowsUptoCard

/-- THE SECOND FORM's CARD OF 'stemkeep3.ProcedureReadsOnlyItsTables'. -/
def procedureReadsOnlyItsTablesUptoCard : Claim7 := { stood := { row := procedureReadsOnlyItsTablesUptoRow, standIns := [], harness := (true, "2df2965b5af0c9693c4bda0f55d2ad61f046ca4b14c46386c37087082b58ed87"), looks := true }, kinds := [], alts := [], laidByText := true, laidKinds := [.data, .data, .data, .sentinel, .sentinel], laidTests := true, laidLooks := .later }
def ProcedureReadsOnlyItsTablesUptoCardSaid : Prop := Claim7.holds Tryz.pinned (.plain (OpenSpec.upto procedureReadsOnlyItsTablesSpec)) procedureReadsOnlyItsTablesUptoCard
end Rows
end Go.Proofs.YtafdcemcgfbhcaaGreatDoor
