/-
  DERIVED. GIVEN WITH THE SEED: THE CARDS: each row of YteceobbkljmbmaaGreatDoorRows.lean that lists a variable, with what it lists TIED to the program's text (the seventh form; the later family's looks); each row that meets fmt, with fmt's text TOLD by the authors' own Lean function (tested against real Go, not proved from fmt's source: count such statements apart). THE CARD IS WHAT COUNTS. Prove the row's statement (the work); the ties are given (YteceobbkljmbmaaGreatDoorTie.lean); close each card by the builder's one call (the guide's Derived/Test/ToyasCard.lean, 'card_holds'). Laid BY PROGRAM, IN A SANDBOX (cutbox-door.mjs). By AI agents, Wed Nov 11 2026. No macro, syntax, notation, axiom, sorry.
-/
import Derived.Test.YteceobbkljmbmaaGreatDoorRows
import GoSem.ClaimSeven
namespace Go.Proofs.YteceobbkljmbmaaGreatDoor
namespace Rows

/-- THE TIED CARD OF 'stemkeep3.CardinalityBoundsHold'. -/
def cardinalityBoundsHoldCard : Claim7 := { stood := { row := cardinalityBoundsHoldRow, standIns := [], harness := (true, "e69e82cdd84142ab6a3f11d3d2db81e419b9b6a1b7b7c92e7373c09d936897a3"), looks := true }, kinds := [], alts := [], laidByText := true, laidKinds := [.data, .data, .data, .sentinel, .sentinel], laidTests := true, laidLooks := .later }
def CardinalityBoundsHoldCardSaid : Prop := Claim7.holds Tryz.pinned (.plain (OpenSpec.ofChange cardinalityBoundsHoldSpec)) cardinalityBoundsHoldCard

/-- THE TIED CARD OF 'stemkeep3.ProcedureRaise'. -/
def procedureRaiseCard : Claim7 := { stood := { row := procedureRaiseRow, standIns := [], harness := (true, "e69e82cdd84142ab6a3f11d3d2db81e419b9b6a1b7b7c92e7373c09d936897a3"), looks := true }, kinds := [], alts := [], laidByText := true, laidKinds := [.data, .data, .data, .sentinel, .sentinel], laidTests := true, laidLooks := .later }
def ProcedureRaiseCardSaid : Prop := Claim7.holds Tryz.pinned (.plain (OpenSpec.ofChange procedureRaiseSpec)) procedureRaiseCard

/-- THE TIED CARD OF 'stemkeep3.ProcedureEmitMatchesQuery'. -/
def procedureEmitMatchesQueryCard : Claim7 := { stood := { row := procedureEmitMatchesQueryRow, standIns := [], harness := (true, "e69e82cdd84142ab6a3f11d3d2db81e419b9b6a1b7b7c92e7373c09d936897a3"), looks := true }, kinds := [], alts := [], laidByText := true, laidKinds := [.data, .data, .data, .sentinel, .sentinel], laidTests := true, laidLooks := .later }
def ProcedureEmitMatchesQueryCardSaid : Prop := Claim7.holds Tryz.pinned (.plain (OpenSpec.ofChange procedureEmitMatchesQuerySpec)) procedureEmitMatchesQueryCard

/-- THE SECOND FORM's CARD OF 'stemkeep3.CardinalityBoundsHold'. -/
def cardinalityBoundsHoldUptoCard : Claim7 := { stood := { row := cardinalityBoundsHoldUptoRow, standIns := [], harness := (true, "e69e82cdd84142ab6a3f11d3d2db81e419b9b6a1b7b7c92e7373c09d936897a3"), looks := true }, kinds := [], alts := [], laidByText := true, laidKinds := [.data, .data, .data, .sentinel, .sentinel], laidTests := true, laidLooks := .later }
def CardinalityBoundsHoldUptoCardSaid : Prop := Claim7.holds Tryz.pinned (.plain (OpenSpec.upto cardinalityBoundsHoldSpec)) cardinalityBoundsHoldUptoCard

/-- THE SECOND FORM's CARD OF 'stemkeep3.ProcedureRaise'. -/
def procedureRaiseUptoCard : Claim7 := { stood := { row := procedureRaiseUptoRow, standIns := [], harness := (true, "e69e82cdd84142ab6a3f11d3d2db81e419b9b6a1b7b7c92e7373c09d936897a3"), looks := true }, kinds := [], alts := [], laidByText := true, laidKinds := [.data, .data, .data, .sentinel, .sentinel], laidTests := true, laidLooks := .later }
def ProcedureRaiseUptoCardSaid : Prop := Claim7.holds Tryz.pinned (.plain (OpenSpec.upto procedureRaiseSpec)) procedureRaiseUptoCard

/-- THE SECOND FORM's CARD OF 'stemkeep3.ProcedureEmitMatchesQuery'. -/
def procedureEmitMatchesQueryUptoCard : Claim7 := { stood := { row := procedureEmitMatchesQueryUptoRow, standIns := [], harness := (true, "e69e82cdd84142ab6a3f11d3d2db81e419b9b6a1b7b7c92e7373c09d936897a3"), looks := true }, kinds := [], alts := [], laidByText := true, laidKinds := [.data, .data, .data, .sentinel, .sentinel], laidTests := true, laidLooks := .later }
def ProcedureEmitMatchesQueryUptoCardSaid : Prop := Claim7.holds Tryz.pinned (.plain (OpenSpec.upto procedureEmitMatchesQuerySpec)) procedureEmitMatchesQueryUptoCard
end Rows
end Go.Proofs.YteceobbkljmbmaaGreatDoor
