/-
  DERIVED. GIVEN WITH THE SEED: THE CARDS: each row of YtgdlccbnofmkgaaGreatDoorRows.lean that lists a variable, with what it lists TIED to the program's text (the seventh form; the later family's looks); each row that meets fmt, with fmt's text TOLD by the authors' own Lean function (tested against real Go, not proved from fmt's source: count such statements apart). THE CARD IS WHAT COUNTS. Prove the row's statement (the work); the ties are given (YtgdlccbnofmkgaaGreatDoorTie.lean); close each card by the builder's one call (the guide's Derived/Test/ToyasCard.lean, 'card_holds'). Laid BY PROGRAM, IN A SANDBOX (cutbox-door.mjs). By AI agents, Wed Nov 11 2026. No macro, syntax, notation, axiom, sorry.
-/
import Derived.Test.YtgdlccbnofmkgaaGreatDoorRows
import GoSem.ClaimSeven
namespace Go.Proofs.YtgdlccbnofmkgaaGreatDoor
namespace Rows

/-- THE TIED CARD OF 'stemkeep3.JoinSemiAndAntiPartition'. -/
def joinSemiAndAntiPartitionCard : Claim7 := { stood := { row := joinSemiAndAntiPartitionRow, standIns := [], harness := (true, "11d759cb8ee95243d8ac9d8236b0ff5fa5265f415b947e04648ccae6f3ea1a50"), looks := true }, kinds := [], alts := [], laidByText := true, laidKinds := [.data, .data, .data, .sentinel, .sentinel], laidTests := true, laidLooks := .later }
def JoinSemiAndAntiPartitionCardSaid : Prop := Claim7.holds Tryz.pinned (.plain (OpenSpec.ofChange joinSemiAndAntiPartitionSpec)) joinSemiAndAntiPartitionCard

/-- THE SECOND FORM's CARD OF 'stemkeep3.JoinSemiAndAntiPartition'. -/
def joinSemiAndAntiPartitionUptoCard : Claim7 := { stood := { row := joinSemiAndAntiPartitionUptoRow, standIns := [], harness := (true, "11d759cb8ee95243d8ac9d8236b0ff5fa5265f415b947e04648ccae6f3ea1a50"), looks := true }, kinds := [], alts := [], laidByText := true, laidKinds := [.data, .data, .data, .sentinel, .sentinel], laidTests := true, laidLooks := .later }
def JoinSemiAndAntiPartitionUptoCardSaid : Prop := Claim7.holds Tryz.pinned (.plain (OpenSpec.upto joinSemiAndAntiPartitionSpec)) joinSemiAndAntiPartitionUptoCard
end Rows
end Go.Proofs.YtgdlccbnofmkgaaGreatDoor
