/-
  DERIVED. GIVEN WITH THE SEED: THE CARDS: each row of YtnnieenoapkefaaGreatDoorRows.lean that lists a variable, with what it lists TIED to the program's text (the seventh form; the later family's looks); each row that meets fmt, with fmt's text TOLD by the authors' own Lean function (tested against real Go, not proved from fmt's source: count such statements apart). THE CARD IS WHAT COUNTS. Prove the row's statement (the work); the ties are given (YtnnieenoapkefaaGreatDoorTie.lean); close each card by the builder's one call (the guide's Derived/Test/ToyasCard.lean, 'card_holds'). Laid BY PROGRAM, IN A SANDBOX (cutbox-door.mjs). By AI agents, Wed Nov 11 2026. No macro, syntax, notation, axiom, sorry.
-/
import Derived.Test.YtnnieenoapkefaaGreatDoorRows
import GoSem.ClaimSeven
namespace Go.Proofs.YtnnieenoapkefaaGreatDoor
namespace Rows

/-- THE TIED CARD OF 'stemkeep3.SortMemoryIsIrrelevant'. -/
def sortMemoryIsIrrelevantCard : Claim7 := { stood := { row := sortMemoryIsIrrelevantRow, standIns := [], harness := (true, "0ebe94156cd63a15d9d0aa727c014ad1bb0c526bc8c249c4106eb2428d76f3b2"), looks := true }, kinds := [], alts := [], laidByText := true, laidKinds := [.data, .data, .data, .sentinel, .sentinel], laidTests := true, laidLooks := .later }
def SortMemoryIsIrrelevantCardSaid : Prop := Claim7.holds Tryz.pinned (.plain (OpenSpec.ofChange sortMemoryIsIrrelevantSpec)) sortMemoryIsIrrelevantCard

/-- THE TIED CARD OF 'stemkeep3.SortRunsAreSortedChunks'. -/
def sortRunsAreSortedChunksCard : Claim7 := { stood := { row := sortRunsAreSortedChunksRow, standIns := [], harness := (true, "0ebe94156cd63a15d9d0aa727c014ad1bb0c526bc8c249c4106eb2428d76f3b2"), looks := true }, kinds := [], alts := [], laidByText := true, laidKinds := [.data, .data, .data, .sentinel, .sentinel], laidTests := true, laidLooks := .later }
def SortRunsAreSortedChunksCardSaid : Prop := Claim7.holds Tryz.pinned (.plain (OpenSpec.ofChange sortRunsAreSortedChunksSpec)) sortRunsAreSortedChunksCard

/-- THE SECOND FORM's CARD OF 'stemkeep3.SortMemoryIsIrrelevant'. -/
def sortMemoryIsIrrelevantUptoCard : Claim7 := { stood := { row := sortMemoryIsIrrelevantUptoRow, standIns := [], harness := (true, "0ebe94156cd63a15d9d0aa727c014ad1bb0c526bc8c249c4106eb2428d76f3b2"), looks := true }, kinds := [], alts := [], laidByText := true, laidKinds := [.data, .data, .data, .sentinel, .sentinel], laidTests := true, laidLooks := .later }
def SortMemoryIsIrrelevantUptoCardSaid : Prop := Claim7.holds Tryz.pinned (.plain (OpenSpec.upto sortMemoryIsIrrelevantSpec)) sortMemoryIsIrrelevantUptoCard

/-- THE SECOND FORM's CARD OF 'stemkeep3.SortRunsAreSortedChunks'. -/
def sortRunsAreSortedChunksUptoCard : Claim7 := { stood := { row := sortRunsAreSortedChunksUptoRow, standIns := [], harness := (true, "0ebe94156cd63a15d9d0aa727c014ad1bb0c526bc8c249c4106eb2428d76f3b2"), looks := true }, kinds := [], alts := [], laidByText := true, laidKinds := [.data, .data, .data, .sentinel, .sentinel], laidTests := true, laidLooks := .later }
def SortRunsAreSortedChunksUptoCardSaid : Prop := Claim7.holds Tryz.pinned (.plain (OpenSpec.upto sortRunsAreSortedChunksSpec)) sortRunsAreSortedChunksUptoCard
end Rows
end Go.Proofs.YtnnieenoapkefaaGreatDoor
