/-
  DERIVED. GIVEN WITH THE SEED: THE CARDS: each row of YtifhafpljncplaaGreatDoorRows.lean that lists a variable, with what it lists TIED to the program's text (the seventh form; the later family's looks); each row that meets fmt, with fmt's text TOLD by the authors' own Lean function (tested against real Go, not proved from fmt's source: count such statements apart). THE CARD IS WHAT COUNTS. Prove the row's statement (the work); the ties are given (YtifhafpljncplaaGreatDoorTie.lean); close each card by the builder's one call (the guide's Derived/Test/ToyasCard.lean, 'card_holds'). Laid BY PROGRAM, IN A SANDBOX (cutbox-door.mjs). By AI agents, Wed Nov 11 2026. No macro, syntax, notation, axiom, sorry.
-/
import Derived.Test.YtifhafpljncplaaGreatDoorRows
import GoSem.ClaimSeven
namespace Go.Proofs.YtifhafpljncplaaGreatDoor
namespace Rows

/-- THE TIED CARD OF 'stemkeep3.JoinMatchesQuerySemantics'. -/
def joinMatchesQuerySemanticsCard : Claim7 := { stood := { row := joinMatchesQuerySemanticsRow, standIns := [], harness := (true, "e54d2b9753eca39d7111524eefd2b0b8e5d0a69fb1e268f6b0eea7ee839db4fc"), looks := true }, kinds := [], alts := [], laidByText := true, laidKinds := [.data, .data, .data, .sentinel, .sentinel], laidTests := true, laidLooks := .later }
def JoinMatchesQuerySemanticsCardSaid : Prop := Claim7.holds Tryz.pinned (.plain (OpenSpec.ofChange joinMatchesQuerySemanticsSpec)) joinMatchesQuerySemanticsCard

/-- THE TIED CARD OF 'stemkeep3.JoinAlgorithmsAgree'. -/
def joinAlgorithmsAgreeCard : Claim7 := { stood := { row := joinAlgorithmsAgreeRow, standIns := [], harness := (true, "e54d2b9753eca39d7111524eefd2b0b8e5d0a69fb1e268f6b0eea7ee839db4fc"), looks := true }, kinds := [], alts := [], laidByText := true, laidKinds := [.data, .data, .data, .sentinel, .sentinel], laidTests := true, laidLooks := .later }
def JoinAlgorithmsAgreeCardSaid : Prop := Claim7.holds Tryz.pinned (.plain (OpenSpec.ofChange joinAlgorithmsAgreeSpec)) joinAlgorithmsAgreeCard

/-- THE SECOND FORM's CARD OF 'stemkeep3.JoinMatchesQuerySemantics'. -/
def joinMatchesQuerySemanticsUptoCard : Claim7 := { stood := { row := joinMatchesQuerySemanticsUptoRow, standIns := [], harness := (true, "e54d2b9753eca39d7111524eefd2b0b8e5d0a69fb1e268f6b0eea7ee839db4fc"), looks := true }, kinds := [], alts := [], laidByText := true, laidKinds := [.data, .data, .data, .sentinel, .sentinel], laidTests := true, laidLooks := .later }
def JoinMatchesQuerySemanticsUptoCardSaid : Prop := Claim7.holds Tryz.pinned (.plain (OpenSpec.upto joinMatchesQuerySemanticsSpec)) joinMatchesQuerySemanticsUptoCard

/-- THE SECOND FORM's CARD OF 'stemkeep3.JoinAlgorithmsAgree'. -/
def joinAlgorithmsAgreeUptoCard : Claim7 := { stood := { row := joinAlgorithmsAgreeUptoRow, standIns := [], harness := (true, "e54d2b9753eca39d7111524eefd2b0b8e5d0a69fb1e268f6b0eea7ee839db4fc"), looks := true }, kinds := [], alts := [], laidByText := true, laidKinds := [.data, .data, .data, .sentinel, .sentinel], laidTests := true, laidLooks := .later }
def JoinAlgorithmsAgreeUptoCardSaid : Prop := Claim7.holds Tryz.pinned (.plain (OpenSpec.upto joinAlgorithmsAgreeSpec)) joinAlgorithmsAgreeUptoCard
end Rows
end Go.Proofs.YtifhafpljncplaaGreatDoor
