/-
  DERIVED. GIVEN WITH THE SEED: THE CARDS: each row of YtpgalfinchajnaaGreatDoorRows.lean that lists a variable, with what it lists TIED to the program's text (the seventh form; the later family's looks); each row that meets fmt, with fmt's text TOLD by the authors' own Lean function (tested against real Go, not proved from fmt's source: count such statements apart). THE CARD IS WHAT COUNTS. Prove the row's statement (the work); the ties are given (YtpgalfinchajnaaGreatDoorTie.lean); close each card by the builder's one call (the guide's Derived/Test/ToyasCard.lean, 'card_holds'). Laid BY PROGRAM, IN A SANDBOX (cutbox-door.mjs). By AI agents, Wed Nov 11 2026. No macro, syntax, notation, axiom, sorry.
-/
import Derived.Test.YtpgalfinchajnaaGreatDoorRows
import GoSem.ClaimSeven
namespace Go.Proofs.YtpgalfinchajnaaGreatDoor
namespace Rows

/-- THE TIED CARD OF 'stemkeep3.JoinReorderIsNotWorse'. -/
def joinReorderIsNotWorseCard : Claim7 := { stood := { row := joinReorderIsNotWorseRow, standIns := [], harness := (true, "1515ec969807347de277be05b1638a2eb96e842f595a0d34471b0f62a50c196c"), looks := true }, kinds := [], alts := [], laidByText := true, laidKinds := [.data, .data, .data, .sentinel, .sentinel], laidTests := true, laidLooks := .later }
def JoinReorderIsNotWorseCardSaid : Prop := Claim7.holds Tryz.pinned (.plain (OpenSpec.ofChange joinReorderIsNotWorseSpec)) joinReorderIsNotWorseCard

/-- THE SECOND FORM's CARD OF 'stemkeep3.JoinReorderIsNotWorse'. -/
def joinReorderIsNotWorseUptoCard : Claim7 := { stood := { row := joinReorderIsNotWorseUptoRow, standIns := [], harness := (true, "1515ec969807347de277be05b1638a2eb96e842f595a0d34471b0f62a50c196c"), looks := true }, kinds := [], alts := [], laidByText := true, laidKinds := [.data, .data, .data, .sentinel, .sentinel], laidTests := true, laidLooks := .later }
def JoinReorderIsNotWorseUptoCardSaid : Prop := Claim7.holds Tryz.pinned (.plain (OpenSpec.upto joinReorderIsNotWorseSpec)) joinReorderIsNotWorseUptoCard
end Rows
end Go.Proofs.YtpgalfinchajnaaGreatDoor
