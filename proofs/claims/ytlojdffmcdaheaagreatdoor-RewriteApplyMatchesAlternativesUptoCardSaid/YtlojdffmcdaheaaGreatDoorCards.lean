/-
  DERIVED. GIVEN WITH THE SEED: THE CARDS: each row of YtlojdffmcdaheaaGreatDoorRows.lean that lists a variable, with what it lists TIED to the program's text (the seventh form; the later family's looks); each row that meets fmt, with fmt's text TOLD by the authors' own Lean function (tested against real Go, not proved from fmt's source: count such statements apart). THE CARD IS WHAT COUNTS. Prove the row's statement (the work); the ties are given (YtlojdffmcdaheaaGreatDoorTie.lean); close each card by the builder's one call (the guide's Derived/Test/ToyasCard.lean, 'card_holds'). Laid BY PROGRAM, IN A SANDBOX (cutbox-door.mjs). By AI agents, Wed Nov 11 2026. No macro, syntax, notation, axiom, sorry.
-/
import Derived.Test.YtlojdffmcdaheaaGreatDoorRows
import GoSem.ClaimSeven
namespace Go.Proofs.YtlojdffmcdaheaaGreatDoor
namespace Rows

/-- THE TIED CARD OF 'stemkeep3.RewriteLimitBarrier'. -/
def rewriteLimitBarrierCard : Claim7 := { stood := { row := rewriteLimitBarrierRow, standIns := [], harness := (true, "e0c2e1d048575d5bc8043ffa08b5ccab5d9aa81a4f9d7d301d29a6ef2acc6b35"), looks := true }, kinds := [], alts := [], laidByText := true, laidKinds := [.data, .data, .data, .sentinel, .sentinel], laidTests := true, laidLooks := .later }
def RewriteLimitBarrierCardSaid : Prop := Claim7.holds Tryz.pinned (.plain (OpenSpec.ofChange rewriteLimitBarrierSpec)) rewriteLimitBarrierCard

/-- THE TIED CARD OF 'stemkeep3.RewriteApplyMatchesAlternatives'. -/
def rewriteApplyMatchesAlternativesCard : Claim7 := { stood := { row := rewriteApplyMatchesAlternativesRow, standIns := [], harness := (true, "e0c2e1d048575d5bc8043ffa08b5ccab5d9aa81a4f9d7d301d29a6ef2acc6b35"), looks := true }, kinds := [], alts := [], laidByText := true, laidKinds := [.data, .data, .data, .sentinel, .sentinel], laidTests := true, laidLooks := .later }
def RewriteApplyMatchesAlternativesCardSaid : Prop := Claim7.holds Tryz.pinned (.plain (OpenSpec.ofChange rewriteApplyMatchesAlternativesSpec)) rewriteApplyMatchesAlternativesCard

/-- THE SECOND FORM's CARD OF 'stemkeep3.RewriteLimitBarrier'. -/
def rewriteLimitBarrierUptoCard : Claim7 := { stood := { row := rewriteLimitBarrierUptoRow, standIns := [], harness := (true, "e0c2e1d048575d5bc8043ffa08b5ccab5d9aa81a4f9d7d301d29a6ef2acc6b35"), looks := true }, kinds := [], alts := [], laidByText := true, laidKinds := [.data, .data, .data, .sentinel, .sentinel], laidTests := true, laidLooks := .later }
def RewriteLimitBarrierUptoCardSaid : Prop := Claim7.holds Tryz.pinned (.plain (OpenSpec.upto rewriteLimitBarrierSpec)) rewriteLimitBarrierUptoCard

/-- THE SECOND FORM's CARD OF 'stemkeep3.RewriteApplyMatchesAlternatives'. -/
def rewriteApplyMatchesAlternativesUptoCard : Claim7 := { stood := { row := rewriteApplyMatchesAlternativesUptoRow, standIns := [], harness := (true, "e0c2e1d048575d5bc8043ffa08b5ccab5d9aa81a4f9d7d301d29a6ef2acc6b35"), looks := true }, kinds := [], alts := [], laidByText := true, laidKinds := [.data, .data, .data, .sentinel, .sentinel], laidTests := true, laidLooks := .later }
def RewriteApplyMatchesAlternativesUptoCardSaid : Prop := Claim7.holds Tryz.pinned (.plain (OpenSpec.upto rewriteApplyMatchesAlternativesSpec)) rewriteApplyMatchesAlternativesUptoCard
end Rows
end Go.Proofs.YtlojdffmcdaheaaGreatDoor
