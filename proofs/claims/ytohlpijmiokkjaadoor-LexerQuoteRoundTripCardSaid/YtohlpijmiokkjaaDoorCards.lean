/-
  DERIVED. GIVEN WITH THE SEED: THE CARDS: each row of YtohlpijmiokkjaaDoorRows.lean that lists a variable, with what it lists TIED to the program's text (the seventh form; the later family's looks); each row that meets fmt, with fmt's text TOLD by the authors' own Lean function (tested against real Go, not proved from fmt's source: count such statements apart). THE CARD IS WHAT COUNTS. Prove the row's statement (the work); the ties are given (YtohlpijmiokkjaaDoorTie.lean); close each card by the builder's one call (the guide's Derived/Test/ToyasCard.lean, 'card_holds'). Laid BY PROGRAM, IN A SANDBOX (cutbox-door.mjs). By AI agents, Wed Nov 11 2026. No macro, syntax, notation, axiom, sorry.
-/
import Derived.Test.YtohlpijmiokkjaaDoorRows
import GoSem.ClaimSeven
namespace Go.Proofs.YtohlpijmiokkjaaDoor
namespace Rows

/-- THE TIED CARD OF 'stemkeep3.LexerOffsets'. -/
def lexerOffsetsCard : Claim7 := { stood := { row := lexerOffsetsRow, standIns := [], harness := (true, "3eb5c0a49b29fc8dc9b4cbbbc7aa029043fd4f58fc6bd5088943731f7dce3de4"), looks := true }, kinds := [], alts := [], laidByText := true, laidKinds := [.data, .data, .data, .sentinel, .sentinel], laidTests := true, laidLooks := .later }
def LexerOffsetsCardSaid : Prop := Claim7.holds Tryd.pinned (.plain (OpenSpec.ofChange lexerOffsetsSpec)) lexerOffsetsCard

/-- THE TIED CARD OF 'stemkeep3.LexerQuoteRoundTrip'. -/
def lexerQuoteRoundTripCard : Claim7 := { stood := { row := lexerQuoteRoundTripRow, standIns := [], harness := (true, "3eb5c0a49b29fc8dc9b4cbbbc7aa029043fd4f58fc6bd5088943731f7dce3de4"), looks := true }, kinds := [], alts := [], laidByText := true, laidKinds := [.data, .data, .data, .data, .sentinel, .sentinel, .pinned], laidTests := true, laidLooks := .later }
def LexerQuoteRoundTripCardSaid : Prop := Claim7.holds Tryd.pinned (.plain (OpenSpec.ofChange lexerQuoteRoundTripSpec)) lexerQuoteRoundTripCard

/-- THE TIED CARD OF 'stemkeep3.LexerFormatRoundTrip'. -/
def lexerFormatRoundTripCard : Claim7 := { stood := { row := lexerFormatRoundTripRow, standIns := [], harness := (true, "3eb5c0a49b29fc8dc9b4cbbbc7aa029043fd4f58fc6bd5088943731f7dce3de4"), looks := true }, kinds := [], alts := [], laidByText := true, laidKinds := [.data, .data, .data, .data, .sentinel, .sentinel, .pinned], laidTests := true, laidLooks := .later }
def LexerFormatRoundTripCardSaid : Prop := Claim7.holds Tryd.pinned (.plain (OpenSpec.ofChange lexerFormatRoundTripSpec)) lexerFormatRoundTripCard

/-- THE SECOND FORM's CARD OF 'stemkeep3.LexerOffsets'. -/
def lexerOffsetsUptoCard : Claim7 := { stood := { row := lexerOffsetsUptoRow, standIns := [], harness := (true, "3eb5c0a49b29fc8dc9b4cbbbc7aa029043fd4f58fc6bd5088943731f7dce3de4"), looks := true }, kinds := [], alts := [], laidByText := true, laidKinds := [.data, .data, .data, .sentinel, .sentinel], laidTests := true, laidLooks := .later }
def LexerOffsetsUptoCardSaid : Prop := Claim7.holds Tryd.pinned (.plain (OpenSpec.upto lexerOffsetsSpec)) lexerOffsetsUptoCard

/-- THE SECOND FORM's CARD OF 'stemkeep3.LexerQuoteRoundTrip'. -/
def lexerQuoteRoundTripUptoCard : Claim7 := { stood := { row := lexerQuoteRoundTripUptoRow, standIns := [], harness := (true, "3eb5c0a49b29fc8dc9b4cbbbc7aa029043fd4f58fc6bd5088943731f7dce3de4"), looks := true }, kinds := [], alts := [], laidByText := true, laidKinds := [.data, .data, .data, .data, .sentinel, .sentinel, .pinned], laidTests := true, laidLooks := .later }
def LexerQuoteRoundTripUptoCardSaid : Prop := Claim7.holds Tryd.pinned (.plain (OpenSpec.upto lexerQuoteRoundTripSpec)) lexerQuoteRoundTripUptoCard

/-- THE SECOND FORM's CARD OF 'stemkeep3.LexerFormatRoundTrip'. -/
def lexerFormatRoundTripUptoCard : Claim7 := { stood := { row := lexerFormatRoundTripUptoRow, standIns := [], harness := (true, "3eb5c0a49b29fc8dc9b4cbbbc7aa029043fd4f58fc6bd5088943731f7dce3de4"), looks := true }, kinds := [], alts := [], laidByText := true, laidKinds := [.data, .data, .data, .data, .sentinel, .sentinel, .pinned], laidTests := true, laidLooks := .later }
def LexerFormatRoundTripUptoCardSaid : Prop := Claim7.holds Tryd.pinned (.plain (OpenSpec.upto lexerFormatRoundTripSpec)) lexerFormatRoundTripUptoCard
end Rows
end Go.Proofs.YtohlpijmiokkjaaDoor
