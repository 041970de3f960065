/-
  DERIVED. GIVEN WITH THE SEED: THE CARDS: each row of YtibojibdiibdgaaGreatDoorRows.lean that lists a variable, with what it lists TIED to the program's text (the seventh form; the later family's looks); each row that meets fmt, with fmt's text TOLD by the authors' own Lean function (tested against real Go, not proved from fmt's source: count such statements apart). THE CARD IS WHAT COUNTS. Prove the row's statement (the work); the ties are given (YtibojibdiibdgaaGreatDoorTie.lean); close each card by the builder's one call (the guide's Derived/Test/ToyasCard.lean, 'card_holds'). Laid BY PROGRAM, IN A SANDBOX (cutbox-door.mjs). By AI agents, Wed Nov 11 2026. No macro, syntax, notation, axiom, sorry.
-/
import Derived.Test.YtibojibdiibdgaaGreatDoorRows
import GoSem.ClaimSeven
namespace Go.Proofs.YtibojibdiibdgaaGreatDoor
namespace Rows

/-- THE TIED CARD OF 'stemkeep3.QueryParseErrorOffset'. -/
def queryParseErrorOffsetCard : Claim7 := { stood := { row := queryParseErrorOffsetRow, standIns := [], harness := (true, "050e39f4613ccc6d68769d8edd28cc0e0c8ba1abcbdbf7ec693381cd289e4dd0"), looks := true }, kinds := [], alts := [], laidByText := true, laidKinds := [.data, .data, .data, .sentinel, .sentinel], laidTests := true, laidLooks := .later }
def QueryParseErrorOffsetCardSaid : Prop := Claim7.holds Tryz.pinned (.plain (OpenSpec.ofChange queryParseErrorOffsetSpec)) queryParseErrorOffsetCard

/-- THE TIED CARD OF 'stemkeep3.QueryParseFormatsCanonically'. -/
def queryParseFormatsCanonicallyCard : Claim7 := { stood := { row := queryParseFormatsCanonicallyRow, standIns := [], harness := (true, "050e39f4613ccc6d68769d8edd28cc0e0c8ba1abcbdbf7ec693381cd289e4dd0"), looks := true }, kinds := [], alts := [], laidByText := true, laidKinds := [.data, .data, .data, .data, .sentinel, .sentinel, .pinned], laidTests := true, laidLooks := .later }
def QueryParseFormatsCanonicallyCardSaid : Prop := Claim7.holds Tryz.pinned (.plain (OpenSpec.ofChange queryParseFormatsCanonicallySpec)) queryParseFormatsCanonicallyCard

/-- THE TIED CARD OF 'stemkeep3.QueryTextRoundTrip'. -/
def queryTextRoundTripCard : Claim7 := { stood := { row := queryTextRoundTripRow, standIns := [], harness := (true, "050e39f4613ccc6d68769d8edd28cc0e0c8ba1abcbdbf7ec693381cd289e4dd0"), looks := true }, kinds := [], alts := [], laidByText := true, laidKinds := [.data, .data, .data, .data, .sentinel, .sentinel, .pinned], laidTests := true, laidLooks := .later }
def QueryTextRoundTripCardSaid : Prop := Claim7.holds Tryz.pinned (.plain (OpenSpec.ofChange queryTextRoundTripSpec)) queryTextRoundTripCard

/-- THE SECOND FORM's CARD OF 'stemkeep3.QueryParseErrorOffset'. -/
def queryParseErrorOffsetUptoCard : Claim7 := { stood := { row := queryParseErrorOffsetUptoRow, standIns := [], harness := (true, "050e39f4613ccc6d68769d8edd28cc0e0c8ba1abcbdbf7ec693381cd289e4dd0"), looks := true }, kinds := [], alts := [], laidByText := true, laidKinds := [.data, .data, .data, .sentinel, .sentinel], laidTests := true, laidLooks := .later }
def QueryParseErrorOffsetUptoCardSaid : Prop := Claim7.holds Tryz.pinned (.plain (OpenSpec.upto queryParseErrorOffsetSpec)) queryParseErrorOffsetUptoCard

/-- THE SECOND FORM's CARD OF 'stemkeep3.QueryParseFormatsCanonically'. -/
def queryParseFormatsCanonicallyUptoCard : Claim7 := { stood := { row := queryParseFormatsCanonicallyUptoRow, standIns := [], harness := (true, "050e39f4613ccc6d68769d8edd28cc0e0c8ba1abcbdbf7ec693381cd289e4dd0"), looks := true }, kinds := [], alts := [], laidByText := true, laidKinds := [.data, .data, .data, .data, .sentinel, .sentinel, .pinned], laidTests := true, laidLooks := .later }
def QueryParseFormatsCanonicallyUptoCardSaid : Prop := Claim7.holds Tryz.pinned (.plain (OpenSpec.upto queryParseFormatsCanonicallySpec)) queryParseFormatsCanonicallyUptoCard

/-- THE SECOND FORM's CARD OF 'stemkeep3.QueryTextRoundTrip'. -/
def queryTextRoundTripUptoCard : Claim7 := { stood := { row := queryTextRoundTripUptoRow, standIns := [], harness := (true, "050e39f4613ccc6d68769d8edd28cc0e0c8ba1abcbdbf7ec693381cd289e4dd0"), looks := true }, kinds := [], alts := [], laidByText := true, laidKinds := [.data, .data, .data, .data, .sentinel, .sentinel, .pinned], laidTests := true, laidLooks := .later }
def QueryTextRoundTripUptoCardSaid : Prop := Claim7.holds Tryz.pinned (.plain (OpenSpec.upto queryTextRoundTripSpec)) queryTextRoundTripUptoCard
end Rows
end Go.Proofs.YtibojibdiibdgaaGreatDoor
