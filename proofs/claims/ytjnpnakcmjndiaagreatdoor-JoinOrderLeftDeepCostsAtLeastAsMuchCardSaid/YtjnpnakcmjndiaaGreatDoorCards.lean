/-
  DERIVED. GIVEN WITH THE SEED: THE CARDS: each row of YtjnpnakcmjndiaaGreatDoorRows.lean that lists a variable, with what it lists TIED to the program's text (the seventh form; the later family's looks); each row that meets fmt, with fmt's text TOLD by the authors' own Lean function (tested against real Go, not proved from fmt's source: count such statements apart). THE CARD IS WHAT COUNTS. Prove the row's statement (the work); the ties are given (YtjnpnakcmjndiaaGreatDoorTie.lean); close each card by the builder's one call (the guide's Derived/Test/ToyasCard.lean, 'card_holds'). Laid BY PROGRAM, IN A SANDBOX (cutbox-door.mjs). By AI agents, Wed Nov 11 2026. No macro, syntax, notation, axiom, sorry.
-/
import Derived.Test.YtjnpnakcmjndiaaGreatDoorRows
import GoSem.ClaimSeven
namespace Go.Proofs.YtjnpnakcmjndiaaGreatDoor
namespace Rows

/-- THE TIED CARD OF 'stemkeep3.QueryParseErrorOffset'. -/
def queryParseErrorOffsetCard : Claim7 := { stood := { row := queryParseErrorOffsetRow, standIns := [], harness := (true, "5a05012eddcb82ce5de2ef3b532c8b3512661ca0490edab66f54060e11404bbc"), looks := true }, kinds := [], alts := [], laidByText := true, laidKinds := [.data, .data, .data, .sentinel, .sentinel], laidTests := true, laidLooks := .later }
def QueryParseErrorOffsetCardSaid : Prop := Claim7.holds Tryz.pinned (.plain (OpenSpec.ofChange queryParseErrorOffsetSpec)) queryParseErrorOffsetCard

/-- THE TIED CARD OF 'stemkeep3.JoinSemiAndAntiPartition'. -/
def joinSemiAndAntiPartitionCard : Claim7 := { stood := { row := joinSemiAndAntiPartitionRow, standIns := [], harness := (true, "5a05012eddcb82ce5de2ef3b532c8b3512661ca0490edab66f54060e11404bbc"), looks := true }, kinds := [], alts := [], laidByText := true, laidKinds := [.data, .data, .data, .sentinel, .sentinel], laidTests := true, laidLooks := .later }
def JoinSemiAndAntiPartitionCardSaid : Prop := Claim7.holds Tryz.pinned (.plain (OpenSpec.ofChange joinSemiAndAntiPartitionSpec)) joinSemiAndAntiPartitionCard

/-- THE TIED CARD OF 'stemkeep3.JoinMergeOrder'. -/
def joinMergeOrderCard : Claim7 := { stood := { row := joinMergeOrderRow, standIns := [], harness := (true, "5a05012eddcb82ce5de2ef3b532c8b3512661ca0490edab66f54060e11404bbc"), looks := true }, kinds := [], alts := [], laidByText := true, laidKinds := [.data, .data, .data, .sentinel, .sentinel], laidTests := true, laidLooks := .later }
def JoinMergeOrderCardSaid : Prop := Claim7.holds Tryz.pinned (.plain (OpenSpec.ofChange joinMergeOrderSpec)) joinMergeOrderCard

/-- THE TIED CARD OF 'stemkeep3.JoinOrderLeftDeepCostsAtLeastAsMuch'. -/
def joinOrderLeftDeepCostsAtLeastAsMuchCard : Claim7 := { stood := { row := joinOrderLeftDeepCostsAtLeastAsMuchRow, standIns := [], harness := (true, "5a05012eddcb82ce5de2ef3b532c8b3512661ca0490edab66f54060e11404bbc"), looks := true }, kinds := [], alts := [], laidByText := true, laidKinds := [.data, .data, .data, .sentinel, .sentinel], laidTests := true, laidLooks := .later }
def JoinOrderLeftDeepCostsAtLeastAsMuchCardSaid : Prop := Claim7.holds Tryz.pinned (.plain (OpenSpec.ofChange joinOrderLeftDeepCostsAtLeastAsMuchSpec)) joinOrderLeftDeepCostsAtLeastAsMuchCard

/-- THE TIED CARD OF 'stemkeep3.SortMemoryIsIrrelevant'. -/
def sortMemoryIsIrrelevantCard : Claim7 := { stood := { row := sortMemoryIsIrrelevantRow, standIns := [], harness := (true, "5a05012eddcb82ce5de2ef3b532c8b3512661ca0490edab66f54060e11404bbc"), looks := true }, kinds := [], alts := [], laidByText := true, laidKinds := [.data, .data, .data, .sentinel, .sentinel], laidTests := true, laidLooks := .later }
def SortMemoryIsIrrelevantCardSaid : Prop := Claim7.holds Tryz.pinned (.plain (OpenSpec.ofChange sortMemoryIsIrrelevantSpec)) sortMemoryIsIrrelevantCard

/-- THE TIED CARD OF 'stemkeep3.SortRunsAreSortedChunks'. -/
def sortRunsAreSortedChunksCard : Claim7 := { stood := { row := sortRunsAreSortedChunksRow, standIns := [], harness := (true, "5a05012eddcb82ce5de2ef3b532c8b3512661ca0490edab66f54060e11404bbc"), looks := true }, kinds := [], alts := [], laidByText := true, laidKinds := [.data, .data, .data, .sentinel, .sentinel], laidTests := true, laidLooks := .later }
def SortRunsAreSortedChunksCardSaid : Prop := Claim7.holds Tryz.pinned (.plain (OpenSpec.ofChange sortRunsAreSortedChunksSpec)) sortRunsAreSortedChunksCard

/-- THE TIED CARD OF 'stemkeep3.QueryParseFormatsCanonically'. -/
def queryParseFormatsCanonicallyCard : Claim7 := { stood := { row := queryParseFormatsCanonicallyRow, standIns := [], harness := (true, "5a05012eddcb82ce5de2ef3b532c8b3512661ca0490edab66f54060e11404bbc"), looks := true }, kinds := [], alts := [], laidByText := true, laidKinds := [.data, .data, .data, .data, .sentinel, .sentinel, .pinned], laidTests := true, laidLooks := .later }
def QueryParseFormatsCanonicallyCardSaid : Prop := Claim7.holds Tryz.pinned (.plain (OpenSpec.ofChange queryParseFormatsCanonicallySpec)) queryParseFormatsCanonicallyCard

/-- THE TIED CARD OF 'stemkeep3.JoinAlgorithmsAgree'. -/
def joinAlgorithmsAgreeCard : Claim7 := { stood := { row := joinAlgorithmsAgreeRow, standIns := [], harness := (true, "5a05012eddcb82ce5de2ef3b532c8b3512661ca0490edab66f54060e11404bbc"), looks := true }, kinds := [], alts := [], laidByText := true, laidKinds := [.data, .data, .data, .sentinel, .sentinel], laidTests := true, laidLooks := .later }
def JoinAlgorithmsAgreeCardSaid : Prop := Claim7.holds Tryz.pinned (.plain (OpenSpec.ofChange joinAlgorithmsAgreeSpec)) joinAlgorithmsAgreeCard

/-- THE TIED CARD OF 'stemkeep3.QueryTextRoundTrip'. -/
def queryTextRoundTripCard : Claim7 := { stood := { row := queryTextRoundTripRow, standIns := [], harness := (true, "5a05012eddcb82ce5de2ef3b532c8b3512661ca0490edab66f54060e11404bbc"), looks := true }, kinds := [], alts := [], laidByText := true, laidKinds := [.data, .data, .data, .data, .sentinel, .sentinel, .pinned], laidTests := true, laidLooks := .later }
def QueryTextRoundTripCardSaid : Prop := Claim7.holds Tryz.pinned (.plain (OpenSpec.ofChange queryTextRoundTripSpec)) queryTextRoundTripCard

/-- THE SECOND FORM's CARD OF 'stemkeep3.QueryParseErrorOffset'. -/
def queryParseErrorOffsetUptoCard : Claim7 := { stood := { row := queryParseErrorOffsetUptoRow, standIns := [], harness := (true, "5a05012eddcb82ce5de2ef3b532c8b3512661ca0490edab66f54060e11404bbc"), looks := true }, kinds := [], alts := [], laidByText := true, laidKinds := [.data, .data, .data, .sentinel, .sentinel], laidTests := true, laidLooks := .later }
def QueryParseErrorOffsetUptoCardSaid : Prop := Claim7.holds Tryz.pinned (.plain (OpenSpec.upto queryParseErrorOffsetSpec)) queryParseErrorOffsetUptoCard

/-- THE SECOND FORM's CARD OF 'stemkeep3.JoinSemiAndAntiPartition'. -/
def joinSemiAndAntiPartitionUptoCard : Claim7 := { stood := { row := joinSemiAndAntiPartitionUptoRow, standIns := [], harness := (true, "5a05012eddcb82ce5de2ef3b532c8b3512661ca0490edab66f54060e11404bbc"), looks := true }, kinds := [], alts := [], laidByText := true, laidKinds := [.data, .data, .data, .sentinel, .sentinel], laidTests := true, laidLooks := .later }
def JoinSemiAndAntiPartitionUptoCardSaid : Prop := Claim7.holds Tryz.pinned (.plain (OpenSpec.upto joinSemiAndAntiPartitionSpec)) joinSemiAndAntiPartitionUptoCard

/-- THE SECOND FORM's CARD OF 'stemkeep3.JoinMergeOrder'. -/
def joinMergeOrderUptoCard : Claim7 := { stood := { row := joinMergeOrderUptoRow, standIns := [], harness := (true, "5a05012eddcb82ce5de2ef3b532c8b3512661ca0490edab66f54060e11404bbc"), looks := true }, kinds := [], alts := [], laidByText := true, laidKinds := [.data, .data, .data, .sentinel, .sentinel], laidTests := true, laidLooks := .later }
def JoinMergeOrderUptoCardSaid : Prop := Claim7.holds Tryz.pinned (.plain (OpenSpec.upto joinMergeOrderSpec)) joinMergeOrderUptoCard

/-- THE SECOND FORM's CARD OF 'stemkeep3.JoinOrderLeftDeepCostsAtLeastAsMuch'. -/
def joinOrderLeftDeepCostsAtLeastAsMuchUptoCard : Claim7 := { stood := { row := joinOrderLeftDeepCostsAtLeastAsMuchUptoRow, standIns := [], harness := (true, "5a05012eddcb82ce5de2ef3b532c8b3512661ca0490edab66f54060e11404bbc"), looks := true }, kinds := [], alts := [], laidByText := true, laidKinds := [.data, .data, .data, .sentinel, .sentinel], laidTests := true, laidLooks := .later }
def JoinOrderLeftDeepCostsAtLeastAsMuchUptoCardSaid : Prop := Claim7.holds Tryz.pinned (.plain (OpenSpec.upto joinOrderLeftDeepCostsAtLeastAsMuchSpec)) joinOrderLeftDeepCostsAtLeastAsMuchUptoCard

/-- THE SECOND FORM's CARD OF 'stemkeep3.SortMemoryIsIrrelevant'. -/
def sortMemoryIsIrrelevantUptoCard : Claim7 := { stood := { row := sortMemoryIsIrrelevantUptoRow, standIns := [], harness := (true, "5a05012eddcb82ce5de2ef3b532c8b3512661ca0490edab66f54060e11404bbc"), looks := true }, kinds := [], alts := [], laidByText := true, laidKinds := [.data, .data, .data, .sentinel, .sentinel], laidTests := true, laidLooks := .later }
def SortMemoryIsIrrelevantUptoCardSaid : Prop := Claim7.holds Tryz.pinned (.plain (OpenSpec.upto sortMemoryIsIrrelevantSpec)) sortMemoryIsIrrelevantUptoCard

/-- THE SECOND FORM's CARD OF 'stemkeep3.SortRunsAreSortedChunks'. -/
def sortRunsAreSortedChunksUptoCard : Claim7 := { stood := { row := sortRunsAreSortedChunksUptoRow, standIns := [], harness := (true, "5a05012eddcb82ce5de2ef3b532c8b3512661ca0490edab66f54060e11404bbc"), looks := true }, kinds := [], alts := [], laidByText := true, laidKinds := [.data, .data, .data, .sentinel, .sentinel], laidTests := true, laidLooks := .later }
def SortRunsAreSortedChunksUptoCardSaid : Prop := Claim7.holds Tryz.pinned (.plain (OpenSpec.upto sortRunsAreSortedChunksSpec)) sortRunsAreSortedChunksUptoCard

/-- THE SECOND FORM's CARD OF 'stemkeep3.QueryParseFormatsCanonically'. -/
def queryParseFormatsCanonicallyUptoCard : Claim7 := { stood := { row := queryParseFormatsCanonicallyUptoRow, standIns := [], harness := (true, "5a05012eddcb82ce5de2ef3b532c8b3512661ca0490edab66f54060e11404bbc"), looks := true }, kinds := [], alts := [], laidByText := true, laidKinds := [.data, .data, .data, .data, .sentinel, .sentinel, .pinned], laidTests := true, laidLooks := .later }
def QueryParseFormatsCanonicallyUptoCardSaid : Prop := Claim7.holds Tryz.pinned (.plain (OpenSpec.upto queryParseFormatsCanonicallySpec)) queryParseFormatsCanonicallyUptoCard

/-- THE SECOND FORM's CARD OF 'stemkeep3.JoinAlgorithmsAgree'. -/
def joinAlgorithmsAgreeUptoCard : Claim7 := { stood := { row := joinAlgorithmsAgreeUptoRow, standIns := [], harness := (true, "5a05012eddcb82ce5de2ef3b532c8b3512661ca0490edab66f54060e11404bbc"), looks := true }, kinds := [], alts := [], laidByText := true, laidKinds := [.data, .data, .data, .sentinel, .sentinel], laidTests := true, laidLooks := .later }
def JoinAlgorithmsAgreeUptoCardSaid : Prop := Claim7.holds Tryz.pinned (.plain (OpenSpec.upto joinAlgorithmsAgreeSpec)) joinAlgorithmsAgreeUptoCard

/-- THE SECOND FORM's CARD OF 'stemkeep3.QueryTextRoundTrip'. -/
def queryTextRoundTripUptoCard : Claim7 := { stood := { row := queryTextRoundTripUptoRow, standIns := [], harness := (true, "5a05012eddcb82ce5de2ef3b532c8b3512661ca0490edab66f54060e11404bbc"), looks := true }, kinds := [], alts := [], laidByText := true, laidKinds := [.data, .data, .data, .data, .sentinel, .sentinel, .pinned], laidTests := true, laidLooks := .later }
def QueryTextRoundTripUptoCardSaid : Prop := Claim7.holds Tryz.pinned (.plain (OpenSpec.upto queryTextRoundTripSpec)) queryTextRoundTripUptoCard
end Rows
end Go.Proofs.YtjnpnakcmjndiaaGreatDoor
