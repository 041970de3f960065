/-
  NARROWER THAN 'FOR EVERY INPUT', by the rows' own cells (each row's printed sentence says how): QueryExceptSelfIsEmpty: loops · QueryResultConformsToColumns: loops · QueryLeftJoinExtendsInnerJoin: loops · QueryGroupsPartitionRows: loops · QueryDistinctIsIdempotent: loops · QueryLimitSlices: loops · QueryFiltersCommute: loops · QueryParametersAreConstants: loops · QueryCloneIsIndependent: loops · QueryUnionExceptCancel: loops · QuerySortOrdersRows: loops · QueryReadsOnlyItsTables: loops.
  DERIVED. THE GIVEN ROWS OF THIS SEAT. 12 by the template 'for every input the law returns true; each argument reads behind the call as it read before'; 0 by the template 'total and deterministic' (their statements: YtgaggbdcedpapaaGreatTotals.lean).
  GIVEN WITH THE SEED: the statements are not yours to turn. If you find one false, say at which input.
  Laid BY PROGRAM, IN A SANDBOX (cutbox-rows.mjs): the forced cells as the released guide's own fill.sh prints them over the translation 21af61c5f70cb26d… (all of the seat's roots in one cut). By AI agents, Wed Nov 11 2026. No macro, syntax, notation, axiom, sorry.
-/
import Derived.Test.YtgaggbdcedpapaaGreatChecked
import GoSem.Claim
import GoSem.ClaimJoined
import GoSem.ClaimMapViews
import Derived.JoinedTies
import Derived.KernelRfl
namespace Go.Proofs.YtgaggbdcedpapaaGreat
/- THE CELL 'sum', in the pinned program and in every row, IS THE sha256 OF THE DUMP (.gsa) THAT YtgaggbdcedpapaaGreatProg.lean LOADS. Nothing in Lean hashes anything: it is a label: what it is worth is what the hold of that sum in a sandbox is worth. -/
noncomputable def Tryz.pinned : Pinned := { name := "ytgaggbdcedpapaagreat", sum := "21af61c5f70cb26d976dcdf0523013cd58fbbe16d673dadd85d4ff1dc3a18ef6", checked := Tryz.checked }
namespace Rows
def none {H : Type} : Left H := { results := [], args := [] }

/-- 'stemkeep3.QueryExceptSelfIsEmpty': WHATEVER THE INPUT: true; the input reads as it did. -/
def queryExceptSelfIsEmptySpec : ChangeSpec := { name := "queryExceptSelfIsEmpty", fn := fun _ => fun
  | [d1, d2, d3, d4] => { results := [.lit (.bool true)], args := [d1, d2, d3, d4] }
  | _ => none }
def queryExceptSelfIsEmptyRow : OpenClaim := { program := "ytgaggbdcedpapaagreat", sum := "21af61c5f70cb26d976dcdf0523013cd58fbbe16d673dadd85d4ff1dc3a18ef6", func := "stemma/stemkeep3.QueryExceptSelfIsEmpty", spec := "queryExceptSelfIsEmpty", inPlace := ["internal/bytealg.abigen_runtime_cmpstring"], unfollowed := true, recurses := true, loops := true, apart := false }
def QueryExceptSelfIsEmptySaid : Prop := queryExceptSelfIsEmptyRow.holds Tryz.pinned (OpenSpec.ofChange queryExceptSelfIsEmptySpec)

/-- ITS FALSE NEIGHBOUR: 'it returns false'. Refute it at one input. -/
def queryExceptSelfIsEmptyWrong : ChangeSpec := { name := "queryExceptSelfIsEmpty", fn := fun _ => fun
  | [d1, d2, d3, d4] => { results := [.lit (.bool false)], args := [d1, d2, d3, d4] }
  | _ => none }
def QueryExceptSelfIsEmptyWrongFalsely : Prop := queryExceptSelfIsEmptyRow.holds Tryz.pinned (OpenSpec.ofChange queryExceptSelfIsEmptyWrong)

/-- 'stemkeep3.QueryResultConformsToColumns': WHATEVER THE INPUT: true; the input reads as it did. -/
def queryResultConformsToColumnsSpec : ChangeSpec := { name := "queryResultConformsToColumns", fn := fun _ => fun
  | [d1, d2, d3, d4] => { results := [.lit (.bool true)], args := [d1, d2, d3, d4] }
  | _ => none }
def queryResultConformsToColumnsRow : OpenClaim := { program := "ytgaggbdcedpapaagreat", sum := "21af61c5f70cb26d976dcdf0523013cd58fbbe16d673dadd85d4ff1dc3a18ef6", func := "stemma/stemkeep3.QueryResultConformsToColumns", spec := "queryResultConformsToColumns", inPlace := ["internal/bytealg.abigen_runtime_cmpstring"], unfollowed := true, recurses := true, loops := true, apart := false }
def QueryResultConformsToColumnsSaid : Prop := queryResultConformsToColumnsRow.holds Tryz.pinned (OpenSpec.ofChange queryResultConformsToColumnsSpec)

/-- ITS FALSE NEIGHBOUR: 'it returns false'. Refute it at one input. -/
def queryResultConformsToColumnsWrong : ChangeSpec := { name := "queryResultConformsToColumns", fn := fun _ => fun
  | [d1, d2, d3, d4] => { results := [.lit (.bool false)], args := [d1, d2, d3, d4] }
  | _ => none }
def QueryResultConformsToColumnsWrongFalsely : Prop := queryResultConformsToColumnsRow.holds Tryz.pinned (OpenSpec.ofChange queryResultConformsToColumnsWrong)

/-- 'stemkeep3.QueryLeftJoinExtendsInnerJoin': WHATEVER THE INPUT: true; the input reads as it did. -/
def queryLeftJoinExtendsInnerJoinSpec : ChangeSpec := { name := "queryLeftJoinExtendsInnerJoin", fn := fun _ => fun
  | [d1, d2, d3, d4, d5, d6] => { results := [.lit (.bool true)], args := [d1, d2, d3, d4, d5, d6] }
  | _ => none }
def queryLeftJoinExtendsInnerJoinRow : OpenClaim := { program := "ytgaggbdcedpapaagreat", sum := "21af61c5f70cb26d976dcdf0523013cd58fbbe16d673dadd85d4ff1dc3a18ef6", func := "stemma/stemkeep3.QueryLeftJoinExtendsInnerJoin", spec := "queryLeftJoinExtendsInnerJoin", inPlace := ["internal/bytealg.abigen_runtime_cmpstring"], unfollowed := true, recurses := true, loops := true, apart := false }
def QueryLeftJoinExtendsInnerJoinSaid : Prop := queryLeftJoinExtendsInnerJoinRow.holds Tryz.pinned (OpenSpec.ofChange queryLeftJoinExtendsInnerJoinSpec)

/-- ITS FALSE NEIGHBOUR: 'it returns false'. Refute it at one input. -/
def queryLeftJoinExtendsInnerJoinWrong : ChangeSpec := { name := "queryLeftJoinExtendsInnerJoin", fn := fun _ => fun
  | [d1, d2, d3, d4, d5, d6] => { results := [.lit (.bool false)], args := [d1, d2, d3, d4, d5, d6] }
  | _ => none }
def QueryLeftJoinExtendsInnerJoinWrongFalsely : Prop := queryLeftJoinExtendsInnerJoinRow.holds Tryz.pinned (OpenSpec.ofChange queryLeftJoinExtendsInnerJoinWrong)

/-- 'stemkeep3.QueryGroupsPartitionRows': WHATEVER THE INPUT: true; the input reads as it did. -/
def queryGroupsPartitionRowsSpec : ChangeSpec := { name := "queryGroupsPartitionRows", fn := fun _ => fun
  | [d1, d2, d3, d4, d5] => { results := [.lit (.bool true)], args := [d1, d2, d3, d4, d5] }
  | _ => none }
def queryGroupsPartitionRowsRow : OpenClaim := { program := "ytgaggbdcedpapaagreat", sum := "21af61c5f70cb26d976dcdf0523013cd58fbbe16d673dadd85d4ff1dc3a18ef6", func := "stemma/stemkeep3.QueryGroupsPartitionRows", spec := "queryGroupsPartitionRows", inPlace := ["internal/bytealg.abigen_runtime_cmpstring"], unfollowed := true, recurses := true, loops := true, apart := false }
def QueryGroupsPartitionRowsSaid : Prop := queryGroupsPartitionRowsRow.holds Tryz.pinned (OpenSpec.ofChange queryGroupsPartitionRowsSpec)

/-- ITS FALSE NEIGHBOUR: 'it returns false'. Refute it at one input. -/
def queryGroupsPartitionRowsWrong : ChangeSpec := { name := "queryGroupsPartitionRows", fn := fun _ => fun
  | [d1, d2, d3, d4, d5] => { results := [.lit (.bool false)], args := [d1, d2, d3, d4, d5] }
  | _ => none }
def QueryGroupsPartitionRowsWrongFalsely : Prop := queryGroupsPartitionRowsRow.holds Tryz.pinned (OpenSpec.ofChange queryGroupsPartitionRowsWrong)

/-- 'stemkeep3.QueryDistinctIsIdempotent': WHATEVER THE INPUT: true; the input reads as it did. -/
def queryDistinctIsIdempotentSpec : ChangeSpec := { name := "queryDistinctIsIdempotent", fn := fun _ => fun
  | [d1, d2, d3, d4] => { results := [.lit (.bool true)], args := [d1, d2, d3, d4] }
  | _ => none }
def queryDistinctIsIdempotentRow : OpenClaim := { program := "ytgaggbdcedpapaagreat", sum := "21af61c5f70cb26d976dcdf0523013cd58fbbe16d673dadd85d4ff1dc3a18ef6", func := "stemma/stemkeep3.QueryDistinctIsIdempotent", spec := "queryDistinctIsIdempotent", inPlace := ["internal/bytealg.abigen_runtime_cmpstring"], unfollowed := true, recurses := true, loops := true, apart := false }
def QueryDistinctIsIdempotentSaid : Prop := queryDistinctIsIdempotentRow.holds Tryz.pinned (OpenSpec.ofChange queryDistinctIsIdempotentSpec)

/-- ITS FALSE NEIGHBOUR: 'it returns false'. Refute it at one input. -/
def queryDistinctIsIdempotentWrong : ChangeSpec := { name := "queryDistinctIsIdempotent", fn := fun _ => fun
  | [d1, d2, d3, d4] => { results := [.lit (.bool false)], args := [d1, d2, d3, d4] }
  | _ => none }
def QueryDistinctIsIdempotentWrongFalsely : Prop := queryDistinctIsIdempotentRow.holds Tryz.pinned (OpenSpec.ofChange queryDistinctIsIdempotentWrong)

/-- 'stemkeep3.QueryLimitSlices': WHATEVER THE INPUT: true; the input reads as it did. -/
def queryLimitSlicesSpec : ChangeSpec := { name := "queryLimitSlices", fn := fun _ => fun
  | [d1, d2, d3, d4, d5, d6] => { results := [.lit (.bool true)], args := [d1, d2, d3, d4, d5, d6] }
  | _ => none }
def queryLimitSlicesRow : OpenClaim := { program := "ytgaggbdcedpapaagreat", sum := "21af61c5f70cb26d976dcdf0523013cd58fbbe16d673dadd85d4ff1dc3a18ef6", func := "stemma/stemkeep3.QueryLimitSlices", spec := "queryLimitSlices", inPlace := ["internal/bytealg.abigen_runtime_cmpstring"], unfollowed := true, recurses := true, loops := true, apart := false }
def QueryLimitSlicesSaid : Prop := queryLimitSlicesRow.holds Tryz.pinned (OpenSpec.ofChange queryLimitSlicesSpec)

/-- ITS FALSE NEIGHBOUR: 'it returns false'. Refute it at one input. -/
def queryLimitSlicesWrong : ChangeSpec := { name := "queryLimitSlices", fn := fun _ => fun
  | [d1, d2, d3, d4, d5, d6] => { results := [.lit (.bool false)], args := [d1, d2, d3, d4, d5, d6] }
  | _ => none }
def QueryLimitSlicesWrongFalsely : Prop := queryLimitSlicesRow.holds Tryz.pinned (OpenSpec.ofChange queryLimitSlicesWrong)

/-- 'stemkeep3.QueryFiltersCommute': WHATEVER THE INPUT: true; the input reads as it did. -/
def queryFiltersCommuteSpec : ChangeSpec := { name := "queryFiltersCommute", fn := fun _ => fun
  | [d1, d2, d3, d4, d5, d6] => { results := [.lit (.bool true)], args := [d1, d2, d3, d4, d5, d6] }
  | _ => none }
def queryFiltersCommuteRow : OpenClaim := { program := "ytgaggbdcedpapaagreat", sum := "21af61c5f70cb26d976dcdf0523013cd58fbbe16d673dadd85d4ff1dc3a18ef6", func := "stemma/stemkeep3.QueryFiltersCommute", spec := "queryFiltersCommute", inPlace := ["internal/bytealg.abigen_runtime_cmpstring"], unfollowed := true, recurses := true, loops := true, apart := false }
def QueryFiltersCommuteSaid : Prop := queryFiltersCommuteRow.holds Tryz.pinned (OpenSpec.ofChange queryFiltersCommuteSpec)

/-- ITS FALSE NEIGHBOUR: 'it returns false'. Refute it at one input. -/
def queryFiltersCommuteWrong : ChangeSpec := { name := "queryFiltersCommute", fn := fun _ => fun
  | [d1, d2, d3, d4, d5, d6] => { results := [.lit (.bool false)], args := [d1, d2, d3, d4, d5, d6] }
  | _ => none }
def QueryFiltersCommuteWrongFalsely : Prop := queryFiltersCommuteRow.holds Tryz.pinned (OpenSpec.ofChange queryFiltersCommuteWrong)

/-- 'stemkeep3.QueryParametersAreConstants': WHATEVER THE INPUT: true; the input reads as it did. -/
def queryParametersAreConstantsSpec : ChangeSpec := { name := "queryParametersAreConstants", fn := fun _ => fun
  | [d1, d2, d3, d4] => { results := [.lit (.bool true)], args := [d1, d2, d3, d4] }
  | _ => none }
def queryParametersAreConstantsRow : OpenClaim := { program := "ytgaggbdcedpapaagreat", sum := "21af61c5f70cb26d976dcdf0523013cd58fbbe16d673dadd85d4ff1dc3a18ef6", func := "stemma/stemkeep3.QueryParametersAreConstants", spec := "queryParametersAreConstants", inPlace := ["internal/bytealg.abigen_runtime_cmpstring"], unfollowed := true, recurses := true, loops := true, apart := false }
def QueryParametersAreConstantsSaid : Prop := queryParametersAreConstantsRow.holds Tryz.pinned (OpenSpec.ofChange queryParametersAreConstantsSpec)

/-- ITS FALSE NEIGHBOUR: 'it returns false'. Refute it at one input. -/
def queryParametersAreConstantsWrong : ChangeSpec := { name := "queryParametersAreConstants", fn := fun _ => fun
  | [d1, d2, d3, d4] => { results := [.lit (.bool false)], args := [d1, d2, d3, d4] }
  | _ => none }
def QueryParametersAreConstantsWrongFalsely : Prop := queryParametersAreConstantsRow.holds Tryz.pinned (OpenSpec.ofChange queryParametersAreConstantsWrong)

/-- 'stemkeep3.QueryCloneIsIndependent': WHATEVER THE INPUT: true; the input reads as it did. -/
def queryCloneIsIndependentSpec : ChangeSpec := { name := "queryCloneIsIndependent", fn := fun _ => fun
  | [d1, d2, d3, d4] => { results := [.lit (.bool true)], args := [d1, d2, d3, d4] }
  | _ => none }
def queryCloneIsIndependentRow : OpenClaim := { program := "ytgaggbdcedpapaagreat", sum := "21af61c5f70cb26d976dcdf0523013cd58fbbe16d673dadd85d4ff1dc3a18ef6", func := "stemma/stemkeep3.QueryCloneIsIndependent", spec := "queryCloneIsIndependent", inPlace := ["internal/bytealg.abigen_runtime_cmpstring"], unfollowed := true, recurses := true, loops := true, apart := false }
def QueryCloneIsIndependentSaid : Prop := queryCloneIsIndependentRow.holds Tryz.pinned (OpenSpec.ofChange queryCloneIsIndependentSpec)

/-- ITS FALSE NEIGHBOUR: 'it returns false'. Refute it at one input. -/
def queryCloneIsIndependentWrong : ChangeSpec := { name := "queryCloneIsIndependent", fn := fun _ => fun
  | [d1, d2, d3, d4] => { results := [.lit (.bool false)], args := [d1, d2, d3, d4] }
  | _ => none }
def QueryCloneIsIndependentWrongFalsely : Prop := queryCloneIsIndependentRow.holds Tryz.pinned (OpenSpec.ofChange queryCloneIsIndependentWrong)

/-- 'stemkeep3.QueryUnionExceptCancel': WHATEVER THE INPUT: true; the input reads as it did. -/
def queryUnionExceptCancelSpec : ChangeSpec := { name := "queryUnionExceptCancel", fn := fun _ => fun
  | [d1, d2, d3, d4, d5] => { results := [.lit (.bool true)], args := [d1, d2, d3, d4, d5] }
  | _ => none }
def queryUnionExceptCancelRow : OpenClaim := { program := "ytgaggbdcedpapaagreat", sum := "21af61c5f70cb26d976dcdf0523013cd58fbbe16d673dadd85d4ff1dc3a18ef6", func := "stemma/stemkeep3.QueryUnionExceptCancel", spec := "queryUnionExceptCancel", inPlace := ["internal/bytealg.abigen_runtime_cmpstring"], unfollowed := true, recurses := true, loops := true, apart := false }
def QueryUnionExceptCancelSaid : Prop := queryUnionExceptCancelRow.holds Tryz.pinned (OpenSpec.ofChange queryUnionExceptCancelSpec)

/-- ITS FALSE NEIGHBOUR: 'it returns false'. Refute it at one input. -/
def queryUnionExceptCancelWrong : ChangeSpec := { name := "queryUnionExceptCancel", fn := fun _ => fun
  | [d1, d2, d3, d4, d5] => { results := [.lit (.bool false)], args := [d1, d2, d3, d4, d5] }
  | _ => none }
def QueryUnionExceptCancelWrongFalsely : Prop := queryUnionExceptCancelRow.holds Tryz.pinned (OpenSpec.ofChange queryUnionExceptCancelWrong)

/-- 'stemkeep3.QuerySortOrdersRows': WHATEVER THE INPUT: true; the input reads as it did. -/
def querySortOrdersRowsSpec : ChangeSpec := { name := "querySortOrdersRows", fn := fun _ => fun
  | [d1, d2, d3, d4, d5, d6] => { results := [.lit (.bool true)], args := [d1, d2, d3, d4, d5, d6] }
  | _ => none }
def querySortOrdersRowsRow : OpenClaim := { program := "ytgaggbdcedpapaagreat", sum := "21af61c5f70cb26d976dcdf0523013cd58fbbe16d673dadd85d4ff1dc3a18ef6", func := "stemma/stemkeep3.QuerySortOrdersRows", spec := "querySortOrdersRows", inPlace := ["internal/bytealg.abigen_runtime_cmpstring"], unfollowed := true, recurses := true, loops := true, apart := false }
def QuerySortOrdersRowsSaid : Prop := querySortOrdersRowsRow.holds Tryz.pinned (OpenSpec.ofChange querySortOrdersRowsSpec)

/-- ITS FALSE NEIGHBOUR: 'it returns false'. Refute it at one input. -/
def querySortOrdersRowsWrong : ChangeSpec := { name := "querySortOrdersRows", fn := fun _ => fun
  | [d1, d2, d3, d4, d5, d6] => { results := [.lit (.bool false)], args := [d1, d2, d3, d4, d5, d6] }
  | _ => none }
def QuerySortOrdersRowsWrongFalsely : Prop := querySortOrdersRowsRow.holds Tryz.pinned (OpenSpec.ofChange querySortOrdersRowsWrong)

/-- 'stemkeep3.QueryReadsOnlyItsTables': WHATEVER THE INPUT: true; the input reads as it did. -/
def queryReadsOnlyItsTablesSpec : ChangeSpec := { name := "queryReadsOnlyItsTables", fn := fun _ => fun
  | [d1, d2, d3, d4] => { results := [.lit (.bool true)], args := [d1, d2, d3, d4] }
  | _ => none }
def queryReadsOnlyItsTablesRow : OpenClaim := { program := "ytgaggbdcedpapaagreat", sum := "21af61c5f70cb26d976dcdf0523013cd58fbbe16d673dadd85d4ff1dc3a18ef6", func := "stemma/stemkeep3.QueryReadsOnlyItsTables", spec := "queryReadsOnlyItsTables", inPlace := ["internal/bytealg.abigen_runtime_cmpstring"], unfollowed := true, recurses := true, loops := true, apart := false }
def QueryReadsOnlyItsTablesSaid : Prop := queryReadsOnlyItsTablesRow.holds Tryz.pinned (OpenSpec.ofChange queryReadsOnlyItsTablesSpec)

/-- ITS FALSE NEIGHBOUR: 'it returns false'. Refute it at one input. -/
def queryReadsOnlyItsTablesWrong : ChangeSpec := { name := "queryReadsOnlyItsTables", fn := fun _ => fun
  | [d1, d2, d3, d4] => { results := [.lit (.bool false)], args := [d1, d2, d3, d4] }
  | _ => none }
def QueryReadsOnlyItsTablesWrongFalsely : Prop := queryReadsOnlyItsTablesRow.holds Tryz.pinned (OpenSpec.ofChange queryReadsOnlyItsTablesWrong)

/- THE SECOND FORM. 'bulk': how many values and letters a reading holds, each counted each time it is reached (what is shared counts as often as it is met; a slice's spare places count too). A statement '..UptoSaid' is the law's where the arguments, and the package variables that the reading takes, are together of bulk at most 1048576: NARROWER than '..Said'. Prove '..Said' where nothing that the law and all that it calls make is longer than what came in: it says more and counts as full. Else prove '..UptoSaid'. A law counts once. -/
mutual
def uptoBulk {H : Type} : DataW H → Nat
  | .lit (.string bytes) => bytes.length + 1
  | .lit _ => 1
  | .nil => 1
  | .ptr d => uptoBulk d + 1
  | .slice elems spare => uptoBulkAll elems + uptoBulkAll spare + 1
  | .agg parts => uptoBulkAll parts + 1
  | .iface _ d => uptoBulk d + 1
  | .map entries => uptoBulkEntries entries + 1
  | .held _ => 1
def uptoBulkAll {H : Type} : List (DataW H) → Nat
  | [] => 0
  | d :: r => uptoBulk d + uptoBulkAll r
def uptoBulkEntries {H : Type} : List (Lit × DataW H) → Nat
  | [] => 0
  | x :: r => uptoBulkEntry x + uptoBulkEntries r
def uptoBulkEntry {H : Type} : Lit × DataW H → Nat
  | (.string bytes, d) => bytes.length + uptoBulk d + 1
  | (_, d) => uptoBulk d + 1
 end
def uptoSmall : (H : Type) → List (DataW H) → Bool := fun _ ds => decide (uptoBulkAll ds ≤ 1048576)
def OpenSpec.upto (s : _root_.Go.ChangeSpec) : _root_.Go.OpenSpec := { _root_.Go.OpenSpec.ofChange s with cond := some uptoSmall }

/-- 'stemkeep3.QueryExceptSelfIsEmpty', WHERE WHAT IT READS IS OF BULK AT MOST 1048576: true; the input reads as it did. -/
def queryExceptSelfIsEmptyUptoRow : OpenClaim := { program := "ytgaggbdcedpapaagreat", sum := "21af61c5f70cb26d976dcdf0523013cd58fbbe16d673dadd85d4ff1dc3a18ef6", func := "stemma/stemkeep3.QueryExceptSelfIsEmpty", spec := "queryExceptSelfIsEmpty", inPlace := ["internal/bytealg.abigen_runtime_cmpstring"], unfollowed := true, recurses := true, loops := true, apart := false, narrowed := true }
def QueryExceptSelfIsEmptyUptoSaid : Prop := queryExceptSelfIsEmptyUptoRow.holds Tryz.pinned (OpenSpec.upto queryExceptSelfIsEmptySpec)

/-- 'stemkeep3.QueryResultConformsToColumns', WHERE WHAT IT READS IS OF BULK AT MOST 1048576: true; the input reads as it did. -/
def queryResultConformsToColumnsUptoRow : OpenClaim := { program := "ytgaggbdcedpapaagreat", sum := "21af61c5f70cb26d976dcdf0523013cd58fbbe16d673dadd85d4ff1dc3a18ef6", func := "stemma/stemkeep3.QueryResultConformsToColumns", spec := "queryResultConformsToColumns", inPlace := ["internal/bytealg.abigen_runtime_cmpstring"], unfollowed := true, recurses := true, loops := true, apart := false, narrowed := true }
def QueryResultConformsToColumnsUptoSaid : Prop := queryResultConformsToColumnsUptoRow.holds Tryz.pinned (OpenSpec.upto queryResultConformsToColumnsSpec)

/-- 'stemkeep3.QueryLeftJoinExtendsInnerJoin', WHERE WHAT IT READS IS OF BULK AT MOST 1048576: true; the input reads as it did. -/
def queryLeftJoinExtendsInnerJoinUptoRow : OpenClaim := { program := "ytgaggbdcedpapaagreat", sum := "21af61c5f70cb26d976dcdf0523013cd58fbbe16d673dadd85d4ff1dc3a18ef6", func := "stemma/stemkeep3.QueryLeftJoinExtendsInnerJoin", spec := "queryLeftJoinExtendsInnerJoin", inPlace := ["internal/bytealg.abigen_runtime_cmpstring"], unfollowed := true, recurses := true, loops := true, apart := false, narrowed := true }
def QueryLeftJoinExtendsInnerJoinUptoSaid : Prop := queryLeftJoinExtendsInnerJoinUptoRow.holds Tryz.pinned (OpenSpec.upto queryLeftJoinExtendsInnerJoinSpec)

/-- 'stemkeep3.QueryGroupsPartitionRows', WHERE WHAT IT READS IS OF BULK AT MOST 1048576: true; the input reads as it did. -/
def queryGroupsPartitionRowsUptoRow : OpenClaim := { program := "ytgaggbdcedpapaagreat", sum := "21af61c5f70cb26d976dcdf0523013cd58fbbe16d673dadd85d4ff1dc3a18ef6", func := "stemma/stemkeep3.QueryGroupsPartitionRows", spec := "queryGroupsPartitionRows", inPlace := ["internal/bytealg.abigen_runtime_cmpstring"], unfollowed := true, recurses := true, loops := true, apart := false, narrowed := true }
def QueryGroupsPartitionRowsUptoSaid : Prop := queryGroupsPartitionRowsUptoRow.holds Tryz.pinned (OpenSpec.upto queryGroupsPartitionRowsSpec)

/-- 'stemkeep3.QueryDistinctIsIdempotent', WHERE WHAT IT READS IS OF BULK AT MOST 1048576: true; the input reads as it did. -/
def queryDistinctIsIdempotentUptoRow : OpenClaim := { program := "ytgaggbdcedpapaagreat", sum := "21af61c5f70cb26d976dcdf0523013cd58fbbe16d673dadd85d4ff1dc3a18ef6", func := "stemma/stemkeep3.QueryDistinctIsIdempotent", spec := "queryDistinctIsIdempotent", inPlace := ["internal/bytealg.abigen_runtime_cmpstring"], unfollowed := true, recurses := true, loops := true, apart := false, narrowed := true }
def QueryDistinctIsIdempotentUptoSaid : Prop := queryDistinctIsIdempotentUptoRow.holds Tryz.pinned (OpenSpec.upto queryDistinctIsIdempotentSpec)

/-- 'stemkeep3.QueryLimitSlices', WHERE WHAT IT READS IS OF BULK AT MOST 1048576: true; the input reads as it did. -/
def queryLimitSlicesUptoRow : OpenClaim := { program := "ytgaggbdcedpapaagreat", sum := "21af61c5f70cb26d976dcdf0523013cd58fbbe16d673dadd85d4ff1dc3a18ef6", func := "stemma/stemkeep3.QueryLimitSlices", spec := "queryLimitSlices", inPlace := ["internal/bytealg.abigen_runtime_cmpstring"], unfollowed := true, recurses := true, loops := true, apart := false, narrowed := true }
def QueryLimitSlicesUptoSaid : Prop := queryLimitSlicesUptoRow.holds Tryz.pinned (OpenSpec.upto queryLimitSlicesSpec)

/-- 'stemkeep3.QueryFiltersCommute', WHERE WHAT IT READS IS OF BULK AT MOST 1048576: true; the input reads as it did. -/
def queryFiltersCommuteUptoRow : OpenClaim := { program := "ytgaggbdcedpapaagreat", sum := "21af61c5f70cb26d976dcdf0523013cd58fbbe16d673dadd85d4ff1dc3a18ef6", func := "stemma/stemkeep3.QueryFiltersCommute", spec := "queryFiltersCommute", inPlace := ["internal/bytealg.abigen_runtime_cmpstring"], unfollowed := true, recurses := true, loops := true, apart := false, narrowed := true }
def QueryFiltersCommuteUptoSaid : Prop := queryFiltersCommuteUptoRow.holds Tryz.pinned (OpenSpec.upto queryFiltersCommuteSpec)

/-- 'stemkeep3.QueryParametersAreConstants', WHERE WHAT IT READS IS OF BULK AT MOST 1048576: true; the input reads as it did. -/
def queryParametersAreConstantsUptoRow : OpenClaim := { program := "ytgaggbdcedpapaagreat", sum := "21af61c5f70cb26d976dcdf0523013cd58fbbe16d673dadd85d4ff1dc3a18ef6", func := "stemma/stemkeep3.QueryParametersAreConstants", spec := "queryParametersAreConstants", inPlace := ["internal/bytealg.abigen_runtime_cmpstring"], unfollowed := true, recurses := true, loops := true, apart := false, narrowed := true }
def QueryParametersAreConstantsUptoSaid : Prop := queryParametersAreConstantsUptoRow.holds Tryz.pinned (OpenSpec.upto queryParametersAreConstantsSpec)

/-- 'stemkeep3.QueryCloneIsIndependent', WHERE WHAT IT READS IS OF BULK AT MOST 1048576: true; the input reads as it did. -/
def queryCloneIsIndependentUptoRow : OpenClaim := { program := "ytgaggbdcedpapaagreat", sum := "21af61c5f70cb26d976dcdf0523013cd58fbbe16d673dadd85d4ff1dc3a18ef6", func := "stemma/stemkeep3.QueryCloneIsIndependent", spec := "queryCloneIsIndependent", inPlace := ["internal/bytealg.abigen_runtime_cmpstring"], unfollowed := true, recurses := true, loops := true, apart := false, narrowed := true }
def QueryCloneIsIndependentUptoSaid : Prop := queryCloneIsIndependentUptoRow.holds Tryz.pinned (OpenSpec.upto queryCloneIsIndependentSpec)

/-- 'stemkeep3.QueryUnionExceptCancel', WHERE WHAT IT READS IS OF BULK AT MOST 1048576: true; the input reads as it did. -/
def queryUnionExceptCancelUptoRow : OpenClaim := { program := "ytgaggbdcedpapaagreat", sum := "21af61c5f70cb26d976dcdf0523013cd58fbbe16d673dadd85d4ff1dc3a18ef6", func := "stemma/stemkeep3.QueryUnionExceptCancel", spec := "queryUnionExceptCancel", inPlace := ["internal/bytealg.abigen_runtime_cmpstring"], unfollowed := true, recurses := true, loops := true, apart := false, narrowed := true }
def QueryUnionExceptCancelUptoSaid : Prop := queryUnionExceptCancelUptoRow.holds Tryz.pinned (OpenSpec.upto queryUnionExceptCancelSpec)

/-- 'stemkeep3.QuerySortOrdersRows', WHERE WHAT IT READS IS OF BULK AT MOST 1048576: true; the input reads as it did. -/
def querySortOrdersRowsUptoRow : OpenClaim := { program := "ytgaggbdcedpapaagreat", sum := "21af61c5f70cb26d976dcdf0523013cd58fbbe16d673dadd85d4ff1dc3a18ef6", func := "stemma/stemkeep3.QuerySortOrdersRows", spec := "querySortOrdersRows", inPlace := ["internal/bytealg.abigen_runtime_cmpstring"], unfollowed := true, recurses := true, loops := true, apart := false, narrowed := true }
def QuerySortOrdersRowsUptoSaid : Prop := querySortOrdersRowsUptoRow.holds Tryz.pinned (OpenSpec.upto querySortOrdersRowsSpec)

/-- 'stemkeep3.QueryReadsOnlyItsTables', WHERE WHAT IT READS IS OF BULK AT MOST 1048576: true; the input reads as it did. -/
def queryReadsOnlyItsTablesUptoRow : OpenClaim := { program := "ytgaggbdcedpapaagreat", sum := "21af61c5f70cb26d976dcdf0523013cd58fbbe16d673dadd85d4ff1dc3a18ef6", func := "stemma/stemkeep3.QueryReadsOnlyItsTables", spec := "queryReadsOnlyItsTables", inPlace := ["internal/bytealg.abigen_runtime_cmpstring"], unfollowed := true, recurses := true, loops := true, apart := false, narrowed := true }
def QueryReadsOnlyItsTablesUptoSaid : Prop := queryReadsOnlyItsTablesUptoRow.holds Tryz.pinned (OpenSpec.upto queryReadsOnlyItsTablesSpec)

end Rows
end Go.Proofs.YtgaggbdcedpapaaGreat
