/-
  NARROWER THAN 'FOR EVERY INPUT', by the rows' own cells (each row's printed sentence says how): ExprSubstitutionCommutes: loops · ExprTypeSoundness: loops · ExprConjunctsPreserveTruth: loops.
  DERIVED. THE GIVEN ROWS OF THIS SEAT. 5 by the template 'for every input the law returns true; each argument reads behind the call as it read before'; 0 by the template 'total and deterministic' (their statements: YtblheceepnncdaaTotals.lean).
  GIVEN WITH THE SEED: the statements are not yours to turn. If you find one false, say at which input.
  Laid BY PROGRAM, IN A SANDBOX (cutbox-rows.mjs): the forced cells as the released guide's own fill.sh prints them over the translation f22140a8eb455f06… (all of the seat's roots in one cut). By AI agents, Wed Nov 11 2026. No macro, syntax, notation, axiom, sorry.
-/
import Derived.Test.YtblheceepnncdaaChecked
import GoSem.Claim
import GoSem.ClaimJoined
import GoSem.ClaimMapViews
import Derived.JoinedTies
import Derived.KernelRfl
namespace Go.Proofs.Ytblheceepnncdaa
/- THE CELL 'sum', in the pinned program and in every row, IS THE sha256 OF THE DUMP (.gsa) THAT YtblheceepnncdaaProg.lean LOADS. Nothing in Lean hashes anything: it is a label: what it is worth is what the hold of that sum in a sandbox is worth. -/
noncomputable def Try.pinned : Pinned := { name := "ytblheceepnncdaa", sum := "f22140a8eb455f067886e1886f32390d3a5230bc5a3d72af76ee3f1b63e0e012", checked := Try.checked }
namespace Rows
def none {H : Type} : Left H := { results := [], args := [] }

/-- 'stemkeep3.ExprComparisonIsTotal': WHATEVER THE INPUT: true; the input reads as it did. -/
def exprComparisonIsTotalSpec : ChangeSpec := { name := "exprComparisonIsTotal", fn := fun _ => fun
  | [d1, d2] => { results := [.lit (.bool true)], args := [d1, d2] }
  | _ => none }
def exprComparisonIsTotalRow : OpenClaim := { program := "ytblheceepnncdaa", sum := "f22140a8eb455f067886e1886f32390d3a5230bc5a3d72af76ee3f1b63e0e012", func := "stemma/stemkeep3.ExprComparisonIsTotal", spec := "exprComparisonIsTotal", unfollowed := true, recurses := true, apart := false }
def ExprComparisonIsTotalSaid : Prop := exprComparisonIsTotalRow.holds Try.pinned (OpenSpec.ofChange exprComparisonIsTotalSpec)

/-- ITS FALSE NEIGHBOUR: 'it returns false'. Refute it at one input. -/
def exprComparisonIsTotalWrong : ChangeSpec := { name := "exprComparisonIsTotal", fn := fun _ => fun
  | [d1, d2] => { results := [.lit (.bool false)], args := [d1, d2] }
  | _ => none }
def ExprComparisonIsTotalWrongFalsely : Prop := exprComparisonIsTotalRow.holds Try.pinned (OpenSpec.ofChange exprComparisonIsTotalWrong)

/-- 'stemkeep3.ExprSubstitutionCommutes': WHATEVER THE INPUT: true; the input reads as it did. -/
def exprSubstitutionCommutesSpec : ChangeSpec := { name := "exprSubstitutionCommutes", fn := fun _ => fun
  | [d1, d2, d3, d4, d5] => { results := [.lit (.bool true)], args := [d1, d2, d3, d4, d5] }
  | _ => none }
def exprSubstitutionCommutesRow : OpenClaim := { program := "ytblheceepnncdaa", sum := "f22140a8eb455f067886e1886f32390d3a5230bc5a3d72af76ee3f1b63e0e012", func := "stemma/stemkeep3.ExprSubstitutionCommutes", spec := "exprSubstitutionCommutes", unfollowed := true, recurses := true, loops := true, apart := false }
def ExprSubstitutionCommutesSaid : Prop := exprSubstitutionCommutesRow.holds Try.pinned (OpenSpec.ofChange exprSubstitutionCommutesSpec)

/-- ITS FALSE NEIGHBOUR: 'it returns false'. Refute it at one input. -/
def exprSubstitutionCommutesWrong : ChangeSpec := { name := "exprSubstitutionCommutes", fn := fun _ => fun
  | [d1, d2, d3, d4, d5] => { results := [.lit (.bool false)], args := [d1, d2, d3, d4, d5] }
  | _ => none }
def ExprSubstitutionCommutesWrongFalsely : Prop := exprSubstitutionCommutesRow.holds Try.pinned (OpenSpec.ofChange exprSubstitutionCommutesWrong)

/-- 'stemkeep3.ExprTypeSoundness': WHATEVER THE INPUT: true; the input reads as it did. -/
def exprTypeSoundnessSpec : ChangeSpec := { name := "exprTypeSoundness", fn := fun _ => fun
  | [d1, d2, d3] => { results := [.lit (.bool true)], args := [d1, d2, d3] }
  | _ => none }
def exprTypeSoundnessRow : OpenClaim := { program := "ytblheceepnncdaa", sum := "f22140a8eb455f067886e1886f32390d3a5230bc5a3d72af76ee3f1b63e0e012", func := "stemma/stemkeep3.ExprTypeSoundness", spec := "exprTypeSoundness", unfollowed := true, recurses := true, loops := true, apart := false }
def ExprTypeSoundnessSaid : Prop := exprTypeSoundnessRow.holds Try.pinned (OpenSpec.ofChange exprTypeSoundnessSpec)

/-- ITS FALSE NEIGHBOUR: 'it returns false'. Refute it at one input. -/
def exprTypeSoundnessWrong : ChangeSpec := { name := "exprTypeSoundness", fn := fun _ => fun
  | [d1, d2, d3] => { results := [.lit (.bool false)], args := [d1, d2, d3] }
  | _ => none }
def ExprTypeSoundnessWrongFalsely : Prop := exprTypeSoundnessRow.holds Try.pinned (OpenSpec.ofChange exprTypeSoundnessWrong)

/-- 'stemkeep3.ExprDeMorgan': WHATEVER THE INPUT: true; the input reads as it did. -/
def exprDeMorganSpec : ChangeSpec := { name := "exprDeMorgan", fn := fun _ => fun
  | [d1, d2] => { results := [.lit (.bool true)], args := [d1, d2] }
  | _ => none }
def exprDeMorganRow : OpenClaim := { program := "ytblheceepnncdaa", sum := "f22140a8eb455f067886e1886f32390d3a5230bc5a3d72af76ee3f1b63e0e012", func := "stemma/stemkeep3.ExprDeMorgan", spec := "exprDeMorgan", unfollowed := true, recurses := true, apart := false }
def ExprDeMorganSaid : Prop := exprDeMorganRow.holds Try.pinned (OpenSpec.ofChange exprDeMorganSpec)

/-- ITS FALSE NEIGHBOUR: 'it returns false'. Refute it at one input. -/
def exprDeMorganWrong : ChangeSpec := { name := "exprDeMorgan", fn := fun _ => fun
  | [d1, d2] => { results := [.lit (.bool false)], args := [d1, d2] }
  | _ => none }
def ExprDeMorganWrongFalsely : Prop := exprDeMorganRow.holds Try.pinned (OpenSpec.ofChange exprDeMorganWrong)

/-- 'stemkeep3.ExprConjunctsPreserveTruth': WHATEVER THE INPUT: true; the input reads as it did. -/
def exprConjunctsPreserveTruthSpec : ChangeSpec := { name := "exprConjunctsPreserveTruth", fn := fun _ => fun
  | [d1, d2, d3] => { results := [.lit (.bool true)], args := [d1, d2, d3] }
  | _ => none }
def exprConjunctsPreserveTruthRow : OpenClaim := { program := "ytblheceepnncdaa", sum := "f22140a8eb455f067886e1886f32390d3a5230bc5a3d72af76ee3f1b63e0e012", func := "stemma/stemkeep3.ExprConjunctsPreserveTruth", spec := "exprConjunctsPreserveTruth", unfollowed := true, recurses := true, loops := true, apart := false }
def ExprConjunctsPreserveTruthSaid : Prop := exprConjunctsPreserveTruthRow.holds Try.pinned (OpenSpec.ofChange exprConjunctsPreserveTruthSpec)

/-- ITS FALSE NEIGHBOUR: 'it returns false'. Refute it at one input. -/
def exprConjunctsPreserveTruthWrong : ChangeSpec := { name := "exprConjunctsPreserveTruth", fn := fun _ => fun
  | [d1, d2, d3] => { results := [.lit (.bool false)], args := [d1, d2, d3] }
  | _ => none }
def ExprConjunctsPreserveTruthWrongFalsely : Prop := exprConjunctsPreserveTruthRow.holds Try.pinned (OpenSpec.ofChange exprConjunctsPreserveTruthWrong)

/- THE SECOND FORM. 'bulk': how many values and letters a reading holds, each counted each time it is reached (what is shared counts as often as it is met; a slice's spare places count too). A statement '..UptoSaid' is the law's where the arguments, and the package variables that the reading takes, are together of bulk at most 1048576: NARROWER than '..Said'. Prove '..Said' where nothing that the law and all that it calls make is longer than what came in: it says more and counts as full. Else prove '..UptoSaid'. A law counts once. -/
mutual
def uptoBulk {H : Type} : DataW H → Nat
  | .lit (.string bytes) => bytes.length + 1
  | .lit _ => 1
  | .nil => 1
  | .ptr d => uptoBulk d + 1
  | .slice elems spare => uptoBulkAll elems + uptoBulkAll spare + 1
  | .agg parts => uptoBulkAll parts + 1
  | .iface _ d => uptoBulk d + 1
  | .map entries => uptoBulkEntries entries + 1
  | .held _ => 1
def uptoBulkAll {H : Type} : List (DataW H) → Nat
  | [] => 0
  | d :: r => uptoBulk d + uptoBulkAll r
def uptoBulkEntries {H : Type} : List (Lit × DataW H) → Nat
  | [] => 0
  | x :: r => uptoBulkEntry x + uptoBulkEntries r
def uptoBulkEntry {H : Type} : Lit × DataW H → Nat
  | (.string bytes, d) => bytes.length + uptoBulk d + 1
  | (_, d) => uptoBulk d + 1
 end
def uptoSmall : (H : Type) → List (DataW H) → Bool := fun _ ds => decide (uptoBulkAll ds ≤ 1048576)
def OpenSpec.upto (s : _root_.Go.ChangeSpec) : _root_.Go.OpenSpec := { _root_.Go.OpenSpec.ofChange s with cond := some uptoSmall }

/-- 'stemkeep3.ExprComparisonIsTotal', WHERE WHAT IT READS IS OF BULK AT MOST 1048576: true; the input reads as it did. -/
def exprComparisonIsTotalUptoRow : OpenClaim := { program := "ytblheceepnncdaa", sum := "f22140a8eb455f067886e1886f32390d3a5230bc5a3d72af76ee3f1b63e0e012", func := "stemma/stemkeep3.ExprComparisonIsTotal", spec := "exprComparisonIsTotal", unfollowed := true, recurses := true, apart := false, narrowed := true }
def ExprComparisonIsTotalUptoSaid : Prop := exprComparisonIsTotalUptoRow.holds Try.pinned (OpenSpec.upto exprComparisonIsTotalSpec)

/-- 'stemkeep3.ExprSubstitutionCommutes', WHERE WHAT IT READS IS OF BULK AT MOST 1048576: true; the input reads as it did. -/
def exprSubstitutionCommutesUptoRow : OpenClaim := { program := "ytblheceepnncdaa", sum := "f22140a8eb455f067886e1886f32390d3a5230bc5a3d72af76ee3f1b63e0e012", func := "stemma/stemkeep3.ExprSubstitutionCommutes", spec := "exprSubstitutionCommutes", unfollowed := true, recurses := true, loops := true, apart := false, narrowed := true }
def ExprSubstitutionCommutesUptoSaid : Prop := exprSubstitutionCommutesUptoRow.holds Try.pinned (OpenSpec.upto exprSubstitutionCommutesSpec)

/-- 'stemkeep3.ExprTypeSoundness', WHERE WHAT IT READS IS OF BULK AT MOST 1048576: true; the input reads as it did. -/
def exprTypeSoundnessUptoRow : OpenClaim := { program := "ytblheceepnncdaa", sum := "f22140a8eb455f067886e1886f32390d3a5230bc5a3d72af76ee3f1b63e0e012", func := "stemma/stemkeep3.ExprTypeSoundness", spec := "exprTypeSoundness", unfollowed := true, recurses := true, loops := true, apart := false, narrowed := true }
def ExprTypeSoundnessUptoSaid : Prop := exprTypeSoundnessUptoRow.holds Try.pinned (OpenSpec.upto exprTypeSoundnessSpec)

/-- 'stemkeep3.ExprDeMorgan', WHERE WHAT IT READS IS OF BULK AT MOST 1048576: true; the input reads as it did. -/
def exprDeMorganUptoRow : OpenClaim := { program := "ytblheceepnncdaa", sum := "f22140a8eb455f067886e1886f32390d3a5230bc5a3d72af76ee3f1b63e0e012", func := "stemma/stemkeep3.ExprDeMorgan", spec := "exprDeMorgan", unfollowed := true, recurses := true, apart := false, narrowed := true }
def ExprDeMorganUptoSaid : Prop := exprDeMorganUptoRow.holds Try.pinned (OpenSpec.upto exprDeMorganSpec)

/-- 'stemkeep3.ExprConjunctsPreserveTruth', WHERE WHAT IT READS IS OF BULK AT MOST 1048576: true; the input reads as it did. -/
def exprConjunctsPreserveTruthUptoRow : OpenClaim := { program := "ytblheceepnncdaa", sum := "f22140a8eb455f067886e1886f32390d3a5230bc5a3d72af76ee3f1b63e0e012", func := "stemma/stemkeep3.ExprConjunctsPreserveTruth", spec := "exprConjunctsPreserveTruth", unfollowed := true, recurses := true, loops := true, apart := false, narrowed := true }
def ExprConjunctsPreserveTruthUptoSaid : Prop := exprConjunctsPreserveTruthUptoRow.holds Try.pinned (OpenSpec.upto exprConjunctsPreserveTruthSpec)

end Rows
end Go.Proofs.Ytblheceepnncdaa
