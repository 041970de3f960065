/- The data of the program as plain Lean, and how they are encoded: printed by types.py. -/
import Derived.Test.YtohlpijmiokkjaaDoorDat
namespace Go.Proofs.YtohlpijmiokkjaaDoor
open Go Go.Ab

structure LLexerToken where
  kind : Int
  text : List UInt8
  number : Int
  offset : Int
  deriving DecidableEq
@[simp] def encLexerToken (x : LLexerToken) : List PV := [(pint x.kind), (.str x.text), (pint x.number), (pint x.offset)]

end Go.Proofs.YtohlpijmiokkjaaDoor

