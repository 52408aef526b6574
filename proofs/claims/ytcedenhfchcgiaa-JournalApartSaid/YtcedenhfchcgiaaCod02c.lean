/- Values and rows: Valid, valueTo, AppendValue, checkRow, AppendRow, walked. -/
import Derived.Test.YtcedenhfchcgiaaCod02b
set_option linter.unusedVariables false
set_option linter.unusedSimpArgs false
namespace Go.Proofs.Ytcedenhfchcgiaa.Cd
open Go.RowKit

/-- A value, as data. -/
structure VD where
  kind : Int
  n : Int
  s : ByteArray
/-- Its fields are numbers and texts of Go. -/
structure VD.Fits (v : VD) : Prop where
  n0 : -9223372036854775808 ≤ v.n
  n1 : v.n ≤ 9223372036854775807
def VD.valid (v : VD) : Bool :=
  if v.kind = 1 ∨ v.kind = 2 then decide (v.n = 0 ∧ v.s.toList = []) else
  if v.kind = 3 then decide ((v.n = 0 ∨ v.n = 1) ∧ v.s.toList = []) else
  if v.kind = 4 then decide (v.s.toList = []) else
  if v.kind = 5 then decide (v.n = 0 ∧ v.s.size ≤ 64) else false

end Go.Proofs.Ytcedenhfchcgiaa.Cd
