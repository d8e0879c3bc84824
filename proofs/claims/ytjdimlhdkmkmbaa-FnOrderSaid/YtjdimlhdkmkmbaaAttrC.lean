/-
  Contracts: names that are assigned, of the program and of the reference.
-/
import Derived.Test.YtjdimlhdkmkmbaaAttrB
namespace Go.Proofs.Ytjdimlhdkmkmbaa
set_option maxRecDepth 100000
open Go.ChangeShapes Go.WideShapes Go.ChangeAt Go.RowKit Go.Deep
set_option linter.unusedVariables false

section
variable {w : World} {vcs ucs xcs : List Value} {b z p q : Nat} {L : List (List UInt8)} {w6 W W' : World}
end
end Go.Proofs.Ytjdimlhdkmkmbaa
