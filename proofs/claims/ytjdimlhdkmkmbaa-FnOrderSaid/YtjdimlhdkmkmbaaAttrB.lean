/-
  Contracts: classes that are assigned, of the program and of the reference.
-/
import Derived.Test.YtjdimlhdkmkmbaaAttrA
namespace Go.Proofs.Ytjdimlhdkmkmbaa
set_option maxRecDepth 100000
open Go.ChangeShapes Go.WideShapes Go.ChangeAt Go.RowKit Go.Deep
set_option linter.unusedVariables false

section
variable {w : World} {vcs ucs : List Value} {W W' : World}
end
section
variable {w : World} {vcs ucs xcs : List Value} {b p q : Nat} {d : VecD} {W W' : World}
end
end Go.Proofs.Ytjdimlhdkmkmbaa
