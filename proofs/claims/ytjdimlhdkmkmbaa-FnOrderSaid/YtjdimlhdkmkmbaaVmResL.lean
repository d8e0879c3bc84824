/-
  Contracts on trees: the positions that a logical subscript selects.
-/
import Derived.Test.YtjdimlhdkmkmbaaKVr
namespace Go.Proofs.Ytjdimlhdkmkmbaa
set_option maxRecDepth 100000
open Go.ChangeShapes Go.WideShapes Go.ChangeAt Go.RowKit Go.Deep Go.Proofs.Ytjdimlhdkmkmbaa.Vm
set_option linter.unusedVariables false

end Go.Proofs.Ytjdimlhdkmkmbaa
