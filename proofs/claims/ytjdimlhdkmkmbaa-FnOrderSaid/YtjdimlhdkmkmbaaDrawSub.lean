/-
  Contracts: what the laws of vectors draw: subscripts.
-/
import Derived.Test.YtjdimlhdkmkmbaaDrawL5
namespace Go.Proofs.Ytjdimlhdkmkmbaa
set_option maxRecDepth 100000
open Go.ChangeShapes Go.WideShapes Go.ChangeAt Go.RowKit Go.Deep
set_option linter.unusedVariables false

end Go.Proofs.Ytjdimlhdkmkmbaa
