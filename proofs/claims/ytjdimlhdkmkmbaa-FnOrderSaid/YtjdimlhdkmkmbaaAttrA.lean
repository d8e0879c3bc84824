/-
  Contracts: names that are tidied; the texts of a vector.
-/
import Derived.Test.YtjdimlhdkmkmbaaDrawFac
import Derived.Test.YtjdimlhdkmkmbaaKInh
namespace Go.Proofs.Ytjdimlhdkmkmbaa
set_option maxRecDepth 100000
open Go.ChangeShapes Go.WideShapes Go.ChangeAt Go.RowKit Go.Deep
set_option linter.unusedVariables false

/-! ### is an element missing? -/
/-! ### the texts of a vector -/
end Go.Proofs.Ytjdimlhdkmkmbaa
