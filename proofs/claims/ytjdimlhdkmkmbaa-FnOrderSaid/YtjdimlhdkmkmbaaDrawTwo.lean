/-
  Contracts: what the laws of vectors draw: two vectors.
-/
import Derived.Test.YtjdimlhdkmkmbaaDrawSub
import Derived.Test.YtjdimlhdkmkmbaaKFree
namespace Go.Proofs.Ytjdimlhdkmkmbaa
set_option maxRecDepth 100000
open Go.ChangeShapes Go.WideShapes Go.ChangeAt Go.RowKit Go.Deep
set_option linter.unusedVariables false

section
variable {w1 : World} {g : Nat} {v : Value} {l : List Nat} {vb : Nat} {cs : List Value} {W W' : World}
end
section
variable {w1 : World} {g : Nat} {v : Value} {l : List Nat} {vb : Nat} {cs : List Value} {W W' : World}
end

end Go.Proofs.Ytjdimlhdkmkmbaa
