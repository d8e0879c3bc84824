/-
  Merged texts: VmPosN, VmRes.
-/
import Derived.Test.YtjdimlhdkmkmbaaKVm
namespace Go.Proofs.Ytjdimlhdkmkmbaa
set_option maxRecDepth 100000
set_option maxRecDepth 100000
open Go.ChangeShapes Go.WideShapes Go.ChangeAt Go.RowKit Go.Deep Go.Proofs.Ytjdimlhdkmkmbaa.Vm
set_option linter.unusedVariables false

/-- all places but one -/
def others (n j : Nat) : List Int := ((List.range n).filter fun i => i + 1 != j).map fun (i : Nat) => (i : Int) + 1
end Go.Proofs.Ytjdimlhdkmkmbaa
namespace Go.Proofs.Ytjdimlhdkmkmbaa
set_option maxRecDepth 100000
open Go.ChangeShapes Go.WideShapes Go.ChangeAt Go.RowKit Go.Deep Go.Proofs.Ytjdimlhdkmkmbaa.Vm
set_option linter.unusedVariables false

/-- as many names as elements, or none -/
def NmOk (N : List (List C)) (n : Nat) : Prop := N = [] ∨ (N.length = n ∧ 0 < n)
end Go.Proofs.Ytjdimlhdkmkmbaa
