/-
  Merged texts: GSlot, GEnv, GPromise, GStore, Same, StoreOk1, StoreOk2, SpecStore1, SpecStore2, StoreOk3, SpecStore3, SpecStore4, Names, StoreOk5, SpecStore5, StoreOk4, StoreOk6, StoreFind, SpecStore6.
-/
import Derived.Test.YtjdimlhdkmkmbaaKVec
import Derived.Test.YtjdimlhdkmkmbaaKRand
import Derived.Test.YtjdimlhdkmkmbaaKBase
import Derived.Test.YtjdimlhdkmkmbaaKOk5
import Derived.Deep.DeepCutAuto
import Derived.Deep.Light
import Derived.Test.YtjdimlhdkmkmbaaKGood
import Derived.Deep.RegionHeld3
import Derived.Test.YtjdimlhdkmkmbaaKOk
namespace Go.Proofs.Ytjdimlhdkmkmbaa
set_option maxRecDepth 100000
set_option maxRecDepth 100000
open Go.ChangeShapes Go.WideShapes Go.ChangeAt Go.RowKit Go.Deep

structure SlotD where
  kind : Int
  value : VecD
  promise : Int
  promises : List Int
  labels : List (List UInt8)

end Go.Proofs.Ytjdimlhdkmkmbaa
namespace Go.Proofs.Ytjdimlhdkmkmbaa
set_option maxRecDepth 100000
open Go.ChangeShapes Go.WideShapes Go.ChangeAt Go.RowKit Go.Deep

structure EnvD where
  used : Bool
  parent : Int
  names : List (List UInt8)
  slots : List SlotD

end Go.Proofs.Ytjdimlhdkmkmbaa
namespace Go.Proofs.Ytjdimlhdkmkmbaa
set_option maxRecDepth 100000
open Go.ChangeShapes Go.WideShapes Go.ChangeAt Go.RowKit Go.Deep

structure PromD where
  used : Bool
  code : Int
  env : Int
  state : Int
  value : VecD

end Go.Proofs.Ytjdimlhdkmkmbaa
namespace Go.Proofs.Ytjdimlhdkmkmbaa
set_option maxRecDepth 100000
open Go.ChangeShapes Go.WideShapes Go.ChangeAt Go.RowKit Go.Deep

end Go.Proofs.Ytjdimlhdkmkmbaa
namespace Go.Proofs.Ytjdimlhdkmkmbaa
set_option maxRecDepth 100000
open Go.ChangeShapes Go.WideShapes Go.ChangeAt Go.RowKit Go.Deep

end Go.Proofs.Ytjdimlhdkmkmbaa
namespace Go.Proofs.Ytjdimlhdkmkmbaa
set_option maxRecDepth 100000
open Go.ChangeShapes Go.WideShapes Go.ChangeAt Go.RowKit Go.Deep

end Go.Proofs.Ytjdimlhdkmkmbaa
namespace Go.Proofs.Ytjdimlhdkmkmbaa
set_option maxRecDepth 100000
open Go.ChangeShapes Go.WideShapes Go.ChangeAt Go.RowKit Go.Deep

end Go.Proofs.Ytjdimlhdkmkmbaa
namespace Go.Proofs.Ytjdimlhdkmkmbaa
set_option maxRecDepth 100000
open Go.ChangeShapes Go.WideShapes Go.ChangeAt Go.RowKit Go.Deep

end Go.Proofs.Ytjdimlhdkmkmbaa
namespace Go.Proofs.Ytjdimlhdkmkmbaa
set_option maxRecDepth 100000
open Go.ChangeShapes Go.WideShapes Go.ChangeAt Go.RowKit Go.Deep

end Go.Proofs.Ytjdimlhdkmkmbaa
namespace Go.Proofs.Ytjdimlhdkmkmbaa
set_option maxRecDepth 100000
open Go.ChangeShapes Go.WideShapes Go.ChangeAt Go.RowKit Go.Deep

end Go.Proofs.Ytjdimlhdkmkmbaa
namespace Go.Proofs.Ytjdimlhdkmkmbaa
set_option maxRecDepth 100000
open Go.ChangeShapes Go.WideShapes Go.ChangeAt Go.RowKit Go.Deep

/-! ### environments and promises, as the reference looks at them -/
end Go.Proofs.Ytjdimlhdkmkmbaa
namespace Go.Proofs.Ytjdimlhdkmkmbaa
set_option maxRecDepth 100000
open Go.ChangeShapes Go.WideShapes Go.ChangeAt Go.RowKit Go.Deep

end Go.Proofs.Ytjdimlhdkmkmbaa
namespace Go.Proofs.Ytjdimlhdkmkmbaa
set_option maxRecDepth 100000
open Go.ChangeShapes Go.WideShapes Go.ChangeAt Go.RowKit Go.Deep

end Go.Proofs.Ytjdimlhdkmkmbaa
namespace Go.Proofs.Ytjdimlhdkmkmbaa
set_option maxRecDepth 100000
open Go.ChangeShapes Go.WideShapes Go.ChangeAt Go.RowKit Go.Deep

end Go.Proofs.Ytjdimlhdkmkmbaa
namespace Go.Proofs.Ytjdimlhdkmkmbaa
set_option maxRecDepth 100000
open Go.ChangeShapes Go.WideShapes Go.ChangeAt Go.RowKit Go.Deep

end Go.Proofs.Ytjdimlhdkmkmbaa
namespace Go.Proofs.Ytjdimlhdkmkmbaa
set_option maxRecDepth 100000
open Go.ChangeShapes Go.WideShapes Go.ChangeAt Go.RowKit Go.Deep

end Go.Proofs.Ytjdimlhdkmkmbaa
namespace Go.Proofs.Ytjdimlhdkmkmbaa
set_option maxRecDepth 100000
open Go.ChangeShapes Go.WideShapes Go.ChangeAt Go.RowKit Go.Deep

end Go.Proofs.Ytjdimlhdkmkmbaa
namespace Go.Proofs.Ytjdimlhdkmkmbaa
set_option maxRecDepth 100000
open Go.ChangeShapes Go.WideShapes Go.ChangeAt Go.RowKit Go.Deep

end Go.Proofs.Ytjdimlhdkmkmbaa
namespace Go.Proofs.Ytjdimlhdkmkmbaa
set_option maxRecDepth 100000
open Go.ChangeShapes Go.WideShapes Go.ChangeAt Go.RowKit Go.Deep

end Go.Proofs.Ytjdimlhdkmkmbaa
