/-
  Merged texts: GSlot, GEnv, GPromise, GStore, Same, StoreOk1, StoreOk2, SpecStore1, SpecStore2, StoreOk3, SpecStore3, SpecStore4, Names, StoreOk5, SpecStore5, StoreOk4, StoreOk6, StoreFind, SpecStore6.
-/
import Derived.Test.YtjdimlhdkmkmbaaKVec
import Derived.Test.YtjdimlhdkmkmbaaKRand
import Derived.Test.YtjdimlhdkmkmbaaKBase
import Derived.Test.YtjdimlhdkmkmbaaKOk5
import Derived.Deep.DeepCutAuto
import Derived.Deep.Light
import Derived.Test.YtjdimlhdkmkmbaaKGood
import Derived.Deep.RegionHeld3
import Derived.Test.YtjdimlhdkmkmbaaKOk
namespace Go.Proofs.Ytjdimlhdkmkmbaa
set_option maxRecDepth 100000
set_option maxRecDepth 100000
open Go.ChangeShapes Go.WideShapes Go.ChangeAt Go.RowKit Go.Deep

structure SlotD where
  kind : Int
  value : VecD
  promise : Int
  promises : List Int
  labels : List (List UInt8)

/-- the cells of a Slot -/
def SlotR (w : World) (cs : List Value) (d : SlotD) : Prop :=
  ∃ v11 v12 v13 v14 v15 v3 v4, cs = [.int .i64 d.kind, .int .i64 d.value.kind, v11, v12, v13, v14, v15, .int .i64 d.value.code, .int .i64 d.value.env, .int .i64 d.promise, v3, v4] ∧ I64 d.kind ∧ VecR w [.int .i64 d.value.kind, v11, v12, v13, v14, v15, .int .i64 d.value.code, .int .i64 d.value.env] d.value ∧ I64 d.promise ∧ Ints w v3 d.promises ∧ Txts w v4 d.labels
def Slots (w : World) (v : Value) (l : List SlotD) : Prop := SlR w 12 (SlotR w) v l
end Go.Proofs.Ytjdimlhdkmkmbaa
namespace Go.Proofs.Ytjdimlhdkmkmbaa
set_option maxRecDepth 100000
open Go.ChangeShapes Go.WideShapes Go.ChangeAt Go.RowKit Go.Deep

structure EnvD where
  used : Bool
  parent : Int
  names : List (List UInt8)
  slots : List SlotD

end Go.Proofs.Ytjdimlhdkmkmbaa
namespace Go.Proofs.Ytjdimlhdkmkmbaa
set_option maxRecDepth 100000
open Go.ChangeShapes Go.WideShapes Go.ChangeAt Go.RowKit Go.Deep

structure PromD where
  used : Bool
  code : Int
  env : Int
  state : Int
  value : VecD

end Go.Proofs.Ytjdimlhdkmkmbaa
namespace Go.Proofs.Ytjdimlhdkmkmbaa
set_option maxRecDepth 100000
open Go.ChangeShapes Go.WideShapes Go.ChangeAt Go.RowKit Go.Deep

structure StoreD where
  envs : List EnvD
  promises : List PromD

end Go.Proofs.Ytjdimlhdkmkmbaa
namespace Go.Proofs.Ytjdimlhdkmkmbaa
set_option maxRecDepth 100000
open Go.ChangeShapes Go.WideShapes Go.ChangeAt Go.RowKit Go.Deep

end Go.Proofs.Ytjdimlhdkmkmbaa
namespace Go.Proofs.Ytjdimlhdkmkmbaa
set_option maxRecDepth 100000
open Go.ChangeShapes Go.WideShapes Go.ChangeAt Go.RowKit Go.Deep

def envU (s : StoreD) (e : Int) : Bool := decide (0 ≤ e) && ((s.envs[e.toNat]?).map EnvD.used).getD false
def promU (s : StoreD) (p : Int) : Bool := decide (0 ≤ p) && ((s.promises[p.toNat]?).map PromD.used).getD false
mutual
def funFit (s : StoreD) : VecD → Bool
  | .mk k _ p _ _ _ _ en => (k != 5 || envU s en) && funFits s p
def funFits (s : StoreD) : List VecD → Bool
  | [] => true
  | d :: l => funFit s d && funFits s l
end
def valFit (s : StoreD) (d : VecD) : Bool := vecOk d && funFit s d

end Go.Proofs.Ytjdimlhdkmkmbaa
namespace Go.Proofs.Ytjdimlhdkmkmbaa
set_option maxRecDepth 100000
open Go.ChangeShapes Go.WideShapes Go.ChangeAt Go.RowKit Go.Deep

def zeroV (d : VecD) : Bool := d.kind == 0 && d.code == 0 && d.env == 0 && decide (d.names.length = 0) && decide (d.cls.length = 0) && decide (d.levels.length = 0) && decide (d.items.length = 0) && decide (d.parts.length = 0)
end Go.Proofs.Ytjdimlhdkmkmbaa
namespace Go.Proofs.Ytjdimlhdkmkmbaa
set_option maxRecDepth 100000
open Go.ChangeShapes Go.WideShapes Go.ChangeAt Go.RowKit Go.Deep

end Go.Proofs.Ytjdimlhdkmkmbaa
namespace Go.Proofs.Ytjdimlhdkmkmbaa
set_option maxRecDepth 100000
open Go.ChangeShapes Go.WideShapes Go.ChangeAt Go.RowKit Go.Deep

end Go.Proofs.Ytjdimlhdkmkmbaa
namespace Go.Proofs.Ytjdimlhdkmkmbaa
set_option maxRecDepth 100000
open Go.ChangeShapes Go.WideShapes Go.ChangeAt Go.RowKit Go.Deep

def slA (s : StoreD) (x : SlotD) : Bool := decide (0 ≤ x.kind) && decide (x.kind ≤ 3) && valFit s x.value && (x.kind == 1 || zeroV x.value)
def slB (s : StoreD) (x : SlotD) : Bool := (x.kind != 2 || promU s x.promise) && (x.kind == 2 || x.promise == 0)
def slC (x : SlotD) : Bool := (x.kind == 3 || (decide (x.promises.length = 0) && decide (x.labels.length = 0))) && decide (x.promises.length = x.labels.length)
def slD (s : StoreD) (x : SlotD) : Bool := decide (∀ j (h : j < x.promises.length) (h' : j < x.labels.length), promU s x.promises[j] = true ∧ x.labels[j].length ≤ 60)
def slotOk (s : StoreD) (x : SlotD) : Bool := slA s x && slB s x && slC x && slD s x
end Go.Proofs.Ytjdimlhdkmkmbaa
namespace Go.Proofs.Ytjdimlhdkmkmbaa
set_option maxRecDepth 100000
open Go.ChangeShapes Go.WideShapes Go.ChangeAt Go.RowKit Go.Deep

/-! ### environments and promises, as the reference looks at them -/
end Go.Proofs.Ytjdimlhdkmkmbaa
namespace Go.Proofs.Ytjdimlhdkmkmbaa
set_option maxRecDepth 100000
open Go.ChangeShapes Go.WideShapes Go.ChangeAt Go.RowKit Go.Deep

end Go.Proofs.Ytjdimlhdkmkmbaa
namespace Go.Proofs.Ytjdimlhdkmkmbaa
set_option maxRecDepth 100000
open Go.ChangeShapes Go.WideShapes Go.ChangeAt Go.RowKit Go.Deep

def nameByte (c : UInt8) : Bool := decide (33 ≤ (c.toNat : Int)) && decide ((c.toNat : Int) ≤ 126) && !((c.toNat : Int) == 96)
def isNameB (s : List UInt8) : Bool := decide (1 ≤ s.length) && decide (s.length ≤ 20) && decide (∀ j (h : j < s.length), nameByte s[j] = true)
end Go.Proofs.Ytjdimlhdkmkmbaa
namespace Go.Proofs.Ytjdimlhdkmkmbaa
set_option maxRecDepth 100000
open Go.ChangeShapes Go.WideShapes Go.ChangeAt Go.RowKit Go.Deep

def enU (x : EnvD) : Bool := x.parent == 0 && decide (x.names.length = 0) && decide (x.slots.length = 0)
def enA (s : StoreD) (k : Nat) (x : EnvD) : Bool := (!((k : Int) == 0) || x.parent == -1) && (!decide (0 < (k : Int)) || (decide (x.parent < k) && envU s x.parent)) && decide (x.names.length = x.slots.length)
def enT (s : StoreD) (x : EnvD) (j : Nat) (h : j < x.names.length) (h' : j < x.slots.length) : Bool := isNameB x.names[j] && !hasB (x.names.take j) x.names[j] && slotOk s x.slots[j]
def enB (s : StoreD) (x : EnvD) : Bool := decide (∀ j (h : j < x.names.length) (h' : j < x.slots.length), enT s x j h h' = true)
def envOk (s : StoreD) (k : Nat) (x : EnvD) : Bool := if x.used = true then enA s k x && enB s x else enU x
end Go.Proofs.Ytjdimlhdkmkmbaa
namespace Go.Proofs.Ytjdimlhdkmkmbaa
set_option maxRecDepth 100000
open Go.ChangeShapes Go.WideShapes Go.ChangeAt Go.RowKit Go.Deep

end Go.Proofs.Ytjdimlhdkmkmbaa
namespace Go.Proofs.Ytjdimlhdkmkmbaa
set_option maxRecDepth 100000
open Go.ChangeShapes Go.WideShapes Go.ChangeAt Go.RowKit Go.Deep

def prA (s : StoreD) (x : PromD) : Bool := decide (0 ≤ x.state) && decide (x.state ≤ 2) && decide (0 ≤ x.code) && decide (x.code ≤ 99999) && valFit s x.value && envU s x.env
def prU (x : PromD) : Bool := x.code == 0 && x.env == 0 && x.state == 0 && zeroV x.value
def prOk (s : StoreD) (x : PromD) : Bool := if x.used = true then prA s x && (if x.state = 2 then x.env == 0 else zeroV x.value) else prU x

end Go.Proofs.Ytjdimlhdkmkmbaa
namespace Go.Proofs.Ytjdimlhdkmkmbaa
set_option maxRecDepth 100000
open Go.ChangeShapes Go.WideShapes Go.ChangeAt Go.RowKit Go.Deep

def envsOk (s : StoreD) : Bool := decide (∀ k (h : k < s.envs.length), envOk s k s.envs[k] = true)
def promsOk (s : StoreD) : Bool := decide (∀ k (h : k < s.promises.length), prOk s s.promises[k] = true)
def storeOk (s : StoreD) : Bool := decide (0 < s.envs.length) && ((s.envs[0]?).map EnvD.used).getD false && envsOk s && promsOk s
end Go.Proofs.Ytjdimlhdkmkmbaa
namespace Go.Proofs.Ytjdimlhdkmkmbaa
set_option maxRecDepth 100000
open Go.ChangeShapes Go.WideShapes Go.ChangeAt Go.RowKit Go.Deep

end Go.Proofs.Ytjdimlhdkmkmbaa
namespace Go.Proofs.Ytjdimlhdkmkmbaa
set_option maxRecDepth 100000
open Go.ChangeShapes Go.WideShapes Go.ChangeAt Go.RowKit Go.Deep

end Go.Proofs.Ytjdimlhdkmkmbaa
