/-
  Merged texts: Reach, MarkInt, L27, Sweep, SweepW, ReachP, Collect, ColPure, ColFacts.
-/
import Derived.Test.YtjdimlhdkmkmbaaKStore
import Derived.Test.YtjdimlhdkmkmbaaKGood
import Derived.Test.YtjdimlhdkmkmbaaKRand
import Derived.Test.YtjdimlhdkmkmbaaStCopy
import Derived.Test.YtjdimlhdkmkmbaaKOk
import Derived.Test.YtjdimlhdkmkmbaaKStE
import Derived.Test.YtjdimlhdkmkmbaaKInh
namespace Go.Proofs.Ytjdimlhdkmkmbaa
set_option maxRecDepth 100000
set_option maxRecDepth 100000
open Go.RowKit
set_option linter.unusedVariables false

/-! ### Reaching, by plain words -/
mutual
def funs : VecD → List Int
  | .mk k _ p _ _ _ _ en => (if k = 5 then [en] else []) ++ funss p
def funss : List VecD → List Int
  | [] => []
  | d :: l => funs d ++ funss l
end
def gB (l : List Bool) (i : Nat) : Bool := l.getD i false
structure RSt where
  E : List Bool
  P : List Bool
  T : List Int

inductive RN (s : StoreD) (roots : List Int) : Bool → Nat → Prop where
  | zero : RN s roots false 0
  | root (e : Int) (h : e ∈ roots) : RN s roots false e.toNat
  | parent (i : Nat) (x : EnvD) (h : RN s roots false i) (hx : s.envs[i]? = some x) (h0 : 0 ≤ x.parent) : RN s roots false x.parent.toNat
  | func (i : Nat) (x : EnvD) (y : SlotD) (f : Int) (h : RN s roots false i) (hx : s.envs[i]? = some x) (hy : y ∈ x.slots) (hf : f ∈ funs y.value) : RN s roots false f.toNat
  | prom (i : Nat) (x : EnvD) (y : SlotD) (h : RN s roots false i) (hx : s.envs[i]? = some x) (hy : y ∈ x.slots) (hk : y.kind = 2) : RN s roots true y.promise.toNat
  | proms (i : Nat) (x : EnvD) (y : SlotD) (p : Int) (h : RN s roots false i) (hx : s.envs[i]? = some x) (hy : y ∈ x.slots) (hp : p ∈ y.promises) : RN s roots true p.toNat
  | penv (k : Nat) (p : PromD) (h : RN s roots true k) (hp : s.promises[k]? = some p) (hs : p.state ≠ 2) : RN s roots false p.env.toNat
  | pfunc (k : Nat) (p : PromD) (f : Int) (h : RN s roots true k) (hp : s.promises[k]? = some p) (hf : f ∈ funs p.value) : RN s roots false f.toNat

def ClP (s : StoreD) (k : Nat) (E : List Bool) : Prop := ∀ p, s.promises[k]? = some p → (p.state ≠ 2 → gB E p.env.toNat = true) ∧ ∀ f ∈ funs p.value, gB E f.toNat = true
def ClS (y : SlotD) (E P : List Bool) : Prop := (∀ f ∈ funs y.value, gB E f.toNat = true) ∧ (y.kind = 2 → gB P y.promise.toNat = true) ∧ ∀ p ∈ y.promises, gB P p.toNat = true
def ClE (s : StoreD) (i : Nat) (E P : List Bool) : Prop := ∀ x, s.envs[i]? = some x → (0 ≤ x.parent → gB E x.parent.toNat = true) ∧ ∀ y ∈ x.slots, ClS y E P
/-- marks that are right, and closed -/
structure Marked (s : StoreD) (roots : List Int) (E P : List Bool) : Prop where
  lenE : E.length = s.envs.length
  lenP : P.length = s.promises.length
  snd : ∀ i, gB E i = true → RN s roots false i
  sndP : ∀ k, gB P k = true → RN s roots true k
  clE : ∀ i, gB E i = true → ClE s i E P
  clP : ∀ k, gB P k = true → ClP s k E
  zero : gB E 0 = true
  root : ∀ e ∈ roots, gB E e.toNat = true
/-! ### The program's way -/
/-! ### what is marked is reached -/
/-! ### The reference's way -/
end Go.Proofs.Ytjdimlhdkmkmbaa
namespace Go.Proofs.Ytjdimlhdkmkmbaa
set_option maxRecDepth 100000
open Go.ChangeShapes Go.WideShapes Go.ChangeAt Go.RowKit Go.Deep
set_option linter.unusedVariables false

end Go.Proofs.Ytjdimlhdkmkmbaa
namespace Go.Proofs.Ytjdimlhdkmkmbaa
set_option maxRecDepth 100000
open Go.ChangeShapes Go.WideShapes Go.ChangeAt Go.RowKit Go.Deep
set_option linter.unusedVariables false
set_option maxRecDepth 100000

end Go.Proofs.Ytjdimlhdkmkmbaa
namespace Go.Proofs.Ytjdimlhdkmkmbaa
open Go.ChangeShapes Go.WideShapes Go.ChangeAt Go.RowKit Go.Deep
set_option linter.unusedVariables false
set_option maxRecDepth 100000

def posF (p : Nat → Bool) (n : Nat) : List Int := ((List.range n).filter fun (k : Nat) => p k).map fun (n : Nat) => (n : Int)
end Go.Proofs.Ytjdimlhdkmkmbaa
namespace Go.Proofs.Ytjdimlhdkmkmbaa
open Go.ChangeShapes Go.WideShapes Go.ChangeAt Go.RowKit Go.Deep
set_option linter.unusedVariables false
set_option maxRecDepth 100000
set_option maxRecDepth 100000

end Go.Proofs.Ytjdimlhdkmkmbaa
namespace Go.Proofs.Ytjdimlhdkmkmbaa
open Go.ChangeShapes Go.WideShapes Go.ChangeAt Go.RowKit Go.Deep
set_option linter.unusedVariables false
set_option maxRecDepth 100000
set_option maxRecDepth 100000

section
variable {wb : World} {box bt : Nat} {xcs : List Value} {ge gp : Nat} {E P : List Bool} {W : World}
end
def setsL (l : List Int) (P : List Bool) : List Bool := l.foldl (fun P p => P.set p.toNat true) P
end Go.Proofs.Ytjdimlhdkmkmbaa
namespace Go.Proofs.Ytjdimlhdkmkmbaa
open Go.ChangeShapes Go.WideShapes Go.ChangeAt Go.RowKit Go.Deep
set_option linter.unusedVariables false
set_option maxRecDepth 100000
set_option maxRecDepth 100000

end Go.Proofs.Ytjdimlhdkmkmbaa
namespace Go.Proofs.Ytjdimlhdkmkmbaa
open Go.ChangeShapes Go.WideShapes Go.ChangeAt Go.RowKit Go.Deep
set_option linter.unusedVariables false
set_option maxRecDepth 100000
set_option maxRecDepth 100000

end Go.Proofs.Ytjdimlhdkmkmbaa
namespace Go.Proofs.Ytjdimlhdkmkmbaa
open Go.ChangeShapes Go.WideShapes Go.ChangeAt Go.RowKit Go.Deep
set_option linter.unusedVariables false
set_option maxRecDepth 100000
set_option maxRecDepth 100000

def rootsOk (s : StoreD) (roots : List Int) : Bool := storeOk s && roots.all (envU s)
end Go.Proofs.Ytjdimlhdkmkmbaa
namespace Go.Proofs.Ytjdimlhdkmkmbaa
open Go.ChangeShapes Go.WideShapes Go.ChangeAt Go.RowKit Go.Deep
set_option linter.unusedVariables false
set_option maxRecDepth 100000
set_option maxRecDepth 100000

def ReachP (s : StoreD) (roots : List Int) (l0 l1 : List Int) (b : Bool) : Prop := b = rootsOk s roots ∧ (b = true → ∃ E P, Marked s roots E P ∧ l0 = posF (gB E) E.length ∧ l1 = posF (gB P) P.length) ∧ (b = false → l0 = [] ∧ l1 = [])
end Go.Proofs.Ytjdimlhdkmkmbaa
namespace Go.Proofs.Ytjdimlhdkmkmbaa
set_option maxRecDepth 100000
open Go.ChangeShapes Go.WideShapes Go.ChangeAt Go.RowKit Go.Deep
set_option linter.unusedVariables false
set_option maxRecDepth 100000

end Go.Proofs.Ytjdimlhdkmkmbaa
namespace Go.Proofs.Ytjdimlhdkmkmbaa
set_option maxRecDepth 100000
open Go.ChangeShapes Go.WideShapes Go.ChangeAt Go.RowKit Go.Deep
set_option linter.unusedVariables false
set_option maxRecDepth 100000

end Go.Proofs.Ytjdimlhdkmkmbaa
namespace Go.Proofs.Ytjdimlhdkmkmbaa
set_option maxRecDepth 100000
open Go.ChangeShapes Go.WideShapes Go.ChangeAt Go.RowKit Go.Deep
set_option linter.unusedVariables false
set_option maxRecDepth 100000
set_option maxRecDepth 100000

section
variable {w0 : World} {sb rb ge gp lo nE nP : Nat} {st : RSt} {A : Option Addr} {c : Nat} {W : World}
end
section
variable {w0 : World} {sb rb ge gp lo nE nP : Nat} {wb : World} {tb : Value} {box bt : Nat} {xcs : List Value} {st : RSt} {A : Option Addr} {c : Nat} {W : World}
end
end Go.Proofs.Ytjdimlhdkmkmbaa
namespace Go.Proofs.Ytjdimlhdkmkmbaa
open Go.ChangeShapes Go.WideShapes Go.ChangeAt Go.RowKit Go.Deep
set_option linter.unusedVariables false
set_option maxRecDepth 100000
set_option maxRecDepth 100000

end Go.Proofs.Ytjdimlhdkmkmbaa
namespace Go.Proofs.Ytjdimlhdkmkmbaa
open Go.ChangeShapes Go.WideShapes Go.ChangeAt Go.RowKit Go.Deep
set_option linter.unusedVariables false
set_option maxRecDepth 100000
set_option maxRecDepth 100000

section
variable {w0 : World} {sb rb ge gp lo nE nP : Nat} {st : RSt} {A : Option Addr} {c : Nat} {W : World}
end
end Go.Proofs.Ytjdimlhdkmkmbaa
namespace Go.Proofs.Ytjdimlhdkmkmbaa
open Go.ChangeShapes Go.WideShapes Go.ChangeAt Go.RowKit Go.Deep
set_option linter.unusedVariables false
set_option maxRecDepth 100000
set_option maxRecDepth 100000

end Go.Proofs.Ytjdimlhdkmkmbaa
namespace Go.Proofs.Ytjdimlhdkmkmbaa
set_option maxRecDepth 100000
open Go.ChangeShapes Go.WideShapes Go.ChangeAt Go.RowKit Go.Deep
set_option linter.unusedVariables false
set_option maxRecDepth 100000

end Go.Proofs.Ytjdimlhdkmkmbaa
namespace Go.Proofs.Ytjdimlhdkmkmbaa
set_option maxRecDepth 100000
open Go.RowKit
set_option linter.unusedVariables false

/-! ### A store that is swept -/
section
variable {s : StoreD} {roots : List Int} {E P : List Bool}
end
end Go.Proofs.Ytjdimlhdkmkmbaa
namespace Go.Proofs.Ytjdimlhdkmkmbaa
set_option maxRecDepth 100000
open Go.ChangeShapes Go.WideShapes Go.ChangeAt Go.RowKit Go.Deep
set_option linter.unusedVariables false

section
variable {s : StoreD}
theorem sz_zD : szVector zD = 0 := by rw [szVector_eq]; rfl
end

set_option maxHeartbeats 400000 in
theorem laws_hasB (l : List Int) (x : Int) (v : Value) (w : World) (h : Ints w v l) :
    Calls Try.prog 23 #[v, .int .i64 x] w fun e w' => e = .returned (.bool (decide (x ∈ l))) ∧ w = w' := by
  obtain ⟨A, c, rfl, hlc, hm, HC⟩ := h.open_
  clear h
  unfold maxLen at hm
  go_enter Try.func23, Try.ntmps23
  go_wp2
  go_loop [5] (fun i => ∃ k : Nat, k ≤ l.length ∧ i = .int .i64 k ∧ Hid (∀ j (h : j < l.length), j < k → l[j] ≠ x)) (fun i => l.length - (intOf i).toNat)
  case atStart => exact ⟨0, Nat.zero_le _, rfl, fun j h hj => absurd hj (by omega)⟩
  case round =>
    obtain ⟨k, hk, rfl, hn⟩ := hrel
    by_cases hlt : k < l.length
    · obtain ⟨b, off, rfl, hbl, hcell, _⟩ := HC.out k hlt
      by_cases he : l[k] = x
      · have hb1 : (l[k] == x) = true := by simp [he]
        have HE := Lib.hid (show decide (x ∈ l) = true by rw [decide_eq_true_eq]; exact he ▸ List.getElem_mem hlt)
        go_wp2
        go_ret
        rw [HE.out]
        exact ⟨rfl, rfl⟩
      · have hb1 : (l[k] == x) = false := by simp [he]
        go_wp2
        go_round
        case rel => exact ⟨k + 1, by omega, by go_num, fun j h hj => by rcases Nat.lt_succ_iff_lt_or_eq.1 hj with h1 | rfl; exact hn.out j h h1; exact he⟩
        case measure => simp [intOf]; omega
    · have HE := Lib.hid (show decide (x ∈ l) = false by
        rw [decide_eq_false_iff_not]
        intro hx
        obtain ⟨j, hj, rfl⟩ := List.getElem_of_mem hx
        exact hn.out j hj (by omega) rfl)
      go_wp2
      go_ret
      rw [HE.out]
      exact ⟨rfl, rfl⟩
end Go.Proofs.Ytjdimlhdkmkmbaa
