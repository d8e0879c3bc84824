/-
  Contracts on trees: elements at positions (impl.subset, impl.SubsetOf).
-/
import Derived.Test.YtjdimlhdkmkmbaaVmResL
namespace Go.Proofs.Ytjdimlhdkmkmbaa
set_option maxRecDepth 100000
open Go.ChangeShapes Go.WideShapes Go.ChangeAt Go.RowKit Go.Deep Go.Proofs.Ytjdimlhdkmkmbaa.Vm
set_option linter.unusedVariables false

def plc (is : List Nat) : List Int := is.map fun (i : Nat) => (i : Int) + 1
def subAt {α : Type} (l : List α) (is : List Nat) : List α := is.filterMap (l[·]?)
def subD (d : VecD) (is : List Nat) : VecD := .mk d.kind (subAt d.items is) (subAt d.parts is) (subAt d.names is) (clsOf d) d.levels 0 0
theorem subAt_nil {α : Type} (is : List Nat) : subAt ([] : List α) is = [] := by
  unfold subAt
  induction is with
  | nil => rfl
  | cons i is ih => simp
theorem subAt_succ {α : Type} {l : List α} {is : List Nat} {k i : Nat} {x : α} (hk : is[k]? = some i) (h : l[i]? = some x) : subAt l (is.take (k + 1)) = subAt l (is.take k) ++ [x] := by
  unfold subAt
  rw [List.take_add_one, hk, List.filterMap_append]
  congr 1
  simp [h]
theorem subAt_mem {α : Type} {l : List α} {is : List Nat} {x : α} (h : x ∈ subAt l is) : x ∈ l := by
  unfold subAt at h
  obtain ⟨i, _, hi⟩ := List.mem_filterMap.1 h
  exact List.mem_of_getElem? hi
theorem subAt_length {α : Type} (l : List α) (is : List Nat) : (subAt l is).length ≤ is.length := List.length_filterMap_le _ _
theorem subD_wf {d : VecD} (hd : VecWf d) (is : List Nat) : VecWf (subD d is) := by
  obtain ⟨h0, h1, h2, h3, h4, h5, h6, h7⟩ := (VecWf_eq d).1 hd
  refine (VecWf_eq _).2 ⟨h0, fun x hx => h1 x (subAt_mem hx), fun x hx => h2 x (subAt_mem hx), fun x hx => h3 x (subAt_mem hx), fun x hx => ?_, h5, i64z_, i64z_⟩
  have hx' : x ∈ clsOf d := hx
  unfold clsOf at hx'
  split at hx'
  · cases hx'
  · exact h4 x hx'
end Go.Proofs.Ytjdimlhdkmkmbaa
