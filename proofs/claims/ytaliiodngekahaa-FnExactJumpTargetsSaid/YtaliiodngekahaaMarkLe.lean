/-
  How many marks a value takes, in terms of its size.
-/
import Derived.Test.YtaliiodngekahaaMarkSeg
namespace Go.Proofs.Ytaliiodngekahaa
set_option maxRecDepth 100000
open Go.ChangeShapes Go.WideShapes Go.ChangeAt Go.RowKit Go.Deep
set_option linter.unusedVariables false

theorem cntL_cons {α : Type} (f : α → Nat) (x : α) (l : List α) : cntL f (x :: l) = f x + cntL f l := by simp [cntL]
theorem szS_cons {α : Type} (f : α → Nat) (x : α) (l : List α) : szS f (x :: l) = 1 + f x + szS f l := by simp [szS]; omega
theorem cntL_szS {α : Type} (f g : α → Nat) (m : Nat) (l : List α) (h : ∀ x ∈ l, f x ≤ m + m * g x) : cntL f l ≤ m * szS g l := by
  induction l with
  | nil => simp [cntL]
  | cons x l ih =>
    have h1 := ih fun y hy => h y (List.mem_cons_of_mem _ hy)
    have h2 := h x List.mem_cons_self
    rw [cntL_cons, szS_cons, Nat.mul_add, Nat.mul_add]
    omega
mutual
theorem cVec_le : ∀ d : VecD, cVec d ≤ 4 + 4 * szVector d
  | .mk k i p n c l co en => by
    have h1 := cVecs_le p
    have h2 : cntL cItem i ≤ 3 * szS szItem i := cntL_szS _ _ 3 _ fun x _ => by simp [cItem]
    have h3 := szL_length n
    have h4 := szL_length c
    have h5 := szL_length l
    rw [cVec, szVector_eq]
    simp only [VecD.items, VecD.parts, VecD.names, VecD.cls, VecD.levels]
    omega
theorem cVecs_le : ∀ l : List VecD, cVecs l ≤ 4 * szS szVector l
  | [] => by simp [cVecs]
  | d :: l => by
    have h1 := cVec_le d
    have h2 := cVecs_le l
    rw [cVecs, szS_cons]
    omega
end
theorem cInstr_le (d : InstrD) : cInstr d ≤ 8 + 8 * szInstr d := by
  have h1 := cVec_le d.value
  have h2 := szL_length d.labels
  unfold cInstr szInstr
  omega
theorem cSeg_le (d : SegD) : cSeg d ≤ 8 * szSegment d := by
  have h1 := szL_length d.labels
  have h2 : cntL cInstr d.instrs ≤ 8 * szS szInstr d.instrs := cntL_szS _ _ 8 _ fun x _ => cInstr_le x
  unfold cSeg szSegment
  omega
end Go.Proofs.Ytaliiodngekahaa
