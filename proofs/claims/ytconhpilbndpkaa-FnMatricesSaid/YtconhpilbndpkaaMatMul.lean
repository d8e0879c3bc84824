/-
  Plain: products of matrices.
-/
import Derived.Test.YtconhpilbndpkaaMatGrid
namespace Go.Proofs.Ytconhpilbndpkaa
set_option maxRecDepth 100000
set_option linter.unusedVariables false

def cel (L : List It) (C i j : Nat) : It := L[i * C + j]?.getD (0, 0)
theorem cel_get {L : List It} {R C i j : Nat} (h : L.length = R * C) (hi : i < R) (hj : j < C) : L[i * C + j]? = some (cel L C i j) := by
  have := at_lt hi hj
  unfold cel
  rw [List.getElem?_eq_getElem (by omega)]
  rfl
theorem isN_ok {x : It} (h : isN x = true) : okI x := .inr (of_decide_eq_true h)
def sumI (g : Nat → It) : Nat → It
  | 0 => wh 0
  | n + 1 => addI (sumI g n) (g n)
theorem sum_ok (g : Nat → It) : ∀ n, okI (sumI g n)
  | 0 => .inr (num_wh (by omega) (by omega))
  | n + 1 => add_ok _ _
def mulF (A B : List It) (K Cn i j : Nat) : It := sumI (fun k => mulI (cel A K i k) (cel B Cn k j)) K
/-- the cells before place i, j are done, the others are 0 -/
def zf (f : Mx) (i j : Nat) : Mx := fun a b => if a < i ∨ (a = i ∧ b < j) then f a b else wh 0
theorem zf_00 (f : Mx) : zf f 0 0 = fun _ _ => wh 0 := by
  funext a b
  simp [zf]
theorem zf_same (f : Mx) (i j : Nat) : upd (zf f i j) i j (wh 0) = zf f i j := by
  funext a b
  unfold upd
  split
  · rename_i h
    unfold zf
    rw [if_neg (by omega)]
  · rfl
theorem zf_next (f : Mx) (i j : Nat) : upd (zf f i j) i j (f i j) = zf f i (j + 1) := by
  funext a b
  unfold upd zf
  split
  · rename_i h
    rw [if_pos (by omega), h.1, h.2]
  · rename_i h
    by_cases h2 : a < i ∨ (a = i ∧ b < j)
    · rw [if_pos h2, if_pos (by omega)]
    · rw [if_neg h2, if_neg (by omega)]
theorem zf_row {f : Mx} {i C n : Nat} : gridL (zf f i C) C n = gridL (zf f (i + 1) 0) C n := gridL_congr n fun a b _ hb => by
  unfold zf
  by_cases h2 : a < i ∨ (a = i ∧ b < C)
  · rw [if_pos h2, if_pos (by omega)]
  · rw [if_neg h2, if_neg (by omega)]
theorem zf_all {f : Mx} {C n : Nat} : gridL (zf f n 0) C n = gridL f C n := gridL_congr n fun a b ha hb => by
  unfold zf
  rw [if_pos (by omega)]
theorem upd_upd {α : Type} (M : Nat → Nat → α) (i j : Nat) (v w : α) : upd (upd M i j v) i j w = upd M i j w := by
  funext a b
  unfold upd
  split <;> rfl
theorem upd_at {α : Type} (M : Nat → Nat → α) (i j : Nat) (v : α) : upd M i j v i j = v := by
  unfold upd
  rw [if_pos ⟨rfl, rfl⟩]
/-- a cell of the grid is set, as cells -/
theorem grid_setK {α : Type} {K : It → α} {M : Mx} {R C i j : Nat} {v : It} (hi : i < R) (hj : j < C) : ((gridL M C R).map K).set (i * C + j) (K v) = (gridL (upd M i j v) C R).map K := by
  rw [← List.map_set, grid_set hi hj]
theorem grid_getK {α : Type} {K : It → α} {M : Mx} {R C i j : Nat} (hi : i < R) (hj : j < C) : ((gridL M C R).map K)[i * C + j]? = some (K (M i j)) := by
  rw [List.getElem?_map, gridL_get M C R i j hi hj]; rfl
end Go.Proofs.Ytconhpilbndpkaa
