/-
  Plain: a matrix is reduced.
-/
import Derived.Test.YtconhpilbndpkaaMatMul
namespace Go.Proofs.Ytconhpilbndpkaa
set_option maxRecDepth 100000
set_option linter.unusedVariables false

/-- the first row from k on with a cell in column col that is not 0; n rows are left -/
def findK (M : Mx) (col : Nat) : Nat → Nat → Nat
  | 0, k => k
  | n + 1, k => if (M k col).1 = 0 then findK M col n (k + 1) else k
def kOf (M : Mx) (R col r : Nat) : Nat := findK M col (R - r) r
theorem findK_spec (M : Mx) (col : Nat) : ∀ (n k : Nat), k ≤ findK M col n k ∧ findK M col n k ≤ k + n ∧ (∀ a, k ≤ a → a < findK M col n k → (M a col).1 = 0) ∧ (findK M col n k < k + n → (M (findK M col n k) col).1 ≠ 0)
  | 0, k => ⟨Nat.le_refl _, Nat.le_refl _, fun a h1 h2 => absurd h2 (by simp [findK]; omega), fun h => absurd h (by simp [findK])⟩
  | n + 1, k => by
    unfold findK
    split
    · rename_i h0
      obtain ⟨h1, h2, h3, h4⟩ := findK_spec M col n (k + 1)
      refine ⟨by omega, by omega, fun a ha hb => ?_, fun h => h4 (by omega)⟩
      by_cases e : a = k
      · rw [e]; exact h0
      · exact h3 a (by omega) hb
    · rename_i h0
      exact ⟨Nat.le_refl _, by omega, fun a h1 h2 => by omega, fun _ => h0⟩
theorem kOf_eq {M : Mx} {R col r k : Nat} (hr : r ≤ R) (h1 : r ≤ k) (h2 : k ≤ R) (h3 : ∀ a, r ≤ a → a < k → (M a col).1 = 0) (h4 : k = R ∨ (M k col).1 ≠ 0) : k = kOf M R col r := by
  obtain ⟨g1, g2, g3, g4⟩ := findK_spec M col (R - r) r
  unfold kOf
  generalize findK M col (R - r) r = q at *
  rcases Nat.lt_trichotomy k q with h | h | h
  · rcases h4 with h4 | h4
    · omega
    · exact absurd (g3 k h1 h) h4
  · exact h
  · exact absurd (h3 q g1 h) (g4 (by omega))
def swapM (M : Mx) (r k : Nat) : Mx := fun a b => if a = r then M k b else if a = k then M r b else M a b
def divM (M : Mx) (r : Nat) (p : It) : Mx := fun a b => if a = r then divI (M a b) p else M a b
def elimM (M : Mx) (r c : Nat) : Mx := fun a b => if a = r then M a b else if (M a c).1 = 0 then M a b else subI (M a b) (mulI (M a c) (M r b))
def stepM (M : Mx) (r k col : Nat) : Mx := elimM (divM (swapM M r k) r (M k col)) r col
def allM (R C : Nat) (M : Mx) : Bool := (gridL M C R).all isN
/-- n columns are left, from col on -/
def redP (R C : Nat) : Nat → Nat → Mx → List Nat → Option (Mx × List Nat)
  | 0, _, M, piv => some (M, piv)
  | n + 1, col, M, piv => if piv.length < R then
      (if kOf M R col piv.length = R then redP R C n (col + 1) M piv
        else if allM R C (stepM M piv.length (kOf M R col piv.length) col) then redP R C n (col + 1) (stepM M piv.length (kOf M R col piv.length) col) (piv ++ [col]) else none)
    else some (M, piv)
theorem redP_full {R C n col : Nat} {M : Mx} {piv : List Nat} (h : ¬ piv.length < R) : redP R C n col M piv = some (M, piv) := by
  cases n with
  | zero => rfl
  | succ n => rw [redP, if_neg h]
/-- in the middle of an exchange of two rows -/
def swapJ (M : Mx) (r k j : Nat) : Mx := fun a b => if b < j then swapM M r k a b else M a b
theorem swapJ_0 (M : Mx) (r k : Nat) : swapJ M r k 0 = M := by
  funext a b
  simp [swapJ]
theorem swapJ_next (M : Mx) (r k j : Nat) : upd (upd (swapJ M r k j) r j (M k j)) k j (M r j) = swapJ M r k (j + 1) := by
  funext a b
  unfold upd swapJ swapM
  by_cases hb : b = j
  · subst hb
    by_cases h1 : a = k
    · subst h1
      by_cases h2 : a = r
      · subst h2; simp
      · simp [h2]
    · by_cases h2 : a = r
      · subst h2; simp [h1]
      · simp [h1, h2]
  · have n1 : ¬ (a = k ∧ b = j) := fun e => hb e.2
    have n2 : ¬ (a = r ∧ b = j) := fun e => hb e.2
    have e : (b < j + 1) = (b < j) := propext ⟨fun h => by omega, fun h => by omega⟩
    simp only [n1, n2, if_false, e]
theorem swapJ_at (M : Mx) (r k j a : Nat) : swapJ M r k j a j = M a j := by
  simp [swapJ]
theorem swapJ_all {M : Mx} {r k C n : Nat} : gridL (swapJ M r k C) C n = gridL (swapM M r k) C n := gridL_congr n fun a b _ hb => by
  unfold swapJ
  rw [if_pos hb]
/-- in the middle of a division -/
def divJ (M : Mx) (r : Nat) (p : It) (j : Nat) : Mx := fun a b => if a = r ∧ b < j then divI (M a b) p else M a b
theorem divJ_0 (M : Mx) (r : Nat) (p : It) : divJ M r p 0 = M := by
  funext a b
  simp [divJ]
theorem divJ_next (M : Mx) (r : Nat) (p : It) (j : Nat) : upd (divJ M r p j) r j (divI (M r j) p) = divJ M r p (j + 1) := by
  funext a b
  unfold upd divJ
  by_cases h : a = r ∧ b = j
  · rw [if_pos h, if_pos ⟨h.1, by omega⟩, h.1, h.2]
  · rw [if_neg h]
    by_cases h2 : a = r ∧ b < j
    · rw [if_pos h2, if_pos ⟨h2.1, by omega⟩]
    · rw [if_neg h2, if_neg (by omega)]
theorem divJ_at (M : Mx) (r : Nat) (p : It) (j : Nat) : divJ M r p j r j = M r j := by
  simp [divJ]
theorem divJ_all {M : Mx} {r C n : Nat} {p : It} : gridL (divJ M r p C) C n = gridL (divM M r p) C n := gridL_congr n fun a b _ hb => by
  unfold divJ divM
  by_cases h : a = r
  · rw [if_pos ⟨h, hb⟩, if_pos h]
  · rw [if_neg (fun e => h e.1), if_neg h]
/-- exchange and division at once -/
def sdJ (M : Mx) (r k : Nat) (p : It) (j : Nat) : Mx := fun a b => if b < j then divM (swapM M r k) r p a b else M a b
theorem sdJ_0 (M : Mx) (r k : Nat) (p : It) : sdJ M r k p 0 = M := by
  funext a b
  simp [sdJ]
theorem sdJ_at (M : Mx) (r k : Nat) (p : It) (j a : Nat) : sdJ M r k p j a j = M a j := by
  simp [sdJ]
theorem sdJ_next (M : Mx) (r k : Nat) (p : It) (j : Nat) : upd (upd (sdJ M r k p j) k j (M r j)) r j (divI (M k j) p) = sdJ M r k p (j + 1) := by
  funext a b
  unfold upd sdJ divM swapM
  by_cases hb : b = j
  · subst hb
    by_cases h2 : a = r
    · subst h2; simp
    · by_cases h1 : a = k
      · subst h1; simp [h2]
      · simp [h1, h2]
  · have n1 : ¬ (a = k ∧ b = j) := fun e => hb e.2
    have n2 : ¬ (a = r ∧ b = j) := fun e => hb e.2
    have e : (b < j + 1) = (b < j) := propext ⟨fun h => by omega, fun h => by omega⟩
    simp only [n1, n2, if_false, e]
theorem sdJ_all {M : Mx} {r k C n : Nat} {p : It} : gridL (sdJ M r k p C) C n = gridL (divM (swapM M r k) r p) C n := gridL_congr n fun a b _ hb => by
  unfold sdJ
  rw [if_pos hb]
/-- rows before i are done, of row i the cells before j -/
def elimJ (M : Mx) (r c i j : Nat) : Mx := fun a b => if a < i ∨ (a = i ∧ b < j) then elimM M r c a b else M a b
theorem elimJ_00 (M : Mx) (r c : Nat) : elimJ M r c 0 0 = M := by
  funext a b
  simp [elimJ]
theorem elimJ_row (M : Mx) (r c i j b : Nat) : elimJ M r c i j r b = M r b := by
  unfold elimJ elimM
  simp
theorem elimJ_at (M : Mx) (r c i j : Nat) : elimJ M r c i j i j = M i j := by
  simp [elimJ]
theorem elimJ_at0 (M : Mx) (r c i b : Nat) : elimJ M r c i 0 i b = M i b := by
  simp [elimJ]
theorem elimJ_next {M : Mx} {r c i j : Nat} (hi : i ≠ r) (hf : (M i c).1 ≠ 0) : upd (elimJ M r c i j) i j (subI (M i j) (mulI (M i c) (M r j))) = elimJ M r c i (j + 1) := by
  funext a b
  unfold upd
  by_cases h : a = i ∧ b = j
  · rw [if_pos h]
    unfold elimJ elimM
    rw [if_pos (by omega), h.1, h.2, if_neg hi, if_neg hf]
  · rw [if_neg h]
    unfold elimJ
    by_cases h2 : a < i ∨ (a = i ∧ b < j)
    · rw [if_pos h2, if_pos (by omega)]
    · rw [if_neg h2, if_neg (by omega)]
theorem elimJ_end {M : Mx} {r c i C n : Nat} : gridL (elimJ M r c i C) C n = gridL (elimJ M r c (i + 1) 0) C n := gridL_congr n fun a b _ hb => by
  unfold elimJ
  by_cases h2 : a < i ∨ (a = i ∧ b < C)
  · rw [if_pos h2, if_pos (by omega)]
  · rw [if_neg h2, if_neg (by omega)]
theorem elimJ_skip {M : Mx} {r c i C n : Nat} (h : i = r ∨ (M i c).1 = 0) : gridL (elimJ M r c i 0) C n = gridL (elimJ M r c (i + 1) 0) C n := gridL_congr n fun a b _ hb => by
  unfold elimJ elimM
  by_cases h2 : a = i
  · subst h2
    rw [if_neg (by omega), if_pos (by omega)]
    rcases h with h | h
    · rw [if_pos h]
    · rw [if_pos h]
      split <;> rfl
  · have e : (a < i ∨ a = i ∧ b < 0) = (a < i + 1 ∨ a = i + 1 ∧ b < 0) := propext ⟨fun h => by omega, fun h => by omega⟩
    simp only [e]
theorem elimJ_all {M : Mx} {r c C n : Nat} : gridL (elimJ M r c n 0) C n = gridL (elimM M r c) C n := gridL_congr n fun a b ha hb => by
  unfold elimJ
  rw [if_pos (by omega)]
theorem okM_swap {M : Mx} (h : ∀ a b, okI (M a b)) (r k : Nat) : ∀ a b, okI (swapM M r k a b) := fun a b => by
  unfold swapM
  split
  · exact h _ _
  · split <;> exact h _ _
theorem okM_div {M : Mx} (h : ∀ a b, okI (M a b)) (r : Nat) (p : It) : ∀ a b, okI (divM M r p a b) := fun a b => by
  unfold divM
  split
  · exact div_ok _ _
  · exact h _ _
theorem okM_elim {M : Mx} (h : ∀ a b, okI (M a b)) (r c : Nat) : ∀ a b, okI (elimM M r c a b) := fun a b => by
  unfold elimM
  split
  · exact h _ _
  · split
    · exact h _ _
    · exact sub_ok _ _
theorem okM_step {M : Mx} (h : ∀ a b, okI (M a b)) (r k col : Nat) : ∀ a b, okI (stepM M r k col a b) := okM_elim (okM_div (okM_swap h r k) r _) r col
end Go.Proofs.Ytconhpilbndpkaa
