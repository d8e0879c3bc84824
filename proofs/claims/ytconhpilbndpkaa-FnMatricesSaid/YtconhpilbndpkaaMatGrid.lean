/-
  Plain: matrices as lists, row by row.
-/
import Derived.Test.YtconhpilbndpkaaMatNum
namespace Go.Proofs.Ytconhpilbndpkaa
set_option maxRecDepth 100000
set_option linter.unusedVariables false

abbrev Mx := Nat → Nat → It
def rowL {α : Type} (f : Nat → α) : Nat → List α
  | 0 => []
  | n + 1 => rowL f n ++ [f n]
def gridL {α : Type} (f : Nat → Nat → α) (C : Nat) : Nat → List α
  | 0 => []
  | n + 1 => gridL f C n ++ rowL (f n) C
theorem rowL_length {α : Type} (f : Nat → α) : ∀ n, (rowL f n).length = n
  | 0 => rfl
  | n + 1 => by rw [rowL, List.length_append, rowL_length f n]; rfl
theorem rowL_get {α : Type} (f : Nat → α) : ∀ (n i : Nat), i < n → (rowL f n)[i]? = some (f i)
  | 0, i, h => absurd h (Nat.not_lt_zero _)
  | n + 1, i, h => by
    rw [rowL]
    by_cases hi : i < n
    · rw [List.getElem?_append_left (by rw [rowL_length]; exact hi)]
      exact rowL_get f n i hi
    · have : i = n := by omega
      subst this
      rw [List.getElem?_append_right (by rw [rowL_length]; omega), rowL_length]
      simp
theorem gridL_length {α : Type} (f : Nat → Nat → α) (C : Nat) : ∀ n, (gridL f C n).length = n * C
  | 0 => by simp [gridL]
  | n + 1 => by rw [gridL, List.length_append, gridL_length f C n, rowL_length, Nat.succ_mul]
theorem at_lt {i j C n : Nat} (hi : i < n) (hj : j < C) : i * C + j < n * C := by
  have : (i + 1) * C ≤ n * C := Nat.mul_le_mul_right _ hi
  rw [Nat.succ_mul] at this
  omega
theorem gridL_get {α : Type} (f : Nat → Nat → α) (C : Nat) : ∀ (n i j : Nat), i < n → j < C → (gridL f C n)[i * C + j]? = some (f i j)
  | 0, i, j, h, _ => absurd h (Nat.not_lt_zero _)
  | n + 1, i, j, h, hj => by
    rw [gridL]
    by_cases hi : i < n
    · rw [List.getElem?_append_left (by rw [gridL_length]; exact at_lt hi hj)]
      exact gridL_get f C n i j hi hj
    · have : i = n := by omega
      subst this
      rw [List.getElem?_append_right (by rw [gridL_length]; omega), gridL_length, show i * C + j - i * C = j by omega]
      exact rowL_get (f i) C j hj
theorem rowL_congr {α : Type} {f g : Nat → α} : ∀ n, (∀ i, i < n → f i = g i) → rowL f n = rowL g n
  | 0, _ => rfl
  | n + 1, h => by rw [rowL, rowL, rowL_congr n (fun i hi => h i (by omega)), h n (by omega)]
theorem gridL_congr {α : Type} {f g : Nat → Nat → α} {C : Nat} : ∀ n, (∀ i j, i < n → j < C → f i j = g i j) → gridL f C n = gridL g C n
  | 0, _ => rfl
  | n + 1, h => by rw [gridL, gridL, gridL_congr n (fun i j hi hj => h i j (by omega) hj), rowL_congr C (fun j hj => h n j (by omega) hj)]
/-- a list is the list of its cells -/
theorem grid_of {L : List It} {R C : Nat} (h : L.length = R * C) : L = gridL (fun i j => L[i * C + j]?.getD (0, 0)) C R := by
  apply List.ext_getElem?
  intro k
  by_cases hk : k < R * C
  · have hC : 0 < C := by
      rcases Nat.eq_zero_or_pos C with e | e
      · subst e; omega
      · exact e
    have e := Nat.div_add_mod k C
    rw [Nat.mul_comm] at e
    have hi : k / C < R := Nat.div_lt_of_lt_mul (by rw [Nat.mul_comm]; exact hk)
    have hj := Nat.mod_lt k hC
    have := gridL_get (fun i j => L[i * C + j]?.getD (0, 0)) C R (k / C) (k % C) hi hj
    rw [e] at this
    rw [this, List.getElem?_eq_getElem (by omega)]
    rfl
  · rw [List.getElem?_eq_none (by omega), List.getElem?_eq_none (by rw [gridL_length]; omega)]
def upd {α : Type} (M : Nat → Nat → α) (i j : Nat) (v : α) : Nat → Nat → α := fun a b => if a = i ∧ b = j then v else M a b
theorem at_inj {i j a b C : Nat} (hj : j < C) (hb : b < C) (e : i * C + j = a * C + b) : i = a ∧ j = b := by
  have h : i = a := by
    rcases Nat.lt_trichotomy i a with h | h | h
    · have := Nat.mul_le_mul_right C (show i + 1 ≤ a from h)
      rw [Nat.succ_mul] at this; omega
    · exact h
    · have := Nat.mul_le_mul_right C (show a + 1 ≤ i from h)
      rw [Nat.succ_mul] at this; omega
  subst h
  exact ⟨rfl, by omega⟩
theorem grid_set {α : Type} {M : Nat → Nat → α} {R C i j : Nat} {v : α} (hi : i < R) (hj : j < C) : (gridL M C R).set (i * C + j) v = gridL (upd M i j v) C R := by
  apply List.ext_getElem?
  intro k
  by_cases hk : k < R * C
  · have hC : 0 < C := by omega
    have e := Nat.div_add_mod k C
    rw [Nat.mul_comm] at e
    have hi' : k / C < R := Nat.div_lt_of_lt_mul (by rw [Nat.mul_comm]; exact hk)
    have hj' := Nat.mod_lt k hC
    have h1 := gridL_get (upd M i j v) C R (k / C) (k % C) hi' hj'
    have h2 := gridL_get M C R (k / C) (k % C) hi' hj'
    rw [e] at h1 h2
    rw [h1, List.getElem?_set]
    by_cases hc : i * C + j = k
    · rw [if_pos hc, if_pos (by rw [gridL_length]; exact at_lt hi hj)]
      rw [← e] at hc
      obtain ⟨q1, q2⟩ := at_inj hj hj' hc
      simp [upd, q1, q2]
    · rw [if_neg hc, h2]
      have : ¬ (k / C = i ∧ k % C = j) := fun ⟨q1, q2⟩ => hc (by rw [← q1, ← q2]; exact e)
      simp only [upd, if_neg this]
  · rw [List.getElem?_eq_none (by rw [List.length_set, gridL_length]; omega), List.getElem?_eq_none (by rw [gridL_length]; omega)]
theorem grid_map {α β : Type} (g : α → β) (f : Nat → Nat → α) (C : Nat) : ∀ n, (gridL f C n).map g = gridL (fun i j => g (f i j)) C n
  | 0 => rfl
  | n + 1 => by
    have row : ∀ (h : Nat → α) n, (rowL h n).map g = rowL (fun i => g (h i)) n := fun h n => by
      induction n with
      | zero => rfl
      | succ n ih => rw [rowL, List.map_append, ih]; rfl
    rw [gridL, List.map_append, grid_map g f C n, row]
    rfl
theorem grid_mem {α : Type} {f : Nat → Nat → α} {C R : Nat} {x : α} (h : x ∈ gridL f C R) : ∃ i j, i < R ∧ j < C ∧ x = f i j := by
  obtain ⟨k, hk, rfl⟩ := List.getElem_of_mem h
  rw [gridL_length] at hk
  have hC : 0 < C := by
    rcases Nat.eq_zero_or_pos C with e | e
    · subst e; omega
    · exact e
  have e := Nat.div_add_mod k C
  rw [Nat.mul_comm] at e
  have hi' : k / C < R := Nat.div_lt_of_lt_mul (by rw [Nat.mul_comm]; exact hk)
  have h1 := gridL_get f C R (k / C) (k % C) hi' (Nat.mod_lt k hC)
  refine ⟨k / C, k % C, hi', Nat.mod_lt k hC, ?_⟩
  rw [e] at h1
  exact (List.getElem?_eq_some_iff.1 h1).2
theorem mem_grid {α : Type} {f : Nat → Nat → α} {C R i j : Nat} (hi : i < R) (hj : j < C) : f i j ∈ gridL f C R := List.mem_of_getElem? (gridL_get f C R i j hi hj)
theorem grid_all {f : Mx} {C R : Nat} : ((gridL f C R).all isN = true) ↔ ∀ i j, i < R → j < C → isN (f i j) = true := by
  rw [List.all_eq_true]
  exact ⟨fun h i j hi hj => h _ (mem_grid hi hj), fun h x hx => by
    obtain ⟨i, j, hi, hj, rfl⟩ := grid_mem hx
    exact h i j hi hj⟩
end Go.Proofs.Ytconhpilbndpkaa
