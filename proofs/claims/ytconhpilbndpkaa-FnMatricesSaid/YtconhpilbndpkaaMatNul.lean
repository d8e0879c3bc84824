/-
  Plain: the null space of a reduced matrix.
-/
import Derived.Test.YtconhpilbndpkaaMatRed
namespace Go.Proofs.Ytconhpilbndpkaa
set_option maxRecDepth 100000
set_option linter.unusedVariables false

/-- the row of the pivot in column j, of the first k pivots; -1 where there is none -/
def rof (piv : List Nat) : Nat → Nat → Int
  | 0, _ => -1
  | k + 1, j => if piv[k]? = some j then (k : Int) else rof piv k j
def freeL (f : Nat → Int) : Nat → List Nat
  | 0 => []
  | n + 1 => if f n < 0 then freeL f n ++ [n] else freeL f n
theorem freeL_lt (f : Nat → Int) : ∀ n, ∀ j ∈ freeL f n, j < n ∧ f j < 0
  | 0, j, h => by simp [freeL] at h
  | n + 1, j, h => by
    unfold freeL at h
    split at h
    · rename_i hf
      rcases List.mem_append.1 h with h | h
      · have := freeL_lt f n j h; exact ⟨by omega, this.2⟩
      · rw [List.mem_singleton] at h
        subst h
        exact ⟨by omega, hf⟩
    · have := freeL_lt f n j h; exact ⟨by omega, this.2⟩
theorem freeL_length (f : Nat → Int) : ∀ n, (freeL f n).length ≤ n
  | 0 => Nat.le_refl _
  | n + 1 => by
    have := freeL_length f n
    unfold freeL
    split
    · rw [List.length_append]; simp; omega
    · omega
theorem rof_bound (piv : List Nat) : ∀ (k j : Nat), -1 ≤ rof piv k j ∧ rof piv k j < (k : Int) ∧ (0 ≤ rof piv k j → ∃ t, t < k ∧ rof piv k j = (t : Int) ∧ piv[t]? = some j)
  | 0, j => ⟨by simp [rof], by simp [rof], fun h => by simp [rof] at h⟩
  | k + 1, j => by
    obtain ⟨h1, h2, h3⟩ := rof_bound piv k j
    unfold rof
    split
    · rename_i hp
      exact ⟨by omega, by omega, fun _ => ⟨k, by omega, rfl, hp⟩⟩
    · refine ⟨h1, by omega, fun h => ?_⟩
      obtain ⟨t, q1, q2, q3⟩ := h3 h
      exact ⟨t, by omega, q2, q3⟩
def nulF (M : Mx) (f : Nat → Int) (fr : List Nat) (i t : Nat) : It :=
  if 0 ≤ f i then negI (M (f i).toNat (fr[t]?.getD 0)) else if i = fr[t]?.getD 0 then wh 1 else wh 0
theorem nul_ok (M : Mx) (f : Nat → Int) (fr : List Nat) (i t : Nat) : okI (nulF M f fr i t) := by
  unfold nulF
  split
  · exact neg_ok _
  · split <;> exact .inr (num_wh (by omega) (by omega))
theorem rowL_set {α : Type} {f : Nat → α} {n i : Nat} {v : α} (hi : i < n) : (rowL f n).set i v = rowL (fun j => if j = i then v else f j) n := by
  apply List.ext_getElem?
  intro k
  by_cases hk : k < n
  · rw [rowL_get _ n k hk, List.getElem?_set]
    by_cases h : i = k
    · rw [if_pos h, if_pos (by rw [rowL_length]; omega), if_pos h.symm]
    · rw [if_neg h, rowL_get _ n k hk, if_neg fun e => h e.symm]
  · rw [List.getElem?_eq_none (by rw [List.length_set, rowL_length]; omega), List.getElem?_eq_none (by rw [rowL_length]; omega)]
theorem rowL_rep {α : Type} (v : α) : ∀ n, List.replicate n v = rowL (fun _ => v) n
  | 0 => rfl
  | n + 1 => by rw [List.replicate_succ', rowL_rep v n, rowL]
end Go.Proofs.Ytconhpilbndpkaa
