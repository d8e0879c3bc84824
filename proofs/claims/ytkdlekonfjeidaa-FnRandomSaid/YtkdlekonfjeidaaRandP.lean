/-
  Plain laws of the generator: a step multiplies the state plus 1 by 75 modulo 65537.
-/
import Derived.Test.YtkdlekonfjeidaaBase
namespace Go.Proofs.Ytkdlekonfjeidaa
set_option maxRecDepth 100000
set_option linter.unusedVariables false

/-- a state -/
def isSt (s : Int) : Bool := decide (0 ≤ s) && decide (s ≤ 65535)
def nextS (s : Int) : Int := if isSt s then (75 * s + 74) % 65537 else 0
def itS : Nat → Int → Int
  | 0, s => s
  | n + 1, s => itS n (nextS s)
theorem isSt_iff {s : Int} : isSt s = true ↔ 0 ≤ s ∧ s ≤ 65535 := by simp [isSt]
theorem nextS_st {s : Int} (h : isSt s = true) : isSt (nextS s) = true := by
  have h1 := isSt_iff.1 h
  unfold nextS
  rw [if_pos h, isSt_iff]
  omega
theorem nextS_val {s : Nat} (h : s ≤ 65535) : (nextS s) + 1 = (((s + 1) * 75 % 65537 : Nat) : Int) := by
  have h1 : isSt (s : Int) = true := isSt_iff.2 (by omega)
  unfold nextS
  rw [if_pos h1]
  omega
theorem itS_st {n : Nat} : ∀ {s : Int}, isSt s = true → isSt (itS n s) = true := by
  induction n with
  | zero => intro s h; exact h
  | succ n ih => intro s h; exact ih (nextS_st h)
theorem itS_add (n m : Nat) : ∀ (s : Int), itS (n + m) s = itS m (itS n s) := by
  induction n with
  | zero => intro s; rw [Nat.zero_add]; rfl
  | succ n ih => intro s; rw [Nat.succ_add]; exact ih (nextS s)
theorem itS_succ (n : Nat) (s : Int) : itS (n + 1) s = nextS (itS n s) := by rw [itS_add n 1]; rfl
/-- many steps at once -/
theorem itS_val (n : Nat) : ∀ {s : Nat}, s ≤ 65535 → itS n s + 1 = (((s + 1) * 75 ^ n % 65537 : Nat) : Int) := by
  induction n with
  | zero => intro s h; simp only [itS, Nat.pow_zero, Nat.mul_one]; omega
  | succ n ih =>
    intro s h
    have h1 := nextS_val h
    have h2 : isSt (s : Int) = true := isSt_iff.2 (by omega)
    obtain ⟨h3, h4⟩ := isSt_iff.1 (nextS_st h2)
    obtain ⟨k, hk⟩ := Int.eq_ofNat_of_zero_le h3
    show itS n (nextS s) + 1 = _
    rw [hk] at h1 h4 ⊢
    rw [ih (by omega)]
    congr 1
    have h5 : k + 1 = (s + 1) * 75 % 65537 := by omega
    rw [h5, Nat.pow_succ, Nat.mod_mul_mod, Nat.mul_assoc, Nat.mul_comm 75]
theorem pow_full : 75 ^ 65536 % 65537 = 1 := by decide +kernel
theorem itS_full {s : Int} (h : isSt s = true) : itS 65536 s = s := by
  obtain ⟨h1, h2⟩ := isSt_iff.1 h
  obtain ⟨k, rfl⟩ := Int.eq_ofNat_of_zero_le h1
  have h3 := itS_val 65536 (s := k) (by omega)
  rw [Nat.mul_mod, pow_full, Nat.mul_one, Nat.mod_mod] at h3
  omega
/-- once a state comes back, whole rounds may be left out -/
theorem itS_cycle {s : Int} {i p : Nat} (h : itS (i + p) s = itS i s) (q r : Nat) : itS (i + p * q + r) s = itS (i + r) s := by
  induction q with
  | zero => simp
  | succ q ih =>
    have h1 : i + p * (q + 1) + r = (i + p) + (p * q + r) := by rw [Nat.mul_succ]; omega
    rw [h1, itS_add (i + p), h, ← itS_add, ← Nat.add_assoc, ih]
theorem itS_mod {s : Int} {i p n : Nat} (hp : 0 < p) (h : itS (i + p) s = itS i s) (hn : i ≤ n) : itS n s = itS (i + (n - i) % p) s := by
  have h1 : n = i + p * ((n - i) / p) + (n - i) % p := by
    have := Nat.div_add_mod (n - i) p
    omega
  rw [h1]
  rw [itS_cycle h]
  congr 1
  rw [← h1]
/-- the reference's way: squares -/
def fastN : Nat → Nat → Nat → Nat → Nat
  | 0, _, x, _ => x
  | f + 1, k, x, p => if k = 0 then x else fastN f (k / 2) (if k % 2 = 1 then x * p % 65537 else x) (p * p % 65537)
theorem fastN_val : ∀ (f k x p : Nat), k ≤ f → x < 65537 → fastN f k x p = x * p ^ k % 65537 := by
  intro f
  induction f with
  | zero => intro k x p hk hx; have : k = 0 := by omega
            subst this; simp [fastN, Nat.mod_eq_of_lt hx]
  | succ f ih =>
    intro k x p hk hx
    unfold fastN
    by_cases h0 : k = 0
    · subst h0; simp [Nat.mod_eq_of_lt hx]
    · rw [if_neg h0]
      have hsq : ∀ m, (p * p % 65537) ^ m % 65537 = p ^ (2 * m) % 65537 := fun m => by
        rw [← Nat.pow_mod, Nat.pow_mul, Nat.pow_two]
      by_cases h1 : k % 2 = 1
      · rw [if_pos h1, ih (k / 2) _ _ (by omega) (Nat.mod_lt _ (by omega))]
        rw [Nat.mod_mul_mod, Nat.mul_mod, hsq, ← Nat.mul_mod, Nat.mul_assoc, ← Nat.pow_succ']
        congr 3
        omega
      · rw [if_neg h1, ih (k / 2) _ _ (by omega) hx]
        rw [Nat.mul_mod, hsq, ← Nat.mul_mod]
        congr 3
        omega
/-! ### Shuffles -/
def swapL (l : List Int) (i k : Nat) : List Int := (l.set i (l.getD k 0)).set k (l.getD i 0)
theorem swapL_length (l : List Int) (i k : Nat) : (swapL l i k).length = l.length := by simp [swapL]
theorem swapL_mem {l : List Int} {i k : Nat} (hi : i < l.length) (hk : k < l.length) {x : Int} (h : x ∈ l) : x ∈ swapL l i k := by
  obtain ⟨j, hj, rfl⟩ := List.getElem_of_mem h
  unfold swapL
  by_cases e1 : j = i
  · subst e1
    have : ((l.set j (l.getD k 0)).set k (l.getD j 0))[k]? = some l[j] := by
      rw [List.getElem?_set_self (by simpa using hk)]
      simp [List.getD, List.getElem?_eq_getElem hj]
    exact List.mem_of_getElem? this
  · by_cases e2 : j = k
    · subst e2
      have : ((l.set i (l.getD j 0)).set j (l.getD i 0))[i]? = some l[j] := by
        rw [List.getElem?_set_ne e1, List.getElem?_set_self hi]
        simp [List.getD, List.getElem?_eq_getElem hj]
      exact List.mem_of_getElem? this
    · have : ((l.set i (l.getD k 0)).set k (l.getD i 0))[j]? = some l[j] := by
        rw [List.getElem?_set_ne (Ne.symm e2), List.getElem?_set_ne (Ne.symm e1), List.getElem?_eq_getElem hj]
      exact List.mem_of_getElem? this
/-- the places from i down are exchanged, each with one drawn below or at it -/
def shufL : Nat → Int → List Int → List Int × Int
  | 0, s, l => (l, s)
  | i + 1, s, l => shufL i (nextS s) (swapL l (i + 1) (nextS s % ((i : Int) + 2)).toNat)
theorem shufL_length : ∀ (i : Nat) (s : Int) (l : List Int), (shufL i s l).1.length = l.length := by
  intro i
  induction i with
  | zero => intro s l; rfl
  | succ i ih => intro s l; show (shufL i _ _).1.length = _; rw [ih, swapL_length]
theorem shufL_mem : ∀ (i : Nat) (s : Int) (l : List Int), i < l.length ∨ i = 0 → isSt s = true → ∀ x ∈ l, x ∈ (shufL i s l).1 := by
  intro i
  induction i with
  | zero => intro s l _ _ x hx; exact hx
  | succ i ih =>
    intro s l hi hs x hx
    have hi' : i + 1 < l.length := by omega
    obtain ⟨h0, h1⟩ := isSt_iff.1 (nextS_st hs)
    refine ih _ _ (.inl (by rw [swapL_length]; omega)) (nextS_st hs) x (swapL_mem hi' ?_ hx)
    have := Int.emod_lt_of_pos (nextS s) (show 0 < (i : Int) + 2 by omega)
    have := Int.emod_nonneg (nextS s) (show (i : Int) + 2 ≠ 0 by omega)
    omega
theorem shufL_st : ∀ (i : Nat) (s : Int) (l : List Int), isSt s = true → isSt (shufL i s l).2 = true := by
  intro i
  induction i with
  | zero => intro s l h; exact h
  | succ i ih => intro s l h; exact ih _ _ (nextS_st h)
theorem swapL_i64 {l : List Int} (i k : Nat) (h : ∀ x ∈ l, I64 x) : ∀ x ∈ swapL l i k, I64 x := by
  intro x hx
  have hg : ∀ j, I64 (l.getD j 0) := fun j => by
    rw [List.getD_eq_getElem?_getD]
    cases hj : l[j]? with
    | none => exact ⟨by simp, by simp⟩
    | some y => exact h y (List.mem_of_getElem? hj)
  unfold swapL at hx
  rcases List.mem_or_eq_of_mem_set hx with h1 | rfl
  · rcases List.mem_or_eq_of_mem_set h1 with h2 | rfl
    · exact h x h2
    · exact hg _
  · exact hg _
theorem shufL_i64 : ∀ (i : Nat) (s : Int) (l : List Int), (∀ x ∈ l, I64 x) → ∀ x ∈ (shufL i s l).1, I64 x := by
  intro i
  induction i with
  | zero => intro s l h; exact h
  | succ i ih => intro s l h; exact ih _ _ (swapL_i64 _ _ h)
/-- the numbers from 1 to n -/
def idL (n : Nat) : List Int := (List.range n).map fun i => ((i : Nat) : Int) + 1
theorem idL_length (n : Nat) : (idL n).length = n := by simp [idL]
theorem idL_succ (n : Nat) : idL (n + 1) = idL n ++ [(n : Int) + 1] := by simp [idL, List.range_succ]
theorem idL_i64 (n : Nat) (h : n ≤ 1048576) : ∀ x ∈ idL n, I64 x := by
  intro x hx
  simp only [idL, List.mem_map, List.mem_range] at hx
  obtain ⟨i, hi, rfl⟩ := hx
  exact ⟨by omega, by omega⟩
theorem idL_mem (n : Nat) (i : Int) (h1 : 1 ≤ i) (h2 : i ≤ n) : i ∈ idL n := by
  simp only [idL, List.mem_map, List.mem_range]
  exact ⟨(i - 1).toNat, by omega, by omega⟩
end Go.Proofs.Ytkdlekonfjeidaa
