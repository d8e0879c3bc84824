/-
  Plain: numbers as fractions in lowest terms.
-/
import Derived.KernelRfl
namespace Go.Proofs.Ytconhpilbndpkaa
set_option maxRecDepth 100000
set_option linter.unusedVariables false

/-- a number: numerator and denominator; 0/0 is missing -/
abbrev It := Int × Int
def numP (x : It) : Prop := 1 ≤ x.2 ∧ x.2 ≤ 999999999 ∧ -999999999 ≤ x.1 ∧ x.1 ≤ 999999999 ∧ Int.gcd x.1 x.2 = 1
instance (x : It) : Decidable (numP x) := by unfold numP; infer_instance
def okI (x : It) : Prop := x = (0, 0) ∨ numP x
def isN (x : It) : Bool := decide (numP x)
def red (n d : Int) : It := if d < 0 then (-(n / (Int.gcd n d : Int)), -(d / (Int.gcd n d : Int))) else (n / (Int.gcd n d : Int), d / (Int.gcd n d : Int))
def mk (n d : Int) : It := if d = 0 then (0, 0) else if -999999999 ≤ (red n d).1 ∧ (red n d).1 ≤ 999999999 ∧ (red n d).2 ≤ 999999999 then red n d else (0, 0)
theorem red_pos {n d : Int} (hd : d ≠ 0) : 1 ≤ (red n d).2 ∧ Int.gcd (red n d).1 (red n d).2 = 1 ∧ (red n d).1 * d = n * (red n d).2 := by
  have hg : 0 < Int.gcd n d := Int.gcd_pos_of_ne_zero_right n hd
  obtain ⟨g, hgg⟩ : ∃ g : Int, g = (Int.gcd n d : Int) := ⟨_, rfl⟩
  have hg' : 0 < g := by omega
  have h1 : n / g * g = n := Int.ediv_mul_cancel (by rw [hgg]; exact Int.gcd_dvd_left n d)
  have h2 : d / g * g = d := Int.ediv_mul_cancel (by rw [hgg]; exact Int.gcd_dvd_right n d)
  have h3 : Int.gcd (n / g) (d / g) = 1 := by rw [hgg]; exact Int.gcd_ediv_gcd_ediv_gcd hg
  unfold red
  rw [← hgg]
  have hcross : n / g * d = n * (d / g) := by
    have : n / g * d = n / g * (d / g * g) := by rw [h2]
    rw [this, ← Int.mul_assoc, Int.mul_right_comm, h1]
  split
  · rename_i hneg
    have hq : d / g < 0 := by
      rcases (show d / g < 0 ∨ 0 ≤ d / g by omega) with h | h
      · exact h
      · have := Int.mul_nonneg h (Int.le_of_lt hg')
        omega
    refine ⟨by simp only; omega, by simp only [Int.neg_gcd, Int.gcd_neg]; exact h3, ?_⟩
    simp only [Int.neg_mul, Int.mul_neg]
    omega
  · rename_i hpos
    have hq : 0 < d / g := by
      rcases (show 0 < d / g ∨ d / g ≤ 0 by omega) with h | h
      · exact h
      · have := Int.mul_nonneg_of_nonpos_of_nonpos h (show -g ≤ 0 by omega)
        rw [Int.mul_neg] at this
        omega
    exact ⟨by simp only; omega, h3, hcross⟩
theorem mk_ok (n d : Int) : okI (mk n d) := by
  unfold mk
  split
  · exact .inl rfl
  · rename_i hd
    obtain ⟨h1, h2, h3⟩ := red_pos (n := n) hd
    split
    · rename_i hr
      exact .inr ⟨h1, hr.2.2, hr.1, hr.2.1, h2⟩
    · exact .inl rfl
theorem isN_mk (n d : Int) : isN (mk n d) = true ↔ (d ≠ 0 ∧ mk n d = red n d) := by
  unfold isN
  rw [decide_eq_true_iff]
  constructor
  · intro h
    have hd : d ≠ 0 := fun e => by
      subst e
      have := h.1
      simp [mk] at this
    refine ⟨hd, ?_⟩
    unfold mk at h ⊢
    rw [if_neg hd] at h ⊢
    split
    · rfl
    · rename_i hr
      rw [if_neg hr] at h
      have := h.1
      simp at this
  · rintro ⟨hd, e⟩
    obtain ⟨h1, h2, h3⟩ := red_pos (n := n) hd
    rcases mk_ok n d with h | h
    · rw [e] at h
      rw [h] at h1
      simp at h1
    · exact h
theorem mk_val {n d : Int} (h : isN (mk n d) = true) : d ≠ 0 ∧ (mk n d).1 * d = n * (mk n d).2 := by
  obtain ⟨hd, e⟩ := (isN_mk n d).1 h
  rw [e]
  exact ⟨hd, (red_pos hd).2.2⟩
theorem mk_self {x : It} (h : numP x) : mk x.1 x.2 = x := by
  obtain ⟨h1, h2, h3, h4, h5⟩ := h
  have hr : red x.1 x.2 = x := by
    unfold red
    rw [if_neg (by omega), h5]
    simp
  unfold mk
  rw [if_neg (by omega), hr, if_pos ⟨h3, h4, h2⟩]
theorem mk_zero {d : Int} (hd : d ≠ 0) : mk 0 d = (0, 1) := by
  have hr : red 0 d = (0, 1) := by
    unfold red
    rw [Int.gcd_zero_left]
    split
    · rename_i h
      have e : ((d.natAbs : Nat) : Int) = -d := by omega
      rw [e]
      simp only [Int.zero_ediv, Int.neg_zero, Int.ediv_neg, Int.neg_neg]
      rw [Int.ediv_self hd]
    · rename_i h
      have e : ((d.natAbs : Nat) : Int) = d := by omega
      rw [e, Int.zero_ediv, Int.ediv_self hd]
  unfold mk
  rw [if_neg hd, hr]
  rfl
def addI (x y : It) : It := if isN x && isN y then mk (x.1 * y.2 + y.1 * x.2) (x.2 * y.2) else (0, 0)
def negI (x : It) : It := if isN x then (-x.1, x.2) else (0, 0)
def subI (x y : It) : It := addI x (negI y)
def mulI (x y : It) : It := if isN x && isN y then mk (x.1 * y.1) (x.2 * y.2) else (0, 0)
def divI (x y : It) : It := if isN x && isN y then mk (x.1 * y.2) (x.2 * y.1) else (0, 0)
theorem okI_zero : okI (0, 0) := .inl rfl
theorem isN_zero : isN (0, 0) = false := by decide
theorem add_ok (x y : It) : okI (addI x y) := by unfold addI; split; exact mk_ok _ _; exact okI_zero
theorem mul_ok (x y : It) : okI (mulI x y) := by unfold mulI; split; exact mk_ok _ _; exact okI_zero
theorem div_ok (x y : It) : okI (divI x y) := by unfold divI; split; exact mk_ok _ _; exact okI_zero
theorem num_neg {x : It} (h : numP x) : numP (-x.1, x.2) := by
  obtain ⟨h1, h2, h3, h4, h5⟩ := h
  exact ⟨h1, h2, by simp only; omega, by simp only; omega, by simp only [Int.neg_gcd]; exact h5⟩
theorem neg_ok (x : It) : okI (negI x) := by
  unfold negI
  split
  · rename_i h
    exact .inr (num_neg (of_decide_eq_true h))
  · exact okI_zero
theorem sub_ok (x y : It) : okI (subI x y) := add_ok _ _
def wh (n : Int) : It := (n, 1)
theorem num_wh {n : Int} (h1 : -999999999 ≤ n) (h2 : n ≤ 999999999) : numP (wh n) := ⟨by simp [wh], by simp [wh], h1, h2, by simp [wh]⟩
theorem mk_wh {n : Int} (h1 : -999999999 ≤ n) (h2 : n ≤ 999999999) : mk n 1 = wh n := mk_self (num_wh h1 h2)
/-- bounds of a number, missing or not -/
theorem okI_le {x : It} (h : okI x) : -999999999 ≤ x.1 ∧ x.1 ≤ 999999999 ∧ 0 ≤ x.2 ∧ x.2 ≤ 999999999 := by
  rcases h with rfl | ⟨h1, h2, h3, h4, _⟩
  · simp
  · exact ⟨h3, h4, by omega, h2⟩
theorem prod_le {x y a b : Int} (hx : -a ≤ x ∧ x ≤ a) (hy : -b ≤ y ∧ y ≤ b) : -(a * b) ≤ x * y ∧ x * y ≤ a * b := by
  have h : (x * y).natAbs ≤ a.natAbs * b.natAbs := by
    rw [Int.natAbs_mul]
    exact Nat.mul_le_mul (by omega) (by omega)
  have e : ((a.natAbs * b.natAbs : Nat) : Int) = a * b := by
    rw [Int.natCast_mul, Int.natAbs_of_nonneg (show 0 ≤ a by omega), Int.natAbs_of_nonneg (show 0 ≤ b by omega)]
  omega
end Go.Proofs.Ytconhpilbndpkaa
