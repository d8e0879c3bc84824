/-
  Plain: what a reduced matrix looks like, and that reducing it again changes nothing.
-/
import Derived.Test.YtconhpilbndpkaaMatNul
namespace Go.Proofs.Ytconhpilbndpkaa
set_option maxRecDepth 100000
set_option linter.unusedVariables false

theorem numP_of {x : It} (h : isN x = true) : numP x := of_decide_eq_true h
theorem isN_of {x : It} (h : numP x) : isN x = true := decide_eq_true h
theorem isN_01 : isN (0, 1) = true := by decide
theorem isN_11 : isN (1, 1) = true := by decide
theorem zero_is {x : It} (h : isN x = true) (h0 : x.1 = 0) : x = (0, 1) := by
  obtain ⟨a, b⟩ := x
  obtain ⟨h1, h2, h3, h4, h5⟩ := numP_of h
  simp only at h0 h1 h5
  subst h0
  rw [Int.gcd_zero_left] at h5
  have : b = 1 := by omega
  rw [this]
theorem mul_zero' {f : It} (h : isN f = true) : mulI f (0, 1) = (0, 1) := by
  unfold mulI
  rw [h, isN_01]
  have := (numP_of h).1
  simp only [Bool.and_self, if_true, Int.mul_zero, Int.mul_one]
  exact mk_zero (by omega)
theorem mul_one' {f : It} (h : isN f = true) : mulI f (1, 1) = f := by
  unfold mulI
  rw [h, isN_11]
  simp only [Bool.and_self, if_true, Int.mul_one]
  exact mk_self (numP_of h)
theorem sub_zero' {x : It} (h : isN x = true) : subI x (0, 1) = x := by
  unfold subI negI
  rw [isN_01, if_pos rfl]
  unfold addI
  simp only [Int.neg_zero]
  rw [h, isN_01]
  simp only [Bool.and_self, if_true, Int.mul_one, Int.zero_mul, Int.add_zero]
  exact mk_self (numP_of h)
theorem sub_self' {x : It} (h : isN x = true) : subI x x = (0, 1) := by
  have hn := num_neg (numP_of h)
  unfold subI negI
  rw [if_pos h]
  unfold addI
  rw [h, isN_of hn]
  have := (numP_of h).1
  simp only [Bool.and_self, if_true]
  rw [show x.1 * x.2 + -x.1 * x.2 = 0 by rw [Int.neg_mul]; omega]
  exact mk_zero (Int.mul_ne_zero (by omega) (by omega))
theorem div_one' {x : It} (h : isN x = true) : divI x (1, 1) = x := by
  unfold divI
  rw [h, isN_11]
  simp only [Bool.and_self, if_true, Int.mul_one]
  exact mk_self (numP_of h)
theorem zero_div' {p : It} (h : isN p = true) (h0 : p.1 ≠ 0) : divI (0, 1) p = (0, 1) := by
  unfold divI
  rw [h, isN_01]
  simp only [Bool.and_self, if_true, Int.zero_mul, Int.one_mul]
  exact mk_zero h0
theorem div_self' {p : It} (h : isN p = true) (h0 : p.1 ≠ 0) : divI p p = (1, 1) := by
  have h1 := (numP_of h).1
  unfold divI
  rw [h]
  simp only [Bool.and_self, if_true]
  rw [Int.mul_comm p.2 p.1]
  have hne : p.1 * p.2 ≠ 0 := Int.mul_ne_zero h0 (by omega)
  generalize p.1 * p.2 = n at hne
  have hr : red n n = (1, 1) := by
    unfold red
    rw [Int.gcd_self]
    split
    · rename_i hneg
      have e : ((n.natAbs : Nat) : Int) = -n := by omega
      rw [e, Int.ediv_neg, Int.ediv_self hne]
      rfl
    · rename_i hpos
      have e : ((n.natAbs : Nat) : Int) = n := by omega
      rw [e, Int.ediv_self hne]
  unfold mk
  rw [if_neg hne, hr]
  rfl
/-- the columns before col are done -/
structure RF (R C col : Nat) (M : Mx) (piv : List Nat) : Prop where
  num : ∀ a b, a < R → b < C → isN (M a b) = true
  len : piv.length ≤ R
  lt : ∀ (t j : Nat), piv[t]? = some j → j < col
  mono : ∀ (s t i j : Nat), piv[s]? = some i → piv[t]? = some j → s < t → i < j
  unit : ∀ (t j a : Nat), piv[t]? = some j → a < R → M a j = if a = t then (1, 1) else (0, 1)
  zrow : ∀ a b, piv.length ≤ a → a < R → b < col → b < C → M a b = (0, 1)
  lead : ∀ (t j b : Nat), piv[t]? = some j → b < j → M t b = (0, 1)
theorem piv_lt {piv : List Nat} {t j : Nat} (h : piv[t]? = some j) : t < piv.length := (List.getElem?_eq_some_iff.1 h).1
theorem allM_iff {R C : Nat} {M : Mx} : allM R C M = true ↔ ∀ a b, a < R → b < C → isN (M a b) = true := grid_all
theorem RF.skip {R C col : Nat} {M : Mx} {piv : List Nat} (h : RF R C col M piv) (hcol : col < C) (hk : kOf M R col piv.length = R) : RF R C (col + 1) M piv := by
  obtain ⟨_, _, g3, _⟩ := findK_spec M col (R - piv.length) piv.length
  refine ⟨h.num, h.len, fun t j e => by have := h.lt t j e; omega, h.mono, h.unit, fun a b h1 h2 h3 h4 => ?_, h.lead⟩
  by_cases e : b = col
  · subst e
    exact zero_is (h.num a b h2 h4) (g3 a h1 (by unfold kOf at hk; omega))
  · exact h.zrow a b h1 h2 (by omega) h4
theorem RF.step {R C col : Nat} {M : Mx} {piv : List Nat} (h : RF R C col M piv) (hcol : col < C) (hr : piv.length < R) (hk : kOf M R col piv.length ≠ R) (hall : allM R C (stepM M piv.length (kOf M R col piv.length) col) = true) :
    RF R C (col + 1) (stepM M piv.length (kOf M R col piv.length) col) (piv ++ [col]) := by
  obtain ⟨g1, g2, g3, g4⟩ := findK_spec M col (R - piv.length) piv.length
  have hkd : kOf M R col piv.length = findK M col (R - piv.length) piv.length := rfl
  rw [← hkd] at g1 g2 g4
  obtain ⟨k, hke⟩ : ∃ k, k = kOf M R col piv.length := ⟨_, rfl⟩
  rw [← hke] at g1 g2 g4 hk hall ⊢
  have hkR : k < R := by omega
  have hp0 := g4 (by omega)
  clear g3 g4 g2 hkd hke
  have hnum := allM_iff.1 hall
  obtain ⟨r, hrr⟩ : ∃ r, r = piv.length := ⟨_, rfl⟩
  rw [← hrr] at hr g1 hnum ⊢
  have hpN := h.num k col hkR hcol
  -- the cells of the new matrix
  have rowr : ∀ b, stepM M r k col r b = divI (M k b) (M k col) := fun b => by simp [stepM, elimM, divM, swapM]
  have other : ∀ a b, a ≠ r → stepM M r k col a b = (if (if a = k then M r col else M a col).1 = 0 then (if a = k then M r b else M a b) else subI (if a = k then M r b else M a b) (mulI (if a = k then M r col else M a col) (divI (M k b) (M k col)))) := fun a b ha => by
    simp only [stepM, elimM, divM, swapM, if_neg ha, if_true]
  have hsel : ∀ a b, a < R → b < C → a ≠ r → isN (if a = k then M r b else M a b) = true := fun a b ha hb har => by
    split
    · exact h.num r b hr hb
    · exact h.num a b ha hb
  -- before the column
  have zk : ∀ b, b < col → M k b = (0, 1) := fun b hb => h.zrow k b (by omega) hkR hb (by omega)
  have pre : ∀ a b, a < R → b < col → a ≠ r → stepM M r k col a b = (if a = k then M r b else M a b) := fun a b ha hb har => by
    rw [other a b har]
    have n1 := hsel a col ha hcol har
    have n2 := hsel a b ha (by omega) har
    generalize (if a = k then M r col else M a col) = f at *
    generalize (if a = k then M r b else M a b) = x at *
    by_cases h0 : f.1 = 0
    · rw [if_pos h0]
    · rw [if_neg h0, zk b hb, zero_div' hpN hp0, mul_zero' n1, sub_zero' n2]
  have prer : ∀ b, b < col → stepM M r k col r b = (0, 1) := fun b hb => by rw [rowr, zk b hb, zero_div' hpN hp0]
  have atr : stepM M r k col r col = (1, 1) := by rw [rowr, div_self' hpN hp0]
  have ato : ∀ a, a < R → a ≠ r → stepM M r k col a col = (0, 1) := fun a ha har => by
    rw [other a col har]
    have n1 := hsel a col ha hcol har
    generalize (if a = k then M r col else M a col) = f at *
    by_cases h0 : f.1 = 0
    · rw [if_pos h0]
      exact zero_is n1 h0
    · rw [if_neg h0, div_self' hpN hp0, mul_one' n1, sub_self' n1]
  have getA : ∀ (t j : Nat), (piv ++ [col])[t]? = some j → (t < r ∧ piv[t]? = some j) ∨ (t = r ∧ j = col) := fun t j e => by
    by_cases ht : t < piv.length
    · rw [List.getElem?_append_left ht] at e
      exact .inl ⟨by omega, e⟩
    · rw [List.getElem?_append_right (by omega)] at e
      by_cases h0 : t = piv.length
      · subst h0
        simp at e
        exact .inr ⟨hrr.symm, e.symm⟩
      · have : t - piv.length = (t - piv.length - 1) + 1 := by omega
        rw [this] at e
        simp at e
  refine ⟨hnum, by simp; omega, fun t j e => ?_, fun s t i j es et hst => ?_, fun t j a e ha => ?_, fun a b h1 h2 h3 h4 => ?_, fun t j b e hb => ?_⟩
  · rcases getA t j e with ⟨_, q⟩ | ⟨_, q⟩
    · have := h.lt t j q; omega
    · omega
  · rcases getA s i es with ⟨s1, q⟩ | ⟨s1, q⟩ <;> rcases getA t j et with ⟨t1, p⟩ | ⟨t1, p⟩
    · exact h.mono s t i j q p hst
    · have := h.lt s i q; omega
    · omega
    · omega
  · rcases getA t j e with ⟨t1, q⟩ | ⟨t1, q⟩
    · have hj := h.lt t j q
      by_cases har : a = r
      · rw [har, prer j hj, if_neg (by omega)]
      · rw [pre a j ha hj har]
        by_cases hak : a = k
        · rw [if_pos hak, h.unit t j r q hr, if_neg (by omega), if_neg (by omega)]
        · rw [if_neg hak, h.unit t j a q ha]
    · rw [q, t1]
      by_cases har : a = r
      · rw [har, atr, if_pos rfl]
      · rw [ato a ha har, if_neg har]
  · rw [List.length_append, List.length_singleton] at h1
    have har : a ≠ r := by omega
    by_cases hb : b = col
    · rw [hb]; exact ato a h2 har
    · rw [pre a b h2 (by omega) har]
      split
      · exact h.zrow r b (by omega) hr (by omega) h4
      · exact h.zrow a b (by omega) h2 (by omega) h4
  · rcases getA t j e with ⟨t1, q⟩ | ⟨t1, q⟩
    · have hj := h.lt t j q
      rw [pre t b (by omega) (by omega) (by omega), if_neg (by omega)]
      exact h.lead t j b q hb
    · rw [t1]; exact prer b (by omega)
theorem redP_RF {R C : Nat} : ∀ (n col : Nat) (M : Mx) (piv : List Nat) (M' : Mx) (piv' : List Nat), col + n = C → RF R C col M piv → redP R C n col M piv = some (M', piv') → ∃ col', RF R C col' M' piv' ∧ col' ≤ C ∧ (col' = C ∨ piv'.length = R)
  | 0, col, M, piv, M', piv', hc, h, e => by
    injection e with e; injection e with e1 e2; subst e1 e2
    exact ⟨col, h, by omega, .inl (by omega)⟩
  | n + 1, col, M, piv, M', piv', hc, h, e => by
    rw [redP] at e
    split at e
    · rename_i hr
      split at e
      · rename_i hk
        exact redP_RF n (col + 1) M piv M' piv' (by omega) (h.skip (by omega) hk) e
      · rename_i hk
        split at e
        · rename_i hall
          exact redP_RF n (col + 1) _ _ M' piv' (by omega) (h.step (by omega) hr hk hall) e
        · cases e
    · rename_i hr
      injection e with e; injection e with e1 e2; subst e1 e2
      exact ⟨col, h, by omega, .inr (by have := h.len; omega)⟩
theorem RF.init {R C : Nat} {M : Mx} (h : ∀ a b, a < R → b < C → isN (M a b) = true) : RF R C 0 M [] :=
  ⟨h, Nat.zero_le _, fun t j e => by simp at e, fun s t i j e => by simp at e, fun t j a e => by simp at e, fun a b _ _ h => absurd h (Nat.not_lt_zero _), fun t j b e => by simp at e⟩
/-- reducing again: t pivots lie before col -/
theorem redP_again {R C col' : Nat} {M : Mx} {piv : List Nat} (h : RF R C col' M piv) (hc' : col' ≤ C) (hd : col' = C ∨ piv.length = R) : ∀ (n col t : Nat) (M' : Mx), col + n = C → t ≤ piv.length → (∀ (s j : Nat), piv[s]? = some j → (s < t ↔ j < col)) → (∀ a b, a < R → b < C → M' a b = M a b) →
    ∃ M'', redP R C n col M' (piv.take t) = some (M'', piv) ∧ ∀ a b, a < R → b < C → M'' a b = M a b
  | 0, col, t, M', hc, ht, hp, he => by
    have : t = piv.length := by
      rcases Nat.lt_or_ge t piv.length with h1 | h1
      · have e := List.getElem?_eq_getElem h1
        have h2 := h.lt t _ e
        have := (hp t _ e).2 (by omega)
        omega
      · omega
    rw [this, List.take_length]
    exact ⟨M', rfl, he⟩
  | n + 1, col, t, M', hc, ht, hp, he => by
    have hl : (piv.take t).length = t := by rw [List.length_take]; omega
    rw [redP, hl]
    by_cases htR : t < R
    rotate_left
    · rw [if_neg htR]
      have : t = piv.length := by have := h.len; omega
      rw [this, List.take_length]
      exact ⟨M', rfl, he⟩
    rw [if_pos htR]
    by_cases hcp : piv[t]? = some col
    · -- the next pivot
      have hk : t = kOf M' R col t := kOf_eq (by omega) (Nat.le_refl _) (by omega) (fun a h1 h2 => by omega) (.inr (by
        rw [he t col htR (by omega), h.unit t col t hcp htR, if_pos rfl]
        decide))
      rw [← hk, if_neg (by omega)]
      have hst : ∀ a b, a < R → b < C → stepM M' t t col a b = M a b := fun a b ha hb => by
        have hp1 : M' t col = (1, 1) := by rw [he t col htR (by omega), h.unit t col t hcp htR, if_pos rfl]
        by_cases hat : a = t
        · subst hat
          have : stepM M' a a col a b = divI (M' a b) (M' a col) := by simp [stepM, elimM, divM, swapM]
          rw [this, hp1, he a b ha hb, div_one' (h.num a b ha hb)]
        · have : stepM M' t t col a b = if (M' a col).1 = 0 then M' a b else subI (M' a b) (mulI (M' a col) (divI (M' t b) (M' t col))) := by simp [stepM, elimM, divM, swapM, hat]
          rw [this, he a col ha (by omega), h.unit t col a hcp ha, if_neg hat, if_pos rfl, he a b ha hb]
      have hall : allM R C (stepM M' t t col) = true := allM_iff.2 fun a b ha hb => by rw [hst a b ha hb]; exact h.num a b ha hb
      rw [if_pos hall]
      have htl := piv_lt hcp
      have htake : piv.take t ++ [col] = piv.take (t + 1) := by rw [List.take_add_one, hcp]; rfl
      rw [htake]
      refine redP_again h hc' hd n (col + 1) (t + 1) _ (by omega) (by omega) (fun s j e => ?_) hst
      have := hp s j e
      rcases Nat.lt_trichotomy s t with h1 | h1 | h1
      · have := this.1 h1; omega
      · subst h1
        rw [hcp] at e
        injection e with e
        omega
      · have := h.mono t s col j hcp e h1
        omega
    · have hz : ∀ a, t ≤ a → a < R → (M' a col).1 = 0 := fun a h1 h2 => by
        rw [he a col h2 (by omega)]
        by_cases hal : a < piv.length
        · have e := List.getElem?_eq_getElem hal
          have hge : ¬ piv[a] < col := fun hlt => by have := (hp a _ e).2 hlt; omega
          have hne : piv[a] ≠ col := fun heq => by
            rcases Nat.lt_or_ge t a with h3 | h3
            · have e2 := List.getElem?_eq_getElem (show t < piv.length by omega)
              have h4 := h.mono t a _ _ e2 e h3
              have := (hp t _ e2).2 (by omega)
              omega
            · have : a = t := by omega
              subst this
              exact hcp (by rw [e, heq])
          rw [h.lead a _ col e (by omega)]
        · rcases hd with h3 | h3
          · rw [h.zrow a col (by omega) h2 (by omega) (by omega)]
          · omega
      have hk : R = kOf M' R col t := kOf_eq (by omega) (by omega) (Nat.le_refl _) (fun a h1 h2 => hz a h1 h2) (.inl rfl)
      rw [if_pos hk.symm]
      refine redP_again h hc' hd n (col + 1) t M' (by omega) ht (fun s j e => ?_) he
      have h1 := hp s j e
      constructor
      · intro h2; have := h1.1 h2; omega
      · intro h2
        by_cases hj : j = col
        · subst hj
          rcases Nat.lt_trichotomy s t with h3 | h3 | h3
          · exact h3
          · subst h3; exact absurd e hcp
          · have e2 := List.getElem?_eq_getElem (show t < piv.length by have := piv_lt e; omega)
            have h4 := h.mono t s _ _ e2 e h3
            have := (hp t _ e2).2 h4
            omega
        · exact h1.2 (by omega)
end Go.Proofs.Ytconhpilbndpkaa
