/-
  Plain: the null space of a matrix has the right size and is mapped to 0.
-/
import Derived.Test.YtconhpilbndpkaaMatLawA
namespace Go.Proofs.Ytconhpilbndpkaa
set_option maxRecDepth 100000
set_option linter.unusedVariables false

theorem rof_eq {piv : List Nat} (hd : ∀ (s t i : Nat), piv[s]? = some i → piv[t]? = some i → s = t) {u j : Nat} (h : piv[u]? = some j) : ∀ k, u < k → rof piv k j = (u : Int)
  | 0, hk => absurd hk (Nat.not_lt_zero _)
  | k + 1, hk => by
    rw [rof]
    by_cases e : piv[k]? = some j
    · rw [if_pos e, hd k u j e h]
    · rw [if_neg e]
      refine rof_eq hd h k ?_
      rcases Nat.lt_or_ge u k with h1 | h1
      · exact h1
      · have : u = k := by omega
        subst this
        exact absurd h e
theorem rof_neg {piv : List Nat} {j : Nat} (h : ¬ j ∈ piv) (k : Nat) : rof piv k j < 0 := by
  rcases (show rof piv k j < 0 ∨ 0 ≤ rof piv k j by omega) with h1 | h1
  · exact h1
  · obtain ⟨t, _, _, q⟩ := (rof_bound piv k j).2.2 h1
    exact absurd (List.mem_of_getElem? q) h
theorem RF.inj {R C col : Nat} {M : Mx} {piv : List Nat} (h : RF R C col M piv) : ∀ (s t i : Nat), piv[s]? = some i → piv[t]? = some i → s = t := fun s t i es et => by
  rcases Nat.lt_trichotomy s t with h1 | h1 | h1
  · have := h.mono s t i i es et h1; omega
  · exact h1
  · have := h.mono t s i i et es h1; omega
theorem RF.nodup {R C col : Nat} {M : Mx} {piv : List Nat} (h : RF R C col M piv) : piv.Nodup := by
  rw [List.nodup_iff_pairwise_ne, List.pairwise_iff_getElem]
  intro i j hi hj hij e
  have := h.inj i j _ (List.getElem?_eq_getElem hi) (by rw [List.getElem?_eq_getElem hj, e])
  omega
theorem free_count {piv : List Nat} (hn : piv.Nodup) (hd : ∀ (s t i : Nat), piv[s]? = some i → piv[t]? = some i → s = t) : ∀ n, (freeL (rof piv piv.length) n).length + piv.countP (fun j => decide (j < n)) = n
  | 0 => by
    have : piv.countP (fun j => decide (j < 0)) = 0 := List.countP_eq_zero.2 (by simp)
    rw [this]; rfl
  | n + 1 => by
    have ih := free_count hn hd n
    have e : piv.countP (fun j => decide (j < n + 1)) = piv.countP (fun j => decide (j < n)) + piv.count n := by
      clear ih hn hd
      induction piv with
      | nil => rfl
      | cons x l ih =>
        rw [List.countP_cons, List.countP_cons, List.count_cons, ih]
        by_cases h1 : x < n
        · have h2 : ¬ x = n := by omega
          have h3 : x < n + 1 := by omega
          simp [h1, h2, h3]
          omega
        · by_cases h2 : x = n
          · subst h2; simp
            omega
          · have h3 : ¬ x < n + 1 := by omega
            simp [h1, h2, h3]
    rw [e, hn.count]
    unfold freeL
    by_cases hm : n ∈ piv
    · obtain ⟨u, hu, he⟩ := List.getElem_of_mem hm
      have h1 := rof_eq hd (u := u) (j := n) (by rw [List.getElem?_eq_getElem hu, he]) piv.length hu
      rw [if_neg (by omega), if_pos hm]
      omega
    · rw [if_pos (rof_neg hm _), if_neg hm, List.length_append]
      simp
      omega
theorem null_size {R C col : Nat} {M : Mx} {piv : List Nat} (h : RF R C col M piv) (hc : col ≤ C) : (freeL (rof piv piv.length) C).length + piv.length = C := by
  have := free_count h.nodup h.inj C
  have e : piv.countP (fun j => decide (j < C)) = piv.length := by
    rw [List.countP_eq_length]
    intro j hj
    obtain ⟨t, ht, he⟩ := List.getElem_of_mem hj
    have := h.lt t j (by rw [List.getElem?_eq_getElem ht, he])
    exact decide_eq_true (by omega)
  omega
/-! ### as rational numbers -/
def val (x : It) : Rat := (x.1 : Rat) / (x.2 : Rat)
theorem val_01 : val (0, 1) = 0 := by simp [val]; grind
theorem val_11 : val (1, 1) = 1 := by simp [val]; grind
theorem den_ne {x : It} (h : isN x = true) : (x.2 : Rat) ≠ 0 := by
  have := (numP_of h).1
  have h2 : x.2 ≠ 0 := by omega
  simpa using h2
theorem val_mk {n d : Int} (h : isN (mk n d) = true) : (d : Rat) ≠ 0 ∧ val (mk n d) = (n : Rat) / (d : Rat) := by
  obtain ⟨h1, h2⟩ := mk_val h
  have hd : (d : Rat) ≠ 0 := by simpa using h1
  have h3 := den_ne h
  refine ⟨hd, ?_⟩
  have h4 : ((mk n d).1 : Rat) * (d : Rat) = (n : Rat) * ((mk n d).2 : Rat) := by exact_mod_cast h2
  unfold val
  grind
theorem both {x y : It} {z : It} (h : isN (if isN x && isN y then z else (0, 0)) = true) : isN x = true ∧ isN y = true ∧ isN z = true := by
  by_cases hb : (isN x && isN y) = true
  · rw [if_pos hb] at h
    rw [Bool.and_eq_true] at hb
    exact ⟨hb.1, hb.2, h⟩
  · rw [if_neg hb, isN_zero] at h; cases h
theorem val_add {x y : It} (h : isN (addI x y) = true) : isN x = true ∧ isN y = true ∧ val (addI x y) = val x + val y := by
  unfold addI at h
  obtain ⟨h1, h2, h3⟩ := both h
  refine ⟨h1, h2, ?_⟩
  unfold addI
  rw [h1, h2, Bool.and_self, if_pos rfl, (val_mk h3).2]
  have d1 := den_ne h1
  have d2 := den_ne h2
  unfold val
  simp only [Rat.intCast_add, Rat.intCast_mul]
  grind
theorem val_mul {x y : It} (h : isN (mulI x y) = true) : isN x = true ∧ isN y = true ∧ val (mulI x y) = val x * val y := by
  unfold mulI at h
  obtain ⟨h1, h2, h3⟩ := both h
  refine ⟨h1, h2, ?_⟩
  unfold mulI
  rw [h1, h2, Bool.and_self, if_pos rfl, (val_mk h3).2]
  have d1 := den_ne h1
  have d2 := den_ne h2
  unfold val
  simp only [Rat.intCast_mul]
  grind
theorem val_div {x y : It} (h : isN (divI x y) = true) : isN x = true ∧ isN y = true ∧ val y ≠ 0 ∧ val (divI x y) = val x / val y := by
  unfold divI at h
  obtain ⟨h1, h2, h3⟩ := both h
  have d1 := den_ne h1
  have d2 := den_ne h2
  obtain ⟨h4, h5⟩ := val_mk h3
  simp only [Rat.intCast_mul] at h4 h5
  refine ⟨h1, h2, ?_, ?_⟩
  · unfold val
    grind
  · unfold divI
    rw [h1, h2, Bool.and_self, if_pos rfl, h5]
    unfold val
    grind
theorem val_neg {x : It} (h : isN x = true) : isN (negI x) = true ∧ val (negI x) = - val x := by
  unfold negI
  rw [if_pos h]
  refine ⟨isN_of (num_neg (numP_of h)), ?_⟩
  unfold val
  have := den_ne h
  simp only [Rat.intCast_neg]
  grind
theorem neg_isN {y : It} (h : isN (negI y) = true) : isN y = true := by
  unfold negI at h
  by_cases hb : isN y = true
  · exact hb
  · rw [if_neg hb, isN_zero] at h; cases h
theorem val_sub {x y : It} (h : isN (subI x y) = true) : isN x = true ∧ isN y = true ∧ val (subI x y) = val x - val y := by
  unfold subI at h
  obtain ⟨h1, h2, h3⟩ := val_add h
  have h4 := neg_isN h2
  refine ⟨h1, h4, ?_⟩
  unfold subI
  rw [h3, (val_neg h4).2]
  grind
def sumR (g : Nat → Rat) : Nat → Rat
  | 0 => 0
  | n + 1 => sumR g n + g n
theorem sumR_congr {f g : Nat → Rat} : ∀ n, (∀ i, i < n → f i = g i) → sumR f n = sumR g n
  | 0, _ => rfl
  | n + 1, h => by rw [sumR, sumR, sumR_congr n (fun i hi => h i (by omega)), h n (by omega)]
theorem sumR_zero : ∀ n, sumR (fun _ => 0) n = 0
  | 0 => rfl
  | n + 1 => by rw [sumR, sumR_zero n]; grind
theorem sumR_mul (c : Rat) (g : Nat → Rat) : ∀ n, sumR (fun i => c * g i) n = c * sumR g n
  | 0 => by simp only [sumR]; grind
  | n + 1 => by rw [sumR, sumR, sumR_mul c g n]; grind
theorem sumR_sub (f g : Nat → Rat) : ∀ n, sumR (fun i => f i - g i) n = sumR f n - sumR g n
  | 0 => by simp only [sumR]; grind
  | n + 1 => by rw [sumR, sumR, sumR, sumR_sub f g n]; grind
theorem sumR_one {i : Nat} (u : Rat) : ∀ n, sumR (fun b => if b = i then u else 0) n = if i < n then u else 0
  | 0 => by simp [sumR]
  | n + 1 => by
    rw [sumR, sumR_one u n]
    by_cases h1 : i < n
    · rw [if_pos h1, if_neg (by omega), if_pos (by omega)]; grind
    · rw [if_neg h1]
      by_cases h2 : n = i
      · rw [if_pos h2, if_pos (by omega)]; grind
      · rw [if_neg h2, if_neg (by omega)]; grind
theorem sum_val {g : Nat → It} : ∀ n, isN (sumI g n) = true → val (sumI g n) = sumR (fun k => val (g k)) n ∧ ∀ k, k < n → isN (g k) = true
  | 0, _ => ⟨val_01, fun k h => absurd h (Nat.not_lt_zero _)⟩
  | n + 1, h => by
    obtain ⟨h1, h2, h3⟩ := val_add h
    obtain ⟨i1, i2⟩ := sum_val n h1
    refine ⟨by rw [sumI, h3, i1, sumR], fun k hk => ?_⟩
    by_cases e : k = n
    · rw [e]; exact h2
    · exact i2 k (by omega)
/-- a row of a matrix times a column of rational numbers -/
def rowV (M : Mx) (C : Nat) (y : Nat → Rat) (a : Nat) : Rat := sumR (fun b => val (M a b) * y b) C
theorem step_back {R C : Nat} {M : Mx} {r k col : Nat} (y : Nat → Rat) (hr : r < R) (hk : k < R) (hcol : col < C) (hN : ∀ a b, a < R → b < C → isN (M a b) = true) (hS : ∀ a b, a < R → b < C → isN (stepM M r k col a b) = true)
    (h0 : ∀ a, a < R → rowV (stepM M r k col) C y a = 0) : ∀ a, a < R → rowV M C y a = 0 := by
  have rowr : ∀ b, stepM M r k col r b = divI (M k b) (M k col) := fun b => by simp [stepM, elimM, divM, swapM]
  have hd : ∀ b, b < C → val (M k col) ≠ 0 ∧ val (stepM M r k col r b) = val (M k b) / val (M k col) := fun b hb => by
    have := hS r b hr hb
    rw [rowr] at this ⊢
    obtain ⟨_, _, h3, h4⟩ := val_div this
    exact ⟨h3, h4⟩
  have hp := (hd col hcol).1
  have hk0 : rowV M C y k = 0 := by
    have e : rowV (stepM M r k col) C y r = (1 / val (M k col)) * rowV M C y k := by
      unfold rowV
      rw [← sumR_mul]
      refine sumR_congr C fun b hb => ?_
      rw [(hd b hb).2]
      grind
    rw [h0 r hr] at e
    grind
  have other : ∀ a, a < R → a ≠ r → rowV M C y (if a = k then r else a) = 0 := fun a ha har => by
    have hc : ∀ b, stepM M r k col a b = if (M (if a = k then r else a) col).1 = 0 then M (if a = k then r else a) b else subI (M (if a = k then r else a) b) (mulI (M (if a = k then r else a) col) (stepM M r k col r b)) := fun b => by
      rw [rowr]
      by_cases h : a = k
      · simp [stepM, elimM, divM, swapM, h] at *
        simp [har]
      · simp [stepM, elimM, divM, swapM, har, h]
    generalize (if a = k then r else a) = s at *
    have h1 := h0 a ha
    by_cases hz : (M s col).1 = 0
    · rw [← h1]
      refine sumR_congr C fun b hb => ?_
      rw [hc b, if_pos hz]
    · have e : rowV (stepM M r k col) C y a = rowV M C y s - val (M s col) * rowV (stepM M r k col) C y r := by
        unfold rowV
        rw [← sumR_mul, ← sumR_sub]
        refine sumR_congr C fun b hb => ?_
        have hn := hS a b ha hb
        rw [hc b, if_neg hz] at hn
        obtain ⟨_, n2, n3⟩ := val_sub hn
        obtain ⟨_, _, n4⟩ := val_mul n2
        rw [hc b, if_neg hz, n3, n4]
        grind
      rw [h1, h0 r hr] at e
      grind
  intro a ha
  by_cases h1 : a = k
  · rw [h1]; exact hk0
  · by_cases h2 : a = r
    · have := other k hk (by omega)
      rw [if_pos rfl] at this
      rw [h2]; exact this
    · have := other a ha h2
      rw [if_neg h1] at this
      exact this
theorem redP_back {R C : Nat} (y : Nat → Rat) : ∀ (n col : Nat) (M : Mx) (piv : List Nat) (M' : Mx) (piv' : List Nat), col + n = C → (∀ a b, a < R → b < C → isN (M a b) = true) → redP R C n col M piv = some (M', piv') → (∀ a, a < R → rowV M' C y a = 0) → ∀ a, a < R → rowV M C y a = 0
  | 0, col, M, piv, M', piv', hc, hN, e, h => by
    injection e with e; injection e with e1 e2; subst e1
    exact h
  | n + 1, col, M, piv, M', piv', hc, hN, e, h => by
    rw [redP] at e
    split at e
    · rename_i hr
      split at e
      · exact redP_back y n (col + 1) M piv M' piv' (by omega) hN e h
      · rename_i hk
        split at e
        · rename_i hall
          have hS := allM_iff.1 hall
          have hkb : kOf M R col piv.length < R := by
            have := (findK_spec M col (R - piv.length) piv.length).2.1
            unfold kOf at hk ⊢
            omega
          exact step_back y hr hkb (by omega) hN hS (redP_back y n (col + 1) _ _ M' piv' (by omega) hS e h)
        · cases e
    · injection e with e; injection e with e1 e2; subst e1
      exact h
theorem nul_isN {R C col : Nat} {M : Mx} {piv : List Nat} (h : RF R C col M piv) (hc : col ≤ C) {i t : Nat} (ht : t < (freeL (rof piv piv.length) C).length) : isN (nulF M (rof piv piv.length) (freeL (rof piv piv.length) C) i t) = true := by
  have hq := List.getElem?_eq_getElem ht
  obtain ⟨hq1, hq2⟩ := freeL_lt (rof piv piv.length) C _ (List.getElem_mem ht)
  unfold nulF
  rw [hq]
  simp only [Option.getD_some]
  split
  · rename_i h0
    obtain ⟨u, u1, u2, u3⟩ := (rof_bound piv piv.length i).2.2 h0
    have e : (rof piv piv.length i).toNat = u := by omega
    rw [e]
    exact (val_neg (h.num u _ (by have := h.len; omega) hq1)).1
  · split <;> decide
theorem null_rows {R C col : Nat} {M : Mx} {piv : List Nat} (h : RF R C col M piv) (hc : col ≤ C) (hd : col = C ∨ piv.length = R) {t : Nat} (ht : t < (freeL (rof piv piv.length) C).length) : ∀ a, a < R → rowV M C (fun b => val (nulF M (rof piv piv.length) (freeL (rof piv piv.length) C) b t)) a = 0 := by
  intro a ha
  have hq := List.getElem?_eq_getElem ht
  obtain ⟨hq1, hq2⟩ := freeL_lt (rof piv piv.length) C _ (List.getElem_mem ht)
  unfold rowV nulF
  rw [hq]
  simp only [Option.getD_some]
  generalize (freeL (rof piv piv.length) C)[t] = q at *
  by_cases hal : a < piv.length
  rotate_left
  · rw [← sumR_zero C]
    refine sumR_congr C fun b hb => ?_
    rcases hd with h1 | h1
    · rw [h.zrow a b (by omega) ha (by omega) hb, val_01]; grind
    · omega
  · obtain ⟨j, hj⟩ : ∃ j, piv[a]? = some j := ⟨_, List.getElem?_eq_getElem hal⟩
    have hjC := h.lt a j hj
    have hfj := rof_eq h.inj hj piv.length hal
    have hjq : j ≠ q := fun e => by subst e; omega
    have key : ∀ b, b < C → val (M a b) * val (if 0 ≤ rof piv piv.length b then negI (M (rof piv piv.length b).toNat q) else if b = q then wh 1 else wh 0) = (if b = q then val (M a q) else 0) - (if b = j then val (M a q) else 0) := fun b hb => by
      by_cases h0 : 0 ≤ rof piv piv.length b
      · rw [if_pos h0]
        obtain ⟨u, u1, u2, u3⟩ := (rof_bound piv piv.length b).2.2 h0
        have e : (rof piv piv.length b).toNat = u := by omega
        have hbq : b ≠ q := fun e => by subst e; omega
        rw [e, if_neg hbq, h.unit u b a u3 ha]
        by_cases hau : a = u
        · subst hau
          rw [hj] at u3
          injection u3 with u3
          rw [if_pos rfl, val_11, if_pos u3.symm, (val_neg (h.num a q ha hq1)).2]
          grind
        · have hbj : b ≠ j := fun e => by
            subst e
            exact hau (h.inj a u b hj u3)
          rw [if_neg hau, val_01, if_neg hbj]
          grind
      · rw [if_neg h0]
        have hbj : b ≠ j := fun e => by subst e; omega
        rw [if_neg hbj]
        by_cases hbq : b = q
        · rw [if_pos hbq, if_pos hbq, hbq]
          have : val (wh 1) = 1 := val_11
          rw [this]
          grind
        · rw [if_neg hbq, if_neg hbq]
          have : val (wh 0) = 0 := val_01
          rw [this]
          grind
    rw [sumR_congr C key, sumR_sub, sumR_one, sumR_one, if_pos hq1, if_pos (by omega)]
    grind
/-- the product with the null space is 0, where all its cells are numbers -/
theorem null_zero {R C : Nat} {L : List It} {M : Mx} {piv : List Nat} (hlen : L.length = R * C) (hall : ∀ x ∈ L, isN x = true) (hred : redP R C C 0 (cel L C) [] = some (M, piv)) {F : Nat} (hF : F = (freeL (rof piv piv.length) C).length) {N : List It} (hN : N = gridL (nulF M (rof piv piv.length) (freeL (rof piv piv.length) C)) F C)
    (hg : (gridL (mulF L N C F) F R).all isN = true) : ∀ x ∈ gridL (mulF L N C F) F R, x.1 = 0 := by
  have hNc : ∀ a b, a < R → b < C → isN (cel L C a b) = true := fun a b ha hb => hall _ (List.mem_of_getElem? (cel_get hlen ha hb))
  obtain ⟨col', hRF, hc, hd⟩ := redP_RF C 0 _ _ _ _ (by omega) (RF.init hNc) hred
  intro x hx
  obtain ⟨a, t, ha, ht, rfl⟩ := grid_mem hx
  have hxN := grid_all.1 hg a t ha ht
  unfold mulF at hxN ⊢
  obtain ⟨h1, h2⟩ := sum_val C hxN
  have hNt : ∀ b, b < C → cel N F b t = nulF M (rof piv piv.length) (freeL (rof piv piv.length) C) b t := fun b hb => by
    unfold cel
    rw [hN, gridL_get _ F C b t hb ht]
    rfl
  have hv : val (sumI (fun k => mulI (cel L C a k) (cel N F k t)) C) = 0 := by
    rw [h1]
    have := redP_back (fun b => val (nulF M (rof piv piv.length) (freeL (rof piv piv.length) C) b t)) C 0 _ _ _ _ (by omega) hNc hred (null_rows hRF hc hd (by omega)) a ha
    rw [← this]
    refine sumR_congr C fun b hb => ?_
    have h3 : isN (mulI (cel L C a b) (cel N F b t)) = true := h2 b hb
    rw [(val_mul h3).2.2, hNt b hb]
  have hd2 := den_ne hxN
  generalize sumI (fun k => mulI (cel L C a k) (cel N F k t)) C = s at *
  unfold val at hv
  have : (s.1 : Rat) = 0 := by grind
  exact_mod_cast this
/-- rows and columns exchanged -/
def trL2 (L : List It) (R C : Nat) : List It := gridL (fun i j => cel L C j i) R C
theorem tr_tr {L : List It} {R C : Nat} (h : L.length = R * C) : trL2 (trL2 L R C) C R = L := by
  have e : L = gridL (cel L C) C R := grid_of h
  conv => rhs; rw [e]
  unfold trL2
  refine gridL_congr R fun i j hi hj => ?_
  have := gridL_get (fun i j => cel L C j i) R C j i hj hi
  show (gridL (fun i j => cel L C j i) R C)[j * R + i]?.getD (0, 0) = _
  rw [this]
  rfl
end Go.Proofs.Ytconhpilbndpkaa
