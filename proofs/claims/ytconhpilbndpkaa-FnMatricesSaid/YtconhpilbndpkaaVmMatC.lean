/-
  Contracts on trees: numbers are negated, added, subtracted, multiplied, divided.
-/
import Derived.Test.YtconhpilbndpkaaVmMatB
namespace Go.Proofs.Ytconhpilbndpkaa
set_option maxRecDepth 100000
open Go.RowKit Go.Proofs.Ytconhpilbndpkaa.Vm
set_option linter.unusedVariables false

theorem okI_lim {x : It} (h : okI x) : lim x.1 ∧ lim x.2 := by
  obtain ⟨h1, h2, h3, h4⟩ := okI_le h
  exact ⟨⟨by omega, by omega⟩, ⟨by omega, by omega⟩⟩
theorem prod9 {x y : Int} (hx : -999999999 ≤ x ∧ x ≤ 999999999) (hy : -999999999 ≤ y ∧ y ≤ 999999999) : -999999998000000001 ≤ x * y ∧ x * y ≤ 999999998000000001 := by
  have := prod_le hx hy
  omega
set_option maxHeartbeats 4000000 in
theorem ct_NegateNumber (x : It) (hx : okI x) : Ct Try.prog 25 [itT x] (fun t => t = itT (negI x)) := by
  have c1 := ct_IsNumber x (okI_lim hx).1 (okI_lim hx).2
  obtain ⟨h1, h2, h3, h4⟩ := okI_le hx
  unfold negI
  obtain ⟨n, d⟩ := x
  obtain ⟨b, hb⟩ := hide (isN (n, d))
  rw [← hb] at c1 ⊢
  simp only at h1 h2 h3 h4 ⊢
  obtain ⟨n', hn'⟩ := hide (-n)
  rw [← hn']
  obtain ⟨zb, zc, zs, zl, zn, zt, zp, zg, zv, zx, zm, hz⟩ := Vm.zE
  refine Ct_of_W Try.func25 rfl (Nat.le_of_ble_eq_true rfl) fun w0 Z0 => ?_
  refine W_run ti_ok hz 400 (by cbv) ?_
  refine W_call (by cbv) (by kernel_rfl) (c1) ?_
  rintro t rfl
  refine W_run ti_ok hz 400 (by cbv) ?_
  refine W_cond (by cbv) (fun h => ?_) (fun h => ?_)
  · rw [z_not hz] at h
    have h : b = false := by simpa using h
    subst h
    refine W_run ti_ok hz 400 (by cbv) ?_
    refine W_ret ti_ok rfl (by cbv) ?_
    rfl
  · rw [z_not hz] at h
    have h : b = true := by simpa using h
    subst h
    refine W_run ti_ok hz 400 (by cbv) ?_
    refine W_ret ti_ok rfl (by cbv) ?_
    rw [z_neg hz (by omega) (by omega), ← hn']
    rfl
set_option maxHeartbeats 4000000 in
theorem ct_AddNumbers (x y : It) (hx : okI x) (hy : okI y) : Ct Try.prog 27 [itT x, itT y] (fun t => t = itT (addI x y)) := by
  have c1 := ct_IsNumber x (okI_lim hx).1 (okI_lim hx).2
  have c2 := ct_IsNumber y (okI_lim hy).1 (okI_lim hy).2
  obtain ⟨h1, h2, h3, h4⟩ := okI_le hx
  obtain ⟨g1, g2, g3, g4⟩ := okI_le hy
  unfold addI
  obtain ⟨n, d⟩ := x
  obtain ⟨p, q⟩ := y
  obtain ⟨b1, hb1⟩ := hide (isN (n, d))
  obtain ⟨b2, hb2⟩ := hide (isN (p, q))
  rw [← hb1] at c1 ⊢
  rw [← hb2] at c2 ⊢
  simp only at h1 h2 h3 h4 g1 g2 g3 g4 ⊢
  have lA := prod9 (x := n) (y := q) ⟨by omega, by omega⟩ ⟨by omega, by omega⟩
  obtain ⟨A, eA⟩ := hide (n * q)
  rw [← eA] at lA
  have lD := prod9 (x := p) (y := d) ⟨by omega, by omega⟩ ⟨by omega, by omega⟩
  obtain ⟨D, eD⟩ := hide (p * d)
  rw [← eD] at lD
  have lS := (show -1999999996000000002 ≤ A + D ∧ A + D ≤ 1999999996000000002 from ⟨by omega, by omega⟩)
  obtain ⟨S, eS⟩ := hide (A + D)
  rw [← eS] at lS
  have lB := prod9 (x := d) (y := q) ⟨by omega, by omega⟩ ⟨by omega, by omega⟩
  obtain ⟨B, eB⟩ := hide (d * q)
  rw [← eB] at lB
  have cm := ct_MakeNumber S B ⟨by omega, by omega⟩ ⟨by omega, by omega⟩
  obtain ⟨r, hr⟩ := hide (mk S B)
  rw [← hr] at cm
  have hR : ∀ b1 b2 : Bool, (if (b1 && b2) = true then mk (n * q + p * d) (d * q) else (0, 0)) = if (b1 && b2) = true then r else (0, 0) := fun b1 b2 => by simp only [hr, eA, eD, eS, eB]
  rw [hR]
  clear hR hr hb1 hb2
  obtain ⟨r1, r2⟩ := r
  obtain ⟨zb, zc, zs, zl, zn, zt, zp, zg, zv, zx, zm, hz⟩ := Vm.zE
  have zA : zb .mul .i64 n q = A := by rw [z_mul hz (by omega) (by omega), eA]
  have zD : zb .mul .i64 p d = D := by rw [z_mul hz (by omega) (by omega), eD]
  have zS : zb .add .i64 A D = S := by rw [z_add hz (by omega) (by omega), eS]
  have zB : zb .mul .i64 d q = B := by rw [z_mul hz (by omega) (by omega), eB]
  refine Ct_of_W Try.func27 rfl (Nat.le_of_ble_eq_true rfl) fun w0 Z0 => ?_
  refine W_run ti_ok hz 400 (by cbv) ?_
  refine W_call (by cbv) (by kernel_rfl) (c1) ?_
  rintro t rfl
  refine W_run ti_ok hz 400 (by cbv) ?_
  cases b1 with
  | false =>
    refine W_bool 8 (by cbv) (show _ = true by rw [z_not hz]; rfl) ?_
    refine W_run ti_ok hz 400 (by cbv) ?_
    refine W_ret ti_ok rfl (by cbv) ?_
    rfl
  | true =>
  refine W_bool 8 (by cbv) (show _ = false by rw [z_not hz]; rfl) ?_
  refine W_run ti_ok hz 400 (by cbv) ?_
  refine W_call (by cbv) (by kernel_rfl) (c2) ?_
  rintro t rfl
  refine W_run ti_ok hz 400 (by cbv) ?_
  refine W_cond (by cbv) (fun h => ?_) (fun h => ?_)
  · rw [z_not hz] at h
    have h : b2 = false := by simpa using h
    subst h
    refine W_run ti_ok hz 400 (by cbv) ?_
    refine W_ret ti_ok rfl (by cbv) ?_
    rfl
  · rw [z_not hz] at h
    have h : b2 = true := by simpa using h
    subst h
    refine W_run ti_ok hz 400 (by cbv) ?_
    rw [zA, zD, zS, zB]
    refine W_call (by cbv) (by kernel_rfl) (cm) ?_
    rintro t rfl
    refine W_run ti_ok hz 400 (by cbv) ?_
    refine W_ret ti_ok rfl (by cbv) ?_
    rfl
set_option maxHeartbeats 4000000 in
theorem ct_MultiplyNumbers (x y : It) (hx : okI x) (hy : okI y) : Ct Try.prog 28 [itT x, itT y] (fun t => t = itT (mulI x y)) := by
  have c1 := ct_IsNumber x (okI_lim hx).1 (okI_lim hx).2
  have c2 := ct_IsNumber y (okI_lim hy).1 (okI_lim hy).2
  obtain ⟨h1, h2, h3, h4⟩ := okI_le hx
  obtain ⟨g1, g2, g3, g4⟩ := okI_le hy
  unfold mulI
  obtain ⟨n, d⟩ := x
  obtain ⟨p, q⟩ := y
  obtain ⟨b1, hb1⟩ := hide (isN (n, d))
  obtain ⟨b2, hb2⟩ := hide (isN (p, q))
  rw [← hb1] at c1 ⊢
  rw [← hb2] at c2 ⊢
  simp only at h1 h2 h3 h4 g1 g2 g3 g4 ⊢
  have lA := prod9 (x := n) (y := p) ⟨by omega, by omega⟩ ⟨by omega, by omega⟩
  obtain ⟨A, eA⟩ := hide (n * p)
  rw [← eA] at lA
  have lB := prod9 (x := d) (y := q) ⟨by omega, by omega⟩ ⟨by omega, by omega⟩
  obtain ⟨B, eB⟩ := hide (d * q)
  rw [← eB] at lB
  have cm := ct_MakeNumber A B ⟨by omega, by omega⟩ ⟨by omega, by omega⟩
  obtain ⟨r, hr⟩ := hide (mk A B)
  rw [← hr] at cm
  have hR : ∀ b1 b2 : Bool, (if (b1 && b2) = true then mk (n * p) (d * q) else (0, 0)) = if (b1 && b2) = true then r else (0, 0) := fun b1 b2 => by simp only [hr, eA, eB]
  rw [hR]
  clear hR hr hb1 hb2
  obtain ⟨r1, r2⟩ := r
  obtain ⟨zb, zc, zs, zl, zn, zt, zp, zg, zv, zx, zm, hz⟩ := Vm.zE
  have zA : zb .mul .i64 n p = A := by rw [z_mul hz (by omega) (by omega), eA]
  have zB : zb .mul .i64 d q = B := by rw [z_mul hz (by omega) (by omega), eB]
  refine Ct_of_W Try.func28 rfl (Nat.le_of_ble_eq_true rfl) fun w0 Z0 => ?_
  refine W_run ti_ok hz 400 (by cbv) ?_
  refine W_call (by cbv) (by kernel_rfl) (c1) ?_
  rintro t rfl
  refine W_run ti_ok hz 400 (by cbv) ?_
  cases b1 with
  | false =>
    refine W_bool 8 (by cbv) (show _ = true by rw [z_not hz]; rfl) ?_
    refine W_run ti_ok hz 400 (by cbv) ?_
    refine W_ret ti_ok rfl (by cbv) ?_
    rfl
  | true =>
  refine W_bool 8 (by cbv) (show _ = false by rw [z_not hz]; rfl) ?_
  refine W_run ti_ok hz 400 (by cbv) ?_
  refine W_call (by cbv) (by kernel_rfl) (c2) ?_
  rintro t rfl
  refine W_run ti_ok hz 400 (by cbv) ?_
  refine W_cond (by cbv) (fun h => ?_) (fun h => ?_)
  · rw [z_not hz] at h
    have h : b2 = false := by simpa using h
    subst h
    refine W_run ti_ok hz 400 (by cbv) ?_
    refine W_ret ti_ok rfl (by cbv) ?_
    rfl
  · rw [z_not hz] at h
    have h : b2 = true := by simpa using h
    subst h
    refine W_run ti_ok hz 400 (by cbv) ?_
    rw [zA, zB]
    refine W_call (by cbv) (by kernel_rfl) (cm) ?_
    rintro t rfl
    refine W_run ti_ok hz 400 (by cbv) ?_
    refine W_ret ti_ok rfl (by cbv) ?_
    rfl
set_option maxHeartbeats 4000000 in
theorem ct_DivideNumbers (x y : It) (hx : okI x) (hy : okI y) : Ct Try.prog 38 [itT x, itT y] (fun t => t = itT (divI x y)) := by
  have c1 := ct_IsNumber x (okI_lim hx).1 (okI_lim hx).2
  have c2 := ct_IsNumber y (okI_lim hy).1 (okI_lim hy).2
  obtain ⟨h1, h2, h3, h4⟩ := okI_le hx
  obtain ⟨g1, g2, g3, g4⟩ := okI_le hy
  unfold divI
  obtain ⟨n, d⟩ := x
  obtain ⟨p, q⟩ := y
  obtain ⟨b1, hb1⟩ := hide (isN (n, d))
  obtain ⟨b2, hb2⟩ := hide (isN (p, q))
  rw [← hb1] at c1 ⊢
  rw [← hb2] at c2 ⊢
  simp only at h1 h2 h3 h4 g1 g2 g3 g4 ⊢
  have lA := prod9 (x := n) (y := q) ⟨by omega, by omega⟩ ⟨by omega, by omega⟩
  obtain ⟨A, eA⟩ := hide (n * q)
  rw [← eA] at lA
  have lB := prod9 (x := d) (y := p) ⟨by omega, by omega⟩ ⟨by omega, by omega⟩
  obtain ⟨B, eB⟩ := hide (d * p)
  rw [← eB] at lB
  have cm := ct_MakeNumber A B ⟨by omega, by omega⟩ ⟨by omega, by omega⟩
  obtain ⟨r, hr⟩ := hide (mk A B)
  rw [← hr] at cm
  have hR : ∀ b1 b2 : Bool, (if (b1 && b2) = true then mk (n * q) (d * p) else (0, 0)) = if (b1 && b2) = true then r else (0, 0) := fun b1 b2 => by simp only [hr, eA, eB]
  rw [hR]
  have hr0 : p = 0 → r = (0, 0) := fun e => by rw [hr, mk, if_pos (by rw [eB, e, Int.mul_zero])]
  clear hR hr hb1 hb2
  obtain ⟨r1, r2⟩ := r
  obtain ⟨zb, zc, zs, zl, zn, zt, zp, zg, zv, zx, zm, hz⟩ := Vm.zE
  have zA : zb .mul .i64 n q = A := by rw [z_mul hz (by omega) (by omega), eA]
  have zB : zb .mul .i64 d p = B := by rw [z_mul hz (by omega) (by omega), eB]
  refine Ct_of_W Try.func38 rfl (Nat.le_of_ble_eq_true rfl) fun w0 Z0 => ?_
  refine W_run ti_ok hz 400 (by cbv) ?_
  refine W_call (by cbv) (by kernel_rfl) (c1) ?_
  rintro t rfl
  refine W_run ti_ok hz 400 (by cbv) ?_
  cases b1 with
  | false =>
    refine W_bool 8 (by cbv) (show _ = true by rw [z_not hz]; rfl) ?_
    refine W_run ti_ok hz 400 (by cbv) ?_
    refine W_ret ti_ok rfl (by cbv) ?_
    rfl
  | true =>
  refine W_bool 8 (by cbv) (show _ = false by rw [z_not hz]; rfl) ?_
  refine W_run ti_ok hz 400 (by cbv) ?_
  refine W_call (by cbv) (by kernel_rfl) (c2) ?_
  rintro t rfl
  refine W_run ti_ok hz 400 (by cbv) ?_
  cases b2 with
  | false =>
    refine W_bool 13 (by cbv) (show _ = true by rw [z_not hz]; rfl) ?_
    refine W_run ti_ok hz 400 (by cbv) ?_
    refine W_ret ti_ok rfl (by cbv) ?_
    rfl
  | true =>
  refine W_bool 13 (by cbv) (show _ = false by rw [z_not hz]; rfl) ?_
  refine W_run ti_ok hz 400 (by cbv) ?_
  refine W_cond (by cbv) (fun h => ?_) (fun h => ?_)
  · rw [z_eql hz] at h
    have h : p = 0 := by simpa using h
    refine W_run ti_ok hz 400 (by cbv) ?_
    refine W_ret ti_ok rfl (by cbv) ?_
    have : (r1, r2) = (0, 0) := hr0 h
    injection this with e1 e2
    rw [e1, e2]
    rfl
  · refine W_run ti_ok hz 400 (by cbv) ?_
    rw [zA, zB]
    refine W_call (by cbv) (by kernel_rfl) (cm) ?_
    rintro t rfl
    refine W_run ti_ok hz 400 (by cbv) ?_
    refine W_ret ti_ok rfl (by cbv) ?_
    rfl
theorem ct_SubtractNumbers (x y : It) (hx : okI x) (hy : okI y) : Ct Try.prog 39 [itT x, itT y] (fun t => t = itT (subI x y)) := by
  have c1 := ct_NegateNumber y hy
  have c2 := ct_AddNumbers x (negI y) hx (neg_ok y)
  unfold subI
  obtain ⟨y', hy'⟩ := hide (negI y)
  rw [← hy'] at c1 c2 ⊢
  obtain ⟨r, hr⟩ := hide (addI x y')
  rw [← hr] at c2 ⊢
  clear hr hy'
  obtain ⟨n, d⟩ := x
  obtain ⟨p, q⟩ := y
  obtain ⟨p', q'⟩ := y'
  obtain ⟨r1, r2⟩ := r
  obtain ⟨zb, zc, zs, zl, zn, zt, zp, zg, zv, zx, zm, hz⟩ := Vm.zE
  refine Ct_of_W Try.func39 rfl (Nat.le_of_ble_eq_true rfl) fun w0 Z0 => ?_
  refine W_run ti_ok hz 400 (by cbv) ?_
  refine W_draw mixedB [(1, 0), (1, 1), (0, 2), (0, 3), (0, 4)] [4] (by kernel_rfl) ?_
  refine D_run ti_ok hz 400 (by cbv) ?_
  refine D_call (by cbv) (by cbv) (by kernel_rfl) (c1) ?_
  rintro t rfl
  refine D_run ti_ok hz 400 (by cbv) ?_
  refine D_call (by cbv) (by cbv) (by kernel_rfl) (c2) ?_
  rintro t rfl
  refine D_run ti_ok hz 400 (by cbv) ?_
  refine D_last ti_ok hz (by cbv) (by cbv) (by cbv) (by cbv) (by cbv) ?_
  refine W_run ti_ok hz 400 (by cbv) ?_
  refine W_ret ti_ok rfl (by cbv) ?_
  rfl
set_option maxHeartbeats 4000000 in
theorem ct_sNegateNumber (x : It) (hx : okI x) : Ct Try.prog 51 [itT x] (fun t => t = itT (negI x)) := by
  have c1 := ct_sIsNumber x (okI_lim hx).1 (okI_lim hx).2
  obtain ⟨h1, h2, h3, h4⟩ := okI_le hx
  unfold negI
  obtain ⟨n, d⟩ := x
  obtain ⟨b, hb⟩ := hide (isN (n, d))
  rw [← hb] at c1 ⊢
  simp only at h1 h2 h3 h4 ⊢
  obtain ⟨n', hn'⟩ := hide (-n)
  rw [← hn']
  obtain ⟨zb, zc, zs, zl, zn, zt, zp, zg, zv, zx, zm, hz⟩ := Vm.zE
  refine Ct_of_W Try.func51 rfl (Nat.le_of_ble_eq_true rfl) fun w0 Z0 => ?_
  refine W_run ti_ok hz 400 (by cbv) ?_
  refine W_call (by cbv) (by kernel_rfl) (c1) ?_
  rintro t rfl
  refine W_run ti_ok hz 400 (by cbv) ?_
  refine W_cond (by cbv) (fun h => ?_) (fun h => ?_)
  · rw [z_not hz] at h
    have h : b = false := by simpa using h
    subst h
    refine W_run ti_ok hz 400 (by cbv) ?_
    refine W_ret ti_ok rfl (by cbv) ?_
    rfl
  · rw [z_not hz] at h
    have h : b = true := by simpa using h
    subst h
    refine W_run ti_ok hz 400 (by cbv) ?_
    refine W_ret ti_ok rfl (by cbv) ?_
    rw [z_neg hz (by omega) (by omega), ← hn']
    rfl
set_option maxHeartbeats 4000000 in
theorem ct_sAddNumbers (x y : It) (hx : okI x) (hy : okI y) : Ct Try.prog 30 [itT x, itT y] (fun t => t = itT (addI x y)) := by
  have c1 := ct_sIsNumber x (okI_lim hx).1 (okI_lim hx).2
  have c2 := ct_sIsNumber y (okI_lim hy).1 (okI_lim hy).2
  obtain ⟨h1, h2, h3, h4⟩ := okI_le hx
  obtain ⟨g1, g2, g3, g4⟩ := okI_le hy
  unfold addI
  obtain ⟨n, d⟩ := x
  obtain ⟨p, q⟩ := y
  obtain ⟨b1, hb1⟩ := hide (isN (n, d))
  obtain ⟨b2, hb2⟩ := hide (isN (p, q))
  rw [← hb1] at c1 ⊢
  rw [← hb2] at c2 ⊢
  simp only at h1 h2 h3 h4 g1 g2 g3 g4 ⊢
  have lA := prod9 (x := n) (y := q) ⟨by omega, by omega⟩ ⟨by omega, by omega⟩
  obtain ⟨A, eA⟩ := hide (n * q)
  rw [← eA] at lA
  have lD := prod9 (x := p) (y := d) ⟨by omega, by omega⟩ ⟨by omega, by omega⟩
  obtain ⟨D, eD⟩ := hide (p * d)
  rw [← eD] at lD
  have lS := (show -1999999996000000002 ≤ A + D ∧ A + D ≤ 1999999996000000002 from ⟨by omega, by omega⟩)
  obtain ⟨S, eS⟩ := hide (A + D)
  rw [← eS] at lS
  have lB := prod9 (x := d) (y := q) ⟨by omega, by omega⟩ ⟨by omega, by omega⟩
  obtain ⟨B, eB⟩ := hide (d * q)
  rw [← eB] at lB
  have cm := ct_sMakeNumber S B ⟨by omega, by omega⟩ ⟨by omega, by omega⟩
  obtain ⟨r, hr⟩ := hide (mk S B)
  rw [← hr] at cm
  have hR : ∀ b1 b2 : Bool, (if (b1 && b2) = true then mk (n * q + p * d) (d * q) else (0, 0)) = if (b1 && b2) = true then r else (0, 0) := fun b1 b2 => by simp only [hr, eA, eD, eS, eB]
  rw [hR]
  clear hR hr hb1 hb2
  obtain ⟨r1, r2⟩ := r
  obtain ⟨zb, zc, zs, zl, zn, zt, zp, zg, zv, zx, zm, hz⟩ := Vm.zE
  have zA : zb .mul .i64 n q = A := by rw [z_mul hz (by omega) (by omega), eA]
  have zD : zb .mul .i64 p d = D := by rw [z_mul hz (by omega) (by omega), eD]
  have zS : zb .add .i64 A D = S := by rw [z_add hz (by omega) (by omega), eS]
  have zB : zb .mul .i64 d q = B := by rw [z_mul hz (by omega) (by omega), eB]
  refine Ct_of_W Try.func30 rfl (Nat.le_of_ble_eq_true rfl) fun w0 Z0 => ?_
  refine W_run ti_ok hz 400 (by cbv) ?_
  refine W_call (by cbv) (by kernel_rfl) (c1) ?_
  rintro t rfl
  refine W_run ti_ok hz 400 (by cbv) ?_
  cases b1 with
  | false =>
    refine W_bool 8 (by cbv) (show _ = true by rw [z_not hz]; rfl) ?_
    refine W_run ti_ok hz 400 (by cbv) ?_
    refine W_ret ti_ok rfl (by cbv) ?_
    rfl
  | true =>
  refine W_bool 8 (by cbv) (show _ = false by rw [z_not hz]; rfl) ?_
  refine W_run ti_ok hz 400 (by cbv) ?_
  refine W_call (by cbv) (by kernel_rfl) (c2) ?_
  rintro t rfl
  refine W_run ti_ok hz 400 (by cbv) ?_
  refine W_cond (by cbv) (fun h => ?_) (fun h => ?_)
  · rw [z_not hz] at h
    have h : b2 = false := by simpa using h
    subst h
    refine W_run ti_ok hz 400 (by cbv) ?_
    refine W_ret ti_ok rfl (by cbv) ?_
    rfl
  · rw [z_not hz] at h
    have h : b2 = true := by simpa using h
    subst h
    refine W_run ti_ok hz 400 (by cbv) ?_
    rw [zA, zD, zS, zB]
    refine W_call (by cbv) (by kernel_rfl) (cm) ?_
    rintro t rfl
    refine W_run ti_ok hz 400 (by cbv) ?_
    refine W_ret ti_ok rfl (by cbv) ?_
    rfl
set_option maxHeartbeats 4000000 in
theorem ct_sMultiplyNumbers (x y : It) (hx : okI x) (hy : okI y) : Ct Try.prog 31 [itT x, itT y] (fun t => t = itT (mulI x y)) := by
  have c1 := ct_sIsNumber x (okI_lim hx).1 (okI_lim hx).2
  have c2 := ct_sIsNumber y (okI_lim hy).1 (okI_lim hy).2
  obtain ⟨h1, h2, h3, h4⟩ := okI_le hx
  obtain ⟨g1, g2, g3, g4⟩ := okI_le hy
  unfold mulI
  obtain ⟨n, d⟩ := x
  obtain ⟨p, q⟩ := y
  obtain ⟨b1, hb1⟩ := hide (isN (n, d))
  obtain ⟨b2, hb2⟩ := hide (isN (p, q))
  rw [← hb1] at c1 ⊢
  rw [← hb2] at c2 ⊢
  simp only at h1 h2 h3 h4 g1 g2 g3 g4 ⊢
  have lA := prod9 (x := n) (y := p) ⟨by omega, by omega⟩ ⟨by omega, by omega⟩
  obtain ⟨A, eA⟩ := hide (n * p)
  rw [← eA] at lA
  have lB := prod9 (x := d) (y := q) ⟨by omega, by omega⟩ ⟨by omega, by omega⟩
  obtain ⟨B, eB⟩ := hide (d * q)
  rw [← eB] at lB
  have cm := ct_sMakeNumber A B ⟨by omega, by omega⟩ ⟨by omega, by omega⟩
  obtain ⟨r, hr⟩ := hide (mk A B)
  rw [← hr] at cm
  have hR : ∀ b1 b2 : Bool, (if (b1 && b2) = true then mk (n * p) (d * q) else (0, 0)) = if (b1 && b2) = true then r else (0, 0) := fun b1 b2 => by simp only [hr, eA, eB]
  rw [hR]
  clear hR hr hb1 hb2
  obtain ⟨r1, r2⟩ := r
  obtain ⟨zb, zc, zs, zl, zn, zt, zp, zg, zv, zx, zm, hz⟩ := Vm.zE
  have zA : zb .mul .i64 n p = A := by rw [z_mul hz (by omega) (by omega), eA]
  have zB : zb .mul .i64 d q = B := by rw [z_mul hz (by omega) (by omega), eB]
  refine Ct_of_W Try.func31 rfl (Nat.le_of_ble_eq_true rfl) fun w0 Z0 => ?_
  refine W_run ti_ok hz 400 (by cbv) ?_
  refine W_call (by cbv) (by kernel_rfl) (c1) ?_
  rintro t rfl
  refine W_run ti_ok hz 400 (by cbv) ?_
  cases b1 with
  | false =>
    refine W_bool 8 (by cbv) (show _ = true by rw [z_not hz]; rfl) ?_
    refine W_run ti_ok hz 400 (by cbv) ?_
    refine W_ret ti_ok rfl (by cbv) ?_
    rfl
  | true =>
  refine W_bool 8 (by cbv) (show _ = false by rw [z_not hz]; rfl) ?_
  refine W_run ti_ok hz 400 (by cbv) ?_
  refine W_call (by cbv) (by kernel_rfl) (c2) ?_
  rintro t rfl
  refine W_run ti_ok hz 400 (by cbv) ?_
  refine W_cond (by cbv) (fun h => ?_) (fun h => ?_)
  · rw [z_not hz] at h
    have h : b2 = false := by simpa using h
    subst h
    refine W_run ti_ok hz 400 (by cbv) ?_
    refine W_ret ti_ok rfl (by cbv) ?_
    rfl
  · rw [z_not hz] at h
    have h : b2 = true := by simpa using h
    subst h
    refine W_run ti_ok hz 400 (by cbv) ?_
    rw [zA, zB]
    refine W_call (by cbv) (by kernel_rfl) (cm) ?_
    rintro t rfl
    refine W_run ti_ok hz 400 (by cbv) ?_
    refine W_ret ti_ok rfl (by cbv) ?_
    rfl
set_option maxHeartbeats 4000000 in
theorem ct_sDivideNumbers (x y : It) (hx : okI x) (hy : okI y) : Ct Try.prog 42 [itT x, itT y] (fun t => t = itT (divI x y)) := by
  have c1 := ct_sIsNumber x (okI_lim hx).1 (okI_lim hx).2
  have c2 := ct_sIsNumber y (okI_lim hy).1 (okI_lim hy).2
  obtain ⟨h1, h2, h3, h4⟩ := okI_le hx
  obtain ⟨g1, g2, g3, g4⟩ := okI_le hy
  unfold divI
  obtain ⟨n, d⟩ := x
  obtain ⟨p, q⟩ := y
  obtain ⟨b1, hb1⟩ := hide (isN (n, d))
  obtain ⟨b2, hb2⟩ := hide (isN (p, q))
  rw [← hb1] at c1 ⊢
  rw [← hb2] at c2 ⊢
  simp only at h1 h2 h3 h4 g1 g2 g3 g4 ⊢
  have lA := prod9 (x := n) (y := q) ⟨by omega, by omega⟩ ⟨by omega, by omega⟩
  obtain ⟨A, eA⟩ := hide (n * q)
  rw [← eA] at lA
  have lB := prod9 (x := d) (y := p) ⟨by omega, by omega⟩ ⟨by omega, by omega⟩
  obtain ⟨B, eB⟩ := hide (d * p)
  rw [← eB] at lB
  have cm := ct_sMakeNumber A B ⟨by omega, by omega⟩ ⟨by omega, by omega⟩
  obtain ⟨r, hr⟩ := hide (mk A B)
  rw [← hr] at cm
  have hR : ∀ b1 b2 : Bool, (if (b1 && b2) = true then mk (n * q) (d * p) else (0, 0)) = if (b1 && b2) = true then r else (0, 0) := fun b1 b2 => by simp only [hr, eA, eB]
  rw [hR]
  clear hR hr hb1 hb2
  obtain ⟨r1, r2⟩ := r
  obtain ⟨zb, zc, zs, zl, zn, zt, zp, zg, zv, zx, zm, hz⟩ := Vm.zE
  have zA : zb .mul .i64 n q = A := by rw [z_mul hz (by omega) (by omega), eA]
  have zB : zb .mul .i64 d p = B := by rw [z_mul hz (by omega) (by omega), eB]
  refine Ct_of_W Try.func42 rfl (Nat.le_of_ble_eq_true rfl) fun w0 Z0 => ?_
  refine W_run ti_ok hz 400 (by cbv) ?_
  refine W_call (by cbv) (by kernel_rfl) (c1) ?_
  rintro t rfl
  refine W_run ti_ok hz 400 (by cbv) ?_
  cases b1 with
  | false =>
    refine W_bool 8 (by cbv) (show _ = true by rw [z_not hz]; rfl) ?_
    refine W_run ti_ok hz 400 (by cbv) ?_
    refine W_ret ti_ok rfl (by cbv) ?_
    rfl
  | true =>
  refine W_bool 8 (by cbv) (show _ = false by rw [z_not hz]; rfl) ?_
  refine W_run ti_ok hz 400 (by cbv) ?_
  refine W_call (by cbv) (by kernel_rfl) (c2) ?_
  rintro t rfl
  refine W_run ti_ok hz 400 (by cbv) ?_
  refine W_cond (by cbv) (fun h => ?_) (fun h => ?_)
  · rw [z_not hz] at h
    have h : b2 = false := by simpa using h
    subst h
    refine W_run ti_ok hz 400 (by cbv) ?_
    refine W_ret ti_ok rfl (by cbv) ?_
    rfl
  · rw [z_not hz] at h
    have h : b2 = true := by simpa using h
    subst h
    refine W_run ti_ok hz 400 (by cbv) ?_
    rw [zA, zB]
    refine W_call (by cbv) (by kernel_rfl) (cm) ?_
    rintro t rfl
    refine W_run ti_ok hz 400 (by cbv) ?_
    refine W_ret ti_ok rfl (by cbv) ?_
    rfl
theorem ct_sSubtractNumbers (x y : It) (hx : okI x) (hy : okI y) : Ct Try.prog 43 [itT x, itT y] (fun t => t = itT (subI x y)) := by
  have c1 := ct_sNegateNumber y hy
  have c2 := ct_sAddNumbers x (negI y) hx (neg_ok y)
  unfold subI
  obtain ⟨y', hy'⟩ := hide (negI y)
  rw [← hy'] at c1 c2 ⊢
  obtain ⟨r, hr⟩ := hide (addI x y')
  rw [← hr] at c2 ⊢
  clear hr hy'
  obtain ⟨n, d⟩ := x
  obtain ⟨p, q⟩ := y
  obtain ⟨p', q'⟩ := y'
  obtain ⟨r1, r2⟩ := r
  obtain ⟨zb, zc, zs, zl, zn, zt, zp, zg, zv, zx, zm, hz⟩ := Vm.zE
  refine Ct_of_W Try.func43 rfl (Nat.le_of_ble_eq_true rfl) fun w0 Z0 => ?_
  refine W_run ti_ok hz 400 (by cbv) ?_
  refine W_draw mixedB [(1, 0), (1, 1), (0, 2), (0, 3), (0, 4)] [4] (by kernel_rfl) ?_
  refine D_run ti_ok hz 400 (by cbv) ?_
  refine D_call (by cbv) (by cbv) (by kernel_rfl) (c1) ?_
  rintro t rfl
  refine D_run ti_ok hz 400 (by cbv) ?_
  refine D_call (by cbv) (by cbv) (by kernel_rfl) (c2) ?_
  rintro t rfl
  refine D_run ti_ok hz 400 (by cbv) ?_
  refine D_last ti_ok hz (by cbv) (by cbv) (by cbv) (by cbv) (by cbv) ?_
  refine W_run ti_ok hz 400 (by cbv) ?_
  refine W_ret ti_ok rfl (by cbv) ?_
  rfl
end Go.Proofs.Ytconhpilbndpkaa
