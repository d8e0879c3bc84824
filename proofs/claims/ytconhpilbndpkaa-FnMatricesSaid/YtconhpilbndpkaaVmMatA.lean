/-
  Contracts on trees: numbers as fractions.
-/
import Derived.Test.YtconhpilbndpkaaVmTi
import Derived.Test.YtconhpilbndpkaaVmG
import Derived.KernelRfl
import Derived.Test.YtconhpilbndpkaaMatNum
namespace Go.Proofs.Ytconhpilbndpkaa
set_option maxRecDepth 100000
open Go.RowKit Go.Proofs.Ytconhpilbndpkaa.Vm
set_option linter.unusedVariables false

theorem mixedB : Try.prog.follows .mixedOrders = true := by kernel_rfl
def itT (x : It) : T := .ag [.c (.i .i64 x.1), .c (.i .i64 x.2), .c (.s [])]
def itK (x : It) : List C := [.i .i64 x.1, .i .i64 x.2, .s []]
theorem gcd_step (x y : Nat) (hy : y ≠ 0) : ((x : Int).tmod (y : Int)) = ((x % y : Nat) : Int) ∧ Nat.gcd y (x % y) = Nat.gcd x y := by
  refine ⟨?_, ?_⟩
  · exact (Int.ofNat_tmod x y).symm
  · rw [Nat.gcd_comm y (x % y), Nat.gcd_comm x y]
    exact (Nat.gcd_rec y x).symm
def lim (a : Int) : Prop := -4000000000000000000 ≤ a ∧ a ≤ 4000000000000000000
set_option maxHeartbeats 4000000 in
theorem ct_gcd (a b : Int) (ha : lim a) (hb : lim b) : Ct Try.prog 52 [.c (.i .i64 a), .c (.i .i64 b)] (fun t => t = .c (.i .i64 (Int.gcd a b : Int))) := by
  obtain ⟨zb, zc, zs, zl, zn, zt, zp, zg, zv, zx, zm, hz⟩ := Vm.zE
  obtain ⟨ha1, ha2⟩ := ha
  obtain ⟨hb1, hb2⟩ := hb
  obtain ⟨g, hg⟩ := hide (Nat.gcd a.natAbs b.natAbs)
  rw [show Int.gcd a b = g from hg.symm]
  obtain ⟨A, hA⟩ := hide (a.natAbs : Int)
  obtain ⟨B, hB⟩ := hide (b.natAbs : Int)
  refine Ct_of_W Try.func52 rfl (Nat.le_of_ble_eq_true rfl) fun w0 Z0 => ?_
  refine W_run ti_ok hz 400 (by cbv) ?_
  refine W_cut (fun a' m' => a' = [(0, T.c (C.i IntKind.i64 A)), (1, T.c (C.i IntKind.i64 b)), (4, T.c (C.i IntKind.i64 0))] ∧ m' = []) 0 ?_ ?_
  refine W_cond (by cbv) (fun h => ?_) (fun h => ?_)
  · rw [z_lss hz] at h
    have h := of_decide_eq_true h
    refine W_run ti_ok hz 400 (by cbv) ?_
    rw [show zg .i64 a = A by rw [z_neg hz (by omega) (by omega), hA]; omega]
    exact W_fin [0, 1, 4] [] (by cbv) (by cbv) ⟨by cbv, by cbv⟩
  · rw [z_lss hz] at h
    have h := of_decide_eq_false h
    refine W_run ti_ok hz 400 (by cbv) ?_
    rw [show a = A by omega]
    exact W_fin [0, 1, 4] [] (by cbv) (by cbv) ⟨by cbv, by cbv⟩
  rintro a' m' ⟨rfl, rfl⟩
  refine W_run ti_ok hz 400 (by cbv) ?_
  refine W_cut (fun a' m' => a' = [(0, T.c (C.i IntKind.i64 A)), (1, T.c (C.i IntKind.i64 B)), (4, T.c (C.i IntKind.i64 0))] ∧ m' = []) 0 ?_ ?_
  refine W_cond (by cbv) (fun h => ?_) (fun h => ?_)
  · rw [z_lss hz] at h
    have h := of_decide_eq_true h
    refine W_run ti_ok hz 400 (by cbv) ?_
    rw [show zg .i64 b = B by rw [z_neg hz (by omega) (by omega), hB]; omega]
    exact W_fin [0, 1, 4] [] (by cbv) (by cbv) ⟨by cbv, by cbv⟩
  · rw [z_lss hz] at h
    have h := of_decide_eq_false h
    refine W_run ti_ok hz 400 (by cbv) ?_
    rw [show b = B by omega]
    exact W_fin [0, 1, 4] [] (by cbv) (by cbv) ⟨by cbv, by cbv⟩
  rintro a' m' ⟨rfl, rfl⟩
  refine W_run ti_ok hz 2 (by cbv) ?_
  refine W_loop (fun n a m => ∃ (x y : Nat) (X Y : Int), X = x ∧ Y = y ∧ n = y ∧ Nat.gcd x y = g ∧ a = [(0, T.c (C.i IntKind.i64 X)), (1, T.c (C.i IntKind.i64 Y)), (4, T.c (C.i IntKind.i64 0))] ∧ m = []) b.natAbs ⟨a.natAbs, b.natAbs, A, B, hA, hB, rfl, hg.symm, rfl, rfl⟩ ?_
  rintro n a' m' ⟨x, y, X, Y, hX, hY, hn, hgc, rfl, rfl⟩
  refine W_run ti_ok hz 400 (by cbv) ?_
  refine W_cond (by cbv) (fun h => ?_) (fun h => ?_)
  · rw [z_neq hz] at h
    have hy : y ≠ 0 := fun e => by subst e; rw [hY] at h; simp at h
    obtain ⟨s1, s2⟩ := gcd_step x y hy
    refine W_run ti_ok hz 400 (by cbv) ?_
    refine W_draw mixedB [(2, 0), (2, 1), (2, 2), (2, 3), (0, 4), (0, 5)] [] (by kernel_rfl) ?_
    refine D_run ti_ok hz 400 (by cbv) ?_
    refine D_val (by cbv) (by cbv) (by cbv) (Val_rem (r := ((x % y : Nat) : Int)) (by cbv) (by rw [hY]; omega) (by rw [hX, hY, s1])) ?_
    obtain ⟨R, hR⟩ := hide ((x % y : Nat) : Int)
    rw [← hR]
    refine D_run ti_ok hz 400 (by cbv) ?_
    refine D_done ?_
    refine W_run ti_ok hz 400 (by cbv) ?_
    refine W_inv [0, 1, 4] [] (x % y) (by rw [hn]; exact Nat.mod_lt _ (by omega)) (by cbv) (by cbv) ⟨y, x % y, Y, R, hY, hR, rfl, by rw [s2, hgc], by cbv, by cbv⟩
  · rw [z_neq hz] at h
    have hy : y = 0 := by
      rw [hY] at h
      simpa using h
    refine W_run ti_ok hz 400 (by cbv) ?_
    refine W_ret ti_ok rfl (by cbv) ?_
    rw [hX, ← hgc, hy, Nat.gcd_zero_right]
/-- a bool, however it is known -/
theorem Ct.bool {P : Program} {f : FuncId} {args : List T} {b : Bool} (h : Ct P f args (fun t => t = .q b ∨ t = .c (.b b))) : Ct P f args (fun t => t = .q b) :=
  h.weak fun t ht => ⟨.q b, rfl, by
    rcases ht with rfl | rfl
    · exact Le.refl _
    · intro Z v hv
      rw [hv.cI.boolI]
      exact .q b⟩
theorem ct_IsNumber (x : It) (h1 : lim x.1) (h2 : lim x.2) : Ct Try.prog 44 [itT x] (fun t => t = .q (isN x)) := by
  have cg := ct_gcd x.1 x.2 h1 h2
  refine Ct.bool ?_
  obtain ⟨n, d⟩ := x
  obtain ⟨zb, zc, zs, zl, zn, zt, zp, zg, zv, zx, zm, hz⟩ := Vm.zE
  have hN : isN (n, d) = (decide (1 ≤ d) && decide (d ≤ 999999999) && decide (-999999999 ≤ n) && decide (n ≤ 999999999) && decide (Int.gcd n d = 1)) := by
    rw [Bool.eq_iff_iff]
    unfold isN
    rw [decide_eq_true_iff]
    simp [numP, and_assoc]
  rw [hN]
  obtain ⟨g, hg⟩ := hide (Int.gcd n d)
  rw [← hg]
  simp only at cg
  rw [← hg] at cg
  obtain ⟨G, hG⟩ := hide (g : Int)
  rw [← hG] at cg
  unfold itT
  simp only
  refine Ct_of_W Try.func44 rfl (Nat.le_of_ble_eq_true rfl) fun w0 Z0 => ?_
  refine W_run ti_ok hz 400 (by cbv) ?_
  refine W_bool 6 (by cbv) (show _ = true by rw [z_seq hz]; rfl) ?_
  refine W_run ti_ok hz 400 (by cbv) ?_
  by_cases k1 : 1 ≤ d
  rotate_left
  · refine W_bool 11 (by cbv) (show _ = false by rw [z_geq hz]; exact decide_eq_false k1) ?_
    refine W_run ti_ok hz 400 (by cbv) ?_
    refine W_ret ti_ok rfl (by cbv) ?_
    exact .inr (by simp [k1])
  refine W_bool 11 (by cbv) (show _ = true by rw [z_geq hz]; exact decide_eq_true k1) ?_
  refine W_run ti_ok hz 400 (by cbv) ?_
  by_cases k2 : d ≤ 999999999
  rotate_left
  · refine W_bool 16 (by cbv) (show _ = false by rw [z_leq hz]; exact decide_eq_false k2) ?_
    refine W_run ti_ok hz 400 (by cbv) ?_
    refine W_ret ti_ok rfl (by cbv) ?_
    exact .inr (by simp [k2])
  refine W_bool 16 (by cbv) (show _ = true by rw [z_leq hz]; exact decide_eq_true k2) ?_
  refine W_run ti_ok hz 400 (by cbv) ?_
  by_cases k3 : -999999999 ≤ n
  rotate_left
  · refine W_bool 21 (by cbv) (show _ = false by rw [z_geq hz]; exact decide_eq_false k3) ?_
    refine W_run ti_ok hz 400 (by cbv) ?_
    refine W_ret ti_ok rfl (by cbv) ?_
    exact .inr (by simp [k3])
  refine W_bool 21 (by cbv) (show _ = true by rw [z_geq hz]; exact decide_eq_true k3) ?_
  refine W_run ti_ok hz 400 (by cbv) ?_
  by_cases k4 : n ≤ 999999999
  rotate_left
  · refine W_bool 26 (by cbv) (show _ = false by rw [z_leq hz]; exact decide_eq_false k4) ?_
    refine W_run ti_ok hz 400 (by cbv) ?_
    refine W_ret ti_ok rfl (by cbv) ?_
    exact .inr (by simp [k4])
  refine W_bool 26 (by cbv) (show _ = true by rw [z_leq hz]; exact decide_eq_true k4) ?_
  refine W_run ti_ok hz 400 (by cbv) ?_
  refine W_call (by cbv) (by kernel_rfl) (cg) ?_
  rintro t rfl
  refine W_run ti_ok hz 400 (by cbv) ?_
  refine W_ret ti_ok rfl (by cbv) ?_
  refine .inl ?_
  congr 1
  rw [z_eql hz, decide_eq_true k1, decide_eq_true k2, decide_eq_true k3, decide_eq_true k4, hG]
  simp only [Bool.true_and]
  by_cases e : g = 1
  · rw [e]; rfl
  · rw [decide_eq_false e]
    exact beq_eq_false_iff_ne.2 (by omega)
theorem ct_l1In (x lo hi : Int) : Ct Try.prog 40 [.c (.i .i64 x), .c (.i .i64 lo), .c (.i .i64 hi)] (fun t => t = .q (decide (lo ≤ x) && decide (x ≤ hi))) := by
  refine Ct.bool ?_
  obtain ⟨zb, zc, zs, zl, zn, zt, zp, zg, zv, zx, zm, hz⟩ := Vm.zE
  refine Ct_of_W Try.func40 rfl (Nat.le_of_ble_eq_true rfl) fun w0 Z0 => ?_
  refine W_run ti_ok hz 400 (by cbv) ?_
  by_cases k1 : lo ≤ x
  rotate_left
  · refine W_bool 10 (by cbv) (show _ = false by rw [z_geq hz]; exact decide_eq_false k1) ?_
    refine W_run ti_ok hz 400 (by cbv) ?_
    refine W_ret ti_ok rfl (by cbv) ?_
    exact .inr (by simp [k1])
  refine W_bool 10 (by cbv) (show _ = true by rw [z_geq hz]; exact decide_eq_true k1) ?_
  refine W_run ti_ok hz 400 (by cbv) ?_
  refine W_ret ti_ok rfl (by cbv) ?_
  refine .inl ?_
  rw [z_leq hz, decide_eq_true k1, Bool.true_and]
theorem ct_l2Abs (a : Int) (ha : lim a) : Ct Try.prog 54 [.c (.i .i64 a)] (fun t => t = .c (.i .i64 (a.natAbs : Int))) := by
  obtain ⟨zb, zc, zs, zl, zn, zt, zp, zg, zv, zx, zm, hz⟩ := Vm.zE
  obtain ⟨A, hA⟩ := hide (a.natAbs : Int)
  rw [← hA]
  obtain ⟨h1, h2⟩ := ha
  refine Ct_of_W Try.func54 rfl (Nat.le_of_ble_eq_true rfl) fun w0 Z0 => ?_
  refine W_run ti_ok hz 400 (by cbv) ?_
  refine W_cond (by cbv) (fun h => ?_) (fun h => ?_)
  · rw [z_lss hz] at h
    have h := of_decide_eq_true h
    refine W_run ti_ok hz 400 (by cbv) ?_
    refine W_ret ti_ok rfl (by cbv) ?_
    rw [z_neg hz (by omega) (by omega), hA]
    congr 2
    omega
  · rw [z_lss hz] at h
    have h := of_decide_eq_false h
    refine W_run ti_ok hz 400 (by cbv) ?_
    refine W_ret ti_ok rfl (by cbv) ?_
    rw [hA]
    congr 2
    omega
set_option maxHeartbeats 4000000 in
theorem ct_l2Gcd (a b : Int) (ha : lim a) (hb : lim b) : Ct Try.prog 53 [.c (.i .i64 a), .c (.i .i64 b)] (fun t => t = .c (.i .i64 (Int.gcd a b : Int))) := by
  obtain ⟨zb, zc, zs, zl, zn, zt, zp, zg, zv, zx, zm, hz⟩ := Vm.zE
  have c1 := ct_l2Abs a ha
  have c2 := ct_l2Abs b hb
  obtain ⟨g, hg⟩ := hide (Nat.gcd a.natAbs b.natAbs)
  rw [show Int.gcd a b = g from hg.symm]
  obtain ⟨A, hA⟩ := hide (a.natAbs : Int)
  obtain ⟨B, hB⟩ := hide (b.natAbs : Int)
  rw [← hA] at c1
  rw [← hB] at c2
  refine Ct_of_W Try.func53 rfl (Nat.le_of_ble_eq_true rfl) fun w0 Z0 => ?_
  refine W_run ti_ok hz 400 (by cbv) ?_
  refine W_call (by cbv) (by kernel_rfl) (c1) ?_
  rintro t rfl
  refine W_run ti_ok hz 400 (by cbv) ?_
  refine W_call (by cbv) (by kernel_rfl) (c2) ?_
  rintro t rfl
  refine W_run ti_ok hz 400 (by cbv) ?_
  refine W_keep [4, 5, 6] [] 0 (by cbv) (by cbv) ?_
  refine W_loop (fun n a m => ∃ (x y : Nat) (X Y : Int), X = x ∧ Y = y ∧ n = y ∧ Nat.gcd x y = g ∧ a = [(4, T.c (C.i IntKind.i64 0)), (5, T.c (C.i IntKind.i64 X)), (6, T.c (C.i IntKind.i64 Y))] ∧ m = []) b.natAbs ⟨a.natAbs, b.natAbs, A, B, hA, hB, rfl, hg.symm, rfl, rfl⟩ ?_
  rintro n a' m' ⟨x, y, X, Y, hX, hY, hn, hgc, rfl, rfl⟩
  refine W_run ti_ok hz 400 (by cbv) ?_
  refine W_cond (by cbv) (fun h => ?_) (fun h => ?_)
  · rw [z_neq hz] at h
    have hy : y ≠ 0 := fun e => by subst e; rw [hY] at h; simp at h
    obtain ⟨s1, s2⟩ := gcd_step x y hy
    refine W_run ti_ok hz 400 (by cbv) ?_
    refine W_val (by cbv) (by cbv) (Val_rem (r := ((x % y : Nat) : Int)) (by cbv) (by rw [hY]; omega) (by rw [hX, hY, s1])) ?_
    obtain ⟨R, hR⟩ := hide ((x % y : Nat) : Int)
    rw [← hR]
    refine W_run ti_ok hz 400 (by cbv) ?_
    refine W_inv [4, 5, 6] [] (x % y) (by rw [hn]; exact Nat.mod_lt _ (by omega)) (by cbv) (by cbv) ⟨y, x % y, Y, R, hY, hR, rfl, by rw [s2, hgc], by cbv, by cbv⟩
  · rw [z_neq hz] at h
    have hy : y = 0 := by
      rw [hY] at h
      simpa using h
    refine W_run ti_ok hz 400 (by cbv) ?_
    refine W_ret ti_ok rfl (by cbv) ?_
    rw [hX, ← hgc, hy, Nat.gcd_zero_right]
theorem ct_sIsNumber (x : It) (h1 : lim x.1) (h2 : lim x.2) : Ct Try.prog 46 [itT x] (fun t => t = .q (isN x)) := by
  have cg := ct_l2Gcd x.1 x.2 h1 h2
  refine Ct.bool ?_
  obtain ⟨n, d⟩ := x
  obtain ⟨zb, zc, zs, zl, zn, zt, zp, zg, zv, zx, zm, hz⟩ := Vm.zE
  have hN : isN (n, d) = ((decide (1 ≤ d) && decide (d ≤ 999999999)) && (decide (-999999999 ≤ n) && decide (n ≤ 999999999)) && decide (Int.gcd n d = 1)) := by
    rw [Bool.eq_iff_iff]
    unfold isN
    rw [decide_eq_true_iff]
    simp [numP, and_assoc]
  rw [hN]
  have c1 := ct_l1In d 1 999999999
  have c2 := ct_l1In n (-999999999) 999999999
  obtain ⟨b1, hb1⟩ := hide (decide (1 ≤ d) && decide (d ≤ 999999999))
  obtain ⟨b2, hb2⟩ := hide (decide (-999999999 ≤ n) && decide (n ≤ 999999999))
  rw [← hb1] at c1 ⊢
  rw [← hb2] at c2 ⊢
  obtain ⟨g, hg⟩ := hide (Int.gcd n d)
  rw [← hg]
  simp only at cg
  rw [← hg] at cg
  obtain ⟨G, hG⟩ := hide (g : Int)
  rw [← hG] at cg
  unfold itT
  simp only
  refine Ct_of_W Try.func46 rfl (Nat.le_of_ble_eq_true rfl) fun w0 Z0 => ?_
  refine W_run ti_ok hz 400 (by cbv) ?_
  refine W_bool 6 (by cbv) (show _ = true by rw [z_seq hz]; rfl) ?_
  refine W_run ti_ok hz 400 (by cbv) ?_
  refine W_call (by cbv) (by kernel_rfl) (c1) ?_
  rintro t rfl
  refine W_run ti_ok hz 400 (by cbv) ?_
  clear hb1 hb2
  cases b1 with
  | false =>
    refine W_bool 11 (by cbv) (rfl) ?_
    refine W_run ti_ok hz 400 (by cbv) ?_
    refine W_ret ti_ok rfl (by cbv) ?_
    exact .inr rfl
  | true =>
  refine W_bool 11 (by cbv) (rfl) ?_
  refine W_run ti_ok hz 400 (by cbv) ?_
  refine W_call (by cbv) (by kernel_rfl) (c2) ?_
  rintro t rfl
  refine W_run ti_ok hz 400 (by cbv) ?_
  cases b2 with
  | false =>
    refine W_bool 16 (by cbv) (rfl) ?_
    refine W_run ti_ok hz 400 (by cbv) ?_
    refine W_ret ti_ok rfl (by cbv) ?_
    exact .inr rfl
  | true =>
  refine W_bool 16 (by cbv) (rfl) ?_
  refine W_run ti_ok hz 400 (by cbv) ?_
  refine W_call (by cbv) (by kernel_rfl) (cg) ?_
  rintro t rfl
  refine W_run ti_ok hz 400 (by cbv) ?_
  refine W_ret ti_ok rfl (by cbv) ?_
  refine .inl ?_
  congr 1
  rw [z_eql hz, hG]
  simp only [Bool.true_and]
  by_cases e : g = 1
  · rw [e]; rfl
  · rw [decide_eq_false e]
    exact beq_eq_false_iff_ne.2 (by omega)
end Go.Proofs.Ytconhpilbndpkaa
