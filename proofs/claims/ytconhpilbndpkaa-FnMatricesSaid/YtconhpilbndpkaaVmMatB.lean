/-
  Contracts on trees: numbers are made, added, multiplied, divided.
-/
import Derived.Test.YtconhpilbndpkaaVmMatA
namespace Go.Proofs.Ytconhpilbndpkaa
set_option maxRecDepth 100000
open Go.RowKit Go.Proofs.Ytconhpilbndpkaa.Vm
set_option linter.unusedVariables false

theorem red_lim {n d : Int} (hn : lim n) (hd : lim d) : lim (red n d).1 ∧ lim (red n d).2 := by
  have h : ∀ a g : Int, 0 ≤ g → lim a → lim (a / g) ∧ lim (-(a / g)) := fun a g hg ⟨h1, h2⟩ => by
    have e : (a / g).natAbs ≤ a.natAbs := Int.natAbs_ediv_le_natAbs a g
    exact ⟨⟨by omega, by omega⟩, ⟨by omega, by omega⟩⟩
  have hg : (0 : Int) ≤ (Int.gcd n d : Int) := Int.natCast_nonneg _
  unfold red
  split
  · exact ⟨(h n _ hg hn).2, (h d _ hg hd).2⟩
  · exact ⟨(h n _ hg hn).1, (h d _ hg hd).1⟩
set_option maxHeartbeats 4000000 in
theorem ct_MakeNumber (n d : Int) (hn : lim n) (hd : lim d) : Ct Try.prog 45 [.c (.i .i64 n), .c (.i .i64 d)] (fun t => t = itT (mk n d)) := by
  obtain ⟨n1, n2⟩ := hn
  obtain ⟨d1, d2⟩ := hd
  by_cases hz0 : d = 0
  · have e : mk n d = (0, 0) := by unfold mk; rw [if_pos hz0]
    rw [e]
    obtain ⟨zb, zc, zs, zl, zn, zt, zp, zg, zv, zx, zm, hz⟩ := Vm.zE
    refine Ct_of_W Try.func45 rfl (Nat.le_of_ble_eq_true rfl) fun w0 Z0 => ?_
    refine W_run ti_ok hz 400 (by cbv) ?_
    refine W_bool 9 (by cbv) (show _ = true by rw [z_eql hz, hz0]; rfl) ?_
    refine W_run ti_ok hz 400 (by cbv) ?_
    refine W_ret ti_ok rfl (by cbv) ?_
    rfl
  obtain ⟨r, hr⟩ := hide (red n d)
  obtain ⟨p1, p2, p3⟩ := red_pos (n := n) hz0
  have hlim := red_lim (n := n) (d := d) ⟨n1, n2⟩ ⟨d1, d2⟩
  rw [← hr] at p1 p2 p3 hlim
  have hmk : mk n d = if isN r then r else (0, 0) := by
    unfold mk
    rw [if_neg hz0, ← hr]
    have hi : isN r = true ↔ (-999999999 ≤ r.1 ∧ r.1 ≤ 999999999 ∧ r.2 ≤ 999999999) := by
      unfold isN
      rw [decide_eq_true_iff]
      exact ⟨fun ⟨a, b, c, d, e⟩ => ⟨c, d, b⟩, fun ⟨a, b, c⟩ => ⟨p1, c, a, b, p2⟩⟩
    by_cases h : isN r = true
    · rw [if_pos h, if_pos (hi.1 h)]
    · rw [if_neg h, if_neg fun h' => h (hi.2 h')]
  rw [hmk]
  have cI := ct_IsNumber r hlim.1 hlim.2
  obtain ⟨n', hn'⟩ := hide (if d < 0 then -n else n)
  obtain ⟨d', hd'⟩ := hide (if d < 0 then -d else d)
  have hnl : lim n' := by rw [hn']; split <;> exact ⟨by omega, by omega⟩
  have hdl : lim d' := by rw [hd']; split <;> exact ⟨by omega, by omega⟩
  have cg := ct_gcd n' d' hnl hdl
  have hgg : Int.gcd n' d' = Int.gcd n d := by rw [hn', hd']; split <;> simp [Int.gcd_neg, Int.neg_gcd]
  have hgp : 0 < Int.gcd n d := Int.gcd_pos_of_ne_zero_right n hz0
  rw [hgg] at cg
  obtain ⟨g, hg⟩ := hide (Int.gcd n d : Int)
  rw [← hg] at cg
  have hr1 : r.1 = n'.tdiv g ∧ r.2 = d'.tdiv g := by
    have e1 : n.tdiv g = n / g := Int.tdiv_eq_ediv_of_dvd (by rw [hg]; exact Int.gcd_dvd_left n d)
    have e2 : d.tdiv g = d / g := Int.tdiv_eq_ediv_of_dvd (by rw [hg]; exact Int.gcd_dvd_right n d)
    rw [hr, hn', hd']
    unfold red
    rw [← hg]
    split
    · rw [Int.neg_tdiv, Int.neg_tdiv, e1, e2]; exact ⟨rfl, rfl⟩
    · rw [e1, e2]; exact ⟨rfl, rfl⟩
  obtain ⟨r1, r2⟩ := r
  obtain ⟨⟨l1, l2⟩, l3, l4⟩ := hlim
  simp only at hr1 l1 l2 l3 l4
  obtain ⟨b, hb⟩ := hide (isN (r1, r2))
  rw [← hb] at cI ⊢
  clear hr hmk p1 p2 p3 hb
  obtain ⟨zb, zc, zs, zl, zn, zt, zp, zg, zv, zx, zm, hz⟩ := Vm.zE
  refine Ct_of_W Try.func45 rfl (Nat.le_of_ble_eq_true rfl) fun w0 Z0 => ?_
  refine W_run ti_ok hz 400 (by cbv) ?_
  refine W_bool 9 (by cbv) (show _ = false by rw [z_eql hz]; exact beq_eq_false_iff_ne.2 hz0) ?_
  refine W_run ti_ok hz 400 (by cbv) ?_
  refine W_bool 13 (by cbv) (show _ = false by rw [z_lss hz]; exact decide_eq_false (by omega)) ?_
  refine W_run ti_ok hz 400 (by cbv) ?_
  refine W_bool 17 (by cbv) (show _ = false by rw [z_gtr hz]; exact decide_eq_false (by omega)) ?_
  refine W_run ti_ok hz 400 (by cbv) ?_
  refine W_bool 21 (by cbv) (show _ = false by rw [z_lss hz]; exact decide_eq_false (by omega)) ?_
  refine W_run ti_ok hz 400 (by cbv) ?_
  refine W_bool 24 (by cbv) (show _ = false by rw [z_gtr hz]; exact decide_eq_false (by omega)) ?_
  refine W_run ti_ok hz 400 (by cbv) ?_
  refine W_cut (fun a' m' => a' = [(0, T.c (C.i IntKind.i64 n')), (1, T.c (C.i IntKind.i64 d')), (4, T.pt 0 0)] ∧ m' = [(0, .box [.c (.i .i64 0), .c (.i .i64 0), .c (.s [])])]) 1 ?_ ?_
  · refine W_cond (by cbv) (fun h => ?_) (fun h => ?_)
    · rw [z_lss hz] at h
      have h := of_decide_eq_true h
      refine W_run ti_ok hz 400 (by cbv) ?_
      rw [show zg .i64 n = n' by rw [z_neg hz (by omega) (by omega), hn', if_pos h], show zg .i64 d = d' by rw [z_neg hz (by omega) (by omega), hd', if_pos h]]
      exact W_fin [0, 1, 4] [0] (by cbv) (by cbv) ⟨by cbv, by cbv⟩
    · rw [z_lss hz] at h
      have h := of_decide_eq_false h
      refine W_run ti_ok hz 400 (by cbv) ?_
      rw [show n = n' by rw [hn', if_neg h], show d = d' by rw [hd', if_neg h]]
      exact W_fin [0, 1, 4] [0] (by cbv) (by cbv) ⟨by cbv, by cbv⟩
  rintro a' m' ⟨rfl, rfl⟩
  refine W_run ti_ok hz 400 (by cbv) ?_
  refine W_call (by cbv) (by kernel_rfl) (cg) ?_
  rintro t rfl
  refine W_run ti_ok hz 400 (by cbv) ?_
  refine W_draw mixedB [(2, 0), (2, 1), (2, 2), (2, 3), (2, 4), (2, 5), (2, 6), (0, 7), (0, 8)] [8] (by kernel_rfl) ?_
  refine D_run ti_ok hz 400 (by cbv) ?_
  refine D_val (by cbv) (by cbv) (by cbv) (Val_quo (r := r1) (by cbv) (by rw [hg]; omega) hr1.1 (by omega) (by omega)) ?_
  refine D_run ti_ok hz 400 (by cbv) ?_
  refine D_val (by cbv) (by cbv) (by cbv) (Val_quo (r := r2) (by cbv) (by rw [hg]; omega) hr1.2 (by omega) (by omega)) ?_
  refine D_run ti_ok hz 400 (by cbv) ?_
  refine D_last ti_ok hz (by cbv) (by cbv) (by cbv) (by cbv) (by cbv) ?_
  refine W_run ti_ok hz 400 (by cbv) ?_
  refine W_call (by cbv) (by kernel_rfl) (cI) ?_
  rintro t rfl
  refine W_run ti_ok hz 400 (by cbv) ?_
  refine W_cond (by cbv) (fun h => ?_) (fun h => ?_)
  · rw [z_not hz] at h
    have h : b = false := by simpa using h
    subst h
    refine W_run ti_ok hz 400 (by cbv) ?_
    refine W_ret ti_ok rfl (by cbv) ?_
    rfl
  · rw [z_not hz] at h
    have h : b = true := by simpa using h
    subst h
    refine W_run ti_ok hz 400 (by cbv) ?_
    refine W_ret ti_ok rfl (by cbv) ?_
    rfl
set_option maxHeartbeats 4000000 in
theorem ct_sMakeNumber (n d : Int) (hn : lim n) (hd : lim d) : Ct Try.prog 47 [.c (.i .i64 n), .c (.i .i64 d)] (fun t => t = itT (mk n d)) := by
  have c1 := ct_l1In n (-4000000000000000000) 4000000000000000000
  have c2 := ct_l1In d (-4000000000000000000) 4000000000000000000
  rw [decide_eq_true hn.1, decide_eq_true hn.2, show (true && true) = true from rfl] at c1
  rw [decide_eq_true hd.1, decide_eq_true hd.2, show (true && true) = true from rfl] at c2
  have cg := ct_l2Gcd n d hn hd
  obtain ⟨n1, n2⟩ := hn
  obtain ⟨d1, d2⟩ := hd
  by_cases hz0 : d = 0
  · have e : mk n d = (0, 0) := by unfold mk; rw [if_pos hz0]
    rw [e]
    obtain ⟨zb, zc, zs, zl, zn, zt, zp, zg, zv, zx, zm, hz⟩ := Vm.zE
    refine Ct_of_W Try.func47 rfl (Nat.le_of_ble_eq_true rfl) fun w0 Z0 => ?_
    refine W_run ti_ok hz 400 (by cbv) ?_
    refine W_bool 9 (by cbv) (show _ = true by rw [z_eql hz, hz0]; rfl) ?_
    refine W_run ti_ok hz 400 (by cbv) ?_
    refine W_ret ti_ok rfl (by cbv) ?_
    rfl
  obtain ⟨r, hr⟩ := hide (red n d)
  obtain ⟨p1, p2, p3⟩ := red_pos (n := n) hz0
  have hlim := red_lim (n := n) (d := d) ⟨n1, n2⟩ ⟨d1, d2⟩
  rw [← hr] at p1 p2 p3 hlim
  have hmk : mk n d = if (decide (-999999999 ≤ r.1) && decide (r.1 ≤ 999999999)) && decide (r.2 ≤ 999999999) then r else (0, 0) := by
    unfold mk
    rw [if_neg hz0, ← hr]
    simp only [Bool.and_eq_true, decide_eq_true_eq, and_assoc]
  rw [hmk]
  have cI := ct_l1In r.1 (-999999999) 999999999
  have hgp : 0 < Int.gcd n d := Int.gcd_pos_of_ne_zero_right n hz0
  obtain ⟨g, hg⟩ := hide (Int.gcd n d : Int)
  rw [← hg] at cg
  obtain ⟨g', hg'⟩ := hide (if d < 0 then -g else g)
  have hr1 : r.1 = n.tdiv g' ∧ r.2 = d.tdiv g' := by
    have e1 : n.tdiv g = n / g := Int.tdiv_eq_ediv_of_dvd (by rw [hg]; exact Int.gcd_dvd_left n d)
    have e2 : d.tdiv g = d / g := Int.tdiv_eq_ediv_of_dvd (by rw [hg]; exact Int.gcd_dvd_right n d)
    rw [hr, hg']
    unfold red
    rw [← hg]
    split
    · rw [Int.tdiv_neg, Int.tdiv_neg, e1, e2]; exact ⟨rfl, rfl⟩
    · rw [e1, e2]; exact ⟨rfl, rfl⟩
  have hgl : g ≤ 4000000000000000000 := by
    have := Int.gcd_le_natAbs_right (a := n) hz0
    omega
  have hg0 : g' ≠ 0 := by rw [hg']; split <;> omega
  obtain ⟨r1, r2⟩ := r
  obtain ⟨⟨l1, l2⟩, l3, l4⟩ := hlim
  simp only at hr1 l1 l2 l3 l4 cI ⊢
  obtain ⟨b, hb⟩ := hide (decide (-999999999 ≤ r1) && decide (r1 ≤ 999999999))
  rw [← hb] at cI ⊢
  clear hr hmk p1 p2 p3 hb
  obtain ⟨zb, zc, zs, zl, zn, zt, zp, zg, zv, zx, zm, hz⟩ := Vm.zE
  refine Ct_of_W Try.func47 rfl (Nat.le_of_ble_eq_true rfl) fun w0 Z0 => ?_
  refine W_run ti_ok hz 400 (by cbv) ?_
  refine W_bool 9 (by cbv) (show _ = false by rw [z_eql hz]; exact beq_eq_false_iff_ne.2 hz0) ?_
  refine W_run ti_ok hz 400 (by cbv) ?_
  refine W_call (by cbv) (by kernel_rfl) (c1) ?_
  rintro t rfl
  refine W_run ti_ok hz 400 (by cbv) ?_
  refine W_bool 14 (by cbv) (show _ = false by rw [z_not hz]; rfl) ?_
  refine W_run ti_ok hz 400 (by cbv) ?_
  refine W_call (by cbv) (by kernel_rfl) (c2) ?_
  rintro t rfl
  refine W_run ti_ok hz 400 (by cbv) ?_
  refine W_bool 18 (by cbv) (show _ = false by rw [z_not hz]; rfl) ?_
  refine W_run ti_ok hz 400 (by cbv) ?_
  refine W_call (by cbv) (by kernel_rfl) (cg) ?_
  rintro t rfl
  refine W_run ti_ok hz 400 (by cbv) ?_
  refine W_cut (fun a' m' => a' = [(0, T.c (C.i IntKind.i64 n)), (1, T.c (C.i IntKind.i64 d)), (4, T.pt 0 0), (5, T.c (C.i IntKind.i64 g'))] ∧ m' = [(0, .box [.c (.i .i64 0), .c (.i .i64 0), .c (.s [])])]) 1 ?_ ?_
  · refine W_cond (by cbv) (fun h => ?_) (fun h => ?_)
    · rw [z_lss hz] at h
      have h := of_decide_eq_true h
      refine W_run ti_ok hz 400 (by cbv) ?_
      rw [show zg .i64 g = g' by rw [z_neg hz (by omega) (by omega), hg', if_pos h]]
      exact W_fin [0, 1, 4, 5] [0] (by cbv) (by cbv) ⟨by cbv, by cbv⟩
    · rw [z_lss hz] at h
      have h := of_decide_eq_false h
      refine W_run ti_ok hz 400 (by cbv) ?_
      rw [show g = g' by rw [hg', if_neg h]]
      exact W_fin [0, 1, 4, 5] [0] (by cbv) (by cbv) ⟨by cbv, by cbv⟩
  rintro a' m' ⟨rfl, rfl⟩
  refine W_run ti_ok hz 400 (by cbv) ?_
  refine W_draw mixedB [(2, 0), (2, 1), (2, 2), (2, 3), (2, 4), (2, 5), (2, 6), (0, 7), (0, 8)] [8] (by kernel_rfl) ?_
  refine D_run ti_ok hz 400 (by cbv) ?_
  refine D_val (by cbv) (by cbv) (by cbv) (Val_quo (r := r1) (by cbv) hg0 hr1.1 (by omega) (by omega)) ?_
  refine D_run ti_ok hz 400 (by cbv) ?_
  refine D_val (by cbv) (by cbv) (by cbv) (Val_quo (r := r2) (by cbv) hg0 hr1.2 (by omega) (by omega)) ?_
  refine D_run ti_ok hz 400 (by cbv) ?_
  refine D_last ti_ok hz (by cbv) (by cbv) (by cbv) (by cbv) (by cbv) ?_
  refine W_run ti_ok hz 400 (by cbv) ?_
  refine W_call (by cbv) (by kernel_rfl) (cI) ?_
  rintro t rfl
  refine W_run ti_ok hz 400 (by cbv) ?_
  cases b with
  | false =>
    refine W_bool 38 (by cbv) (show _ = true by rw [z_not hz]; rfl) ?_
    refine W_run ti_ok hz 400 (by cbv) ?_
    refine W_ret ti_ok rfl (by cbv) ?_
    rfl
  | true =>
  refine W_bool 38 (by cbv) (show _ = false by rw [z_not hz]; rfl) ?_
  refine W_run ti_ok hz 400 (by cbv) ?_
  refine W_cond (by cbv) (fun h => ?_) (fun h => ?_)
  · rw [z_gtr hz] at h
    have h := of_decide_eq_true h
    refine W_run ti_ok hz 400 (by cbv) ?_
    refine W_ret ti_ok rfl (by cbv) ?_
    rw [if_neg (by simp; omega)]
    rfl
  · rw [z_gtr hz] at h
    have h := of_decide_eq_false h
    refine W_run ti_ok hz 400 (by cbv) ?_
    refine W_ret ti_ok rfl (by cbv) ?_
    rw [if_pos (by simp; omega)]
    rfl
end Go.Proofs.Ytconhpilbndpkaa
