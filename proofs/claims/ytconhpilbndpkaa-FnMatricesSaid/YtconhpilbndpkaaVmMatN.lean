/-
  Contracts on trees: what is drawn: numbers, matrices.
-/
import Derived.Test.YtconhpilbndpkaaVmMatM
namespace Go.Proofs.Ytconhpilbndpkaa
set_option maxRecDepth 100000
open Go.RowKit Go.Proofs.Ytconhpilbndpkaa.Vm
set_option linter.unusedVariables false

set_option maxHeartbeats 8000000 in
theorem ct_l1New (B : List (List C)) (hB : ByteL B) : CtP Try.prog 16 [.c (.sl B)] [] 0 1 (fun t m => t = .pt 0 0 ∧ Cu B m) := by
  obtain ⟨zb, zc, zs, zl, zn, zt, zp, zg, zv, zx, zm, hz⟩ := Vm.zE
  have hlen : zl B = (B.length : Int) := z_len hz B
  have hBl := hB.1
  refine CtP_of_W Try.func16 rfl (Nat.le_of_ble_eq_true rfl) fun w0 Z0 ρ0 => ?_
  refine W_run ti_ok hz 400 (by cbv) ?_
  obtain ⟨h0, hh0⟩ := hide (zb .add .i64 10101 (zl B))
  rw [← hh0]
  refine W_keep [0, 2, 3, 4] [] 0 (by cbv) (by cbv) ?_
  refine W_loopS (fun n' a m => ∃ (k : Nat) (ik h : Int), k ≤ B.length ∧ n' = B.length - k ∧ ik = (k : Int) ∧ a = [(0, T.c (C.sl B)), (2, T.np), (3, T.c (C.i IntKind.i64 h)), (4, T.c (C.i IntKind.i64 ik))] ∧ m = []) B.length
    (fun a m => ∃ (h : Int), a = [(0, T.c (C.sl B)), (2, T.np), (3, T.c (C.i IntKind.i64 h))] ∧ m = []) 0 ⟨0, 0, h0, Nat.zero_le _, rfl, rfl, by cbv, by cbv⟩ ?_ ?_
  · rintro n' a m ⟨k, ik, h, hk, hn', hik, rfl, rfl⟩
    refine W_run ti_ok hz 400 (by cbv) ?_
    by_cases hlt : k < B.length
    rotate_left
    · refine W_bool 12 (by cbv) (show _ = false by rw [z_lss hz, hlen]; exact decide_eq_false (by omega)) ?_
      refine W_run ti_ok hz 400 (by cbv) ?_
      exact W_fin [0, 2, 3] [] (by cbv) (by cbv) ⟨h, by cbv, by cbv⟩
    refine W_bool 12 (by cbv) (show _ = true by rw [z_lss hz, hlen]; exact decide_eq_true (by omega)) ?_
    refine W_run ti_ok hz 400 (by cbv) ?_
    refine W_cond (by cbv) (fun h => ?_) (fun h => ?_)
    rotate_left
    · refine W_run ti_ok hz 400 (by cbv) ?_
      exact W_fin [0, 2, 3] [] (by cbv) (by cbv) ⟨_, by cbv, by cbv⟩
    obtain ⟨n, hn⟩ := hB.2 _ (List.getElem_mem hlt)
    have hBk : B[k]? = some [C.i .u8 n] := by rw [List.getElem?_eq_getElem hlt, hn]
    refine W_run ti_ok hz 400 (by cbv) ?_
    refine W_val (by cbv) (by cbv) (Val_elem ti_ok (by cbv) k hik hBk rfl) ?_
    refine W_run ti_ok hz 400 (by cbv) ?_
    refine W_valE (by cbv) (by cbv) (Val_conv (us := .int .u8) (by cbv) (by kernel_rfl) (by kernel_rfl)) ?_
    rintro y1 -
    refine W_run ti_ok hz 400 (by cbv) ?_
    refine W_valE (by cbv) (by cbv) (Val_bits (by cbv) (.inl rfl)) ?_
    rintro y2 -
    refine W_run ti_ok hz 400 (by cbv) ?_
    obtain ⟨ik1, hik1⟩ := hide (ik + 1)
    have hadd : zb .add .i64 ik 1 = ik1 := by rw [z_add hz (by omega) (by omega), hik1]
    rw [hadd]
    exact W_inv [0, 2, 3, 4] [] (B.length - (k + 1)) (by omega) (by cbv) (by cbv) ⟨k + 1, ik1, y2, hlt, rfl, by rw [hik1, hik]; rfl, by cbv, by cbv⟩
  rintro a m ⟨h, rfl, rfl⟩
  refine W_run ti_ok hz 400 (by cbv) ?_
  refine W_retP ti_ok [0] rfl (by cbv) (by cbv) (by cbv) ?_
  exact ⟨rfl, 0, h, Int.le_refl 0, Int.natCast_nonneg _, rfl⟩
set_option maxHeartbeats 8000000 in
theorem ct_l1Below (B : List (List C)) (hB : ByteL B) (n : Int) (n1 : 1 ≤ n) (n2 : n ≤ 256) (i h : Int) (hi : 0 ≤ i) (hi2 : i ≤ (B.length : Int)) : CtP Try.prog 33 [.pt 0 0, .c (.i .i64 n)] [(0, curO B i h)] 1 1 (fun t m => (∃ x : Int, 0 ≤ x ∧ x < n ∧ t = .c (.i .i64 x)) ∧ Cu B m) := by
  have c1 := ct_l1Byte B hB i h hi hi2
  unfold curO at c1 ⊢
  obtain ⟨zb, zc, zs, zl, zn, zt, zp, zg, zv, zx, zm, hz⟩ := Vm.zE
  refine CtP_of_W Try.func33 rfl (Nat.le_of_ble_eq_true rfl) fun w0 Z0 ρ0 => ?_
  refine W_run ti_ok hz 400 (by cbv) ?_
  refine W_cond (by cbv) (fun h => ?_) (fun h => ?_)
  · rw [z_leq hz] at h
    have h := of_decide_eq_true h
    omega
  refine W_run ti_ok hz 400 (by cbv) ?_
  refine W_cond (by cbv) (fun h => ?_) (fun h => ?_)
  rotate_left
  · rw [z_leq hz] at h
    have h := of_decide_eq_false h
    omega
  refine W_run ti_ok hz 400 (by cbv) ?_
  refine W_callP [0] rfl (by cbv) (by cbv) (by kernel_rfl) (c1) ?_
  rintro t m1 ⟨⟨x, x0, x1, rfl⟩, i', h', i0, i1, rfl⟩
  refine ⟨_, _, rfl, rfl, ?_⟩
  refine W_run ti_ok hz 400 (by cbv) ?_
  have e1 : x.tmod n = x % n := Int.tmod_eq_emod_of_nonneg x0
  have e2 := Int.emod_nonneg x (show n ≠ 0 by omega)
  have e3 := Int.emod_lt_of_pos x (show 0 < n by omega)
  refine W_val (by cbv) (by cbv) (Val_rem (r := x % n) (by cbv) (by omega) e1.symm) ?_
  obtain ⟨y, hy⟩ := hide (x % n)
  rw [← hy] at e2 e3 ⊢
  refine W_run ti_ok hz 400 (by cbv) ?_
  refine W_retP ti_ok [0] rfl (by cbv) (by cbv) (by cbv) ?_
  exact ⟨⟨y, e2, e3, rfl⟩, i', h', i0, i1, rfl⟩
theorem ct_l1Once (B : List (List C)) (hB : ByteL B) (n : Int) (n1 : 1 ≤ n) (n2 : n ≤ 256) (i h : Int) (hi : 0 ≤ i) (hi2 : i ≤ (B.length : Int)) : CtP Try.prog 49 [.pt 0 0, .c (.i .i64 n)] [(0, curO B i h)] 1 1 (fun t m => (∃ x : Bool, t = .q x) ∧ Cu B m) := by
  have c1 := ct_l1Below B hB n n1 n2 i h hi hi2
  unfold curO at c1 ⊢
  obtain ⟨zb, zc, zs, zl, zn, zt, zp, zg, zv, zx, zm, hz⟩ := Vm.zE
  refine CtP_of_W Try.func49 rfl (Nat.le_of_ble_eq_true rfl) fun w0 Z0 ρ0 => ?_
  refine W_run ti_ok hz 400 (by cbv) ?_
  refine W_callP [0] rfl (by cbv) (by cbv) (by kernel_rfl) (c1) ?_
  rintro t m1 ⟨⟨x, x0, x1, rfl⟩, i', h', i0, i1, rfl⟩
  refine ⟨_, _, rfl, rfl, ?_⟩
  refine W_run ti_ok hz 400 (by cbv) ?_
  refine W_retP ti_ok [0] rfl (by cbv) (by cbv) (by cbv) ?_
  exact ⟨⟨_, rfl⟩, i', h', i0, i1, rfl⟩
theorem ct_l1PickInt (B : List (List C)) (hB : ByteL B) (els : List (List C)) (e1 : 1 ≤ els.length) (e2 : els.length ≤ 256) (hel : ∀ cs ∈ els, ∃ v : Int, cs = [.i .i64 v]) (i h : Int) (hi : 0 ≤ i) (hi2 : i ≤ (B.length : Int)) :
    CtP Try.prog 35 [.pt 0 0, .c (.sl els)] [(0, curO B i h)] 1 1 (fun t m => (∃ v : Int, [C.i .i64 v] ∈ els ∧ t = .c (.i .i64 v)) ∧ Cu B m) := by
  obtain ⟨n, hn⟩ := hide (els.length : Int)
  have c1 := ct_l1Below B hB n (by omega) (by omega) i h hi hi2
  unfold curO at c1 ⊢
  obtain ⟨zb, zc, zs, zl, zn, zt, zp, zg, zv, zx, zm, hz⟩ := Vm.zE
  have hlen : zl els = n := by rw [z_len hz, hn]
  refine CtP_of_W Try.func35 rfl (Nat.le_of_ble_eq_true rfl) fun w0 Z0 ρ0 => ?_
  refine W_run ti_ok hz 400 (by cbv) ?_
  rw [hlen]
  refine W_callP [0] rfl (by cbv) (by cbv) (by kernel_rfl) (c1) ?_
  rintro t m1 ⟨⟨x, x0, x1, rfl⟩, i', h', i0, i1, rfl⟩
  refine ⟨_, _, rfl, rfl, ?_⟩
  obtain ⟨k, hk⟩ := Int.eq_ofNat_of_zero_le x0
  have hlt : k < els.length := by omega
  obtain ⟨v, hv⟩ := hel _ (List.getElem_mem hlt)
  have hEk : els[k]? = some [C.i .i64 v] := by rw [List.getElem?_eq_getElem hlt, hv]
  refine W_run ti_ok hz 400 (by cbv) ?_
  refine W_val (by cbv) (by cbv) (Val_elem ti_ok (by cbv) k hk hEk rfl) ?_
  refine W_run ti_ok hz 400 (by cbv) ?_
  refine W_retP ti_ok [0] rfl (by cbv) (by cbv) (by cbv) ?_
  exact ⟨⟨v, List.mem_of_getElem? hEk, rfl⟩, i', h', i0, i1, rfl⟩
def ItR (B : List (List C)) (t : T) (m : Mem) : Prop := (∃ x : It, okI x ∧ t = itT x) ∧ Cu B m
set_option maxHeartbeats 16000000 in
theorem ct_l2Draw (B : List (List C)) (hB : ByteL B) (i g : Int) (hi : 0 ≤ i) (hi2 : i ≤ (B.length : Int)) : CtP Try.prog 50 [.pt 0 0] [(0, curO B i g)] 1 1 (ItR B) := by
  have cb := fun n n1 n2 i g hi hi2 => ct_l1Below B hB n n1 n2 i g hi hi2
  have cp := fun els e1 e2 hel i g hi hi2 => ct_l1PickInt B hB els e1 e2 hel i g hi hi2
  unfold curO at cb cp ⊢
  obtain ⟨zb, zc, zs, zl, zn, zt, zp, zg, zv, zx, zm, hz⟩ := Vm.zE
  refine CtP_of_W Try.func50 rfl (Nat.le_of_ble_eq_true rfl) fun w0 Z0 ρ0 => ?_
  refine W_run ti_ok hz 400 (by cbv) ?_
  refine W_callP [0] rfl (by cbv) (by cbv) (by kernel_rfl) (cb 12 (by omega) (by omega) i g hi hi2) ?_
  rintro t m1 ⟨⟨x, x0, x1, rfl⟩, i, g, hi, hi2, rfl⟩
  refine ⟨_, _, rfl, rfl, ?_⟩
  refine W_run ti_ok hz 400 (by cbv) ?_
  by_cases k0 : x = 0
  · refine W_bool 5 (by cbv) (show _ = true by rw [z_eql hz, k0]; rfl) ?_
    refine W_run ti_ok hz 400 (by cbv) ?_
    refine W_retP ti_ok [0] rfl (by cbv) (by cbv) (by cbv) ?_
    exact ⟨⟨(0, 0), okI_zero, rfl⟩, i, g, hi, hi2, rfl⟩
  refine W_bool 5 (by cbv) (show _ = false by rw [z_eql hz]; exact beq_eq_false_iff_ne.2 k0) ?_
  refine W_run ti_ok hz 400 (by cbv) ?_
  refine W_cut (fun a m => ∃ b, a = [(0, T.pt 0 0), (2, T.pt 1 0), (4, T.c (C.i IntKind.i64 x)), (8, T.q b)] ∧ m = [(0, Obj.box [T.c (C.sl B), T.c (C.i IntKind.i64 i), T.c (C.i IntKind.i64 g)]), (1, Obj.box [T.c (C.i IntKind.i64 0), T.c (C.i IntKind.i64 0), T.c (C.s [])])]) 2 ?_ ?_
  · refine W_cond (by cbv) (fun h => ?_) (fun h => ?_)
    · refine W_run ti_ok hz 400 (by cbv) ?_
      exact W_fin [0, 2, 4, 8] [0, 1] (by cbv) (by cbv) ⟨_, by cbv, by cbv⟩
    · refine W_run ti_ok hz 400 (by cbv) ?_
      exact W_fin [0, 2, 4, 8] [0, 1] (by cbv) (by cbv) ⟨_, by cbv, by cbv⟩
  rintro a m ⟨b, rfl, rfl⟩
  refine W_cond (by cbv) (fun h => ?_) (fun h => ?_)
  · refine W_run ti_ok hz 400 (by cbv) ?_
    refine W_callP [0] rfl (by cbv) (by cbv) (by kernel_rfl) (cb 13 (by omega) (by omega) i g hi hi2) ?_
    rintro t m1 ⟨⟨u, u0, u1, rfl⟩, i, g, hi, hi2, rfl⟩
    refine ⟨_, _, rfl, rfl, ?_⟩
    refine W_run ti_ok hz 400 (by cbv) ?_
    refine W_callP [0] rfl (by cbv) (by cbv) (by kernel_rfl) (cb 6 (by omega) (by omega) i g hi hi2) ?_
    rintro t m1 ⟨⟨v, v0, v1, rfl⟩, i, g, hi, hi2, rfl⟩
    refine ⟨_, _, rfl, rfl, ?_⟩
    have cm := ct_sMakeNumber (u - 6) (1 + v) ⟨by omega, by omega⟩ ⟨by omega, by omega⟩
    have hk := mk_ok (u - 6) (1 + v)
    obtain ⟨p, hp⟩ := hide (mk (u - 6) (1 + v))
    rw [← hp] at cm hk
    obtain ⟨u6, hu6⟩ := hide (u - 6)
    obtain ⟨v6, hv6⟩ := hide (1 + v)
    rw [← hu6, ← hv6] at cm
    have z1 : zb .sub .i64 u 6 = u6 := by rw [z_sub hz (by omega) (by omega), hu6]
    have z2 : zb .add .i64 1 v = v6 := by rw [z_add hz (by omega) (by omega), hv6]
    clear hp
    obtain ⟨p1, p2⟩ := p
    refine W_run ti_ok hz 400 (by cbv) ?_
    rw [z1, z2]
    refine W_call (by cbv) (by kernel_rfl) (cm) ?_
    rintro t rfl
    refine W_run ti_ok hz 400 (by cbv) ?_
    refine W_retP ti_ok [0] rfl (by cbv) (by cbv) (by cbv) ?_
    exact ⟨⟨(p1, p2), hk, rfl⟩, i, g, hi, hi2, rfl⟩
  refine W_run ti_ok hz 400 (by cbv) ?_
  refine W_cond (by cbv) (fun h => ?_) (fun h => ?_)
  · have hA := cp [[C.i .i64 999999999], [C.i .i64 (-999999999)], [C.i .i64 999999998], [C.i .i64 65537], [C.i .i64 100000]] (by decide) (by decide) (by simp)
    have hBB := cp [[C.i .i64 1], [C.i .i64 1], [C.i .i64 999999999], [C.i .i64 999999937], [C.i .i64 2]] (by decide) (by decide) (by simp)
    refine W_run ti_ok hz 400 (by cbv) ?_
    refine W_callP [0] rfl (by cbv) (by cbv) (by kernel_rfl) (hA i g hi hi2) ?_
    rintro t m1 ⟨⟨u, hu, rfl⟩, i, g, hi, hi2, rfl⟩
    refine ⟨_, _, rfl, rfl, ?_⟩
    refine W_run ti_ok hz 400 (by cbv) ?_
    refine W_callP [0] rfl (by cbv) (by cbv) (by kernel_rfl) (hBB i g hi hi2) ?_
    rintro t m1 ⟨⟨v, hv, rfl⟩, i, g, hi, hi2, rfl⟩
    refine ⟨_, _, rfl, rfl, ?_⟩
    have hul : lim u := by
      simp only [List.mem_cons, List.cons.injEq, C.i.injEq, true_and, and_true, List.not_mem_nil, or_false] at hu
      rcases hu with rfl | rfl | rfl | rfl | rfl <;> exact ⟨by decide, by decide⟩
    have hvl : lim v := by
      simp only [List.mem_cons, List.cons.injEq, C.i.injEq, true_and, and_true, List.not_mem_nil, or_false] at hv
      rcases hv with rfl | rfl | rfl | rfl | rfl <;> exact ⟨by decide, by decide⟩
    have cm := ct_sMakeNumber u v hul hvl
    have hk := mk_ok u v
    obtain ⟨p, hp⟩ := hide (mk u v)
    rw [← hp] at cm hk
    clear hp
    obtain ⟨p1, p2⟩ := p
    refine W_run ti_ok hz 400 (by cbv) ?_
    refine W_call (by cbv) (by kernel_rfl) (cm) ?_
    rintro t rfl
    refine W_run ti_ok hz 400 (by cbv) ?_
    refine W_retP ti_ok [0] rfl (by cbv) (by cbv) (by cbv) ?_
    exact ⟨⟨(p1, p2), hk, rfl⟩, i, g, hi, hi2, rfl⟩
  refine W_run ti_ok hz 400 (by cbv) ?_
  refine W_callP [0] rfl (by cbv) (by cbv) (by kernel_rfl) (cb 12 (by omega) (by omega) i g hi hi2) ?_
  rintro t m1 ⟨⟨u, u0, u1, rfl⟩, i, g, hi, hi2, rfl⟩
  refine ⟨_, _, rfl, rfl, ?_⟩
  obtain ⟨u3, hu3⟩ := hide (u - 3)
  have z1 : zb .sub .i64 u 3 = u3 := by rw [z_sub hz (by omega) (by omega), hu3]
  have cn := ct_l2Num u3
  refine W_run ti_ok hz 400 (by cbv) ?_
  rw [z1]
  refine W_call (by cbv) (by kernel_rfl) (cn) ?_
  rintro t rfl
  refine W_run ti_ok hz 400 (by cbv) ?_
  refine W_retP ti_ok [0] rfl (by cbv) (by cbv) (by cbv) ?_
  exact ⟨⟨(u3, 1), .inr (num_wh (by omega) (by omega)), rfl⟩, i, g, hi, hi2, rfl⟩
end Go.Proofs.Ytconhpilbndpkaa
