/-
  Contracts on trees: drawn matrices.
-/
import Derived.Test.YtconhpilbndpkaaVmMatN
namespace Go.Proofs.Ytconhpilbndpkaa
set_option maxRecDepth 100000
open Go.RowKit Go.Proofs.Ytconhpilbndpkaa.Vm
set_option linter.unusedVariables false

def MatR (B : List (List C)) (r c : Int) (N : Nat) (t : T) (m : Mem) : Prop := ∃ (i g : Int) (cap n : Nat) (L : List It) (els : List (List C)), (0 ≤ i ∧ i ≤ (B.length : Int)) ∧ (∀ x ∈ L, okI x) ∧ L.length = N ∧ n = N ∧ els = L.map itK ∧ t = .ag [.c (.i .i64 r), .c (.i .i64 c), .rw 3 n cap] ∧ m = [(0, curO B i g), (3, .row els cap)]
theorem memE {L : List It} : ∀ cs ∈ L.map itK, cs.length = 3 := fun cs h => by
  obtain ⟨x, _, rfl⟩ := List.mem_map.1 h
  rfl
set_option maxHeartbeats 32000000 in
theorem ct_l14Draw (B : List (List C)) (hB : ByteL B) (R Cn : Nat) (hR : R ≤ 12) (hC : Cn ≤ 12) (i g : Int) (hi : 0 ≤ i) (hi2 : i ≤ (B.length : Int)) :
    CtP Try.prog 34 [.pt 0 0, .c (.i .i64 (R : Int)), .c (.i .i64 (Cn : Int))] [(0, curO B i g)] 1 4 (MatR B R Cn (R * Cn)) := by
  have cb := fun n n1 n2 i h hi hi2 => ct_l1Below B hB n n1 n2 i h hi hi2
  have co := fun n n1 n2 i h hi hi2 => ct_l1Once B hB n n1 n2 i h hi hi2
  have cd := fun i h hi hi2 => ct_l2Draw B hB i h hi hi2
  have h144 := mul_le144 (Nat.le_refl R) hR hC
  have c0 := ct_l2Num 0
  unfold MatR
  unfold curO at cb co cd ⊢
  obtain ⟨N, hN⟩ := hide (R * Cn)
  rw [← hN] at h144 ⊢
  have hRC : (R : Int) * (Cn : Int) = (N : Int) := by rw [hN]; simp
  have hR0 : (0 : Int) ≤ (R : Int) ∧ (R : Int) ≤ 12 := ⟨by omega, by omega⟩
  have hC0 : (0 : Int) ≤ (Cn : Int) ∧ (Cn : Int) ≤ 12 := ⟨by omega, by omega⟩
  obtain ⟨r, hr⟩ := hide (R : Int)
  obtain ⟨c, hc⟩ := hide (Cn : Int)
  rw [← hr, ← hc] at hRC
  rw [← hr] at hR0
  rw [← hc] at hC0
  rw [← hr, ← hc]
  obtain ⟨zb, zc, zs, zl, zn, zt, zp, zg, zv, zx, zm, hz⟩ := Vm.zE
  obtain ⟨p, hp⟩ := hide (r * c)
  have hmul : zb .mul .i64 r c = p := by rw [hp, z_mul hz (by omega) (by omega)]
  refine CtP_of_W Try.func34 rfl (Nat.le_of_ble_eq_true rfl) fun w0 Z0 ρ0 => ?_
  refine W_run ti_ok hz 400 (by cbv) ?_
  refine W_nilRowB 2 2 (by cbv) (by cbv) ?_
  refine W_keep [0, 1, 2, 6, 7, 8] [0, 1, 2, 3] 4 (by cbv) (by cbv) ?_
  refine W_loopS (fun n' a m => ∃ (k : Nat) (kk i g : Int) (cap n : Nat) (L : List It) (els : List (List C)), k ≤ N ∧ n' = N - k ∧ kk = (k : Int) ∧ (0 ≤ i ∧ i ≤ (B.length : Int)) ∧ (∀ x ∈ L, okI x) ∧ L.length = k ∧ n = k ∧ els = L.map itK ∧ a = [(0, T.pt 0 0), (1, T.c (C.i IntKind.i64 r)), (2, T.c (C.i IntKind.i64 c)), (6, T.pt 1 0), (7, T.pt 2 0), (8, T.c (C.i IntKind.i64 kk))] ∧ m = [(0, Obj.box [T.c (C.sl B), T.c (C.i IntKind.i64 i), T.c (C.i IntKind.i64 g)]), (1, Obj.box [T.c (C.i IntKind.i64 0), T.c (C.i IntKind.i64 0), T.nil]), (2, Obj.box [T.c (C.i IntKind.i64 r), T.c (C.i IntKind.i64 c), T.rw 3 n cap]), (3, Obj.row els cap)]) N
    (fun a m => ∃ (i g : Int) (cap n : Nat) (L : List It) (els : List (List C)), (0 ≤ i ∧ i ≤ (B.length : Int)) ∧ (∀ x ∈ L, okI x) ∧ L.length = N ∧ n = N ∧ els = L.map itK ∧ a = [(0, T.pt 0 0), (1, T.c (C.i IntKind.i64 r)), (2, T.c (C.i IntKind.i64 c)), (6, T.pt 1 0), (7, T.pt 2 0)] ∧ m = [(0, Obj.box [T.c (C.sl B), T.c (C.i IntKind.i64 i), T.c (C.i IntKind.i64 g)]), (1, Obj.box [T.c (C.i IntKind.i64 0), T.c (C.i IntKind.i64 0), T.nil]), (2, Obj.box [T.c (C.i IntKind.i64 r), T.c (C.i IntKind.i64 c), T.rw 3 n cap]), (3, Obj.row els cap)]) 4
    ⟨0, 0, i, g, 0, 0, [], [], Nat.zero_le _, rfl, rfl, ⟨hi, hi2⟩, by simp, rfl, rfl, rfl, by cbv, by cbv⟩ ?_ ?_
  · rintro n' a m ⟨k, kk, i, g, cap, n, L, els, hk, hn', hkk, ⟨hi, hi2⟩, hL, hLl, hn, hels, rfl, rfl⟩
    have hel : els.length = k := by rw [hels, List.length_map, hLl]
    have hes : ∀ cs ∈ els, cs.length = 3 := by rw [hels]; exact memE
    refine W_run ti_ok hz 400 (by cbv) ?_
    refine W_cond (by cbv) (fun h => ?_) (fun h => ?_)
    rotate_left
    · rw [hmul, z_lss hz] at h
      have h := of_decide_eq_false h
      have e : k = N := by omega
      refine W_run ti_ok hz 400 (by cbv) ?_
      exact W_fin [0, 1, 2, 6, 7] [0, 1, 2, 3] (by cbv) (by cbv) ⟨i, g, cap, n, L, els, ⟨hi, hi2⟩, hL, by omega, by omega, hels, by cbv, by cbv⟩
    rw [hmul, z_lss hz] at h
    have h := of_decide_eq_true h
    have hlt : k < N := by omega
    refine W_run ti_ok hz 400 (by cbv) ?_
    refine W_callP [0] rfl (by cbv) (by cbv) (by kernel_rfl) (cb 7 (by omega) (by omega) i g hi hi2) ?_
    rintro t m1 ⟨⟨u, u0, u1, rfl⟩, i, g, hi, hi2, rfl⟩
    refine ⟨_, _, rfl, rfl, ?_⟩
    obtain ⟨u2, hu2⟩ := hide (u - 2)
    have z1 : zb .sub .i64 u 2 = u2 := by rw [z_sub hz (by omega) (by omega), hu2]
    have cn := ct_l2Num u2
    refine W_run ti_ok hz 400 (by cbv) ?_
    rw [z1]
    refine W_call (by cbv) (by kernel_rfl) (cn) ?_
    rintro t rfl
    refine W_run ti_ok hz 400 (by cbv) ?_
    refine W_callP [0] rfl (by cbv) (by cbv) (by kernel_rfl) (co 9 (by omega) (by omega) i g hi hi2) ?_
    rintro t m1 ⟨⟨b, rfl⟩, i, g, hi, hi2, rfl⟩
    refine ⟨_, _, rfl, rfl, ?_⟩
    refine W_run ti_ok hz 400 (by cbv) ?_
    refine W_cut (fun a m => ∃ (i g : Int) (x : It), (0 ≤ i ∧ i ≤ (B.length : Int)) ∧ okI x ∧ a = [(0, T.pt 0 0), (1, T.c (C.i IntKind.i64 r)), (2, T.c (C.i IntKind.i64 c)), (6, T.pt 1 0), (7, T.pt 2 0), (8, T.c (C.i IntKind.i64 kk)), (9, T.pt 4 0)] ∧ m = [(0, Obj.box [T.c (C.sl B), T.c (C.i IntKind.i64 i), T.c (C.i IntKind.i64 g)]), (1, Obj.box [T.c (C.i IntKind.i64 0), T.c (C.i IntKind.i64 0), T.nil]), (2, Obj.box [T.c (C.i IntKind.i64 r), T.c (C.i IntKind.i64 c), T.rw 3 n cap]), (3, Obj.row els cap), (4, Obj.box [T.c (C.i IntKind.i64 x.1), T.c (C.i IntKind.i64 x.2), T.c (C.s [])])]) 5 ?_ ?_
    · refine W_cond (by cbv) (fun h => ?_) (fun h => ?_)
      · refine W_run ti_ok hz 400 (by cbv) ?_
        refine W_callP [0] rfl (by cbv) (by cbv) (by kernel_rfl) (cd i g hi hi2) ?_
        rintro t m1 ⟨⟨x, hx, rfl⟩, i, g, hi, hi2, rfl⟩
        refine ⟨_, _, rfl, rfl, ?_⟩
        refine W_run ti_ok hz 400 (by cbv) ?_
        exact W_fin [0, 1, 2, 6, 7, 8, 9] [0, 1, 2, 3, 4] (by cbv) (by cbv) ⟨i, g, x, ⟨hi, hi2⟩, hx, by cbv, by cbv⟩
      · refine W_run ti_ok hz 400 (by cbv) ?_
        exact W_fin [0, 1, 2, 6, 7, 8, 9] [0, 1, 2, 3, 4] (by cbv) (by cbv) ⟨i, g, (u2, 1), ⟨hi, hi2⟩, .inr (num_wh (by omega) (by omega)), by cbv, by cbv⟩
    rintro a m ⟨i, g, x, ⟨hi, hi2⟩, hx, rfl, rfl⟩
    refine W_run ti_ok hz 400 (by cbv) ?_
    refine W_cut (fun a m => ∃ (x : It), okI x ∧ a = [(0, T.pt 0 0), (1, T.c (C.i IntKind.i64 r)), (2, T.c (C.i IntKind.i64 c)), (6, T.pt 1 0), (7, T.pt 2 0), (8, T.c (C.i IntKind.i64 kk)), (9, T.pt 4 0)] ∧ m = [(0, Obj.box [T.c (C.sl B), T.c (C.i IntKind.i64 i), T.c (C.i IntKind.i64 g)]), (1, Obj.box [T.c (C.i IntKind.i64 0), T.c (C.i IntKind.i64 0), T.nil]), (2, Obj.box [T.c (C.i IntKind.i64 r), T.c (C.i IntKind.i64 c), T.rw 3 n cap]), (3, Obj.row els cap), (4, Obj.box [T.c (C.i IntKind.i64 x.1), T.c (C.i IntKind.i64 x.2), T.c (C.s [])])]) 5 ?_ ?_
    · refine W_cond (by cbv) (fun h => ?_) (fun h => ?_)
      · refine W_run ti_ok hz 400 (by cbv) ?_
        refine W_call (by cbv) (by kernel_rfl) (c0) ?_
        rintro t rfl
        refine W_run ti_ok hz 400 (by cbv) ?_
        exact W_fin [0, 1, 2, 6, 7, 8, 9] [0, 1, 2, 3, 4] (by cbv) (by cbv) ⟨(0, 1), .inr (num_wh (by omega) (by omega)), by cbv, by cbv⟩
      · refine W_run ti_ok hz 400 (by cbv) ?_
        exact W_fin [0, 1, 2, 6, 7, 8, 9] [0, 1, 2, 3, 4] (by cbv) (by cbv) ⟨x, hx, by cbv, by cbv⟩
    clear hx x
    rintro a m ⟨x, hx, rfl, rfl⟩
    obtain ⟨x1, x2⟩ := x
    refine W_run ti_ok hz 400 (by cbv) ?_
    refine W_rowAppN ti_ok (by cbv) (by cbv) (hn.trans hel.symm) hes (by simp) (by simp; omega) (by simp) ?_
    intro cap' q1 q2
    obtain ⟨els2, he2⟩ := hide (els ++ [[C.i IntKind.i64 x1, C.i IntKind.i64 x2, C.s []]])
    rw [← he2]
    obtain ⟨n2, hn2⟩ := hide (els.length + [[C.i IntKind.i64 x1, C.i IntKind.i64 x2, C.s []]].length)
    rw [← hn2] at q1 ⊢
    have hn2 : n2 = k + 1 := by rw [hn2, hel]; rfl
    refine W_run ti_ok hz 400 (by cbv) ?_
    refine W_ren 6 3 (by cbv) (by cbv) (by cbv) (by cbv) ?_
    obtain ⟨kk1, hkk1⟩ := hide (kk + 1)
    have hadd : zb .add .i64 kk 1 = kk1 := by rw [z_add hz (by omega) (by omega), hkk1]
    rw [hadd]
    refine W_inv [0, 1, 2, 6, 7, 8] [0, 1, 2, 3] (N - (k + 1)) (by omega) (by cbv) (by cbv) ⟨k + 1, kk1, i, g, cap', n2, L ++ [(x1, x2)], els2, hlt, rfl, by rw [hkk1, hkk]; rfl, ⟨hi, hi2⟩, fun y hy => ?_, by simp [hLl], hn2, ?_, by cbv, by cbv⟩
    · rcases List.mem_append.1 hy with h | h
      · exact hL y h
      · rw [List.mem_singleton.1 h]; exact hx
    · rw [he2, hels, List.map_append]; rfl
  rintro a m ⟨i, g, cap, n, L, els, ⟨hi, hi2⟩, hL, hLl, hn, hels, rfl, rfl⟩
  refine W_run ti_ok hz 400 (by cbv) ?_
  refine W_keep [0, 1, 2, 6, 7, 10] [0, 1, 2, 3] 4 (by cbv) (by cbv) ?_
  refine W_loopS (fun n' a m => ∃ (k : Nat) (kk i g : Int) (L : List It) (els : List (List C)), k ≤ Cn ∧ n' = Cn - k ∧ kk = (k : Int) ∧ (0 ≤ i ∧ i ≤ (B.length : Int)) ∧ (∀ x ∈ L, okI x) ∧ L.length = N ∧ els = L.map itK ∧ a = [(0, T.pt 0 0), (1, T.c (C.i IntKind.i64 r)), (2, T.c (C.i IntKind.i64 c)), (6, T.pt 1 0), (7, T.pt 2 0), (10, T.c (C.i IntKind.i64 kk))] ∧ m = [(0, Obj.box [T.c (C.sl B), T.c (C.i IntKind.i64 i), T.c (C.i IntKind.i64 g)]), (1, Obj.box [T.c (C.i IntKind.i64 0), T.c (C.i IntKind.i64 0), T.nil]), (2, Obj.box [T.c (C.i IntKind.i64 r), T.c (C.i IntKind.i64 c), T.rw 3 n cap]), (3, Obj.row els cap)]) Cn
    (fun a m => ∃ (i g : Int) (L : List It) (els : List (List C)), (0 ≤ i ∧ i ≤ (B.length : Int)) ∧ (∀ x ∈ L, okI x) ∧ L.length = N ∧ els = L.map itK ∧ a = [(0, T.pt 0 0), (1, T.c (C.i IntKind.i64 r)), (2, T.c (C.i IntKind.i64 c)), (6, T.pt 1 0), (7, T.pt 2 0)] ∧ m = [(0, Obj.box [T.c (C.sl B), T.c (C.i IntKind.i64 i), T.c (C.i IntKind.i64 g)]), (1, Obj.box [T.c (C.i IntKind.i64 0), T.c (C.i IntKind.i64 0), T.nil]), (2, Obj.box [T.c (C.i IntKind.i64 r), T.c (C.i IntKind.i64 c), T.rw 3 n cap]), (3, Obj.row els cap)]) 4
    ⟨0, 0, i, g, L, els, Nat.zero_le _, rfl, rfl, ⟨hi, hi2⟩, hL, hLl, hels, by cbv, by cbv⟩ ?_ ?_
  · rintro n' a m ⟨k, kk, i, g, L, els, hk, hn', hkk, ⟨hi, hi2⟩, hL, hLl, hels, rfl, rfl⟩
    refine W_run ti_ok hz 400 (by cbv) ?_
    by_cases hr1 : 1 < R
    rotate_left
    · refine W_bool 41 (by cbv) (show _ = false by rw [z_gtr hz]; exact decide_eq_false (by omega)) ?_
      refine W_run ti_ok hz 400 (by cbv) ?_
      exact W_fin [0, 1, 2, 6, 7] [0, 1, 2, 3] (by cbv) (by cbv) ⟨i, g, L, els, ⟨hi, hi2⟩, hL, hLl, hels, by cbv, by cbv⟩
    refine W_bool 41 (by cbv) (show _ = true by rw [z_gtr hz]; exact decide_eq_true (by omega)) ?_
    refine W_run ti_ok hz 400 (by cbv) ?_
    refine W_callP [0] rfl (by cbv) (by cbv) (by kernel_rfl) (co 3 (by omega) (by omega) i g hi hi2) ?_
    rintro t m1 ⟨⟨b, rfl⟩, i, g, hi, hi2, rfl⟩
    refine ⟨_, _, rfl, rfl, ?_⟩
    refine W_run ti_ok hz 400 (by cbv) ?_
    cases b with
    | false =>
      refine W_bool 45 (by cbv) (rfl) ?_
      refine W_run ti_ok hz 400 (by cbv) ?_
      exact W_fin [0, 1, 2, 6, 7] [0, 1, 2, 3] (by cbv) (by cbv) ⟨i, g, L, els, ⟨hi, hi2⟩, hL, hLl, hels, by cbv, by cbv⟩
    | true =>
    refine W_bool 45 (by cbv) (rfl) ?_
    refine W_run ti_ok hz 400 (by cbv) ?_
    refine W_cond (by cbv) (fun h => ?_) (fun h => ?_)
    rotate_left
    · refine W_run ti_ok hz 400 (by cbv) ?_
      exact W_fin [0, 1, 2, 6, 7] [0, 1, 2, 3] (by cbv) (by cbv) ⟨i, g, L, els, ⟨hi, hi2⟩, hL, hLl, hels, by cbv, by cbv⟩
    rw [z_lss hz] at h
    have h := of_decide_eq_true h
    have hlt : k < Cn := by omega
    have l1 := at_lt (show R - 1 < R by omega) hlt
    have l2 := at_lt (show 0 < R by omega) hlt
    rw [← hN] at l1 l2
    rw [Nat.zero_mul, Nat.zero_add] at l2
    obtain ⟨x, hx⟩ : ∃ x, L[k]? = some x := ⟨_, List.getElem?_eq_getElem (by omega)⟩
    obtain ⟨y, hy⟩ : ∃ y, L[(R - 1) * Cn + k]? = some y := ⟨_, List.getElem?_eq_getElem (by omega)⟩
    have e1 : els[k]? = some (itK x) := by rw [hels, List.getElem?_map, hx]; rfl
    have e2 : els[(R - 1) * Cn + k]? = some (itK y) := by rw [hels, List.getElem?_map, hy]; rfl
    have e3 : els.set ((R - 1) * Cn + k) (itK x) = (L.set ((R - 1) * Cn + k) x).map itK := by rw [hels, List.map_set]
    have g1 : zb .add .i64 (zb .mul .i64 (zb .sub .i64 r 1) c) kk = (((R - 1) * Cn + k : Nat) : Int) := by
      have e : r - 1 = ((R - 1 : Nat) : Int) := by omega
      have e' : (r - 1) * c = (((R - 1) * Cn : Nat) : Int) := by rw [e, hc]; simp
      have := mul_le144 (show R - 1 ≤ R by omega) hR hC
      rw [z_sub hz (by omega) (by omega), z_mul hz (by omega) (by omega), e', z_add hz (by omega) (by omega), hkk]
      omega
    have hLx : ∀ z ∈ L.set ((R - 1) * Cn + k) x, okI z := fun z hz' => by
      rcases List.mem_or_eq_of_mem_set hz' with h' | rfl
      · exact hL z h'
      · exact hL z (List.mem_of_getElem? hx)
    obtain ⟨J, hJ⟩ := hide ((R - 1) * Cn + k)
    rw [← hJ] at l1 e2 e3 g1 hLx
    obtain ⟨els2, hE⟩ := hide (els.set J (itK x))
    rw [← hE] at e3
    have q1 : J < n := by omega
    have q2 : k < n := by omega
    clear hx hy hJ
    obtain ⟨x1, x2⟩ := x
    refine W_run ti_ok hz 400 (by cbv) ?_
    refine W_draw mixedB [(2, 0), (1, 1), (2, 2), (2, 3), (2, 4), (2, 5), (2, 6), (2, 7), (2, 8), (1, 9), (2, 10), (2, 11), (1, 12), (2, 13), (0, 14)] [14] (by kernel_rfl) ?_
    refine D_run ti_ok hz 400 (by cbv) ?_
    refine D_val (by cbv) (by cbv) (by cbv) (Val_rwAt ti_ok (by cbv) k hkk q2) ?_
    refine D_run ti_ok hz 400 (by cbv) ?_
    refine D_peLd1 ti_ok (by cbv) (by cbv) (by cbv) (by cbv) (by cbv) e1 rfl (by cbv) ?_
    refine D_run ti_ok hz 400 (by cbv) ?_
    refine D_val (by cbv) (by cbv) (by cbv) (Val_rwAt ti_ok (by cbv) J g1 q1) ?_
    refine D_peStLast ti_ok (by cbv) (by cbv) (by cbv) (by cbv) (by cbv) (by cbv) e2 rfl (by rfl) (by rfl) ?_
    rw [show els.set J [C.i IntKind.i64 x1, C.i IntKind.i64 x2, C.s []] = els2 from hE.symm]
    refine W_run ti_ok hz 400 (by cbv) ?_
    obtain ⟨kk1, hkk1⟩ := hide (kk + 1)
    have hadd : zb .add .i64 kk 1 = kk1 := by rw [z_add hz (by omega) (by omega), hkk1]
    rw [hadd]
    exact W_inv [0, 1, 2, 6, 7, 10] [0, 1, 2, 3] (Cn - (k + 1)) (by omega) (by cbv) (by cbv) ⟨k + 1, kk1, i, g, L.set J (x1, x2), els2, hlt, rfl, by rw [hkk1, hkk]; rfl, ⟨hi, hi2⟩, hLx, by rw [List.length_set, hLl], e3, by cbv, by cbv⟩
  rintro a m ⟨i, g, L, els, ⟨hi, hi2⟩, hL, hLl, hels, rfl, rfl⟩
  refine W_run ti_ok hz 400 (by cbv) ?_
  refine W_retP ti_ok [0, 3] rfl (by cbv) (by cbv) (by cbv) ?_
  exact ⟨i, g, cap, n, L, els, ⟨hi, hi2⟩, hL, hLl, hn, hels, rfl, rfl⟩
def AnyR (B : List (List C)) (t : T) (m : Mem) : Prop := (∃ (r c : Int) (L : List It) (els : List (List C)), (-13 ≤ r ∧ r ≤ 13) ∧ (-13 ≤ c ∧ c ≤ 13) ∧ (∀ x ∈ L, okI x) ∧ L.length ≤ 1000 ∧ els = L.map itK ∧ t = .ag [.c (.i .i64 r), .c (.i .i64 c), .c (.sl els)]) ∧ Cu B m
set_option maxHeartbeats 32000000 in
theorem ct_l14Any (B : List (List C)) (hB : ByteL B) (i g : Int) (hi : 0 ≤ i) (hi2 : i ≤ (B.length : Int)) : CtP Try.prog 15 [.pt 0 0] [(0, curO B i g)] 1 1 (AnyR B) := by
  have cb := fun n n1 n2 i h hi hi2 => ct_l1Below B hB n n1 n2 i h hi hi2
  have cp := fun els e1 e2 hel i h hi hi2 => ct_l1PickInt B hB els e1 e2 hel i h hi hi2
  have cd := fun R Cn hR hC i h hi hi2 => ct_l14Draw B hB R Cn hR hC i h hi hi2
  unfold MatR at cd
  unfold curO at cb cp cd ⊢
  obtain ⟨zb, zc, zs, zl, zn, zt, zp, zg, zv, zx, zm, hz⟩ := Vm.zE
  refine CtP_of_W Try.func15 rfl (Nat.le_of_ble_eq_true rfl) fun w0 Z0 ρ0 => ?_
  refine W_run ti_ok hz 400 (by cbv) ?_
  refine W_callP [0] rfl (by cbv) (by cbv) (by kernel_rfl) (cb 5 (by omega) (by omega) i g hi hi2) ?_
  rintro t m1 ⟨⟨nn, n0, n1, rfl⟩, i, g, hi, hi2, rfl⟩
  refine ⟨_, _, rfl, rfl, ?_⟩
  refine W_run ti_ok hz 400 (by cbv) ?_
  refine W_callP [0] rfl (by cbv) (by cbv) (by kernel_rfl) (cb 5 (by omega) (by omega) i g hi hi2) ?_
  rintro t m1 ⟨⟨v, v0, v1, rfl⟩, i, g, hi, hi2, rfl⟩
  refine ⟨_, _, rfl, rfl, ?_⟩
  have hA := cp [[C.i .i64 nn], [C.i .i64 nn], [C.i .i64 nn], [C.i .i64 v]] (by simp) (by simp) (by simp)
  refine W_run ti_ok hz 400 (by cbv) ?_
  refine W_callP [0] rfl (by cbv) (by cbv) (by kernel_rfl) (hA i g hi hi2) ?_
  rintro t m1 ⟨⟨w, hw, rfl⟩, i, g, hi, hi2, rfl⟩
  refine ⟨_, _, rfl, rfl, ?_⟩
  have hw : 0 ≤ w ∧ w < 5 := by
    simp only [List.mem_cons, List.cons.injEq, C.i.injEq, true_and, and_true, List.not_mem_nil, or_false] at hw
    rcases hw with rfl | rfl | rfl | rfl <;> exact ⟨by omega, by omega⟩
  obtain ⟨R, hR⟩ := Int.eq_ofNat_of_zero_le n0
  obtain ⟨Cn, hC⟩ := Int.eq_ofNat_of_zero_le hw.1
  have c1 := cd R Cn (by omega) (by omega) i g hi hi2
  rw [← hR, ← hC] at c1
  have h144 := mul_le144 (Nat.le_refl R) (show R ≤ 12 by omega) (show Cn ≤ 12 by omega)
  refine W_run ti_ok hz 400 (by cbv) ?_
  refine W_callP [0] rfl (by cbv) (by cbv) (by kernel_rfl) (c1) ?_
  rintro t m1 ⟨i, g, cap, n, L, els, ⟨hi, hi2⟩, hL, hLl, hn, hels, rfl, rfl⟩
  refine ⟨_, _, rfl, rfl, ?_⟩
  have hnl : n = els.length := by rw [hels, List.length_map, hLl, hn]
  have hes : ∀ cs ∈ els, cs.length = 3 := by rw [hels]; exact memE
  refine W_run ti_ok hz 400 (by cbv) ?_
  refine W_callP [0] rfl (by cbv) (by cbv) (by kernel_rfl) (cb 20 (by omega) (by omega) i g hi hi2) ?_
  rintro t m1 ⟨⟨x, x0, x1, rfl⟩, i, g, hi, hi2, rfl⟩
  refine ⟨_, _, rfl, rfl, ?_⟩
  refine W_run ti_ok hz 400 (by cbv) ?_
  refine W_cut (fun a m => ∃ (i g r' : Int) (cap n : Nat) (L : List It) (els : List (List C)), (0 ≤ i ∧ i ≤ (B.length : Int)) ∧ (-13 ≤ r' ∧ r' ≤ 13) ∧ (∀ x ∈ L, okI x) ∧ L.length ≤ 1000 ∧ n = els.length ∧ els = L.map itK ∧ a = [(2, T.pt 1 0), (4, T.pt 6 0)] ∧
      m = [(0, Obj.box [T.c (C.sl B), T.c (C.i IntKind.i64 i), T.c (C.i IntKind.i64 g)]), (1, Obj.box [T.c (C.i IntKind.i64 0), T.c (C.i IntKind.i64 0), T.nil]), (5, Obj.row els cap), (6, Obj.box [T.c (C.i IntKind.i64 r'), T.c (C.i IntKind.i64 w), T.rw 5 n cap])]) 7 ?_ ?_
  · refine W_cond (by cbv) (fun h => ?_) (fun h => ?_)
    · refine W_run ti_ok hz 400 (by cbv) ?_
      have hB3 := cp [[C.i .i64 13], [C.i .i64 (-1)], [C.i .i64 2]] (by decide) (by decide) (by simp)
      refine W_callP [0] rfl (by cbv) (by cbv) (by kernel_rfl) (hB3 i g hi hi2) ?_
      rintro t m1 ⟨⟨u, hu, rfl⟩, i, g, hi, hi2, rfl⟩
      refine ⟨_, _, rfl, rfl, ?_⟩
      have hu : -13 ≤ u ∧ u ≤ 13 := by
        simp only [List.mem_cons, List.cons.injEq, C.i.injEq, true_and, and_true, List.not_mem_nil, or_false] at hu
        rcases hu with rfl | rfl | rfl <;> exact ⟨by decide, by decide⟩
      refine W_run ti_ok hz 400 (by cbv) ?_
      exact W_fin [2, 4] [0, 1, 5, 6] (by cbv) (by cbv) ⟨i, g, u, cap, n, L, els, ⟨hi, hi2⟩, hu, hL, by omega, hnl, hels, by cbv, by cbv⟩
    · refine W_run ti_ok hz 400 (by cbv) ?_
      refine W_cond (by cbv) (fun h => ?_) (fun h => ?_)
      · refine W_run ti_ok hz 400 (by cbv) ?_
        refine W_rowAppN ti_ok (by cbv) (by cbv) hnl hes (by simp) (by rw [← hnl]; simp; omega) (by simp) ?_
        intro cap' q1 q2
        obtain ⟨els2, he2⟩ := hide (els ++ [[C.i IntKind.i64 0, C.i IntKind.i64 0, C.s []]])
        rw [← he2]
        obtain ⟨n2, hn2⟩ := hide (els.length + [[C.i IntKind.i64 0, C.i IntKind.i64 0, C.s []]].length)
        rw [← hn2] at q1 ⊢
        have hn3 : n2 = els2.length := by rw [hn2, he2]; simp
        have he3 : els2 = (L ++ [(0, 0)]).map itK := by rw [he2, hels, List.map_append]; rfl
        refine W_run ti_ok hz 400 (by cbv) ?_
        refine W_ren 8 5 (by cbv) (by cbv) (by cbv) (by cbv) ?_
        refine W_fin [2, 4] [0, 1, 5, 6] (by cbv) (by cbv) ⟨i, g, nn, cap', n2, L ++ [(0, 0)], els2, ⟨hi, hi2⟩, ⟨by omega, by omega⟩, fun y hy => ?_, by simp; omega, hn3, he3, by cbv, by cbv⟩
        rcases List.mem_append.1 hy with h | h
        · exact hL y h
        · rw [List.mem_singleton.1 h]; exact okI_zero
      · refine W_run ti_ok hz 400 (by cbv) ?_
        exact W_fin [2, 4] [0, 1, 5, 6] (by cbv) (by cbv) ⟨i, g, nn, cap, n, L, els, ⟨hi, hi2⟩, ⟨by omega, by omega⟩, hL, by omega, hnl, hels, by cbv, by cbv⟩
  rintro a m ⟨i, g, r', cap, n, L, els, ⟨hi, hi2⟩, hr', hL, hLl, hnl, hels, rfl, rfl⟩
  refine W_freezeC 6 2 (by cbv) (by cbv) (by cbv) hnl ?_
  refine W_run ti_ok hz 400 (by cbv) ?_
  refine W_retP ti_ok [0] rfl (by cbv) (by cbv) (by cbv) ?_
  exact ⟨⟨r', w, L, els, hr', ⟨by omega, by omega⟩, hL, hLl, hels, rfl⟩, i, g, hi, hi2, rfl⟩
def DrawR (t : T) : Prop := ∃ (r c : Int) (L : List It), (-13 ≤ r ∧ r ≤ 13) ∧ (-13 ≤ c ∧ c ≤ 13) ∧ (∀ x ∈ L, okI x) ∧ L.length ≤ 1000 ∧ t = mtT r c L
theorem ct_DrawReduceRows (B : List (List C)) (hB : ByteL B) : Ct Try.prog 5 [.c (.sl B)] DrawR := by
  have c1 := ct_l1New B hB
  have c2 := fun i h hi hi2 => ct_l14Any B hB i h hi hi2
  unfold AnyR at c2
  unfold curO at c2
  obtain ⟨zb, zc, zs, zl, zn, zt, zp, zg, zv, zx, zm, hz⟩ := Vm.zE
  refine Ct_of_W Try.func5 rfl (Nat.le_of_ble_eq_true rfl) fun w0 Z0 => ?_
  refine W_run ti_ok hz 400 (by cbv) ?_
  refine W_callP [] rfl (by cbv) (by cbv) (by kernel_rfl) (c1) ?_
  rintro t m1 ⟨rfl, i, g, hi, hi2, rfl⟩
  refine ⟨_, _, rfl, rfl, ?_⟩
  refine W_run ti_ok hz 400 (by cbv) ?_
  refine W_callP [1] rfl (by cbv) (by cbv) (by kernel_rfl) (c2 i g hi hi2) ?_
  rintro t m1 ⟨⟨r, c, L, els, hr, hc, hL, hLl, hels, rfl⟩, i, g, hi, hi2, rfl⟩
  refine ⟨_, _, rfl, rfl, ?_⟩
  refine W_run ti_ok hz 400 (by cbv) ?_
  refine W_ret ti_ok rfl (by cbv) ?_
  exact ⟨r, c, L, hr, hc, hL, hLl, by rw [hels]; rfl⟩
end Go.Proofs.Ytconhpilbndpkaa
