/-
  Contracts on trees: copies and zero matrices (rows of one's own).
-/
import Derived.Test.YtconhpilbndpkaaVmMatE
namespace Go.Proofs.Ytconhpilbndpkaa
set_option maxRecDepth 100000
open Go.RowKit Go.Proofs.Ytconhpilbndpkaa.Vm
set_option linter.unusedVariables false

theorem ct_l2Num (n : Int) : Ct Try.prog 41 [.c (.i .i64 n)] (fun t => t = itT (n, 1)) := by
  obtain ⟨zb, zc, zs, zl, zn, zt, zp, zg, zv, zx, zm, hz⟩ := Vm.zE
  refine Ct_of_W Try.func41 rfl (Nat.le_of_ble_eq_true rfl) fun w0 Z0 => ?_
  refine W_run ti_ok hz 400 (by cbv) ?_
  refine W_ret ti_ok rfl (by cbv) ?_
  rfl
theorem ct_intItem (n : Int) (h1 : -999999999 ≤ n) (h2 : n ≤ 999999999) : Ct Try.prog 26 [.c (.i .i64 n)] (fun t => t = itT (n, 1)) := by
  have c1 := ct_MakeNumber n 1 ⟨by omega, by omega⟩ ⟨by omega, by omega⟩
  rw [mk_wh h1 h2] at c1
  unfold wh at c1
  obtain ⟨zb, zc, zs, zl, zn, zt, zp, zg, zv, zx, zm, hz⟩ := Vm.zE
  refine Ct_of_W Try.func26 rfl (Nat.le_of_ble_eq_true rfl) fun w0 Z0 => ?_
  refine W_run ti_ok hz 400 (by cbv) ?_
  refine W_call (by cbv) (by kernel_rfl) (c1) ?_
  rintro t rfl
  refine W_run ti_ok hz 400 (by cbv) ?_
  refine W_ret ti_ok rfl (by cbv) ?_
  rfl
def RowOut (I : List (List C)) (t : T) (m : Mem) : Prop := ∃ (cap n : Nat), n = I.length ∧ t = .rw 0 n cap ∧ m = [(0, .row I cap)]
set_option maxHeartbeats 4000000 in
theorem ct_copyItems (L : List It) (h0 : 0 < L.length) (hn : L.length ≤ 1000) : CtP Try.prog 37 [.c (.sl (L.map itK))] [] 0 1 (RowOut (L.map itK)) := by
  have hs : ∀ cs ∈ L.map itK, cs.length = 3 := fun cs h => by
    obtain ⟨x, _, rfl⟩ := List.mem_map.1 h
    rfl
  have hl : (L.map itK).length = L.length := by simp
  obtain ⟨I, hI⟩ := hide (L.map itK)
  rw [← hI] at hs hl ⊢
  clear hI
  obtain ⟨zb, zc, zs, zl, zn, zt, zp, zg, zv, zx, zm, hz⟩ := Vm.zE
  refine CtP_of_W Try.func37 rfl (Nat.le_of_ble_eq_true rfl) fun w0 Z0 ρ0 => ?_
  refine W_run ti_ok hz 400 (by cbv) ?_
  refine W_tokRow 3 (by cbv) (by cbv) ?_
  refine W_rowAppN (els := []) (id := 1) (cap := 0) (n := 0) ti_ok (by cbv) (by cbv) rfl (by intro cs h; cases h) hs (by simp; omega) (by omega) ?_
  intro cap q1 q2
  rw [List.nil_append]
  obtain ⟨n, hn'⟩ := hide (([] : List (List C)).length + I.length)
  rw [← hn'] at q1 ⊢
  have hn' : n = I.length := by rw [hn']; simp
  refine W_run ti_ok hz 400 (by cbv) ?_
  refine W_ren 2 0 (by cbv) (by cbv) (by cbv) (by cbv) ?_
  refine W_retP ti_ok [0] rfl (by cbv) (by cbv) (by cbv) ?_
  exact ⟨cap, n, hn', rfl, rfl⟩
set_option maxHeartbeats 8000000 in
theorem ct_l14Zero (R Cn : Nat) (hR : R ≤ 12) (hC : Cn ≤ 12) : CtP Try.prog 29 [.c (.i .i64 (R : Int)), .c (.i .i64 (Cn : Int))] [] 0 3 (fun t m => ∃ (cap n : Nat) (els : List (List C)), els = (gridL (fun _ _ => wh 0) Cn R).map itK ∧ n = els.length ∧ t = .ag [.c (.i .i64 (R : Int)), .c (.i .i64 (Cn : Int)), .rw 2 n cap] ∧ m = [(2, .row els cap)]) := by
  have h144 : R * Cn ≤ 144 := mul_le144 (Nat.le_refl _) hR hC
  have hgr : (gridL (fun _ _ => wh 0) Cn R).map itK = rowL (fun _ => itK (wh 0)) (R * Cn) := by
    apply List.ext_getElem?
    intro k
    rw [List.getElem?_map]
    by_cases hk : k < R * Cn
    · rw [rowL_get _ _ _ hk]
      have hk' : k < (gridL (fun _ _ => wh 0) Cn R).length := by rw [gridL_length]; exact hk
      rw [List.getElem?_eq_getElem hk']
      obtain ⟨i, j, _, _, e⟩ := grid_mem (List.getElem_mem hk')
      rw [e]; rfl
    · rw [List.getElem?_eq_none (by rw [gridL_length]; omega), List.getElem?_eq_none (by rw [rowL_length]; omega)]
      rfl
  rw [hgr]
  have c1 := ct_l2Num 0
  obtain ⟨N, hN⟩ := hide (R * Cn)
  rw [← hN] at h144 ⊢
  have hrc : (R : Int) * (Cn : Int) = (N : Int) := by rw [hN]; simp
  have hr0 : (0 : Int) ≤ R ∧ (R : Int) ≤ 12 := ⟨by omega, by omega⟩
  have hc0 : (0 : Int) ≤ Cn ∧ (Cn : Int) ≤ 12 := ⟨by omega, by omega⟩
  obtain ⟨r, hr⟩ := hide (R : Int)
  obtain ⟨c, hc⟩ := hide (Cn : Int)
  rw [← hr, ← hc] at hrc ⊢
  rw [← hr] at hr0
  rw [← hc] at hc0
  clear hr hc hN hgr
  obtain ⟨zb, zc, zs, zl, zn, zt, zp, zg, zv, zx, zm, hz⟩ := Vm.zE
  obtain ⟨p, hp⟩ := hide (r * c)
  have hmul : zb .mul .i64 r c = p := by rw [hp, z_mul hz (by omega) (by omega)]
  refine CtP_of_W Try.func29 rfl (Nat.le_of_ble_eq_true rfl) fun w0 Z0 ρ0 => ?_
  refine W_run ti_ok hz 400 (by cbv) ?_
  refine W_nilRowB 1 2 (by cbv) (by cbv) ?_
  refine W_keep [0, 1, 4, 5, 6] [0, 1, 2] 3 (by cbv) (by cbv) ?_
  refine W_loop (fun n a m => ∃ (k : Nat) (ik : Int) (cap l : Nat) (els : List (List C)), k ≤ N ∧ n = N - k ∧ ik = (k : Int) ∧ els = rowL (fun _ => itK (wh 0)) k ∧ l = els.length ∧
      a = [(0, T.c (C.i IntKind.i64 r)), (1, T.c (C.i IntKind.i64 c)), (4, T.pt 0 0), (5, T.pt 1 0), (6, T.c (C.i IntKind.i64 ik))] ∧
      m = [(0, Obj.box [T.c (C.i IntKind.i64 0), T.c (C.i IntKind.i64 0), T.nil]), (1, Obj.box [T.c (C.i IntKind.i64 r), T.c (C.i IntKind.i64 c), T.rw 2 l cap]), (2, Obj.row els cap)]) N ⟨0, 0, 0, 0, [], Nat.zero_le _, rfl, rfl, rfl, rfl, by cbv, by cbv⟩ ?_
  rintro n a m ⟨k, ik, cap, l, els, hk, hn, hik, hels, hl, rfl, rfl⟩
  have hel : els.length = k := by rw [hels, rowL_length]
  have hes : ∀ cs ∈ els, cs.length = 3 := fun cs h => by
    rw [hels] at h
    obtain ⟨i, hi, rfl⟩ := List.getElem_of_mem h
    have := rowL_get (fun _ => itK (wh 0)) k i (by rw [rowL_length] at hi; exact hi)
    rw [List.getElem?_eq_getElem hi] at this
    injection this with this
    rw [this]; rfl
  refine W_run ti_ok hz 400 (by cbv) ?_
  refine W_cond (by cbv) (fun h => ?_) (fun h => ?_)
  · rw [hmul, z_lss hz] at h
    have h := of_decide_eq_true h
    have hlt : k < N := by omega
    refine W_run ti_ok hz 400 (by cbv) ?_
    refine W_drawM mixedB [0, 1] [(2, 0), (1, 1), (0, 2), (0, 3), (0, 4), (2, 5), (0, 6)] [6] (by kernel_rfl) ?_
    refine D_run ti_ok hz 400 (by cbv) ?_
    refine D_call (by cbv) (by cbv) (by kernel_rfl) (c1) ?_
    rintro t rfl
    refine D_run ti_ok hz 400 (by cbv) ?_
    refine D_rowAppN ti_ok (by cbv) (by cbv) (by cbv) (by cbv) hl hes (by simp) (by simp; omega) (by simp) ?_
    intro cap' q1 q2
    obtain ⟨els2, he2⟩ := hide (els ++ [[C.i IntKind.i64 0, C.i IntKind.i64 1, C.s []]])
    rw [← he2]
    obtain ⟨l2, hl2⟩ := hide (els.length + [[C.i IntKind.i64 0, C.i IntKind.i64 1, C.s []]].length)
    rw [← hl2] at q1 ⊢
    refine D_run ti_ok hz 400 (by cbv) ?_
    refine D_last ti_ok hz (by cbv) (by cbv) (by cbv) (by cbv) (by cbv) ?_
    refine W_run ti_ok hz 400 (by cbv) ?_
    refine W_ren 4 2 (by cbv) (by cbv) (by cbv) (by cbv) ?_
    obtain ⟨ik1, hik1⟩ := hide (ik + 1)
    have hadd : zb .add .i64 ik 1 = ik1 := by rw [z_add hz (by omega) (by omega), hik1]
    rw [hadd]
    refine W_inv [0, 1, 4, 5, 6] [0, 1, 2] (N - (k + 1)) (by omega) (by cbv) (by cbv) ⟨k + 1, ik1, cap', l2, els2, hlt, rfl, by rw [hik1, hik]; rfl, ?_, ?_, by cbv, by cbv⟩
    · rw [he2, hels, rowL]; rfl
    · rw [hl2, he2]; simp
  · rw [hmul, z_lss hz] at h
    have h := of_decide_eq_false h
    have hke : k = N := by omega
    refine W_run ti_ok hz 400 (by cbv) ?_
    refine W_retP ti_ok [2] rfl (by cbv) (by cbv) (by cbv) ?_
    exact ⟨cap, l, els, by rw [hels, hke], hl, rfl, rfl⟩
end Go.Proofs.Ytconhpilbndpkaa
