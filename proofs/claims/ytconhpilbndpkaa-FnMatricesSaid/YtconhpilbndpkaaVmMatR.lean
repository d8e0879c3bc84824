/-
  Contracts on trees: products of matrices, the reference's way, with the kind of the cells.
-/
import Derived.Test.YtconhpilbndpkaaVmMatG
namespace Go.Proofs.Ytconhpilbndpkaa
set_option maxRecDepth 100000
open Go.RowKit Go.Proofs.Ytconhpilbndpkaa.Vm
set_option linter.unusedVariables false

set_option maxHeartbeats 16000000 in
theorem ct_sMultiply2 (R K Cn : Nat) (A B : List It) (hA : isM R K A = true) (hB : isM K Cn B = true) : Ct Try.prog 14 [mtT R K A, mtT K Cn B]
    (fun t => ∃ x y z, t = .tu [.ag [.c x, .c y, z], .c (.b ((gridL (mulF A B K Cn) Cn R).all isN))] ∧ (z = .nil ∨ ∃ e, z = .c (.sl e))) := by
  obtain ⟨R', K', eR, eK, hR, hK, hlA, hallA⟩ := isM_nat hA
  have eR : R = R' := by omega
  have eK : K = K' := by omega
  subst eR eK
  obtain ⟨K', Cn', eK, eC, _, hC, hlB, hallB⟩ := isM_nat hB
  have eK : K = K' := by omega
  have eC : Cn = Cn' := by omega
  subst eK eC
  have h1 := mul_le144 (Nat.le_refl R) hR hK
  have h2 := mul_le144 (Nat.le_refl K) hK hC
  have h3 := mul_le144 (Nat.le_refl R) hR hC
  have c1 := ct_sIsMatrix R K A (fun x h => isN_ok (hallA x h)) (by omega)
  have c2 := ct_sIsMatrix K Cn B (fun x h => isN_ok (hallB x h)) (by omega)
  rw [hA] at c1
  rw [hB] at c2
  have okA : ∀ i k, i < R → k < K → okI (cel A K i k) := fun i k hi hk => isN_ok (hallA _ (List.mem_of_getElem? (cel_get hlA hi hk)))
  have okB : ∀ k j, k < K → j < Cn → okI (cel B Cn k j) := fun k j hk hj => isN_ok (hallB _ (List.mem_of_getElem? (cel_get hlB hk hj)))
  have eA : ∀ i k : Nat, i < R → k < K → ∀ x, x = cel A K i k → (A.map itK)[i * K + k]? = some (itK x) := fun i k hi hk x hx => by
    subst hx
    rw [List.getElem?_map, cel_get hlA hi hk]; rfl
  have eB : ∀ k j : Nat, k < K → j < Cn → ∀ x, x = cel B Cn k j → (B.map itK)[k * Cn + j]? = some (itK x) := fun k j hk hj x hx => by
    subst hx
    rw [List.getElem?_map, cel_get hlB hk hj]; rfl
  have cZ := ct_l14Zero R Cn hR hC
  obtain ⟨f, hf⟩ := hide (mulF A B K Cn)
  rw [← hf]
  have hfe : ∀ i j, f i j = sumI (fun k => mulI (cel A K i k) (cel B Cn k j)) K := fun i j => by rw [hf]; rfl
  have okF : ∀ i j, okI (f i j) := fun i j => by rw [hfe]; exact sum_ok _ _
  have cO := ct_l14Known R Cn (gridL f Cn R) (fun x h => by
    obtain ⟨i, j, _, _, rfl⟩ := grid_mem h
    exact okF _ _) (by rw [gridL_length]; omega)
  obtain ⟨b, hb⟩ := hide ((gridL f Cn R).all isN)
  rw [← hb] at cO ⊢
  have hlen : ∀ M : Mx, ((gridL M Cn R).map itK).length = R * Cn := fun M => by rw [List.length_map, gridL_length]
  unfold mtT at c1 c2 cO ⊢
  obtain ⟨IA, hIA⟩ := hide (A.map itK)
  obtain ⟨IB, hIB⟩ := hide (B.map itK)
  obtain ⟨IO, hIO⟩ := hide ((gridL f Cn R).map itK)
  rw [← hIA] at c1 eA ⊢
  rw [← hIB] at c2 eB ⊢
  rw [← hIO] at cO
  obtain ⟨r, hr⟩ := hide (R : Int)
  obtain ⟨q, hq⟩ := hide (K : Int)
  obtain ⟨c, hc⟩ := hide (Cn : Int)
  rw [← hr, ← hq] at c1
  rw [← hq, ← hc] at c2
  rw [← hr, ← hc] at cO cZ
  rw [← hr, ← hq, ← hc]
  clear hf hIA hIB hallA hallB hb hA hB
  obtain ⟨zb, zc, zs, zl, zn, zt, zp, zg, zv, zx, zm, hz⟩ := Vm.zE
  refine Ct_of_W Try.func14 rfl (Nat.le_of_ble_eq_true rfl) fun w0 Z0 => ?_
  refine W_run ti_ok hz 400 (by cbv) ?_
  refine W_call (by cbv) (by kernel_rfl) (c1) ?_
  rintro t rfl
  refine W_run ti_ok hz 400 (by cbv) ?_
  refine W_bool 13 (by cbv) (show _ = false by rw [z_not hz]; rfl) ?_
  refine W_run ti_ok hz 400 (by cbv) ?_
  refine W_call (by cbv) (by kernel_rfl) (c2) ?_
  rintro t rfl
  refine W_run ti_ok hz 400 (by cbv) ?_
  refine W_bool 18 (by cbv) (show _ = false by rw [z_not hz]; rfl) ?_
  refine W_run ti_ok hz 400 (by cbv) ?_
  refine W_bool 24 (by cbv) (show _ = false by rw [z_neq hz]; simp) ?_
  refine W_run ti_ok hz 400 (by cbv) ?_
  refine W_callP [] rfl (by cbv) (by cbv) (by kernel_rfl) (cZ) ?_
  rintro t m1 ⟨cap, n, els, hels, hn, rfl, rfl⟩
  refine ⟨_, _, rfl, rfl, ?_⟩
  refine W_run ti_ok hz 400 (by cbv) ?_
  refine W_keep [2, 3, 4, 5, 6, 7] [0, 1, 2, 5, 6] 7 (by cbv) (by cbv) ?_
  have hn0 : n = R * Cn := by rw [hn, hels, hlen]
  refine W_loop (fun n' a m => ∃ (i : Nat) (ik : Int) (els : List (List C)), i ≤ R ∧ n' = R - i ∧ ik = (i : Int) ∧ els = (gridL (zf f i 0) Cn R).map itK ∧
      a = [(2, T.pt 0 0), (3, T.pt 1 0), (4, T.pt 2 0), (5, T.c (C.b false)), (6, T.pt 6 0), (7, T.c (C.i IntKind.i64 ik))] ∧
      m = [(0, Obj.box [T.c (C.i IntKind.i64 r), T.c (C.i IntKind.i64 q), T.c (C.sl IA)]), (1, Obj.box [T.c (C.i IntKind.i64 q), T.c (C.i IntKind.i64 c), T.c (C.sl IB)]), (2, Obj.box [T.c (C.i IntKind.i64 0), T.c (C.i IntKind.i64 0), T.nil]), (5, Obj.row els cap), (6, Obj.box [T.c (C.i IntKind.i64 r), T.c (C.i IntKind.i64 c), T.rw 5 n cap])]) R ⟨0, 0, els, Nat.zero_le _, rfl, rfl, by rw [hels, zf_00], by cbv, by cbv⟩ ?_
  clear hels hn
  rintro n' a m ⟨i, ik, els, hi, hn', hik, hels, rfl, rfl⟩
  refine W_run ti_ok hz 400 (by cbv) ?_
  refine W_cond (by cbv) (fun h => ?_) (fun h => ?_)
  · rw [z_lss hz, hik, hr] at h
    have hlt : i < R := by simpa using h
    refine W_run ti_ok hz 400 (by cbv) ?_
    refine W_keep [2, 3, 4, 5, 6, 7, 8] [0, 1, 2, 5, 6] 7 (by cbv) (by cbv) ?_
    refine W_loop (fun n' a m => ∃ (j : Nat) (jk : Int) (els : List (List C)), j ≤ Cn ∧ n' = Cn - j ∧ jk = (j : Int) ∧ els = (gridL (zf f i j) Cn R).map itK ∧
      a = [(2, T.pt 0 0), (3, T.pt 1 0), (4, T.pt 2 0), (5, T.c (C.b false)), (6, T.pt 6 0), (7, T.c (C.i IntKind.i64 ik)), (8, T.c (C.i IntKind.i64 jk))] ∧
      m = [(0, Obj.box [T.c (C.i IntKind.i64 r), T.c (C.i IntKind.i64 q), T.c (C.sl IA)]), (1, Obj.box [T.c (C.i IntKind.i64 q), T.c (C.i IntKind.i64 c), T.c (C.sl IB)]), (2, Obj.box [T.c (C.i IntKind.i64 0), T.c (C.i IntKind.i64 0), T.nil]), (5, Obj.row els cap), (6, Obj.box [T.c (C.i IntKind.i64 r), T.c (C.i IntKind.i64 c), T.rw 5 n cap])]) Cn ⟨0, 0, els, Nat.zero_le _, rfl, rfl, hels, by cbv, by cbv⟩ ?_
    clear hels
    rintro n' a m ⟨j, jk, els, hj, hn', hjk, hels, rfl, rfl⟩
    refine W_run ti_ok hz 400 (by cbv) ?_
    refine W_cond (by cbv) (fun h => ?_) (fun h => ?_)
    · rw [z_lss hz, hjk, hc] at h
      have hltj : j < Cn := by simpa using h
      obtain ⟨g, hg⟩ := hide (fun k => mulI (cel A K i k) (cel B Cn k j))
      have hge : ∀ k, g k = mulI (cel A K i k) (cel B Cn k j) := fun k => by rw [hg]
      refine W_run ti_ok hz 400 (by cbv) ?_
      refine W_keep [2, 3, 4, 5, 6, 7, 8, 9] [0, 1, 2, 5, 6] 7 (by cbv) (by cbv) ?_
      refine W_loop (fun n' a m => ∃ (k : Nat) (kk : Int) (s : It) (els : List (List C)), k ≤ K ∧ n' = K - k ∧ kk = (k : Int) ∧ s = sumI g k ∧ els = (gridL (upd (zf f i j) i j s) Cn R).map itK ∧
        a = [(2, T.pt 0 0), (3, T.pt 1 0), (4, T.pt 2 0), (5, T.c (C.b false)), (6, T.pt 6 0), (7, T.c (C.i IntKind.i64 ik)), (8, T.c (C.i IntKind.i64 jk)), (9, T.c (C.i IntKind.i64 kk))] ∧
        m = [(0, Obj.box [T.c (C.i IntKind.i64 r), T.c (C.i IntKind.i64 q), T.c (C.sl IA)]), (1, Obj.box [T.c (C.i IntKind.i64 q), T.c (C.i IntKind.i64 c), T.c (C.sl IB)]), (2, Obj.box [T.c (C.i IntKind.i64 0), T.c (C.i IntKind.i64 0), T.nil]), (5, Obj.row els cap), (6, Obj.box [T.c (C.i IntKind.i64 r), T.c (C.i IntKind.i64 c), T.rw 5 n cap])]) K ⟨0, 0, wh 0, els, Nat.zero_le _, rfl, rfl, rfl, by rw [hels, zf_same], by cbv, by cbv⟩ ?_
      clear hels
      rintro n2 a m ⟨k, kk, s, els, hk, hn2, hkk, hs, hels, rfl, rfl⟩
      refine W_run ti_ok hz 400 (by cbv) ?_
      refine W_cond (by cbv) (fun h => ?_) (fun h => ?_)
      · rw [z_lss hz, hkk, hq] at h
        have hltk : k < K := by simpa using h
        have hsk : okI s := by rw [hs]; exact sum_ok _ _
        have hst : sumI g (k + 1) = addI s (g k) := by rw [hs]; rfl
        have kA := okA i k hlt hltk
        have kB := okB k j hltk hltj
        have hgk := hge k
        obtain ⟨x, hx⟩ := hide (cel A K i k)
        obtain ⟨y, hy⟩ := hide (cel B Cn k j)
        have d1 := eA i k hlt hltk x hx
        have d2 := eB k j hltk hltj y hy
        rw [← hx] at kA hgk
        rw [← hy] at kB hgk
        have d3 := ct_sMultiplyNumbers x y kA kB
        rw [← hgk] at d3
        obtain ⟨p, hp⟩ := hide (g k)
        rw [← hp] at d3 hst
        have kp : okI p := by rw [hp, hgk]; exact mul_ok _ _
        have d4 := ct_sAddNumbers s p hsk kp
        have he0 : els[i * Cn + j]? = some (itK s) := by rw [hels, grid_getK hlt hltj, upd_at]
        have heN : ∀ v, els.set (i * Cn + j) (itK v) = (gridL (upd (zf f i j) i j v) Cn R).map itK := fun v => by rw [hels, grid_setK hlt hltj, upd_upd]
        have a1 := at_lt hlt hltj
        have b1 := mul_le144 (Nat.le_of_lt hlt) hR hC
        have b2 := mul_le144 (Nat.le_of_lt hlt) hR hK
        have b3 := mul_le144 (Nat.le_of_lt hltk) hK hC
        have g1 : zb .add .i64 (zb .mul .i64 ik c) jk = ((i * Cn + j : Nat) : Int) := by
          have e : ik * c = ((i * Cn : Nat) : Int) := by rw [hik, hc]; simp
          rw [z_mul hz (by omega) (by omega), e, z_add hz (by omega) (by omega), hjk]; omega
        have g2 : zb .add .i64 (zb .mul .i64 ik q) kk = ((i * K + k : Nat) : Int) := by
          have e : ik * q = ((i * K : Nat) : Int) := by rw [hik, hq]; simp
          rw [z_mul hz (by omega) (by omega), e, z_add hz (by omega) (by omega), hkk]; omega
        have g3 : zb .add .i64 (zb .mul .i64 kk c) jk = ((k * Cn + j : Nat) : Int) := by
          have e : kk * c = ((k * Cn : Nat) : Int) := by rw [hkk, hc]; simp
          rw [z_mul hz (by omega) (by omega), e, z_add hz (by omega) (by omega), hjk]; omega
        obtain ⟨J1, hJ1⟩ := hide (i * Cn + j)
        obtain ⟨J2, hJ2⟩ := hide (i * K + k)
        obtain ⟨J3, hJ3⟩ := hide (k * Cn + j)
        rw [← hJ1] at g1 he0 heN a1
        rw [← hJ2] at g2 d1
        rw [← hJ3] at g3 d2
        have hJn : J1 < n := by omega
        obtain ⟨s2, hs2⟩ := hide (addI s p)
        rw [← hs2] at d4 hst
        have heN := heN s2
        obtain ⟨els2, hels2⟩ := hide (els.set J1 (itK s2))
        rw [← hels2] at heN
        clear hs hp hs2 hx hy kA kB kp hsk hgk hels
        obtain ⟨s1, s1'⟩ := s
        obtain ⟨x1, x2⟩ := x
        obtain ⟨y1, y2⟩ := y
        obtain ⟨p1, p2⟩ := p
        obtain ⟨w1, w2⟩ := s2
        refine W_run ti_ok hz 400 (by cbv) ?_
        refine W_draw mixedB [(2, 0), (1, 1), (2, 2), (2, 3), (1, 4), (2, 5), (2, 6), (2, 7), (2, 8), (1, 9), (2, 10), (2, 11), (1, 12), (2, 13), (2, 14), (2, 15), (2, 16), (1, 17), (2, 18), (1, 19), (2, 20), (2, 21), (1, 22), (2, 23), (2, 24), (2, 25), (2, 26), (1, 27), (2, 28), (1, 29), (2, 30), (2, 31), (1, 32), (2, 33), (2, 34), (2, 35), (2, 36), (1, 37), (0, 38), (0, 39), (2, 40), (0, 41)] [41] (by kernel_rfl) ?_
        refine D_run ti_ok hz 400 (by cbv) ?_
        refine D_val (by cbv) (by cbv) (by cbv) (Val_rwAt ti_ok (by cbv) J1 g1 hJn) ?_
        refine D_run ti_ok hz 400 (by cbv) ?_
        refine D_peLd1 ti_ok (by cbv) (by cbv) (by cbv) (by cbv) (by cbv) he0 rfl (by cbv) ?_
        refine D_run ti_ok hz 400 (by cbv) ?_
        refine D_val (by cbv) (by cbv) (by cbv) (Val_elem ti_ok (by cbv) J2 g2 d1 rfl) ?_
        refine D_run ti_ok hz 400 (by cbv) ?_
        refine D_val (by cbv) (by cbv) (by cbv) (Val_elem ti_ok (by cbv) J3 g3 d2 rfl) ?_
        refine D_run ti_ok hz 400 (by cbv) ?_
        refine D_call (by cbv) (by cbv) (by kernel_rfl) (d3) ?_
        rintro t rfl
        refine D_run ti_ok hz 400 (by cbv) ?_
        refine D_call (by cbv) (by cbv) (by kernel_rfl) (d4) ?_
        rintro t rfl
        refine D_run ti_ok hz 400 (by cbv) ?_
        refine D_val (by cbv) (by cbv) (by cbv) (Val_rwAt ti_ok (by cbv) J1 g1 hJn) ?_
        refine D_run ti_ok hz 400 (by cbv) ?_
        refine D_peStLast ti_ok (by cbv) (by cbv) (by cbv) (by cbv) (by cbv) (by cbv) he0 rfl (by rfl) (by rfl) ?_
        rw [show els.set J1 [C.i IntKind.i64 w1, C.i IntKind.i64 w2, C.s []] = els2 from hels2.symm]
        refine W_run ti_ok hz 400 (by cbv) ?_
        obtain ⟨kk1, hkk1⟩ := hide (kk + 1)
        have hadd : zb .add .i64 kk 1 = kk1 := by rw [z_add hz (by omega) (by omega), hkk1]
        rw [hadd]
        refine W_inv [2, 3, 4, 5, 6, 7, 8, 9] [0, 1, 2, 5, 6] (K - (k + 1)) (by omega) (by cbv) (by cbv) ⟨k + 1, kk1, (w1, w2), els2, hltk, rfl, by rw [hkk1, hkk]; rfl, hst.symm, heN, by cbv, by cbv⟩
      · rw [z_lss hz, hkk, hq] at h
        have h := of_decide_eq_false h
        have hke : k = K := by omega
        have hsf : s = f i j := by rw [hs, hke, hfe, hg]
        refine W_run ti_ok hz 400 (by cbv) ?_
        obtain ⟨jk1, hjk1⟩ := hide (jk + 1)
        have hadd : zb .add .i64 jk 1 = jk1 := by rw [z_add hz (by omega) (by omega), hjk1]
        rw [hadd]
        refine W_inv [2, 3, 4, 5, 6, 7, 8] [0, 1, 2, 5, 6] (Cn - (j + 1)) (by omega) (by cbv) (by cbv) ⟨j + 1, jk1, els, hltj, rfl, by rw [hjk1, hjk]; rfl, by rw [hels, hsf, zf_next], by cbv, by cbv⟩
    · rw [z_lss hz, hjk, hc] at h
      have h := of_decide_eq_false h
      have hje : j = Cn := by omega
      refine W_run ti_ok hz 400 (by cbv) ?_
      obtain ⟨ik1, hik1⟩ := hide (ik + 1)
      have hadd : zb .add .i64 ik 1 = ik1 := by rw [z_add hz (by omega) (by omega), hik1]
      rw [hadd]
      refine W_inv [2, 3, 4, 5, 6, 7] [0, 1, 2, 5, 6] (R - (i + 1)) (by omega) (by cbv) (by cbv) ⟨i + 1, ik1, els, hlt, rfl, by rw [hik1, hik]; rfl, by rw [hels, hje, zf_row], by cbv, by cbv⟩
  · rw [z_lss hz, hik, hr] at h
    have h := of_decide_eq_false h
    have hie : i = R := by omega
    have hle : els.length = n := by rw [hels, hlen, hn0]
    have hel : els = IO := by rw [hels, hie, zf_all, hIO]
    clear hels
    subst hel
    refine W_freezeC 6 2 (by cbv) (by cbv) (by cbv) hle.symm ?_
    refine W_run ti_ok hz 400 (by cbv) ?_
    refine W_call (by cbv) (by kernel_rfl) (cO) ?_
    rintro t rfl
    refine W_run ti_ok hz 400 (by cbv) ?_
    cases b with
    | false =>
      refine W_bool 92 (by cbv) (show _ = true by rw [z_not hz]; rfl) ?_
      refine W_run ti_ok hz 400 (by cbv) ?_
      refine W_ret ti_ok rfl (by cbv) ?_
      exact ⟨_, _, _, rfl, .inl rfl⟩
    | true =>
      refine W_bool 92 (by cbv) (show _ = false by rw [z_not hz]; rfl) ?_
      refine W_run ti_ok hz 400 (by cbv) ?_
      refine W_ret ti_ok rfl (by cbv) ?_
      exact ⟨_, _, _, rfl, .inr ⟨_, rfl⟩⟩
end Go.Proofs.Ytconhpilbndpkaa
