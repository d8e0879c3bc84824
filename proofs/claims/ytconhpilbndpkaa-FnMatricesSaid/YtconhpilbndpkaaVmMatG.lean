/-
  Contracts on trees: products of matrices, the program's way.
-/
import Derived.Test.YtconhpilbndpkaaVmMatF
namespace Go.Proofs.Ytconhpilbndpkaa
set_option maxRecDepth 100000
open Go.RowKit Go.Proofs.Ytconhpilbndpkaa.Vm
set_option linter.unusedVariables false

set_option maxHeartbeats 16000000 in
theorem ct_Multiply (R K Cn : Nat) (A B : List It) (hA : isM R K A = true) (hB : isM K Cn B = true) : Ct Try.prog 13 [mtT R K A, mtT K Cn B]
    (fun t => t = if (gridL (mulF A B K Cn) Cn R).all isN then .tu [mtT R Cn (gridL (mulF A B K Cn) Cn R), .c (.b true)] else .tu [mt0, .c (.b false)]) := by
  obtain ⟨R', K', eR, eK, hR, hK, hlA, hallA⟩ := isM_nat hA
  have eR : R = R' := by omega
  have eK : K = K' := by omega
  subst eR eK
  obtain ⟨K', Cn', eK, eC, _, hC, hlB, hallB⟩ := isM_nat hB
  have eK : K = K' := by omega
  have eC : Cn = Cn' := by omega
  subst eK eC
  have h1 := mul_le144 (Nat.le_refl R) hR hK
  have h2 := mul_le144 (Nat.le_refl K) hK hC
  have h3 := mul_le144 (Nat.le_refl R) hR hC
  have c1 := ct_IsMatrix R K A (fun x h => isN_ok (hallA x h)) (by omega)
  have c2 := ct_IsMatrix K Cn B (fun x h => isN_ok (hallB x h)) (by omega)
  rw [hA] at c1
  rw [hB] at c2
  have okA : ∀ i k, i < R → k < K → okI (cel A K i k) := fun i k hi hk => isN_ok (hallA _ (List.mem_of_getElem? (cel_get hlA hi hk)))
  have okB : ∀ k j, k < K → j < Cn → okI (cel B Cn k j) := fun k j hk hj => isN_ok (hallB _ (List.mem_of_getElem? (cel_get hlB hk hj)))
  have cA : ∀ i k : Nat, i < R → k < K → ∀ x, x = cel A K i k → Ct Try.prog 23 [mtT R K A, .c (.i .i64 (i : Int)), .c (.i .i64 (k : Int))] (fun t => t = itT x) := fun i k hi hk x hx => by
    subst hx
    exact ct_cellAt R K i k A _ (by omega) (by omega) hK (cel_get hlA hi hk)
  have cB : ∀ k j : Nat, k < K → j < Cn → ∀ x, x = cel B Cn k j → Ct Try.prog 23 [mtT K Cn B, .c (.i .i64 (k : Int)), .c (.i .i64 (j : Int))] (fun t => t = itT x) := fun k j hk hj x hx => by
    subst hx
    exact ct_cellAt K Cn k j B _ (by omega) (by omega) hC (cel_get hlB hk hj)
  have c0 := ct_intItem 0 (by omega) (by omega)
  have cO := ct_IsMatrix R Cn (gridL (mulF A B K Cn) Cn R) (fun x h => by
    obtain ⟨i, j, _, _, rfl⟩ := grid_mem h
    exact sum_ok _ _) (by rw [gridL_length]; omega)
  have eO : isM R Cn (gridL (mulF A B K Cn) Cn R) = (gridL (mulF A B K Cn) Cn R).all isN := by
    unfold isM
    rw [decide_eq_true (by omega), decide_eq_true (by omega), decide_eq_true (by omega), decide_eq_true (by omega), decide_eq_true (by rw [gridL_length]; exact_mod_cast rfl)]
    rfl
  rw [eO] at cO
  obtain ⟨b, hb⟩ := hide ((gridL (mulF A B K Cn) Cn R).all isN)
  rw [← hb] at cO ⊢
  refine Ct.weak (R := fun t => (∃ o, o = (gridL (mulF A B K Cn) Cn R).map itK ∧ t = if b then .tu [.ag [.c (.i .i64 R), .c (.i .i64 Cn), .c (.sl o)], .c (.b true)] else .tu [.ag [.c (.i .i64 0), .c (.i .i64 0), .nil], .c (.b false)])) ?_ fun t ⟨o, ho, h⟩ => ⟨_, rfl, by
    rw [h, ho]
    cases b
    · exact le_pair (le_mt _ _ rfl rfl)
    · exact Le.refl _⟩
  obtain ⟨f, hf⟩ := hide (mulF A B K Cn)
  rw [← hf] at cO ⊢
  have hfe : ∀ i j, f i j = sumI (fun k => mulI (cel A K i k) (cel B Cn k j)) K := fun i j => by rw [hf]; rfl
  unfold mtT at c1 c2 cA cB cO ⊢
  obtain ⟨IA, hIA⟩ := hide (A.map itK)
  obtain ⟨IB, hIB⟩ := hide (B.map itK)
  obtain ⟨IO, hIO⟩ := hide ((gridL f Cn R).map itK)
  rw [← hIA] at c1 cA ⊢
  rw [← hIB] at c2 cB ⊢
  rw [← hIO] at cO ⊢
  obtain ⟨r, hr⟩ := hide (R : Int)
  obtain ⟨q, hq⟩ := hide (K : Int)
  obtain ⟨c, hc⟩ := hide (Cn : Int)
  rw [← hr, ← hq] at c1 cA
  rw [← hq, ← hc] at c2 cB
  rw [← hr, ← hc] at cO
  rw [← hr, ← hq, ← hc]
  clear hf hIA hIB hallA hallB hb eO hA hB
  obtain ⟨zb, zc, zs, zl, zn, zt, zp, zg, zv, zx, zm, hz⟩ := Vm.zE
  refine Ct_of_W Try.func13 rfl (Nat.le_of_ble_eq_true rfl) fun w0 Z0 => ?_
  refine W_run ti_ok hz 400 (by cbv) ?_
  refine W_call (by cbv) (by kernel_rfl) (c1) ?_
  rintro t rfl
  refine W_run ti_ok hz 400 (by cbv) ?_
  refine W_bool 14 (by cbv) (show _ = false by rw [z_not hz]; rfl) ?_
  refine W_run ti_ok hz 400 (by cbv) ?_
  refine W_call (by cbv) (by kernel_rfl) (c2) ?_
  rintro t rfl
  refine W_run ti_ok hz 400 (by cbv) ?_
  refine W_bool 19 (by cbv) (show _ = false by rw [z_not hz]; rfl) ?_
  refine W_run ti_ok hz 400 (by cbv) ?_
  refine W_bool 25 (by cbv) (show _ = false by rw [z_neq hz]; simp) ?_
  refine W_run ti_ok hz 400 (by cbv) ?_
  refine W_ownB 3 2 3 (by cbv) (by cbv) ?_
  refine W_keep [2, 3, 4, 5, 6, 7] [0, 1, 2, 3, 4] 5 (by cbv) (by cbv) ?_
  refine W_loop (fun n a m => ∃ (i : Nat) (ik : Int) (o : List (List C)), i ≤ R ∧ n = R - i ∧ ik = (i : Int) ∧ o = (gridL f Cn i).map itK ∧
      a = [(2, T.pt 0 0), (3, T.pt 1 0), (4, T.pt 2 0), (5, T.c (C.b false)), (6, T.pt 3 0), (7, T.c (C.i IntKind.i64 ik))] ∧
      m = [(0, Obj.box [T.c (C.i IntKind.i64 r), T.c (C.i IntKind.i64 q), T.c (C.sl IA)]), (1, Obj.box [T.c (C.i IntKind.i64 q), T.c (C.i IntKind.i64 c), T.c (C.sl IB)]), (2, Obj.box [T.c (C.i IntKind.i64 0), T.c (C.i IntKind.i64 0), T.nil]), (3, Obj.box [T.c (C.i IntKind.i64 r), T.c (C.i IntKind.i64 c), T.sk 4 o]), (4, Obj.tok 3 o)]) R ⟨0, 0, [], Nat.zero_le _, rfl, rfl, rfl, by cbv, by cbv⟩ ?_
  rintro n a m ⟨i, ik, o, hi, hn, hik, ho, rfl, rfl⟩
  refine W_run ti_ok hz 400 (by cbv) ?_
  refine W_cond (by cbv) (fun h => ?_) (fun h => ?_)
  · rw [z_lss hz, hik, hr] at h
    have hlt : i < R := by simpa using h
    refine W_run ti_ok hz 400 (by cbv) ?_
    refine W_keep [2, 3, 4, 5, 6, 7, 8] [0, 1, 2, 3, 4] 5 (by cbv) (by cbv) ?_
    refine W_loop (fun n a m => ∃ (j : Nat) (jk : Int) (o : List (List C)), j ≤ Cn ∧ n = Cn - j ∧ jk = (j : Int) ∧ o = (gridL f Cn i ++ rowL (f i) j).map itK ∧
      a = [(2, T.pt 0 0), (3, T.pt 1 0), (4, T.pt 2 0), (5, T.c (C.b false)), (6, T.pt 3 0), (7, T.c (C.i IntKind.i64 ik)), (8, T.c (C.i IntKind.i64 jk))] ∧
      m = [(0, Obj.box [T.c (C.i IntKind.i64 r), T.c (C.i IntKind.i64 q), T.c (C.sl IA)]), (1, Obj.box [T.c (C.i IntKind.i64 q), T.c (C.i IntKind.i64 c), T.c (C.sl IB)]), (2, Obj.box [T.c (C.i IntKind.i64 0), T.c (C.i IntKind.i64 0), T.nil]), (3, Obj.box [T.c (C.i IntKind.i64 r), T.c (C.i IntKind.i64 c), T.sk 4 o]), (4, Obj.tok 3 o)]) Cn ⟨0, 0, o, Nat.zero_le _, rfl, rfl, by rw [ho]; simp [rowL], by cbv, by cbv⟩ ?_
    clear ho
    rintro n' a m ⟨j, jk, o, hj, hn', hjk, ho, rfl, rfl⟩
    refine W_run ti_ok hz 400 (by cbv) ?_
    refine W_cond (by cbv) (fun h => ?_) (fun h => ?_)
    · rw [z_lss hz, hjk, hc] at h
      have hltj : j < Cn := by simpa using h
      obtain ⟨g, hg⟩ := hide (fun k => mulI (cel A K i k) (cel B Cn k j))
      have hge : ∀ k, g k = mulI (cel A K i k) (cel B Cn k j) := fun k => by rw [hg]
      refine W_run ti_ok hz 400 (by cbv) ?_
      refine W_call (by cbv) (by kernel_rfl) (c0) ?_
      rintro t rfl
      refine W_run ti_ok hz 400 (by cbv) ?_
      refine W_keep [2, 3, 4, 5, 6, 7, 8, 9, 10] [0, 1, 2, 3, 4, 5] 6 (by cbv) (by cbv) ?_
      refine W_loop (fun n a m => ∃ (k : Nat) (kk : Int) (s : It), k ≤ K ∧ n = K - k ∧ kk = (k : Int) ∧ s = sumI g k ∧
        a = [(2, T.pt 0 0), (3, T.pt 1 0), (4, T.pt 2 0), (5, T.c (C.b false)), (6, T.pt 3 0), (7, T.c (C.i IntKind.i64 ik)), (8, T.c (C.i IntKind.i64 jk)), (9, T.pt 5 0), (10, T.c (C.i IntKind.i64 kk))] ∧
        m = [(0, Obj.box [T.c (C.i IntKind.i64 r), T.c (C.i IntKind.i64 q), T.c (C.sl IA)]), (1, Obj.box [T.c (C.i IntKind.i64 q), T.c (C.i IntKind.i64 c), T.c (C.sl IB)]), (2, Obj.box [T.c (C.i IntKind.i64 0), T.c (C.i IntKind.i64 0), T.nil]), (3, Obj.box [T.c (C.i IntKind.i64 r), T.c (C.i IntKind.i64 c), T.sk 4 o]), (4, Obj.tok 3 o), (5, Obj.box [T.c (C.i IntKind.i64 s.1), T.c (C.i IntKind.i64 s.2), T.c (C.s [])])]) K ⟨0, 0, wh 0, Nat.zero_le _, rfl, rfl, rfl, by cbv, by cbv⟩ ?_
      rintro n2 a m ⟨k, kk, s, hk, hn2, hkk, hs, rfl, rfl⟩
      refine W_run ti_ok hz 400 (by cbv) ?_
      refine W_cond (by cbv) (fun h => ?_) (fun h => ?_)
      · rw [z_lss hz, hkk, hq] at h
        have hltk : k < K := by simpa using h
        have hsk : okI s := by rw [hs]; exact sum_ok _ _
        have hst : sumI g (k + 1) = addI s (g k) := by rw [hs]; rfl
        have kA := okA i k hlt hltk
        have kB := okB k j hltk hltj
        have hgk := hge k
        obtain ⟨x, hx⟩ := hide (cel A K i k)
        obtain ⟨y, hy⟩ := hide (cel B Cn k j)
        have d1 := cA i k hlt hltk x hx
        have d2 := cB k j hltk hltj y hy
        rw [← hx] at kA hgk
        rw [← hy] at kB hgk
        have d3 := ct_MultiplyNumbers x y kA kB
        rw [← hgk] at d3
        obtain ⟨p, hp⟩ := hide (g k)
        rw [← hp] at d3 hst
        have kp : okI p := by rw [hp, hgk]; exact mul_ok _ _
        have d4 := ct_AddNumbers s p hsk kp
        obtain ⟨s2, hs2⟩ := hide (addI s p)
        rw [← hs2] at d4 hst
        rw [← hik, ← hkk] at d1
        rw [← hkk, ← hjk] at d2
        clear hs hp hs2 hx hy kA kB kp hsk hgk
        obtain ⟨s1, s1'⟩ := s
        obtain ⟨x1, x2⟩ := x
        obtain ⟨y1, y2⟩ := y
        obtain ⟨p1, p2⟩ := p
        obtain ⟨w1, w2⟩ := s2
        refine W_run ti_ok hz 400 (by cbv) ?_
        refine W_draw mixedB [(1, 0), (1, 1), (2, 2), (2, 3), (1, 5), (2, 6), (2, 7), (0, 4), (0, 8), (0, 9), (0, 10), (0, 11)] [11] (by kernel_rfl) ?_
        refine D_run ti_ok hz 400 (by cbv) ?_
        refine D_call (by cbv) (by cbv) (by kernel_rfl) (d1) ?_
        rintro t rfl
        refine D_run ti_ok hz 400 (by cbv) ?_
        refine D_call (by cbv) (by cbv) (by kernel_rfl) (d2) ?_
        rintro t rfl
        refine D_run ti_ok hz 400 (by cbv) ?_
        refine D_call (by cbv) (by cbv) (by kernel_rfl) (d3) ?_
        rintro t rfl
        refine D_run ti_ok hz 400 (by cbv) ?_
        refine D_call (by cbv) (by cbv) (by kernel_rfl) (d4) ?_
        rintro t rfl
        refine D_run ti_ok hz 400 (by cbv) ?_
        refine D_last ti_ok hz (by cbv) (by cbv) (by cbv) (by cbv) (by cbv) ?_
        refine W_run ti_ok hz 400 (by cbv) ?_
        obtain ⟨kk1, hkk1⟩ := hide (kk + 1)
        have hadd : zb .add .i64 kk 1 = kk1 := by rw [z_add hz (by omega) (by omega), hkk1]
        rw [hadd]
        refine W_inv [2, 3, 4, 5, 6, 7, 8, 9, 10] [0, 1, 2, 3, 4, 5] (K - (k + 1)) (by omega) (by cbv) (by cbv) ⟨k + 1, kk1, (w1, w2), hltk, rfl, by rw [hkk1, hkk]; rfl, hst.symm, by cbv, by cbv⟩
      · rw [z_lss hz, hkk, hq] at h
        have h := of_decide_eq_false h
        have hke : k = K := by omega
        have hsf : s = f i j := by rw [hs, hke, hfe, hg]
        have hol : o.length ≤ 156 := by
          rw [ho, List.length_map, List.length_append, gridL_length, rowL_length]
          have := mul_le144 hi hR hC
          omega
        clear hs
        obtain ⟨sn, sd⟩ := s
        refine W_run ti_ok hz 400 (by cbv) ?_
        refine W_app ti_ok (by cbv) (by cbv) (by simp) (by simp; omega) ?_
        obtain ⟨o2, ho2⟩ := hide (o ++ [itK (sn, sd)])
        rw [show o ++ [[C.i IntKind.i64 sn, C.i IntKind.i64 sd, C.s []]] = o2 from ho2.symm]
        refine W_run ti_ok hz 400 (by cbv) ?_
        obtain ⟨jk1, hjk1⟩ := hide (jk + 1)
        have hadd : zb .add .i64 jk 1 = jk1 := by rw [z_add hz (by omega) (by omega), hjk1]
        rw [hadd]
        refine W_inv [2, 3, 4, 5, 6, 7, 8] [0, 1, 2, 3, 4] (Cn - (j + 1)) (by omega) (by cbv) (by cbv) ⟨j + 1, jk1, o2, hltj, rfl, by rw [hjk1, hjk]; rfl, ?_, by cbv, by cbv⟩
        rw [ho2, ho, rowL, ← hsf, ← List.append_assoc, List.map_append (l₂ := [(sn, sd)])]
        rfl
    · rw [z_lss hz, hjk, hc] at h
      have h := of_decide_eq_false h
      have hje : j = Cn := by omega
      refine W_run ti_ok hz 400 (by cbv) ?_
      obtain ⟨ik1, hik1⟩ := hide (ik + 1)
      have hadd : zb .add .i64 ik 1 = ik1 := by rw [z_add hz (by omega) (by omega), hik1]
      rw [hadd]
      refine W_inv [2, 3, 4, 5, 6, 7] [0, 1, 2, 3, 4] (R - (i + 1)) (by omega) (by cbv) (by cbv) ⟨i + 1, ik1, o, hlt, rfl, by rw [hik1, hik]; rfl, ?_, by cbv, by cbv⟩
      rw [ho, hje, gridL]
  · rw [z_lss hz, hik, hr] at h
    have h := of_decide_eq_false h
    have hie : i = R := by omega
    subst hie
    rw [← hIO] at ho
    subst ho
    refine W_run ti_ok hz 400 (by cbv) ?_
    refine W_call (by cbv) (by kernel_rfl) (cO) ?_
    rintro t rfl
    refine W_run ti_ok hz 400 (by cbv) ?_
    cases b with
    | false =>
      refine W_bool 70 (by cbv) (show _ = true by rw [z_not hz]; rfl) ?_
      refine W_run ti_ok hz 400 (by cbv) ?_
      refine W_ret ti_ok rfl (by cbv) ?_
      exact ⟨_, rfl, rfl⟩
    | true =>
      refine W_bool 70 (by cbv) (show _ = false by rw [z_not hz]; rfl) ?_
      refine W_run ti_ok hz 400 (by cbv) ?_
      refine W_ret ti_ok rfl (by cbv) ?_
      exact ⟨_, rfl, rfl⟩
end Go.Proofs.Ytconhpilbndpkaa
