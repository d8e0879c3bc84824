/-
  Contracts on trees: rows and columns exchanged.
-/
import Derived.Test.YtconhpilbndpkaaVmMatD
namespace Go.Proofs.Ytconhpilbndpkaa
set_option maxRecDepth 100000
open Go.RowKit Go.Proofs.Ytconhpilbndpkaa.Vm
set_option linter.unusedVariables false

def trL (L : List It) (R C : Nat) : List It := gridL (fun i j => cel L C j i) R C
theorem le_mt (a b : T) (ha : a.one = true) (hb : b.one = true) : Le (.ag [a, b, .nil]) (.ag [a, b, .c (.sl [])]) := Le.ag ⟨Le.refl _, Le.refl _, Le.nil, trivial⟩ (by
  intro t ht
  simp only [List.mem_cons, List.not_mem_nil, or_false] at ht
  rcases ht with rfl | rfl | rfl
  · exact ha
  · exact hb
  · rfl)
def mt0 : T := mtT 0 0 []
theorem le_pair {a a' b : T} (h : Le a a') : Le (.tu [a, b]) (.tu [a', b]) := Le.tu ⟨h, Le.refl _, trivial⟩
theorem mul_le144 {i R C : Nat} (hi : i ≤ R) (hR : R ≤ 12) (hC : C ≤ 12) : i * C ≤ 144 := by
  have : i * C ≤ 12 * 12 := Nat.mul_le_mul (by omega) hC
  omega
theorem ct_Transpose0 (r c : Int) (L : List It) (hL : ∀ x ∈ L, okI x) (hn : L.length ≤ 1000000) (hm : isM r c L = false) : Ct Try.prog 10 [mtT r c L] (fun t => t = .tu [mt0, .c (.b false)]) := by
  have c0 := ct_IsMatrix r c L hL hn
  rw [hm] at c0
  refine Ct.weak (R := fun t => t = .tu [.ag [.c (.i .i64 0), .c (.i .i64 0), .nil], .c (.b false)]) ?_ fun t h => ⟨_, rfl, by rw [h]; exact le_pair (le_mt _ _ rfl rfl)⟩
  unfold mtT at c0 ⊢
  obtain ⟨I, hI⟩ := hide (L.map itK)
  rw [← hI] at c0 ⊢
  obtain ⟨zb, zc, zs, zl, zn, zt, zp, zg, zv, zx, zm, hz⟩ := Vm.zE
  refine Ct_of_W Try.func10 rfl (Nat.le_of_ble_eq_true rfl) fun w0 Z0 => ?_
  refine W_run ti_ok hz 400 (by cbv) ?_
  refine W_call (by cbv) (by kernel_rfl) (c0) ?_
  rintro t rfl
  refine W_run ti_ok hz 400 (by cbv) ?_
  refine W_bool 9 (by cbv) (show _ = true by rw [z_not hz]; rfl) ?_
  refine W_run ti_ok hz 400 (by cbv) ?_
  refine W_ret ti_ok rfl (by cbv) ?_
  rfl
theorem ct_sTranspose0 (r c : Int) (L : List It) (hL : ∀ x ∈ L, okI x) (hn : L.length ≤ 1000000) (hm : isM r c L = false) : Ct Try.prog 11 [mtT r c L] (fun t => t = .tu [mt0, .c (.b false)]) := by
  have c0 := ct_sIsMatrix r c L hL hn
  rw [hm] at c0
  refine Ct.weak (R := fun t => t = .tu [.ag [.c (.i .i64 0), .c (.i .i64 0), .nil], .c (.b false)]) ?_ fun t h => ⟨_, rfl, by rw [h]; exact le_pair (le_mt _ _ rfl rfl)⟩
  unfold mtT at c0 ⊢
  obtain ⟨I, hI⟩ := hide (L.map itK)
  rw [← hI] at c0 ⊢
  obtain ⟨zb, zc, zs, zl, zn, zt, zp, zg, zv, zx, zm, hz⟩ := Vm.zE
  refine Ct_of_W Try.func11 rfl (Nat.le_of_ble_eq_true rfl) fun w0 Z0 => ?_
  refine W_run ti_ok hz 400 (by cbv) ?_
  refine W_call (by cbv) (by kernel_rfl) (c0) ?_
  rintro t rfl
  refine W_run ti_ok hz 400 (by cbv) ?_
  refine W_bool 6 (by cbv) (show _ = true by rw [z_not hz]; rfl) ?_
  refine W_run ti_ok hz 400 (by cbv) ?_
  refine W_ret ti_ok rfl (by cbv) ?_
  rfl
set_option maxHeartbeats 8000000 in
theorem ct_Transpose (R Cn : Nat) (L : List It) (hL : ∀ x ∈ L, okI x) (hm : isM R Cn L = true) : Ct Try.prog 10 [mtT R Cn L] (fun t => t = .tu [mtT Cn R (trL L R Cn), .c (.b true)]) := by
  obtain ⟨R', Cn', eR, eC, hR, hC, hlen, hall⟩ := isM_nat hm
  have eR : R = R' := by omega
  have eC : Cn = Cn' := by omega
  subst eR eC
  have h144 : R * Cn ≤ 144 := mul_le144 (Nat.le_refl _) hR hC
  have c0 := ct_IsMatrix R Cn L hL (by omega)
  rw [hm] at c0
  have cA : ∀ i j : Nat, i < R → j < Cn → ∀ x, x = cel L Cn i j → Ct Try.prog 23 [mtT R Cn L, .c (.i .i64 (i : Int)), .c (.i .i64 (j : Int))] (fun t => t = itT x) := fun i j hi hj x hx => by
    subst hx
    exact ct_cellAt R Cn i j L _ (by omega) (by omega) hC (cel_get hlen hi hj)
  unfold trL
  obtain ⟨f, hf⟩ := hide (fun i j => cel L Cn j i)
  rw [← hf]
  have hfe : ∀ i j, f i j = cel L Cn j i := fun i j => by rw [hf]
  refine Ct.weak (R := fun t => (∃ o, o = (gridL f R Cn).map itK ∧ t = .tu [.ag [.c (.i .i64 Cn), .c (.i .i64 R), .c (.sl o)], .c (.b true)])) ?_ fun t ⟨o, ho, h⟩ => ⟨_, rfl, by rw [h, ho]; exact Le.refl _⟩
  unfold mtT at c0 cA ⊢
  obtain ⟨I, hI⟩ := hide (L.map itK)
  rw [← hI] at c0 cA ⊢
  obtain ⟨r, hr⟩ := hide (R : Int)
  obtain ⟨c, hc⟩ := hide (Cn : Int)
  rw [← hr, ← hc] at c0 cA ⊢
  clear hf hI hall
  obtain ⟨zb, zc, zs, zl, zn, zt, zp, zg, zv, zx, zm, hz⟩ := Vm.zE
  refine Ct_of_W Try.func10 rfl (Nat.le_of_ble_eq_true rfl) fun w0 Z0 => ?_
  refine W_run ti_ok hz 400 (by cbv) ?_
  refine W_call (by cbv) (by kernel_rfl) (c0) ?_
  rintro t rfl
  refine W_run ti_ok hz 400 (by cbv) ?_
  refine W_bool 9 (by cbv) (show _ = false by rw [z_not hz]; rfl) ?_
  refine W_run ti_ok hz 400 (by cbv) ?_
  refine W_ownB 2 2 3 (by cbv) (by cbv) ?_
  refine W_keep [1, 2, 3, 4, 5] [0, 1, 2, 3] 4 (by cbv) (by cbv) ?_
  refine W_loop (fun n a m => ∃ (i : Nat) (ik : Int) (o : List (List C)), i ≤ Cn ∧ n = Cn - i ∧ ik = (i : Int) ∧ o = (gridL f R i).map itK ∧
      a = [(1, T.pt 0 0), (2, T.pt 1 0), (3, T.c (C.b false)), (4, T.pt 2 0), (5, T.c (C.i IntKind.i64 ik))] ∧
      m = [(0, Obj.box [T.c (C.i IntKind.i64 r), T.c (C.i IntKind.i64 c), T.c (C.sl I)]), (1, Obj.box [T.c (C.i IntKind.i64 0), T.c (C.i IntKind.i64 0), T.nil]), (2, Obj.box [T.c (C.i IntKind.i64 c), T.c (C.i IntKind.i64 r), T.sk 3 o]), (3, Obj.tok 3 o)]) Cn ⟨0, 0, [], Nat.zero_le _, rfl, rfl, rfl, by cbv, by cbv⟩ ?_
  rintro n a m ⟨i, ik, o, hi, hn, hik, ho, rfl, rfl⟩
  refine W_run ti_ok hz 400 (by cbv) ?_
  refine W_cond (by cbv) (fun h => ?_) (fun h => ?_)
  · rw [z_lss hz, hik, hc] at h
    have hlt : i < Cn := by simpa using h
    refine W_run ti_ok hz 400 (by cbv) ?_
    refine W_keep [1, 2, 3, 4, 5, 6] [0, 1, 2, 3] 4 (by cbv) (by cbv) ?_
    refine W_loop (fun n a m => ∃ (j : Nat) (jk : Int) (o : List (List C)), j ≤ R ∧ n = R - j ∧ jk = (j : Int) ∧ o = (gridL f R i ++ rowL (f i) j).map itK ∧
      a = [(1, T.pt 0 0), (2, T.pt 1 0), (3, T.c (C.b false)), (4, T.pt 2 0), (5, T.c (C.i IntKind.i64 ik)), (6, T.c (C.i IntKind.i64 jk))] ∧
      m = [(0, Obj.box [T.c (C.i IntKind.i64 r), T.c (C.i IntKind.i64 c), T.c (C.sl I)]), (1, Obj.box [T.c (C.i IntKind.i64 0), T.c (C.i IntKind.i64 0), T.nil]), (2, Obj.box [T.c (C.i IntKind.i64 c), T.c (C.i IntKind.i64 r), T.sk 3 o]), (3, Obj.tok 3 o)]) R ⟨0, 0, o, Nat.zero_le _, rfl, rfl, by rw [ho]; simp [rowL], by cbv, by cbv⟩ ?_
    clear ho
    rintro n' a m ⟨j, jk, o, hj, hn', hjk, ho, rfl, rfl⟩
    refine W_run ti_ok hz 400 (by cbv) ?_
    refine W_cond (by cbv) (fun h => ?_) (fun h => ?_)
    · rw [z_lss hz, hjk, hr] at h
      have hltj : j < R := by simpa using h
      obtain ⟨x, hx⟩ := hide (f i j)
      have c1 := cA j i hltj hlt x (by rw [hx, hfe])
      rw [← hik, ← hjk] at c1
      obtain ⟨xn, xd⟩ := x
      have hol : o.length ≤ 156 := by
        rw [ho, List.length_map, List.length_append, gridL_length, rowL_length]
        have := mul_le144 hi hC hR
        omega
      refine W_run ti_ok hz 400 (by cbv) ?_
      refine W_draw mixedB [(2, 0), (1, 1), (1, 2), (2, 3), (2, 4), (0, 5), (0, 6), (0, 7), (2, 8), (0, 9)] [9] (by kernel_rfl) ?_
      refine D_run ti_ok hz 400 (by cbv) ?_
      refine D_call (by cbv) (by cbv) (by kernel_rfl) (c1) ?_
      rintro t rfl
      refine D_run ti_ok hz 400 (by cbv) ?_
      refine D_app ti_ok (by cbv) (by cbv) (by cbv) (by simp) (by simp; omega) ?_
      obtain ⟨o2, ho2⟩ := hide (o ++ [itK (xn, xd)])
      rw [show o ++ [[C.i IntKind.i64 xn, C.i IntKind.i64 xd, C.s []]] = o2 from ho2.symm]
      refine D_run ti_ok hz 400 (by cbv) ?_
      refine D_last ti_ok hz (by cbv) (by cbv) (by cbv) (by cbv) (by cbv) ?_
      refine W_run ti_ok hz 400 (by cbv) ?_
      obtain ⟨jk1, hjk1⟩ := hide (jk + 1)
      have hadd : zb .add .i64 jk 1 = jk1 := by rw [z_add hz (by omega) (by omega), hjk1]
      rw [hadd]
      refine W_inv [1, 2, 3, 4, 5, 6] [0, 1, 2, 3] (R - (j + 1)) (by omega) (by cbv) (by cbv) ⟨j + 1, jk1, o2, hltj, rfl, by rw [hjk1, hjk]; rfl, ?_, by cbv, by cbv⟩
      rw [ho2, ho, rowL, ← hx, ← List.append_assoc, List.map_append (l₂ := [(xn, xd)])]
      rfl
    · rw [z_lss hz, hjk, hr] at h
      have h := of_decide_eq_false h
      have hje : j = R := by omega
      refine W_run ti_ok hz 400 (by cbv) ?_
      obtain ⟨ik1, hik1⟩ := hide (ik + 1)
      have hadd : zb .add .i64 ik 1 = ik1 := by rw [z_add hz (by omega) (by omega), hik1]
      rw [hadd]
      refine W_inv [1, 2, 3, 4, 5] [0, 1, 2, 3] (Cn - (i + 1)) (by omega) (by cbv) (by cbv) ⟨i + 1, ik1, o, hlt, rfl, by rw [hik1, hik]; rfl, ?_, by cbv, by cbv⟩
      rw [ho, hje, gridL]
  · rw [z_lss hz, hik, hc] at h
    have h := of_decide_eq_false h
    have hie : i = Cn := by omega
    subst hie
    refine W_run ti_ok hz 400 (by cbv) ?_
    refine W_ret ti_ok rfl (by cbv) ?_
    exact ⟨_, ho, rfl⟩
set_option maxHeartbeats 8000000 in
theorem ct_l14Turn (R Cn : Nat) (L : List It) (hR : R ≤ 12) (hC : Cn ≤ 12) (hlen : L.length = R * Cn) : Ct Try.prog 24 [mtT R Cn L] (fun t => t = mtT Cn R (trL L R Cn)) := by
  have h144 : R * Cn ≤ 144 := mul_le144 (Nat.le_refl _) hR hC
  have hcell : ∀ i j : Nat, i < R → j < Cn → ∀ x, x = cel L Cn i j → (L.map itK)[i * Cn + j]? = some (itK x) := fun i j hi hj x hx => by
    subst hx
    rw [List.getElem?_map, cel_get hlen hi hj]; rfl
  unfold trL
  obtain ⟨f, hf⟩ := hide (fun i j => cel L Cn j i)
  rw [← hf]
  have hfe : ∀ i j, f i j = cel L Cn j i := fun i j => by rw [hf]
  refine Ct.weak (R := fun t => (∃ o, o = (gridL f R Cn).map itK ∧ t = .ag [.c (.i .i64 Cn), .c (.i .i64 R), .c (.sl o)])) ?_ fun t ⟨o, ho, h⟩ => ⟨_, rfl, by rw [h, ho]; exact Le.refl _⟩
  unfold mtT
  obtain ⟨I, hI⟩ := hide (L.map itK)
  rw [← hI] at hcell ⊢
  obtain ⟨r, hr⟩ := hide (R : Int)
  obtain ⟨c, hc⟩ := hide (Cn : Int)
  rw [← hr, ← hc]
  clear hf hI
  obtain ⟨zb, zc, zs, zl, zn, zt, zp, zg, zv, zx, zm, hz⟩ := Vm.zE
  refine Ct_of_W Try.func24 rfl (Nat.le_of_ble_eq_true rfl) fun w0 Z0 => ?_
  refine W_run ti_ok hz 400 (by cbv) ?_
  refine W_ownB 2 2 3 (by cbv) (by cbv) ?_
  refine W_keep [1, 2, 3, 4] [0, 1, 2, 3] 4 (by cbv) (by cbv) ?_
  refine W_loop (fun n a m => ∃ (i : Nat) (ik : Int) (o : List (List C)), i ≤ Cn ∧ n = Cn - i ∧ ik = (i : Int) ∧ o = (gridL f R i).map itK ∧
      a = [(1, T.pt 0 0), (2, T.pt 1 0), (3, T.pt 2 0), (4, T.c (C.i IntKind.i64 ik))] ∧
      m = [(0, Obj.box [T.c (C.i IntKind.i64 r), T.c (C.i IntKind.i64 c), T.c (C.sl I)]), (1, Obj.box [T.c (C.i IntKind.i64 0), T.c (C.i IntKind.i64 0), T.nil]), (2, Obj.box [T.c (C.i IntKind.i64 c), T.c (C.i IntKind.i64 r), T.sk 3 o]), (3, Obj.tok 3 o)]) Cn ⟨0, 0, [], Nat.zero_le _, rfl, rfl, rfl, by cbv, by cbv⟩ ?_
  rintro n a m ⟨i, ik, o, hi, hn, hik, ho, rfl, rfl⟩
  refine W_run ti_ok hz 400 (by cbv) ?_
  refine W_cond (by cbv) (fun h => ?_) (fun h => ?_)
  · rw [z_lss hz, hik, hc] at h
    have hlt : i < Cn := by simpa using h
    refine W_run ti_ok hz 400 (by cbv) ?_
    refine W_keep [1, 2, 3, 4, 5] [0, 1, 2, 3] 4 (by cbv) (by cbv) ?_
    refine W_loop (fun n a m => ∃ (j : Nat) (jk : Int) (o : List (List C)), j ≤ R ∧ n = R - j ∧ jk = (j : Int) ∧ o = (gridL f R i ++ rowL (f i) j).map itK ∧
      a = [(1, T.pt 0 0), (2, T.pt 1 0), (3, T.pt 2 0), (4, T.c (C.i IntKind.i64 ik)), (5, T.c (C.i IntKind.i64 jk))] ∧
      m = [(0, Obj.box [T.c (C.i IntKind.i64 r), T.c (C.i IntKind.i64 c), T.c (C.sl I)]), (1, Obj.box [T.c (C.i IntKind.i64 0), T.c (C.i IntKind.i64 0), T.nil]), (2, Obj.box [T.c (C.i IntKind.i64 c), T.c (C.i IntKind.i64 r), T.sk 3 o]), (3, Obj.tok 3 o)]) R ⟨0, 0, o, Nat.zero_le _, rfl, rfl, by rw [ho]; simp [rowL], by cbv, by cbv⟩ ?_
    clear ho
    rintro n' a m ⟨j, jk, o, hj, hn', hjk, ho, rfl, rfl⟩
    refine W_run ti_ok hz 400 (by cbv) ?_
    refine W_cond (by cbv) (fun h => ?_) (fun h => ?_)
    · rw [z_lss hz, hjk, hr] at h
      have hltj : j < R := by simpa using h
      obtain ⟨x, hx⟩ := hide (f i j)
      have hI := hcell j i hltj hlt x (by rw [hx, hfe])
      obtain ⟨k, hk⟩ := hide (j * Cn + i)
      rw [← hk] at hI
      have hjC := mul_le144 (Nat.le_of_lt hltj) hR hC
      have hjc : jk * c = ((j * Cn : Nat) : Int) := by rw [hjk, hc]; simp
      obtain ⟨p, hp'⟩ := hide (jk * c)
      have g1 : zb .mul .i64 jk c = p := by rw [z_mul hz (by omega) (by omega), hp']
      obtain ⟨kk, hkk⟩ := hide (k : Int)
      have g2 : zb .add .i64 p ik = kk := by rw [z_add hz (by omega) (by omega)]; omega
      obtain ⟨xn, xd⟩ := x
      have hol : o.length ≤ 156 := by
        rw [ho, List.length_map, List.length_append, gridL_length, rowL_length]
        have := mul_le144 hi hC hR
        omega
      refine W_run ti_ok hz 400 (by cbv) ?_
      refine W_draw mixedB [(2, 0), (1, 1), (2, 2), (1, 3), (2, 4), (2, 5), (1, 6), (2, 7), (2, 8), (2, 9), (2, 10), (1, 11), (0, 12), (0, 13), (2, 14), (0, 15)] [15] (by kernel_rfl) ?_
      refine D_run ti_ok hz 400 (by cbv) ?_
      rw [g1, g2]
      refine D_val (by cbv) (by cbv) (by cbv) (Val_elem ti_ok (by cbv) k hkk hI rfl) ?_
      refine D_run ti_ok hz 400 (by cbv) ?_
      refine D_app ti_ok (by cbv) (by cbv) (by cbv) (by simp) (by simp; omega) ?_
      obtain ⟨o2, ho2⟩ := hide (o ++ [itK (xn, xd)])
      rw [show o ++ [[C.i IntKind.i64 xn, C.i IntKind.i64 xd, C.s []]] = o2 from ho2.symm]
      refine D_run ti_ok hz 400 (by cbv) ?_
      refine D_last ti_ok hz (by cbv) (by cbv) (by cbv) (by cbv) (by cbv) ?_
      refine W_run ti_ok hz 400 (by cbv) ?_
      obtain ⟨jk1, hjk1⟩ := hide (jk + 1)
      have hadd : zb .add .i64 jk 1 = jk1 := by rw [z_add hz (by omega) (by omega), hjk1]
      rw [hadd]
      refine W_inv [1, 2, 3, 4, 5] [0, 1, 2, 3] (R - (j + 1)) (by omega) (by cbv) (by cbv) ⟨j + 1, jk1, o2, hltj, rfl, by rw [hjk1, hjk]; rfl, ?_, by cbv, by cbv⟩
      rw [ho2, ho, rowL, ← hx, ← List.append_assoc, List.map_append (l₂ := [(xn, xd)])]
      rfl
    · rw [z_lss hz, hjk, hr] at h
      have h := of_decide_eq_false h
      have hje : j = R := by omega
      refine W_run ti_ok hz 400 (by cbv) ?_
      obtain ⟨ik1, hik1⟩ := hide (ik + 1)
      have hadd : zb .add .i64 ik 1 = ik1 := by rw [z_add hz (by omega) (by omega), hik1]
      rw [hadd]
      refine W_inv [1, 2, 3, 4] [0, 1, 2, 3] (Cn - (i + 1)) (by omega) (by cbv) (by cbv) ⟨i + 1, ik1, o, hlt, rfl, by rw [hik1, hik]; rfl, ?_, by cbv, by cbv⟩
      rw [ho, hje, gridL]
  · rw [z_lss hz, hik, hc] at h
    have h := of_decide_eq_false h
    have hie : i = Cn := by omega
    subst hie
    refine W_run ti_ok hz 400 (by cbv) ?_
    refine W_ret ti_ok rfl (by cbv) ?_
    exact ⟨_, ho, rfl⟩
theorem ct_sTranspose (R Cn : Nat) (L : List It) (hL : ∀ x ∈ L, okI x) (hm : isM R Cn L = true) : Ct Try.prog 11 [mtT R Cn L] (fun t => t = .tu [mtT Cn R (trL L R Cn), .c (.b true)]) := by
  obtain ⟨R', Cn', eR, eC, hR, hC, hlen, hall⟩ := isM_nat hm
  have eR : R = R' := by omega
  have eC : Cn = Cn' := by omega
  subst eR eC
  have h144 : R * Cn ≤ 144 := mul_le144 (Nat.le_refl _) hR hC
  have c0 := ct_sIsMatrix R Cn L hL (by omega)
  have c1 := ct_l14Turn R Cn L hR hC hlen
  rw [hm] at c0
  obtain ⟨L2, hL2⟩ := hide (trL L R Cn)
  rw [← hL2] at c1 ⊢
  unfold mtT at c0 c1 ⊢
  obtain ⟨I, hI⟩ := hide (L.map itK)
  obtain ⟨J, hJ⟩ := hide (L2.map itK)
  rw [← hI] at c0 c1 ⊢
  rw [← hJ] at c1 ⊢
  obtain ⟨r, hr⟩ := hide (R : Int)
  obtain ⟨c, hc⟩ := hide (Cn : Int)
  rw [← hr, ← hc] at c0 c1 ⊢
  clear hJ hI hL2
  obtain ⟨zb, zc, zs, zl, zn, zt, zp, zg, zv, zx, zm, hz⟩ := Vm.zE
  refine Ct_of_W Try.func11 rfl (Nat.le_of_ble_eq_true rfl) fun w0 Z0 => ?_
  refine W_run ti_ok hz 400 (by cbv) ?_
  refine W_call (by cbv) (by kernel_rfl) (c0) ?_
  rintro t rfl
  refine W_run ti_ok hz 400 (by cbv) ?_
  refine W_bool 6 (by cbv) (show _ = false by rw [z_not hz]; rfl) ?_
  refine W_run ti_ok hz 400 (by cbv) ?_
  refine W_call (by cbv) (by kernel_rfl) (c1) ?_
  rintro t rfl
  refine W_run ti_ok hz 400 (by cbv) ?_
  refine W_ret ti_ok rfl (by cbv) ?_
  rfl
end Go.Proofs.Ytconhpilbndpkaa
