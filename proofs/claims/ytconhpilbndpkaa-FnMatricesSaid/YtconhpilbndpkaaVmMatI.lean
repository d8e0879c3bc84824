/-
  Contracts on trees: a matrix is reduced, the program's way.
-/
import Derived.Test.YtconhpilbndpkaaVmMatH
import Derived.Test.YtconhpilbndpkaaMatRed
namespace Go.Proofs.Ytconhpilbndpkaa
set_option maxRecDepth 100000
open Go.RowKit Go.Proofs.Ytconhpilbndpkaa.Vm
set_option linter.unusedVariables false

/-- the steps of a reduction: their columns -/
def StR : List Nat → List (List C) → Prop
  | [], [] => True
  | c :: cs, s :: ss => (∃ x y d b, s = [.i .i64 x, .i .i64 y, .i .i64 d, .s [], .b b] ∧ x = (c : Int)) ∧ StR cs ss
  | _, _ => False
theorem StR.length : ∀ {cs : List Nat} {ss : List (List C)}, StR cs ss → ss.length = cs.length
  | [], [], _ => rfl
  | _ :: _, _ :: _, h => by rw [List.length_cons, List.length_cons, h.2.length]
  | [], _ :: _, h => h.elim
  | _ :: _, [], h => h.elim
theorem StR.push : ∀ {cs : List Nat} {ss : List (List C)}, StR cs ss → ∀ {c : Nat} {x y d : Int} {b : Bool}, x = (c : Int) → StR (cs ++ [c]) (ss ++ [[.i .i64 x, .i .i64 y, .i .i64 d, .s [], .b b]])
  | [], [], _, c, x, y, d, b, h => ⟨⟨x, y, d, b, rfl, h⟩, trivial⟩
  | _ :: _, _ :: _, h, c, x, y, d, b, hx => ⟨h.1, h.2.push hx⟩
  | [], _ :: _, h, _, _, _, _, _, _ => h.elim
  | _ :: _, [], h, _, _, _, _, _, _ => h.elim
def RedT (R Cn : Nat) (r c : Int) (res : Option (Mx × List Nat)) (t : T) : Prop := match res with
  | some (M, piv) => ∃ st o, StR piv st ∧ o = (gridL M Cn R).map itK ∧ t = .tu [.ag [.c (.i .i64 r), .c (.i .i64 c), .c (.sl o)], .c (.sl st), .c (.b true)]
  | none => t = .tu [.ag [.c (.i .i64 0), .c (.i .i64 0), .nil], .nil, .c (.b false)]
theorem cellM {R Cn : Nat} {M : Mx} {els : List (List C)} (hels : els = (gridL M Cn R).map itK) (hR : R ≤ 12) (hC : Cn ≤ 12) {r c ik jk : Int} {i j : Nat} (hr : r = R) (hc : c = Cn) (hik : ik = i) (hjk : jk = j) (hi : i < R) (hj : j < Cn) {x : It} (hx : x = M i j) :
    Ct Try.prog 23 [.ag [.c (.i .i64 r), .c (.i .i64 c), .c (.sl els)], .c (.i .i64 ik), .c (.i .i64 jk)] (fun t => t = itT x) := by
  subst hels hr hc hik hjk hx
  exact ct_cellAt R Cn i j (gridL M Cn R) _ (by omega) (by omega) hC (gridL_get M Cn R i j hi hj)
theorem mix {bi : BinOp → IntKind → Int → Int → Int} {ci : BinOp → Int → Int → Bool} {cs : BinOp → List UInt8 → List UInt8 → Bool} {ln : List (List C) → Int} {lns : List UInt8 → Int} {nt : Bool → Bool} {pk : Bool → Bool → Bool → Bool} {ng : IntKind → Int → Int} {cv : IntKind → Int → Int} {mx mn : Int → Int → Int} (hz : (⟨bi, ci, cs, ln, lns, nt, pk, ng, cv, mx, mn⟩ : ZO) = realZ)
    {i j R Cn : Nat} {ik jk c : Int} (hik : ik = i) (hjk : jk = j) (hc : c = Cn) (hi : i < R) (hj : j < Cn) (hR : R ≤ 12) (hC : Cn ≤ 12) : bi .add .i64 (bi .mul .i64 ik c) jk = ((i * Cn + j : Nat) : Int) := by
  have e : ik * c = ((i * Cn : Nat) : Int) := by rw [hik, hc]; simp
  have := mul_le144 (Nat.le_of_lt hi) hR hC
  rw [z_mul hz (by omega) (by omega), e, z_add hz (by omega) (by omega), hjk]
  omega
set_option maxHeartbeats 64000000 in
theorem ct_reduce (R Cn : Nat) (L : List It) (hR : R ≤ 12) (hC : Cn ≤ 12) (h0 : 0 < R * Cn) (hlen : L.length = R * Cn) (hall : ∀ x ∈ L, isN x = true) :
    Ct Try.prog 18 [mtT R Cn L] (RedT R Cn R Cn (redP R Cn Cn 0 (cel L Cn) [])) := by
  have h144 := mul_le144 (Nat.le_refl R) hR hC
  have cC := ct_copyItems L (by omega) (by omega)
  have hL : L.map itK = (gridL (cel L Cn) Cn R).map itK := congrArg (List.map itK) (grid_of hlen)
  have hM0 : ∀ a b, okI (cel L Cn a b) := fun a b => by
    unfold cel
    cases hx : L[a * Cn + b]? with
    | none => exact okI_zero
    | some x => exact isN_ok (hall x (List.mem_of_getElem? hx))
  obtain ⟨M0, hM⟩ := hide (cel L Cn)
  rw [← hM] at hL hM0 ⊢
  obtain ⟨res, hres⟩ := hide (redP R Cn Cn 0 M0 [])
  rw [← hres]
  have hgl : ∀ M : Mx, ((gridL M Cn R).map itK).length = R * Cn := fun M => by rw [List.length_map, gridL_length]
  have cN : ∀ (M : Mx) (els : List (List C)), els = (gridL M Cn R).map itK → (∀ a b, okI (M a b)) → ∀ b, b = allM R Cn M → Ct Try.prog 36 [.c (.sl els)] (fun t => t = .q b) := fun M els he hM b hb => by
    subst he hb
    exact ct_allNumbers _ (fun x h => by
      obtain ⟨i, j, _, _, rfl⟩ := grid_mem h
      exact hM i j) (by rw [gridL_length]; omega)
  unfold mtT
  obtain ⟨I, hI⟩ := hide (L.map itK)
  rw [← hI] at hL cC ⊢
  obtain ⟨r, hr⟩ := hide (R : Int)
  obtain ⟨c, hc⟩ := hide (Cn : Int)
  rw [← hr, ← hc]
  clear hM hI hall hlen
  obtain ⟨zb, zc, zs, zl, zn, zt, zp, zg, zv, zx, zm, hz⟩ := Vm.zE
  refine Ct_of_W Try.func18 rfl (Nat.le_of_ble_eq_true rfl) fun w0 Z0 => ?_
  refine W_run ti_ok hz 400 (by cbv) ?_
  refine W_keep [1, 2, 3, 4] [0, 1] 3 (by cbv) (by cbv) ?_
  refine W_cut (fun a m => ∃ (cap n : Nat), n = I.length ∧ a = [(2, T.pt 1 0), (3, T.nil), (4, T.c (C.b false)), (5, T.pt 2 0)] ∧
      m = [(1, Obj.box [T.c (C.i IntKind.i64 0), T.c (C.i IntKind.i64 0), T.nil]), (2, Obj.box [T.c (C.i IntKind.i64 r), T.c (C.i IntKind.i64 c), T.rw 3 n cap]), (3, Obj.row I cap)]) 4 ?_ ?_
  · refine W_drawT mixedB (.cons (2, 0) (.cons (1, 1) (.cons (2, 2) (.cons (1, 3) (.cons (2, 4) (.cons (1, 5) (.fork (.cons (0, 6) (.cons (2, 7) (.cons (0, 8) (.cons (0, 9) .nil)))) (.cons (0, 8) (.cons (0, 6) (.cons (2, 7) (.cons (0, 9) .nil))))))))))) [9] (by kernel_rfl) ?_
    refine D_run ti_ok hz 400 (by cbv) ?_
    refine D_fork ?_ ?_
    · refine D_callP [] rfl (by cbv) (by cbv) (by cbv) (by cbv) (by kernel_rfl) (cC) ?_
      rintro t m1 ⟨cap, n, hn, rfl, rfl⟩
      refine ⟨_, _, rfl, rfl, ?_⟩
      refine D_run ti_ok hz 1 (by cbv) ?_
      refine D_allocAt ti_ok 2 5 (by cbv) (by cbv) (by cbv) (by cbv) (by cbv) (by cbv) (by cbv) (by cbv) ?_
      refine D_last ti_ok hz (by cbv) (by cbv) (by cbv) (by cbv) (by cbv) ?_
      exact W_fin [2, 3, 4, 5] [1, 2, 3] (by cbv) (by cbv) ⟨cap, n, hn, by cbv, by cbv⟩
    · refine D_allocAt ti_ok 2 5 (by cbv) (by cbv) (by cbv) (by cbv) (by cbv) (by cbv) (by cbv) (by cbv) ?_
      refine D_callP [] rfl (by cbv) (by cbv) (by cbv) (by cbv) (by kernel_rfl) (cC) ?_
      rintro t m1 ⟨cap, n, hn, rfl, rfl⟩
      refine ⟨_, _, rfl, rfl, ?_⟩
      refine D_run ti_ok hz 1 (by cbv) ?_
      refine D_last ti_ok hz (by cbv) (by cbv) (by cbv) (by cbv) (by cbv) ?_
      exact W_fin [2, 3, 4, 5] [1, 2, 3] (by cbv) (by cbv) ⟨cap, n, hn, by cbv, by cbv⟩
  rintro a m ⟨cap, n, hn0, rfl, rfl⟩
  have hn0 : n = R * Cn := by rw [hn0, hL, hgl]
  refine W_run ti_ok hz 400 (by cbv) ?_
  refine W_own 6 5 (by cbv) ?_
  refine W_keep [2, 3, 4, 5, 6, 7] [1, 2, 3, 4] 5 (by cbv) (by cbv) ?_
  refine W_loopS (fun n' a m => ∃ (col : Nat) (ck : Int) (M : Mx) (piv : List Nat) (st els : List (List C)), col ≤ Cn ∧ n' = Cn - col ∧ ck = (col : Int) ∧ piv.length ≤ R ∧ piv.length ≤ col ∧ redP R Cn (Cn - col) col M piv = res ∧ (∀ a b, okI (M a b)) ∧ StR piv st ∧ els = (gridL M Cn R).map itK ∧
      a = [(2, T.pt 1 0), (3, T.nil), (4, T.c (C.b false)), (5, T.pt 2 0), (6, T.sk 4 st), (7, T.c (C.i IntKind.i64 ck))] ∧
      m = [(1, Obj.box [T.c (C.i IntKind.i64 0), T.c (C.i IntKind.i64 0), T.nil]), (2, Obj.box [T.c (C.i IntKind.i64 r), T.c (C.i IntKind.i64 c), T.rw 3 n cap]), (3, Obj.row els cap), (4, Obj.tok 5 st)]) Cn
    (fun a m => ∃ (M : Mx) (piv : List Nat) (st els : List (List C)), res = some (M, piv) ∧ StR piv st ∧ els = (gridL M Cn R).map itK ∧ a = [(2, T.pt 1 0), (3, T.nil), (4, T.c (C.b false)), (5, T.pt 2 0), (6, T.sk 4 st)] ∧ m = [(1, Obj.box [T.c (C.i IntKind.i64 0), T.c (C.i IntKind.i64 0), T.nil]), (2, Obj.box [T.c (C.i IntKind.i64 r), T.c (C.i IntKind.i64 c), T.rw 3 n cap]), (3, Obj.row els cap), (4, Obj.tok 5 st)]) 5
    ⟨0, 0, M0, [], [], I, Nat.zero_le _, rfl, rfl, Nat.zero_le _, Nat.zero_le _, hres.symm, hM0, trivial, hL, by cbv, by cbv⟩ ?_ ?_
  · rintro n' a m ⟨col, ck, M, piv, st, els, hcol, hn', hck, hpR, hpc, hred, hok, hst, hels, rfl, rfl⟩
    have hn : n = els.length := by rw [hels, hgl, hn0]
    obtain ⟨rr, hrr⟩ := hide (piv.length : Int)
    have hlen : zl st = rr := by rw [z_len hz, hst.length, hrr]
    refine W_run ti_ok hz 400 (by cbv) ?_
    by_cases hlt : col < Cn
    rotate_left
    · refine W_bool 30 (by cbv) (show _ = false by rw [z_lss hz]; exact decide_eq_false (by omega)) ?_
      refine W_run ti_ok hz 400 (by cbv) ?_
      have e : Cn - col = 0 := by omega
      rw [e] at hred
      exact W_fin [2, 3, 4, 5, 6] [1, 2, 3, 4] (by cbv) (by cbv) ⟨M, piv, st, els, hred.symm, hst, hels, by cbv, by cbv⟩
    refine W_bool 30 (by cbv) (show _ = true by rw [z_lss hz]; exact decide_eq_true (by omega)) ?_
    refine W_run ti_ok hz 400 (by cbv) ?_
    rw [hlen]
    refine W_cond (by cbv) (fun h => ?_) (fun h => ?_)
    rotate_left
    · rw [z_lss hz] at h
      have h := of_decide_eq_false h
      rw [redP_full (by omega)] at hred
      refine W_run ti_ok hz 400 (by cbv) ?_
      exact W_fin [2, 3, 4, 5, 6] [1, 2, 3, 4] (by cbv) (by cbv) ⟨M, piv, st, els, hred.symm, hst, hels, by cbv, by cbv⟩
    rw [z_lss hz] at h
    have h := of_decide_eq_true h
    have hpl : piv.length < R := by omega
    have hsucc : Cn - col = (Cn - (col + 1)) + 1 := by omega
    rw [hsucc, redP, if_pos hpl] at hred
    obtain ⟨r0, hr0⟩ := hide piv.length
    rw [← hr0] at hrr hpl hred
    have hkx : ∀ k, r0 ≤ k → k ≤ R → (∀ a, r0 ≤ a → a < k → (M a col).1 = 0) → (k = R ∨ (M k col).1 ≠ 0) → k = kOf M R col r0 := fun k => kOf_eq (by omega)
    have hks := findK_spec M col (R - r0) r0
    obtain ⟨K, hK⟩ := hide (kOf M R col r0)
    rw [← hK] at hred hkx
    have hK1 : r0 ≤ K ∧ K ≤ R := by rw [hK]; unfold kOf; omega
    clear hks hK
    refine W_run ti_ok hz 400 (by cbv) ?_
    rw [hlen]
    refine W_keep [2, 3, 4, 5, 6, 7, 8, 9] [1, 2, 3, 4] 5 (by cbv) (by cbv) ?_
    refine W_loopS (fun n' a m => ∃ (k : Nat) (kk : Int), r0 ≤ k ∧ k ≤ R ∧ n' = R - k ∧ kk = (k : Int) ∧ (∀ a, r0 ≤ a → a < k → (M a col).1 = 0) ∧ a = [(2, T.pt 1 0), (3, T.nil), (4, T.c (C.b false)), (5, T.pt 2 0), (6, T.sk 4 st), (7, T.c (C.i IntKind.i64 ck)), (8, T.c (C.i IntKind.i64 rr)), (9, T.c (C.i IntKind.i64 kk))] ∧ m = [(1, Obj.box [T.c (C.i IntKind.i64 0), T.c (C.i IntKind.i64 0), T.nil]), (2, Obj.box [T.c (C.i IntKind.i64 r), T.c (C.i IntKind.i64 c), T.rw 3 n cap]), (3, Obj.row els cap), (4, Obj.tok 5 st)]) (R - r0)
      (fun a m => ∃ (kk : Int), kk = (K : Int) ∧ a = [(2, T.pt 1 0), (3, T.nil), (4, T.c (C.b false)), (5, T.pt 2 0), (6, T.sk 4 st), (7, T.c (C.i IntKind.i64 ck)), (8, T.c (C.i IntKind.i64 rr)), (9, T.c (C.i IntKind.i64 kk))] ∧ m = [(1, Obj.box [T.c (C.i IntKind.i64 0), T.c (C.i IntKind.i64 0), T.nil]), (2, Obj.box [T.c (C.i IntKind.i64 r), T.c (C.i IntKind.i64 c), T.rw 3 n cap]), (3, Obj.row els cap), (4, Obj.tok 5 st)]) 5 ⟨r0, rr, Nat.le_refl _, by omega, rfl, hrr, fun a h1 h2 => by omega, by cbv, by cbv⟩ ?_ ?_
    · rintro n' a m ⟨k, kk, k1, k2, hn', hkk, hzz, rfl, rfl⟩
      refine W_run ti_ok hz 400 (by cbv) ?_
      by_cases hkR : k < R
      rotate_left
      · refine W_bool 46 (by cbv) (show _ = false by rw [z_lss hz]; exact decide_eq_false (by omega)) ?_
        refine W_run ti_ok hz 400 (by cbv) ?_
        have e := hkx k k1 k2 hzz (.inl (by omega))
        exact W_fin [2, 3, 4, 5, 6, 7, 8, 9] [1, 2, 3, 4] (by cbv) (by cbv) ⟨kk, by rw [hkk, e], by cbv, by cbv⟩
      refine W_bool 46 (by cbv) (show _ = true by rw [z_lss hz]; exact decide_eq_true (by omega)) ?_
      obtain ⟨x, hx⟩ := hide (M k col)
      have cA := cellM hels hR hC hr hc hkk hck hkR hlt hx
      have hxz : x.1 = (M k col).1 := by rw [hx]
      clear hx
      obtain ⟨x1, x2⟩ := x
      refine W_run ti_ok hz 400 (by cbv) ?_
      refine W_callF (by cbv) (by exact ⟨hn.trans (by cases els <;> rfl), trivial⟩) (by kernel_rfl) (cA) (by rintro t rfl; rfl) ?_
      rintro t rfl
      refine W_run ti_ok hz 400 (by cbv) ?_
      refine W_cond (by cbv) (fun h => ?_) (fun h => ?_)
      · rw [z_eql hz] at h
        have h : x1 = 0 := by simpa using h
        refine W_run ti_ok hz 400 (by cbv) ?_
        obtain ⟨kk1, hkk1⟩ := hide (kk + 1)
        have hadd : zb .add .i64 kk 1 = kk1 := by rw [z_add hz (by omega) (by omega), hkk1]
        rw [hadd]
        refine W_inv [2, 3, 4, 5, 6, 7, 8, 9] [1, 2, 3, 4] (R - (k + 1)) (by omega) (by cbv) (by cbv) ⟨k + 1, kk1, by omega, hkR, rfl, by rw [hkk1, hkk]; rfl, fun a h1 h2 => ?_, by cbv, by cbv⟩
        by_cases ha : a = k
        · rw [ha, ← hxz]; exact h
        · exact hzz a h1 (by omega)
      · rw [z_eql hz] at h
        have h : ¬ x1 = 0 := by simpa using h
        refine W_run ti_ok hz 400 (by cbv) ?_
        have e := hkx k k1 k2 hzz (.inr (by rw [← hxz]; exact h))
        exact W_fin [2, 3, 4, 5, 6, 7, 8, 9] [1, 2, 3, 4] (by cbv) (by cbv) ⟨kk, by rw [hkk, e], by cbv, by cbv⟩
    rintro a m ⟨kk, hkk, rfl, rfl⟩
    clear hkx
    refine W_run ti_ok hz 400 (by cbv) ?_
    refine W_cond (by cbv) (fun h => ?_) (fun h => ?_)
    · rw [z_eql hz] at h
      have h : kk = r := by simpa using h
      rw [if_pos (by omega)] at hred
      refine W_run ti_ok hz 400 (by cbv) ?_
      obtain ⟨ck1, hck1⟩ := hide (ck + 1)
      have hadd : zb .add .i64 ck 1 = ck1 := by rw [z_add hz (by omega) (by omega), hck1]
      rw [hadd]
      exact W_inv [2, 3, 4, 5, 6, 7] [1, 2, 3, 4] (Cn - (col + 1)) (by omega) (by cbv) (by cbv) ⟨col + 1, ck1, M, piv, st, els, hlt, rfl, by rw [hck1, hck]; rfl, hpR, by omega, hred, hok, hst, hels, by cbv, by cbv⟩
    rw [z_eql hz] at h
    have h : ¬ kk = r := by simpa using h
    have hKR : K < R := by omega
    rw [if_neg (by omega)] at hred
    clear h
    refine W_run ti_ok hz 400 (by cbv) ?_
    refine W_keep [2, 3, 4, 5, 6, 7, 8, 9, 10] [1, 2, 3, 4] 5 (by cbv) (by cbv) ?_
    -- two rows are exchanged
    refine W_loopS (fun n' a m => ∃ (j : Nat) (jk : Int) (els : List (List C)), j ≤ Cn ∧ n' = Cn - j ∧ jk = (j : Int) ∧ els = (gridL (swapJ M r0 K j) Cn R).map itK ∧ a = [(2, T.pt 1 0), (3, T.nil), (4, T.c (C.b false)), (5, T.pt 2 0), (6, T.sk 4 st), (7, T.c (C.i IntKind.i64 ck)), (8, T.c (C.i IntKind.i64 rr)), (9, T.c (C.i IntKind.i64 kk)), (10, T.c (C.i IntKind.i64 jk))] ∧ m = [(1, Obj.box [T.c (C.i IntKind.i64 0), T.c (C.i IntKind.i64 0), T.nil]), (2, Obj.box [T.c (C.i IntKind.i64 r), T.c (C.i IntKind.i64 c), T.rw 3 n cap]), (3, Obj.row els cap), (4, Obj.tok 5 st)]) Cn
      (fun a m => ∃ (els : List (List C)), els = (gridL (swapM M r0 K) Cn R).map itK ∧ a = [(2, T.pt 1 0), (3, T.nil), (4, T.c (C.b false)), (5, T.pt 2 0), (6, T.sk 4 st), (7, T.c (C.i IntKind.i64 ck)), (8, T.c (C.i IntKind.i64 rr)), (9, T.c (C.i IntKind.i64 kk))] ∧ m = [(1, Obj.box [T.c (C.i IntKind.i64 0), T.c (C.i IntKind.i64 0), T.nil]), (2, Obj.box [T.c (C.i IntKind.i64 r), T.c (C.i IntKind.i64 c), T.rw 3 n cap]), (3, Obj.row els cap), (4, Obj.tok 5 st)]) 5 ⟨0, 0, els, Nat.zero_le _, rfl, rfl, by rw [hels, swapJ_0], by cbv, by cbv⟩ ?_ ?_
    · clear hels hn
      rintro n' a m ⟨j, jk, els, hj, hn', hjk, hels, rfl, rfl⟩
      refine W_run ti_ok hz 400 (by cbv) ?_
      refine W_cond (by cbv) (fun h => ?_) (fun h => ?_)
      rotate_left
      · rw [z_lss hz] at h
        have h := of_decide_eq_false h
        have e : j = Cn := by omega
        refine W_run ti_ok hz 400 (by cbv) ?_
        exact W_fin [2, 3, 4, 5, 6, 7, 8, 9] [1, 2, 3, 4] (by cbv) (by cbv) ⟨els, by rw [hels, e, swapJ_all], by cbv, by cbv⟩
      rw [z_lss hz] at h
      have h := of_decide_eq_true h
      have hj' : j < Cn := by omega
      have g1 := mix hz hrr hjk hc hpl hj' hR hC
      have g2 := mix hz hkk hjk hc hKR hj' hR hC
      have l1 := at_lt hpl hj'
      have l2 := at_lt hKR hj'
      have e1 : els[r0 * Cn + j]? = some (itK (M r0 j)) := by rw [hels, grid_getK hpl hj', swapJ_at]
      have e2 : els[K * Cn + j]? = some (itK (M K j)) := by rw [hels, grid_getK hKR hj', swapJ_at]
      have e3 : (els.set (r0 * Cn + j) (itK (M K j)))[K * Cn + j]? = some (itK (M K j)) := by
        rw [hels, grid_setK hpl hj', grid_getK hKR hj']
        unfold upd
        split
        · rfl
        · rw [swapJ_at]
      have e4 : (els.set (r0 * Cn + j) (itK (M K j))).set (K * Cn + j) (itK (M r0 j)) = (gridL (swapJ M r0 K (j + 1)) Cn R).map itK := by
        rw [hels, grid_setK hpl hj', grid_setK hKR hj', swapJ_next]
      obtain ⟨J1, hJ1⟩ := hide (r0 * Cn + j)
      obtain ⟨J2, hJ2⟩ := hide (K * Cn + j)
      rw [← hJ1] at g1 l1 e1 e3 e4
      rw [← hJ2] at g2 l2 e2 e3 e4
      obtain ⟨A1, hA1⟩ := hide (J1 : Int)
      obtain ⟨A2, hA2⟩ := hide (J2 : Int)
      rw [← hA1] at g1
      rw [← hA2] at g2
      obtain ⟨x, hx⟩ := hide (M K j)
      obtain ⟨y, hy⟩ := hide (M r0 j)
      rw [← hx] at e2 e3 e4
      rw [← hy] at e1 e4
      obtain ⟨els1, hE1⟩ := hide (els.set J1 (itK x))
      rw [← hE1] at e3 e4
      obtain ⟨els2, hE2⟩ := hide (els1.set J2 (itK y))
      rw [← hE2] at e4
      have q1 : J1 < n := by omega
      have q2 : J2 < n := by omega
      clear hJ1 hJ2 hx hy hels
      obtain ⟨x1, x2⟩ := x
      obtain ⟨y1, y2⟩ := y
      refine W_run ti_ok hz 400 (by cbv) ?_
      refine W_draw mixedB [(2, 0), (2, 1), (1, 2), (2, 3), (2, 4), (2, 5), (2, 6), (2, 7), (1, 8), (2, 9), (2, 10), (2, 11), (0, 12), (0, 13)] [] (by kernel_rfl) ?_
      refine D_run ti_ok hz 400 (by cbv) ?_
      refine D_done ?_
      refine W_run ti_ok hz 400 (by cbv) ?_
      rw [g1, g2]
      refine W_keep [2, 3, 4, 5, 6, 7, 8, 9, 10, 11, 12] [1, 2, 3, 4] 5 (by cbv) (by cbv) ?_
      refine W_cut (fun a m => a = [(2, T.pt 1 0), (3, T.nil), (4, T.c (C.b false)), (5, T.pt 2 0), (6, T.sk 4 st), (7, T.c (C.i IntKind.i64 ck)), (8, T.c (C.i IntKind.i64 rr)), (9, T.c (C.i IntKind.i64 kk)), (10, T.c (C.i IntKind.i64 jk))] ∧ m = [(1, Obj.box [T.c (C.i IntKind.i64 0), T.c (C.i IntKind.i64 0), T.nil]), (2, Obj.box [T.c (C.i IntKind.i64 r), T.c (C.i IntKind.i64 c), T.rw 3 n cap]), (3, Obj.row els2 cap), (4, Obj.tok 5 st)]) 5 ?_ ?_
      · refine W_drawTM mixedB [2] (.cons (2, 0) (.cons (1, 1) (.cons (2, 2) (.cons (2, 3) (.cons (1, 4) (.cons (2, 5) (.cons (2, 6) (.cons (1, 7) (.cons (2, 8) (.cons (2, 9) (.cons (2, 11) (.cons (1, 12) (.cons (2, 13) (.cons (2, 14) (.fork (.cons (0, 10) (.cons (0, 15) (.cons (2, 16) (.cons (0, 17) (.cons (2, 18) (.cons (0, 19) .nil)))))) (.cons (0, 15) (.cons (0, 10) (.cons (2, 16) (.cons (0, 17) (.cons (2, 18) (.cons (0, 19) .nil))))))))))))))))))))) [19] (by kernel_rfl) ?_
        refine D_run ti_ok hz 400 (by cbv) ?_
        refine D_val (by cbv) (by cbv) (by cbv) (Val_rwAt ti_ok (by cbv) J2 hA2 q2) ?_
        refine D_run ti_ok hz 400 (by cbv) ?_
        refine D_val (by cbv) (by cbv) (by cbv) (Val_rwAt ti_ok (by cbv) J1 hA1 q1) ?_
        refine D_run ti_ok hz 400 (by cbv) ?_
        refine D_fork ?_ ?_
        · refine D_peLd0 ti_ok (by cbv) (by cbv) (by cbv) (by cbv) (by cbv) e2 rfl (by cbv) ?_
          refine D_peLd0 ti_ok (by cbv) (by cbv) (by cbv) (by cbv) (by cbv) e1 rfl (by cbv) ?_
          refine D_val (by cbv) (by cbv) (by cbv) (Val_rwAt ti_ok (by cbv) J1 hA1 q1) ?_
          refine D_peSt ti_ok (by cbv) (by cbv) (by cbv) (by cbv) (by cbv) e1 rfl (by rfl) (by rfl) (by cbv) ?_
          rw [show els.set J1 [C.i IntKind.i64 x1, C.i IntKind.i64 x2, C.s []] = els1 from hE1.symm]
          refine D_val (by cbv) (by cbv) (by cbv) (Val_rwAt ti_ok (by cbv) J2 hA2 q2) ?_
          refine D_peStLast ti_ok (by cbv) (by cbv) (by cbv) (by cbv) (by cbv) (by cbv) e3 rfl (by rfl) (by rfl) ?_
          rw [show els1.set J2 [C.i IntKind.i64 y1, C.i IntKind.i64 y2, C.s []] = els2 from hE2.symm]
          exact W_fin [2, 3, 4, 5, 6, 7, 8, 9, 10] [1, 2, 3, 4] (by cbv) (by cbv) ⟨by cbv, by cbv⟩
        · refine D_peLd0 ti_ok (by cbv) (by cbv) (by cbv) (by cbv) (by cbv) e1 rfl (by cbv) ?_
          refine D_peLd0 ti_ok (by cbv) (by cbv) (by cbv) (by cbv) (by cbv) e2 rfl (by cbv) ?_
          refine D_val (by cbv) (by cbv) (by cbv) (Val_rwAt ti_ok (by cbv) J1 hA1 q1) ?_
          refine D_peSt ti_ok (by cbv) (by cbv) (by cbv) (by cbv) (by cbv) e1 rfl (by rfl) (by rfl) (by cbv) ?_
          rw [show els.set J1 [C.i IntKind.i64 x1, C.i IntKind.i64 x2, C.s []] = els1 from hE1.symm]
          refine D_val (by cbv) (by cbv) (by cbv) (Val_rwAt ti_ok (by cbv) J2 hA2 q2) ?_
          refine D_peStLast ti_ok (by cbv) (by cbv) (by cbv) (by cbv) (by cbv) (by cbv) e3 rfl (by rfl) (by rfl) ?_
          rw [show els1.set J2 [C.i IntKind.i64 y1, C.i IntKind.i64 y2, C.s []] = els2 from hE2.symm]
          exact W_fin [2, 3, 4, 5, 6, 7, 8, 9, 10] [1, 2, 3, 4] (by cbv) (by cbv) ⟨by cbv, by cbv⟩
      rintro a m ⟨rfl, rfl⟩
      refine W_run ti_ok hz 400 (by cbv) ?_
      obtain ⟨jk1, hjk1⟩ := hide (jk + 1)
      have hadd : zb .add .i64 jk 1 = jk1 := by rw [z_add hz (by omega) (by omega), hjk1]
      rw [hadd]
      exact W_inv [2, 3, 4, 5, 6, 7, 8, 9, 10] [1, 2, 3, 4] (Cn - (j + 1)) (by omega) (by cbv) (by cbv) ⟨j + 1, jk1, els2, hj', rfl, by rw [hjk1, hjk]; rfl, e4, by cbv, by cbv⟩
    clear hels hn
    rintro a m ⟨els, hels, rfl, rfl⟩
    have hn : n = els.length := by rw [hels, hgl, hn0]
    have hp0 : swapM M r0 K r0 col = M K col := by simp [swapM]
    have hok1 := okM_swap hok r0 K
    have hstep : ∀ M', M' = stepM M r0 K col → ∃ p M1, p = M K col ∧ M1 = swapM M r0 K ∧ M' = elimM (divM M1 r0 p) r0 col := fun M' h => ⟨_, _, rfl, rfl, h⟩
    obtain ⟨M3, hM3⟩ := hide (stepM M r0 K col)
    have hok3 : ∀ a b, okI (M3 a b) := by rw [hM3]; exact okM_step hok r0 K col
    rw [← hM3] at hred
    obtain ⟨p, hp⟩ := hide (M K col)
    have hpk : okI p := by rw [hp]; exact hok _ _
    obtain ⟨M1, hM1⟩ := hide (swapM M r0 K)
    have hM3 : M3 = elimM (divM M1 r0 p) r0 col := by rw [hM3, hM1, hp]; rfl
    rw [← hM1] at hok1 hp0 hels
    rw [← hp] at hp0
    clear hstep hp hM1
    have cA := cellM hels hR hC hr hc hrr hck hpl hlt hp0.symm
    have hpe : p = (p.1, p.2) := rfl
    refine W_run ti_ok hz 400 (by cbv) ?_
    refine W_callF (by cbv) (by exact ⟨hn.trans (by cases els <;> rfl), trivial⟩) (by kernel_rfl) (cA) (by rintro t rfl; rfl) ?_
    rintro t rfl
    refine W_run ti_ok hz 400 (by cbv) ?_
    refine W_keep [2, 3, 4, 5, 6, 7, 8, 9, 13, 14] [1, 2, 3, 4, 5] 6 (by cbv) (by cbv) ?_
    -- the row is divided
    refine W_loopS (fun n' a m => ∃ (j : Nat) (jk : Int) (els : List (List C)), j ≤ Cn ∧ n' = Cn - j ∧ jk = (j : Int) ∧ els = (gridL (divJ M1 r0 p j) Cn R).map itK ∧ a = [(2, T.pt 1 0), (3, T.nil), (4, T.c (C.b false)), (5, T.pt 2 0), (6, T.sk 4 st), (7, T.c (C.i IntKind.i64 ck)), (8, T.c (C.i IntKind.i64 rr)), (9, T.c (C.i IntKind.i64 kk)), (13, T.pt 5 0), (14, T.c (C.i IntKind.i64 jk))] ∧ m = [(1, Obj.box [T.c (C.i IntKind.i64 0), T.c (C.i IntKind.i64 0), T.nil]), (2, Obj.box [T.c (C.i IntKind.i64 r), T.c (C.i IntKind.i64 c), T.rw 3 n cap]), (3, Obj.row els cap), (4, Obj.tok 5 st), (5, Obj.box [T.c (C.i IntKind.i64 p.1), T.c (C.i IntKind.i64 p.2), T.c (C.s [])])]) Cn
      (fun a m => ∃ (els : List (List C)), els = (gridL (divM M1 r0 p) Cn R).map itK ∧ a = [(2, T.pt 1 0), (3, T.nil), (4, T.c (C.b false)), (5, T.pt 2 0), (6, T.sk 4 st), (7, T.c (C.i IntKind.i64 ck)), (8, T.c (C.i IntKind.i64 rr)), (9, T.c (C.i IntKind.i64 kk)), (13, T.pt 5 0)] ∧ m = [(1, Obj.box [T.c (C.i IntKind.i64 0), T.c (C.i IntKind.i64 0), T.nil]), (2, Obj.box [T.c (C.i IntKind.i64 r), T.c (C.i IntKind.i64 c), T.rw 3 n cap]), (3, Obj.row els cap), (4, Obj.tok 5 st), (5, Obj.box [T.c (C.i IntKind.i64 p.1), T.c (C.i IntKind.i64 p.2), T.c (C.s [])])]) 6 ⟨0, 0, els, Nat.zero_le _, rfl, rfl, by rw [hels, divJ_0], by cbv, by cbv⟩ ?_ ?_
    · clear hels hn cA
      rintro n' a m ⟨j, jk, els, hj, hn', hjk, hels, rfl, rfl⟩
      have hn : n = els.length := by rw [hels, hgl, hn0]
      refine W_run ti_ok hz 400 (by cbv) ?_
      refine W_cond (by cbv) (fun h => ?_) (fun h => ?_)
      rotate_left
      · rw [z_lss hz] at h
        have h := of_decide_eq_false h
        have e : j = Cn := by omega
        refine W_run ti_ok hz 400 (by cbv) ?_
        exact W_fin [2, 3, 4, 5, 6, 7, 8, 9, 13] [1, 2, 3, 4, 5] (by cbv) (by cbv) ⟨els, by rw [hels, e, divJ_all], by cbv, by cbv⟩
      rw [z_lss hz] at h
      have h := of_decide_eq_true h
      have hj' : j < Cn := by omega
      have g1 := mix hz hrr hjk hc hpl hj' hR hC
      have l1 := at_lt hpl hj'
      obtain ⟨x, hx⟩ := hide (M1 r0 j)
      have cA := cellM hels hR hC hr hc hrr hjk hpl hj' (x := x) (by rw [hx, divJ_at])
      have e1 : els[r0 * Cn + j]? = some (itK x) := by rw [hels, grid_getK hpl hj', divJ_at, hx]
      have e4 : els.set (r0 * Cn + j) (itK (divI x p)) = (gridL (divJ M1 r0 p (j + 1)) Cn R).map itK := by rw [hels, grid_setK hpl hj', hx, divJ_next]
      have cD := ct_DivideNumbers x p (by rw [hx]; exact hok1 _ _) hpk
      obtain ⟨y, hy⟩ := hide (divI x p)
      rw [← hy] at e4 cD
      obtain ⟨J1, hJ1⟩ := hide (r0 * Cn + j)
      rw [← hJ1] at g1 l1 e1 e4
      obtain ⟨els2, hE2⟩ := hide (els.set J1 (itK y))
      rw [← hE2] at e4
      have q1 : J1 < n := by omega
      clear hJ1 hx hy hels
      obtain ⟨x1, x2⟩ := x
      obtain ⟨y1, y2⟩ := y
      refine W_run ti_ok hz 400 (by cbv) ?_
      refine W_draw mixedB [(2, 0), (1, 1), (2, 2), (2, 3), (1, 4), (2, 5), (2, 6), (2, 7), (1, 8), (2, 9), (2, 10), (1, 12), (0, 11), (0, 13), (2, 14), (0, 15)] [15] (by kernel_rfl) ?_
      refine D_run ti_ok hz 400 (by cbv) ?_
      refine D_callF (by cbv) (by cbv) (by exact ⟨hn.trans (by cases els <;> rfl), trivial⟩) (by kernel_rfl) (cA) (by rintro t rfl; rfl) ?_
      rintro t rfl
      refine D_run ti_ok hz 400 (by cbv) ?_
      refine D_call (by cbv) (by cbv) (by kernel_rfl) (cD) ?_
      rintro t rfl
      refine D_run ti_ok hz 400 (by cbv) ?_
      refine D_val (by cbv) (by cbv) (by cbv) (Val_rwAt ti_ok (by cbv) J1 g1 q1) ?_
      refine D_peStLast ti_ok (by cbv) (by cbv) (by cbv) (by cbv) (by cbv) (by cbv) e1 rfl (by rfl) (by rfl) ?_
      rw [show els.set J1 [C.i IntKind.i64 y1, C.i IntKind.i64 y2, C.s []] = els2 from hE2.symm]
      refine W_run ti_ok hz 400 (by cbv) ?_
      obtain ⟨jk1, hjk1⟩ := hide (jk + 1)
      have hadd : zb .add .i64 jk 1 = jk1 := by rw [z_add hz (by omega) (by omega), hjk1]
      rw [hadd]
      exact W_inv [2, 3, 4, 5, 6, 7, 8, 9, 13, 14] [1, 2, 3, 4, 5] (Cn - (j + 1)) (by omega) (by cbv) (by cbv) ⟨j + 1, jk1, els2, hj', rfl, by rw [hjk1, hjk]; rfl, e4, by cbv, by cbv⟩
    clear hels hn cA hp0
    rintro a m ⟨els, hels, rfl, rfl⟩
    have hok2 := okM_div hok1 r0 p
    obtain ⟨M2, hM2⟩ := hide (divM M1 r0 p)
    rw [← hM2] at hok2 hels hM3
    clear hM2 hok1
    refine W_run ti_ok hz 400 (by cbv) ?_
    refine W_keep [2, 3, 4, 5, 6, 7, 8, 9, 13, 15] [1, 2, 3, 4, 5] 6 (by cbv) (by cbv) ?_
    -- the other rows are cleared
    refine W_loopS (fun n' a m => ∃ (i : Nat) (ik : Int) (els : List (List C)), i ≤ R ∧ n' = R - i ∧ ik = (i : Int) ∧ els = (gridL (elimJ M2 r0 col i 0) Cn R).map itK ∧ a = [(2, T.pt 1 0), (3, T.nil), (4, T.c (C.b false)), (5, T.pt 2 0), (6, T.sk 4 st), (7, T.c (C.i IntKind.i64 ck)), (8, T.c (C.i IntKind.i64 rr)), (9, T.c (C.i IntKind.i64 kk)), (13, T.pt 5 0), (15, T.c (C.i IntKind.i64 ik))] ∧ m = [(1, Obj.box [T.c (C.i IntKind.i64 0), T.c (C.i IntKind.i64 0), T.nil]), (2, Obj.box [T.c (C.i IntKind.i64 r), T.c (C.i IntKind.i64 c), T.rw 3 n cap]), (3, Obj.row els cap), (4, Obj.tok 5 st), (5, Obj.box [T.c (C.i IntKind.i64 p.1), T.c (C.i IntKind.i64 p.2), T.c (C.s [])])]) R
      (fun a m => ∃ (els : List (List C)), els = (gridL M3 Cn R).map itK ∧ a = [(2, T.pt 1 0), (3, T.nil), (4, T.c (C.b false)), (5, T.pt 2 0), (6, T.sk 4 st), (7, T.c (C.i IntKind.i64 ck)), (8, T.c (C.i IntKind.i64 rr)), (9, T.c (C.i IntKind.i64 kk)), (13, T.pt 5 0)] ∧ m = [(1, Obj.box [T.c (C.i IntKind.i64 0), T.c (C.i IntKind.i64 0), T.nil]), (2, Obj.box [T.c (C.i IntKind.i64 r), T.c (C.i IntKind.i64 c), T.rw 3 n cap]), (3, Obj.row els cap), (4, Obj.tok 5 st), (5, Obj.box [T.c (C.i IntKind.i64 p.1), T.c (C.i IntKind.i64 p.2), T.c (C.s [])])]) 6 ⟨0, 0, els, Nat.zero_le _, rfl, rfl, by rw [hels, elimJ_00], by cbv, by cbv⟩ ?_ ?_
    · clear hels
      rintro n' a m ⟨i, ik, els, hi, hn', hik, hels, rfl, rfl⟩
      have hn : n = els.length := by rw [hels, hgl, hn0]
      refine W_run ti_ok hz 400 (by cbv) ?_
      refine W_cond (by cbv) (fun h => ?_) (fun h => ?_)
      rotate_left
      · rw [z_lss hz] at h
        have h := of_decide_eq_false h
        have e : i = R := by omega
        refine W_run ti_ok hz 400 (by cbv) ?_
        exact W_fin [2, 3, 4, 5, 6, 7, 8, 9, 13] [1, 2, 3, 4, 5] (by cbv) (by cbv) ⟨els, by rw [hels, e, elimJ_all, hM3], by cbv, by cbv⟩
      rw [z_lss hz] at h
      have h := of_decide_eq_true h
      have hi' : i < R := by omega
      obtain ⟨fx, hfx⟩ := hide (M2 i col)
      have cA := cellM hels hR hC hr hc hik hck hi' hlt (x := fx) (by rw [hfx, elimJ_at0])
      have hfk : okI fx := by rw [hfx]; exact hok2 _ _
      refine W_run ti_ok hz 400 (by cbv) ?_
      refine W_callF (by cbv) (by exact ⟨hn.trans (by cases els <;> rfl), trivial⟩) (by kernel_rfl) (cA) (by rintro t rfl; rfl) ?_
      rintro t rfl
      refine W_run ti_ok hz 400 (by cbv) ?_
      by_cases hir : i = r0
      · refine W_bool 134 (by cbv) (show _ = true by rw [z_eql hz]; exact beq_iff_eq.2 (by omega)) ?_
        refine W_run ti_ok hz 400 (by cbv) ?_
        obtain ⟨ik1, hik1⟩ := hide (ik + 1)
        have hadd : zb .add .i64 ik 1 = ik1 := by rw [z_add hz (by omega) (by omega), hik1]
        rw [hadd]
        exact W_inv [2, 3, 4, 5, 6, 7, 8, 9, 13, 15] [1, 2, 3, 4, 5] (R - (i + 1)) (by omega) (by cbv) (by cbv) ⟨i + 1, ik1, els, hi', rfl, by rw [hik1, hik]; rfl, by rw [hels, elimJ_skip (.inl hir)], by cbv, by cbv⟩
      refine W_bool 134 (by cbv) (show _ = false by rw [z_eql hz]; exact beq_eq_false_iff_ne.2 (by omega)) ?_
      refine W_run ti_ok hz 400 (by cbv) ?_
      refine W_cond (by cbv) (fun h => ?_) (fun h => ?_)
      · rw [z_eql hz] at h
        have h : fx.1 = 0 := by simpa using h
        refine W_run ti_ok hz 400 (by cbv) ?_
        obtain ⟨ik1, hik1⟩ := hide (ik + 1)
        have hadd : zb .add .i64 ik 1 = ik1 := by rw [z_add hz (by omega) (by omega), hik1]
        rw [hadd]
        exact W_inv [2, 3, 4, 5, 6, 7, 8, 9, 13, 15] [1, 2, 3, 4, 5] (R - (i + 1)) (by omega) (by cbv) (by cbv) ⟨i + 1, ik1, els, hi', rfl, by rw [hik1, hik]; rfl, by rw [hels, elimJ_skip (.inr (by rw [← hfx]; exact h))], by cbv, by cbv⟩
      rw [z_eql hz] at h
      have hf0 : (M2 i col).1 ≠ 0 := by rw [← hfx]; simpa using h
      clear h cA
      refine W_run ti_ok hz 400 (by cbv) ?_
      refine W_keep [2, 3, 4, 5, 6, 7, 8, 9, 13, 15, 16, 17] [1, 2, 3, 4, 5, 6] 7 (by cbv) (by cbv) ?_
      refine W_loopS (fun n' a m => ∃ (j : Nat) (jk : Int) (els : List (List C)), j ≤ Cn ∧ n' = Cn - j ∧ jk = (j : Int) ∧ els = (gridL (elimJ M2 r0 col i j) Cn R).map itK ∧ a = [(2, T.pt 1 0), (3, T.nil), (4, T.c (C.b false)), (5, T.pt 2 0), (6, T.sk 4 st), (7, T.c (C.i IntKind.i64 ck)), (8, T.c (C.i IntKind.i64 rr)), (9, T.c (C.i IntKind.i64 kk)), (13, T.pt 5 0), (15, T.c (C.i IntKind.i64 ik)), (16, T.pt 6 0), (17, T.c (C.i IntKind.i64 jk))] ∧ m = [(1, Obj.box [T.c (C.i IntKind.i64 0), T.c (C.i IntKind.i64 0), T.nil]), (2, Obj.box [T.c (C.i IntKind.i64 r), T.c (C.i IntKind.i64 c), T.rw 3 n cap]), (3, Obj.row els cap), (4, Obj.tok 5 st), (5, Obj.box [T.c (C.i IntKind.i64 p.1), T.c (C.i IntKind.i64 p.2), T.c (C.s [])]), (6, Obj.box [T.c (C.i IntKind.i64 fx.1), T.c (C.i IntKind.i64 fx.2), T.c (C.s [])])]) Cn
        (fun a m => ∃ (els : List (List C)), els = (gridL (elimJ M2 r0 col (i + 1) 0) Cn R).map itK ∧ a = [(2, T.pt 1 0), (3, T.nil), (4, T.c (C.b false)), (5, T.pt 2 0), (6, T.sk 4 st), (7, T.c (C.i IntKind.i64 ck)), (8, T.c (C.i IntKind.i64 rr)), (9, T.c (C.i IntKind.i64 kk)), (13, T.pt 5 0), (15, T.c (C.i IntKind.i64 ik))] ∧ m = [(1, Obj.box [T.c (C.i IntKind.i64 0), T.c (C.i IntKind.i64 0), T.nil]), (2, Obj.box [T.c (C.i IntKind.i64 r), T.c (C.i IntKind.i64 c), T.rw 3 n cap]), (3, Obj.row els cap), (4, Obj.tok 5 st), (5, Obj.box [T.c (C.i IntKind.i64 p.1), T.c (C.i IntKind.i64 p.2), T.c (C.s [])])]) 6 ⟨0, 0, els, Nat.zero_le _, rfl, rfl, hels, by cbv, by cbv⟩ ?_ ?_
      · clear hels hn
        rintro n' a m ⟨j, jk, els, hj, hn', hjk, hels, rfl, rfl⟩
        have hn : n = els.length := by rw [hels, hgl, hn0]
        refine W_run ti_ok hz 400 (by cbv) ?_
        refine W_cond (by cbv) (fun h => ?_) (fun h => ?_)
        rotate_left
        · rw [z_lss hz] at h
          have h := of_decide_eq_false h
          have e : j = Cn := by omega
          refine W_run ti_ok hz 400 (by cbv) ?_
          exact W_fin [2, 3, 4, 5, 6, 7, 8, 9, 13, 15] [1, 2, 3, 4, 5] (by cbv) (by cbv) ⟨els, by rw [hels, e, elimJ_end], by cbv, by cbv⟩
        rw [z_lss hz] at h
        have h := of_decide_eq_true h
        have hj' : j < Cn := by omega
        have g1 := mix hz hik hjk hc hi' hj' hR hC
        have l1 := at_lt hi' hj'
        obtain ⟨x, hx⟩ := hide (M2 i j)
        obtain ⟨y, hy⟩ := hide (M2 r0 j)
        have cA := cellM hels hR hC hr hc hik hjk hi' hj' (x := x) (by rw [hx, elimJ_at])
        have cB := cellM hels hR hC hr hc hrr hjk hpl hj' (x := y) (by rw [hy, elimJ_row])
        have e1 : els[i * Cn + j]? = some (itK x) := by rw [hels, grid_getK hi' hj', elimJ_at, hx]
        have e4 : els.set (i * Cn + j) (itK (subI x (mulI fx y))) = (gridL (elimJ M2 r0 col i (j + 1)) Cn R).map itK := by rw [hels, grid_setK hi' hj', hx, hy, hfx, elimJ_next hir hf0]
        have cD := ct_MultiplyNumbers fx y hfk (by rw [hy]; exact hok2 _ _)
        have okq := mul_ok fx y
        obtain ⟨q, hq⟩ := hide (mulI fx y)
        rw [← hq] at e4 cD okq
        have cE := ct_SubtractNumbers x q (by rw [hx]; exact hok2 _ _) okq
        obtain ⟨v, hv⟩ := hide (subI x q)
        rw [← hv] at e4 cE
        obtain ⟨J1, hJ1⟩ := hide (i * Cn + j)
        rw [← hJ1] at g1 l1 e1 e4
        obtain ⟨els2, hE2⟩ := hide (els.set J1 (itK v))
        rw [← hE2] at e4
        have q1 : J1 < n := by omega
        clear hJ1 hx hy hels hq hv okq
        obtain ⟨x1, x2⟩ := x
        obtain ⟨y1, y2⟩ := y
        obtain ⟨q1', q2'⟩ := q
        obtain ⟨v1, v2⟩ := v
        refine W_run ti_ok hz 400 (by cbv) ?_
        refine W_draw mixedB [(2, 0), (1, 1), (2, 2), (2, 3), (1, 4), (2, 5), (2, 6), (2, 7), (1, 8), (2, 9), (2, 10), (1, 12), (1, 13), (2, 14), (2, 15), (0, 11), (0, 16), (0, 17), (0, 18), (2, 19), (0, 20)] [20] (by kernel_rfl) ?_
        refine D_run ti_ok hz 400 (by cbv) ?_
        refine D_callF (by cbv) (by cbv) (by exact ⟨hn.trans (by cases els <;> rfl), trivial⟩) (by kernel_rfl) (cA) (by rintro t rfl; rfl) ?_
        rintro t rfl
        refine D_run ti_ok hz 400 (by cbv) ?_
        refine D_callF (by cbv) (by cbv) (by exact ⟨hn.trans (by cases els <;> rfl), trivial⟩) (by kernel_rfl) (cB) (by rintro t rfl; rfl) ?_
        rintro t rfl
        refine D_run ti_ok hz 400 (by cbv) ?_
        refine D_call (by cbv) (by cbv) (by kernel_rfl) (cD) ?_
        rintro t rfl
        refine D_run ti_ok hz 400 (by cbv) ?_
        refine D_call (by cbv) (by cbv) (by kernel_rfl) (cE) ?_
        rintro t rfl
        refine D_run ti_ok hz 400 (by cbv) ?_
        refine D_val (by cbv) (by cbv) (by cbv) (Val_rwAt ti_ok (by cbv) J1 g1 q1) ?_
        refine D_peStLast ti_ok (by cbv) (by cbv) (by cbv) (by cbv) (by cbv) (by cbv) e1 rfl (by rfl) (by rfl) ?_
        rw [show els.set J1 [C.i IntKind.i64 v1, C.i IntKind.i64 v2, C.s []] = els2 from hE2.symm]
        refine W_run ti_ok hz 400 (by cbv) ?_
        obtain ⟨jk1, hjk1⟩ := hide (jk + 1)
        have hadd : zb .add .i64 jk 1 = jk1 := by rw [z_add hz (by omega) (by omega), hjk1]
        rw [hadd]
        exact W_inv [2, 3, 4, 5, 6, 7, 8, 9, 13, 15, 16, 17] [1, 2, 3, 4, 5, 6] (Cn - (j + 1)) (by omega) (by cbv) (by cbv) ⟨j + 1, jk1, els2, hj', rfl, by rw [hjk1, hjk]; rfl, e4, by cbv, by cbv⟩
      clear hels hn
      rintro a m ⟨els, hels, rfl, rfl⟩
      refine W_run ti_ok hz 400 (by cbv) ?_
      obtain ⟨ik1, hik1⟩ := hide (ik + 1)
      have hadd : zb .add .i64 ik 1 = ik1 := by rw [z_add hz (by omega) (by omega), hik1]
      rw [hadd]
      exact W_inv [2, 3, 4, 5, 6, 7, 8, 9, 13, 15] [1, 2, 3, 4, 5] (R - (i + 1)) (by omega) (by cbv) (by cbv) ⟨i + 1, ik1, els, hi', rfl, by rw [hik1, hik]; rfl, hels, by cbv, by cbv⟩
    clear hels
    rintro a m ⟨els, hels, rfl, rfl⟩
    have hn : n = els.length := by rw [hels, hgl, hn0]
    obtain ⟨b, hb⟩ := hide (allM R Cn M3)
    have cZ := cN M3 els hels hok3 b hb
    rw [← hb] at hred
    have hstl : st.length ≤ 12 := by rw [hst.length]; omega
    obtain ⟨p1, p2⟩ := p
    refine W_run ti_ok hz 400 (by cbv) ?_
    refine W_app ti_ok (by cbv) (by cbv) (by simp) (by simp; omega) ?_
    have hst2 : StR (piv ++ [col]) (st ++ [[C.i IntKind.i64 ck, C.i IntKind.i64 p1, C.i IntKind.i64 p2, C.s [], C.b (zc .neq kk rr)]]) := hst.push hck
    obtain ⟨st2, hs2⟩ := hide (st ++ [[C.i IntKind.i64 ck, C.i IntKind.i64 p1, C.i IntKind.i64 p2, C.s [], C.b (zc .neq kk rr)]])
    rw [← hs2] at hst2 ⊢
    refine W_run ti_ok hz 400 (by cbv) ?_
    refine W_callF (by cbv) (by exact ⟨hn.trans (by cases els <;> rfl), trivial⟩) (by kernel_rfl) (cZ) (by rintro t rfl; rfl) ?_
    rintro t rfl
    refine W_run ti_ok hz 400 (by cbv) ?_
    refine W_cond (by cbv) (fun h => ?_) (fun h => ?_)
    · rw [z_not hz] at h
      have h : b = false := by simpa using h
      rw [h] at hred
      refine W_run ti_ok hz 400 (by cbv) ?_
      refine W_ret ti_ok rfl (by cbv) ?_
      have hred : none = res := hred
      rw [← hred]
      rfl
    · rw [z_not hz] at h
      have h : b = true := by simpa using h
      rw [h, if_pos rfl] at hred
      refine W_run ti_ok hz 400 (by cbv) ?_
      obtain ⟨ck1, hck1⟩ := hide (ck + 1)
      have hadd : zb .add .i64 ck 1 = ck1 := by rw [z_add hz (by omega) (by omega), hck1]
      rw [hadd]
      exact W_inv [2, 3, 4, 5, 6, 7] [1, 2, 3, 4] (Cn - (col + 1)) (by omega) (by cbv) (by cbv) ⟨col + 1, ck1, M3, piv ++ [col], st2, els, hlt, rfl, by rw [hck1, hck]; rfl, by simp; omega, by simp; omega, hred, hok3, hst2, hels, by cbv, by cbv⟩
  rintro a m ⟨M, piv, st, els, hres', hst, hels, rfl, rfl⟩
  have hn : n = els.length := by rw [hels, hgl, hn0]
  refine W_freezeC 2 2 (by cbv) (by cbv) (by cbv) hn ?_
  refine W_run ti_ok hz 400 (by cbv) ?_
  refine W_ret ti_ok rfl (by cbv) ?_
  rw [hres']
  exact ⟨st, els, hst, by rw [hels], rfl⟩
end Go.Proofs.Ytconhpilbndpkaa
