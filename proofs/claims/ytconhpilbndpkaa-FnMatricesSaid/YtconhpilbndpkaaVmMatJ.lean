/-
  Contracts on trees: a matrix is reduced, the reference's way.
-/
import Derived.Test.YtconhpilbndpkaaVmMatI
namespace Go.Proofs.Ytconhpilbndpkaa
set_option maxRecDepth 100000
open Go.RowKit Go.Proofs.Ytconhpilbndpkaa.Vm
set_option linter.unusedVariables false

/-- an empty slice of one's own is a row, in a region that draws its order -/
theorem D_tokRow {X : Ctx} {ks : List K} {ops : List Oper} {esc : List Nat} {m0 : Mem} {l : PT} {a : Slots} {m : Mem} {nx : Nat} {st : Bool} (d : Nat) {id sz : Nat} (hc : get a d = .sk id []) (hm : mget m id = some (.tok sz [])) (h : D X ks ops esc m0 ⟨l, set a d (.rw nx 0 0), (nx, .row [] 0) :: mdel m id, nx + 1, false⟩) : D X ks ops esc m0 ⟨l, a, m, nx, st⟩ := by
  intro Z0 ρ0 w0 Z ρ act w H hS hn hd hZ hT hB hst
  have H : Rel X Z ρ m nx w := H
  have hdv := hS d
  rw [hc] at hdv
  obtain ⟨_, u, n, hρ, hle, heq⟩ := hdv.skI
  obtain ⟨hid, v0, k1, k2, k3⟩ := H.obj id _ hm
  rw [hρ] at k1
  injection k1 with k1
  injection k1 with e1 e2
  subst e1
  have hv : act.tmps.getD d undef = u := heq (by rw [e2])
  have main : ∀ l' : Vm.Loc, (∀ b, l'.B = some b → (Vm.Loc.tok u n).B = some b) → ObjR Z (updR ρ nx l') X.own w nx (.row [] 0) → (∀ ρ' : Rho, ρ' nx = some l' → RdT Z ρ' (.rw nx 0 0) u) → dynL X.P ops.toArray (NoPanic (SK X ks)) (TW Z0 ρ0 m0 w0) esc l act w := fun l' hb ho hr => by
    obtain ⟨r1, H1⟩ := H.move (w' := w) (l := .tok u n) (l' := l') (o' := .row [] 0) hm hρ H.kn (Bel.refl _ _) (fun b e => .inl (hb b e)) (fun _ _ _ => rfl) ho
    refine h Z0 ρ0 w0 Z _ act w H1 (fun k => ?_) hn hd hZ hT (fun id2 o2 b e1 es e2 => ?_) (fun h => by cases h)
    · rw [get_set]
      by_cases hk : d = k
      · subst hk; rw [if_pos rfl, hv]; exact hr _ (updR_same _ _ _)
      · rw [if_neg hk]; exact (hS k).mono (KLe.refl _) r1
    · obtain ⟨⟨o3, q1, qs⟩, q2⟩ := hB id2 o2 b e1 es e2
      have hne : id2 ≠ id := fun e => by subst e; rw [q1] at hm; injection hm with hm; subst hm; cases qs
      have hlt := (H.obj id2 o3 q1).1
      refine ⟨⟨o3, ?_, qs⟩, by have := r1 id2; rw [q2] at this; exact this⟩
      rw [mget_cons]
      refine (if_neg (by simp only; omega)).trans ?_
      rw [mget_mdel, if_neg hne]
      exact q1
  rcases k3 with rfl | ⟨b, cap, cells, rfl, q1, q2, q3, q4, q5, q6⟩
  · exact main (.tok (.slice none 0 0) 0) (fun b e => by cases e) (.inl ⟨rfl, rfl, updR_same _ _ _⟩) fun ρ' _ => .rn nx
  · have hcap := q5 rfl
    subst hcap
    exact main (.blk b) (fun b' e => e) (.inr ⟨b, cells, sz, updR_same _ _ _, q1, q2, q3, ⟨Nat.le_refl _, Nat.zero_le _, fun _ => rfl⟩, q4, fun k cs j c e => by simp at e, fun o => q6 o (by simp)⟩) fun ρ' e => .rw nx 0 b 0 e (Nat.le_refl _) (Nat.zero_le _)
def inL (l : List Nat) : List (List C) := l.map fun (c : Nat) => [C.i .i64 (c : Int)]
theorem inL_push (l : List Nat) (c : Nat) : inL (l ++ [c]) = inL l ++ [[C.i .i64 (c : Int)]] := by simp [inL]
theorem inL_length (l : List Nat) : (inL l).length = l.length := by simp [inL]
def RedS (R Cn : Nat) (r c : Int) (res : Option (Mx × List Nat)) (t : T) : Prop := match res with
  | some (M, piv) => ∃ pv fs o, pv = inL piv ∧ o = (gridL M Cn R).map itK ∧ t = .tu [.ag [.c (.i .i64 r), .c (.i .i64 c), .c (.sl o)], .c (.sl pv), .c (.sl fs), .c (.b true)]
  | none => t = .tu [.ag [.c (.i .i64 0), .c (.i .i64 0), .nil], .c (.sl []), .c (.sl []), .c (.b false)]
set_option maxHeartbeats 64000000 in
theorem ct_l14Reduce (R Cn : Nat) (L : List It) (hR : R ≤ 12) (hC : Cn ≤ 12) (h0 : 0 < R * Cn) (hlen : L.length = R * Cn) (hall : ∀ x ∈ L, isN x = true) :
    Ct Try.prog 21 [mtT R Cn L] (RedS R Cn R Cn (redP R Cn Cn 0 (cel L Cn) [])) := by
  have h144 := mul_le144 (Nat.le_refl R) hR hC
  have hs3 : ∀ cs ∈ L.map itK, cs.length = 3 := fun cs h => by
    obtain ⟨x, _, rfl⟩ := List.mem_map.1 h
    rfl
  have hL : L.map itK = (gridL (cel L Cn) Cn R).map itK := congrArg (List.map itK) (grid_of hlen)
  have hM0 : ∀ a b, okI (cel L Cn a b) := fun a b => by
    unfold cel
    cases hx : L[a * Cn + b]? with
    | none => exact okI_zero
    | some x => exact isN_ok (hall x (List.mem_of_getElem? hx))
  obtain ⟨M0, hM⟩ := hide (cel L Cn)
  rw [← hM] at hL hM0 ⊢
  obtain ⟨res, hres⟩ := hide (redP R Cn Cn 0 M0 [])
  rw [← hres]
  have hgl : ∀ M : Mx, ((gridL M Cn R).map itK).length = R * Cn := fun M => by rw [List.length_map, gridL_length]
  have cN : ∀ (M : Mx) (els : List (List C)), els = (gridL M Cn R).map itK → (∀ a b, okI (M a b)) → ∀ b, b = allM R Cn M → ∀ r c : Int, Ct Try.prog 32 [.ag [.c (.i .i64 r), .c (.i .i64 c), .c (.sl els)]] (fun t => t = .q b) := fun M els he hM b hb r c => by
    subst he hb
    exact ct_l14Known r c _ (fun x h => by
      obtain ⟨i, j, _, _, rfl⟩ := grid_mem h
      exact hM i j) (by rw [gridL_length]; omega)
  have cm1 := ct_l2Num (-1)
  unfold mtT
  obtain ⟨I, hI⟩ := hide (L.map itK)
  rw [← hI] at hL hs3 ⊢
  obtain ⟨r, hr⟩ := hide (R : Int)
  obtain ⟨c, hc⟩ := hide (Cn : Int)
  rw [← hr, ← hc]
  have hIl : I.length = R * Cn := by rw [hL, hgl]
  clear hM hI hall hlen
  obtain ⟨zb, zc, zs, zl, zn, zt, zp, zg, zv, zx, zm, hz⟩ := Vm.zE
  refine Ct_of_W Try.func21 rfl (Nat.le_of_ble_eq_true rfl) fun w0 Z0 => ?_
  refine W_run ti_ok hz 400 (by cbv) ?_
  refine W_keep [1, 2, 3, 4, 5] [0, 1] 3 (by cbv) (by cbv) ?_
  refine W_cut (fun a m => ∃ (cap n : Nat), n = I.length ∧ a = [(2, T.pt 1 0), (3, T.nil), (4, T.nil), (5, T.c (C.b false)), (6, T.pt 2 0)] ∧
      m = [(1, Obj.box [T.c (C.i IntKind.i64 0), T.c (C.i IntKind.i64 0), T.nil]), (2, Obj.box [T.c (C.i IntKind.i64 r), T.c (C.i IntKind.i64 c), T.rw 5 n cap]), (5, Obj.row I cap)]) 6 ?_ ?_
  · refine W_drawT mixedB (.cons (2, 0) (.cons (1, 1) (.cons (2, 2) (.cons (1, 3) (.cons (2, 5) (.cons (1, 6) (.fork (.cons (0, 4) (.fork (.cons (0, 7) (.cons (2, 8) (.cons (0, 9) (.cons (0, 10) .nil)))) (.cons (0, 9) (.cons (0, 7) (.cons (2, 8) (.cons (0, 10) .nil)))))) (.cons (0, 9) (.cons (0, 4) (.cons (0, 7) (.cons (2, 8) (.cons (0, 10) .nil)))))))))))) [10] (by kernel_rfl) ?_
    refine D_run ti_ok hz 400 (by cbv) ?_
    refine D_fork ?_ ?_
    · refine D_run ti_ok hz 1 (by cbv) ?_
      refine D_fork ?_ ?_
      · refine D_tokRow 23 (by cbv) (by cbv) ?_
        refine D_rowAppN (els := []) (id := 4) (cap := 0) (n := 0) ti_ok (by cbv) (by cbv) (by cbv) (by cbv) rfl (by intro cs h; cases h) hs3 (by simp; omega) (by omega) ?_
        intro cap q1 q2
        rw [List.nil_append]
        obtain ⟨n, hn⟩ := hide (([] : List (List C)).length + I.length)
        rw [← hn] at q1 ⊢
        have hn : n = I.length := by rw [hn]; simp
        refine D_run ti_ok hz 1 (by cbv) ?_
        refine D_allocAt ti_ok 2 6 (by cbv) (by cbv) (by cbv) (by cbv) (by cbv) (by cbv) (by cbv) (by cbv) ?_
        refine D_last ti_ok hz (by cbv) (by cbv) (by cbv) (by cbv) (by cbv) ?_
        exact W_fin [2, 3, 4, 5, 6] [1, 2, 5] (by cbv) (by cbv) ⟨cap, n, hn, by cbv, by cbv⟩
      · refine D_allocAt ti_ok 2 6 (by cbv) (by cbv) (by cbv) (by cbv) (by cbv) (by cbv) (by cbv) (by cbv) ?_
        refine D_tokRow 23 (by cbv) (by cbv) ?_
        refine D_rowAppN (els := []) (id := 4) (cap := 0) (n := 0) ti_ok (by cbv) (by cbv) (by cbv) (by cbv) rfl (by intro cs h; cases h) hs3 (by simp; omega) (by omega) ?_
        intro cap q1 q2
        rw [List.nil_append]
        obtain ⟨n, hn⟩ := hide (([] : List (List C)).length + I.length)
        rw [← hn] at q1 ⊢
        have hn : n = I.length := by rw [hn]; simp
        refine D_run ti_ok hz 1 (by cbv) ?_
        refine D_last ti_ok hz (by cbv) (by cbv) (by cbv) (by cbv) (by cbv) ?_
        exact W_fin [2, 3, 4, 5, 6] [1, 2, 5] (by cbv) (by cbv) ⟨cap, n, hn, by cbv, by cbv⟩
    · refine D_allocAt ti_ok 2 6 (by cbv) (by cbv) (by cbv) (by cbv) (by cbv) (by cbv) (by cbv) (by cbv) ?_
      refine D_run ti_ok hz 1 (by cbv) ?_
      refine D_tokRow 23 (by cbv) (by cbv) ?_
      refine D_rowAppN (els := []) (id := 4) (cap := 0) (n := 0) ti_ok (by cbv) (by cbv) (by cbv) (by cbv) rfl (by intro cs h; cases h) hs3 (by simp; omega) (by omega) ?_
      intro cap q1 q2
      rw [List.nil_append]
      obtain ⟨n, hn⟩ := hide (([] : List (List C)).length + I.length)
      rw [← hn] at q1 ⊢
      have hn : n = I.length := by rw [hn]; simp
      refine D_run ti_ok hz 1 (by cbv) ?_
      refine D_last ti_ok hz (by cbv) (by cbv) (by cbv) (by cbv) (by cbv) ?_
      exact W_fin [2, 3, 4, 5, 6] [1, 2, 5] (by cbv) (by cbv) ⟨cap, n, hn, by cbv, by cbv⟩
  rintro a m ⟨cap, n, hn0, rfl, rfl⟩
  have hn0 : n = R * Cn := by rw [hn0, hIl]
  refine W_run ti_ok hz 400 (by cbv) ?_
  refine W_keep [2, 3, 4, 5, 6, 7, 8, 9, 10] [1, 2, 5, 6, 7] 8 (by cbv) (by cbv) ?_
  refine W_loopS (fun n' a m => ∃ (col : Nat) (ck : Int) (M : Mx) (piv : List Nat) (pv fs els : List (List C)), col ≤ Cn ∧ n' = Cn - col ∧ ck = (col : Int) ∧ piv.length ≤ R ∧ piv.length ≤ col ∧ fs.length ≤ 2 * col ∧ redP R Cn (Cn - col) col M piv = res ∧ (∀ a b, okI (M a b)) ∧ pv = inL piv ∧ els = (gridL M Cn R).map itK ∧
      a = [(2, T.pt 1 0), (3, T.nil), (4, T.nil), (5, T.c (C.b false)), (6, T.pt 2 0), (7, T.sk 6 pv), (8, T.sk 7 fs), (9, T.c (C.i IntKind.i64 c)), (10, T.c (C.i IntKind.i64 ck))] ∧
      m = [(1, Obj.box [T.c (C.i IntKind.i64 0), T.c (C.i IntKind.i64 0), T.nil]), (2, Obj.box [T.c (C.i IntKind.i64 r), T.c (C.i IntKind.i64 c), T.rw 5 n cap]), (5, Obj.row els cap), (6, Obj.tok 1 pv), (7, Obj.tok 3 fs)]) Cn
    (fun a m => ∃ (M : Mx) (piv : List Nat) (pv fs els : List (List C)), res = some (M, piv) ∧ pv = inL piv ∧ els = (gridL M Cn R).map itK ∧ a = [(2, T.pt 1 0), (3, T.nil), (4, T.nil), (5, T.c (C.b false)), (6, T.pt 2 0), (7, T.sk 6 pv), (8, T.sk 7 fs), (9, T.c (C.i IntKind.i64 c))] ∧ m = [(1, Obj.box [T.c (C.i IntKind.i64 0), T.c (C.i IntKind.i64 0), T.nil]), (2, Obj.box [T.c (C.i IntKind.i64 r), T.c (C.i IntKind.i64 c), T.rw 5 n cap]), (5, Obj.row els cap), (6, Obj.tok 1 pv), (7, Obj.tok 3 fs)]) 8
    ⟨0, 0, M0, [], [], [], I, Nat.zero_le _, rfl, rfl, Nat.zero_le _, Nat.zero_le _, Nat.zero_le _, hres.symm, hM0, rfl, hL, by cbv, by cbv⟩ ?_ ?_
  · rintro n' a m ⟨col, ck, M, piv, pv, fs, els, hcol, hn', hck, hpR, hpc, hfs, hred, hok, hpv, hels, rfl, rfl⟩
    have hn : n = els.length := by rw [hels, hgl, hn0]
    obtain ⟨rr, hrr⟩ := hide (piv.length : Int)
    have hlen : zl pv = rr := by rw [z_len hz, hpv, inL_length, hrr]
    refine W_run ti_ok hz 400 (by cbv) ?_
    by_cases hlt : col < Cn
    rotate_left
    · refine W_bool 35 (by cbv) (show _ = false by rw [z_lss hz]; exact decide_eq_false (by omega)) ?_
      refine W_run ti_ok hz 400 (by cbv) ?_
      have e : Cn - col = 0 := by omega
      rw [e] at hred
      exact W_fin [2, 3, 4, 5, 6, 7, 8, 9] [1, 2, 5, 6, 7] (by cbv) (by cbv) ⟨M, piv, pv, fs, els, hred.symm, hpv, hels, by cbv, by cbv⟩
    refine W_bool 35 (by cbv) (show _ = true by rw [z_lss hz]; exact decide_eq_true (by omega)) ?_
    refine W_run ti_ok hz 400 (by cbv) ?_
    rw [hlen]
    refine W_cond (by cbv) (fun h => ?_) (fun h => ?_)
    rotate_left
    · rw [z_lss hz] at h
      have h := of_decide_eq_false h
      rw [redP_full (by omega)] at hred
      refine W_run ti_ok hz 400 (by cbv) ?_
      exact W_fin [2, 3, 4, 5, 6, 7, 8, 9] [1, 2, 5, 6, 7] (by cbv) (by cbv) ⟨M, piv, pv, fs, els, hred.symm, hpv, hels, by cbv, by cbv⟩
    rw [z_lss hz] at h
    have h := of_decide_eq_true h
    have hpl : piv.length < R := by omega
    have hsucc : Cn - col = (Cn - (col + 1)) + 1 := by omega
    rw [hsucc, redP, if_pos hpl] at hred
    obtain ⟨r0, hr0⟩ := hide piv.length
    rw [← hr0] at hrr hpl hred
    have hkx : ∀ k, r0 ≤ k → k ≤ R → (∀ a, r0 ≤ a → a < k → (M a col).1 = 0) → (k = R ∨ (M k col).1 ≠ 0) → k = kOf M R col r0 := fun k => kOf_eq (by omega)
    have hks := findK_spec M col (R - r0) r0
    obtain ⟨K, hK⟩ := hide (kOf M R col r0)
    rw [← hK] at hred hkx
    have hK1 : r0 ≤ K ∧ K ≤ R := by rw [hK]; unfold kOf; omega
    clear hks hK
    refine W_run ti_ok hz 400 (by cbv) ?_
    rw [hlen]
    refine W_keep [2, 3, 4, 5, 6, 7, 8, 9, 10, 11, 12] [1, 2, 5, 6, 7] 8 (by cbv) (by cbv) ?_
    refine W_loopS (fun n' a m => ∃ (k : Nat) (kk : Int), r0 ≤ k ∧ k ≤ R ∧ n' = R - k ∧ kk = (k : Int) ∧ (∀ a, r0 ≤ a → a < k → (M a col).1 = 0) ∧ a = [(2, T.pt 1 0), (3, T.nil), (4, T.nil), (5, T.c (C.b false)), (6, T.pt 2 0), (7, T.sk 6 pv), (8, T.sk 7 fs), (9, T.c (C.i IntKind.i64 c)), (10, T.c (C.i IntKind.i64 ck)), (11, T.c (C.i IntKind.i64 rr)), (12, T.c (C.i IntKind.i64 kk))] ∧ m = [(1, Obj.box [T.c (C.i IntKind.i64 0), T.c (C.i IntKind.i64 0), T.nil]), (2, Obj.box [T.c (C.i IntKind.i64 r), T.c (C.i IntKind.i64 c), T.rw 5 n cap]), (5, Obj.row els cap), (6, Obj.tok 1 pv), (7, Obj.tok 3 fs)]) (R - r0)
      (fun a m => ∃ (kk : Int), kk = (K : Int) ∧ a = [(2, T.pt 1 0), (3, T.nil), (4, T.nil), (5, T.c (C.b false)), (6, T.pt 2 0), (7, T.sk 6 pv), (8, T.sk 7 fs), (9, T.c (C.i IntKind.i64 c)), (10, T.c (C.i IntKind.i64 ck)), (11, T.c (C.i IntKind.i64 rr)), (12, T.c (C.i IntKind.i64 kk))] ∧ m = [(1, Obj.box [T.c (C.i IntKind.i64 0), T.c (C.i IntKind.i64 0), T.nil]), (2, Obj.box [T.c (C.i IntKind.i64 r), T.c (C.i IntKind.i64 c), T.rw 5 n cap]), (5, Obj.row els cap), (6, Obj.tok 1 pv), (7, Obj.tok 3 fs)]) 8 ⟨r0, rr, Nat.le_refl _, by omega, rfl, hrr, fun a h1 h2 => by omega, by cbv, by cbv⟩ ?_ ?_
    · rintro n' a m ⟨k, kk, k1, k2, hn', hkk, hzz, rfl, rfl⟩
      refine W_run ti_ok hz 400 (by cbv) ?_
      by_cases hkR : k < R
      rotate_left
      · refine W_bool 51 (by cbv) (show _ = false by rw [z_lss hz]; exact decide_eq_false (by omega)) ?_
        refine W_run ti_ok hz 400 (by cbv) ?_
        have e := hkx k k1 k2 hzz (.inl (by omega))
        exact W_fin [2, 3, 4, 5, 6, 7, 8, 9, 10, 11, 12] [1, 2, 5, 6, 7] (by cbv) (by cbv) ⟨kk, by rw [hkk, e], by cbv, by cbv⟩
      refine W_bool 51 (by cbv) (show _ = true by rw [z_lss hz]; exact decide_eq_true (by omega)) ?_
      have g1 := mix hz hkk hck hc hkR hlt hR hC
      have l1 := at_lt hkR hlt
      have e1 : els[k * Cn + col]? = some (itK (M k col)) := by rw [hels, grid_getK hkR hlt]
      obtain ⟨x, hx⟩ := hide (M k col)
      rw [← hx] at e1
      have hxz : x.1 = (M k col).1 := by rw [hx]
      obtain ⟨J1, hJ1⟩ := hide (k * Cn + col)
      rw [← hJ1] at g1 l1 e1
      have q1 : J1 < n := by omega
      clear hx hJ1
      obtain ⟨x1, x2⟩ := x
      refine W_run ti_ok hz 400 (by cbv) ?_
      refine W_val (by cbv) (by cbv) (Val_rwAt ti_ok (by cbv) J1 g1 q1) ?_
      refine W_run ti_ok hz 400 (by cbv) ?_
      refine W_peLd ti_ok (by cbv) (by cbv) (by cbv) (by cbv) e1 rfl (by cbv) ?_
      refine W_run ti_ok hz 400 (by cbv) ?_
      refine W_cond (by cbv) (fun h => ?_) (fun h => ?_)
      · rw [z_eql hz] at h
        have h : x1 = 0 := by simpa using h
        refine W_run ti_ok hz 400 (by cbv) ?_
        obtain ⟨kk1, hkk1⟩ := hide (kk + 1)
        have hadd : zb .add .i64 kk 1 = kk1 := by rw [z_add hz (by omega) (by omega), hkk1]
        rw [hadd]
        refine W_inv [2, 3, 4, 5, 6, 7, 8, 9, 10, 11, 12] [1, 2, 5, 6, 7] (R - (k + 1)) (by omega) (by cbv) (by cbv) ⟨k + 1, kk1, by omega, hkR, rfl, by rw [hkk1, hkk]; rfl, fun a h1 h2 => ?_, by cbv, by cbv⟩
        by_cases ha : a = k
        · rw [ha, ← hxz]; exact h
        · exact hzz a h1 (by omega)
      · rw [z_eql hz] at h
        have h : ¬ x1 = 0 := by simpa using h
        refine W_run ti_ok hz 400 (by cbv) ?_
        have e := hkx k k1 k2 hzz (.inr (by rw [← hxz]; exact h))
        exact W_fin [2, 3, 4, 5, 6, 7, 8, 9, 10, 11, 12] [1, 2, 5, 6, 7] (by cbv) (by cbv) ⟨kk, by rw [hkk, e], by cbv, by cbv⟩
    rintro a m ⟨kk, hkk, rfl, rfl⟩
    clear hkx
    refine W_run ti_ok hz 400 (by cbv) ?_
    refine W_cond (by cbv) (fun h => ?_) (fun h => ?_)
    · rw [z_eql hz] at h
      have h : kk = r := by simpa using h
      rw [if_pos (by omega)] at hred
      refine W_run ti_ok hz 400 (by cbv) ?_
      obtain ⟨ck1, hck1⟩ := hide (ck + 1)
      have hadd : zb .add .i64 ck 1 = ck1 := by rw [z_add hz (by omega) (by omega), hck1]
      rw [hadd]
      exact W_inv [2, 3, 4, 5, 6, 7, 8, 9, 10] [1, 2, 5, 6, 7] (Cn - (col + 1)) (by omega) (by cbv) (by cbv) ⟨col + 1, ck1, M, piv, pv, fs, els, hlt, rfl, by rw [hck1, hck]; rfl, hpR, by omega, by omega, hred, hok, hpv, hels, by cbv, by cbv⟩
    rw [z_eql hz] at h
    have h : ¬ kk = r := by simpa using h
    have hKR : K < R := by omega
    rw [if_neg (by omega)] at hred
    clear h
    -- the pivot
    obtain ⟨M3, hM3⟩ := hide (stepM M r0 K col)
    have hok3 : ∀ a b, okI (M3 a b) := by rw [hM3]; exact okM_step hok r0 K col
    rw [← hM3] at hred
    have e1 : els[K * Cn + col]? = some (itK (M K col)) := by rw [hels, grid_getK hKR hlt]
    have g1 := mix hz hkk hck hc hKR hlt hR hC
    have l1 := at_lt hKR hlt
    have hpk : okI (M K col) := hok _ _
    obtain ⟨p, hp⟩ := hide (M K col)
    rw [← hp] at e1 hpk
    have hM3 : M3 = elimM (divM (swapM M r0 K) r0 p) r0 col := by rw [hM3, hp]; rfl
    obtain ⟨J1, hJ1⟩ := hide (K * Cn + col)
    rw [← hJ1] at g1 l1 e1
    have q1 : J1 < n := by omega
    clear hJ1 hp
    obtain ⟨p1, p2⟩ := p
    refine W_run ti_ok hz 400 (by cbv) ?_
    refine W_val (by cbv) (by cbv) (Val_rwAt ti_ok (by cbv) J1 g1 q1) ?_
    refine W_run ti_ok hz 400 (by cbv) ?_
    refine W_peLd ti_ok (by cbv) (by cbv) (by cbv) (by cbv) e1 rfl (by cbv) ?_
    refine W_run ti_ok hz 400 (by cbv) ?_
    refine W_app ti_ok (by cbv) (by cbv) (by simp) (by simp; omega) ?_
    obtain ⟨fs1, hfs1⟩ := hide (fs ++ [[C.i IntKind.i64 p1, C.i IntKind.i64 p2, C.s []]])
    rw [← hfs1]
    have hfl1 : fs1.length ≤ 2 * col + 1 := by rw [hfs1]; simp; omega
    clear g1 e1
    refine W_run ti_ok hz 400 (by cbv) ?_
    refine W_cut (fun a m => ∃ fs2 : List (List C), fs2.length ≤ 2 * (col + 1) ∧ a = [(2, T.pt 1 0), (3, T.nil), (4, T.nil), (5, T.c (C.b false)), (6, T.pt 2 0), (7, T.sk 6 pv), (8, T.sk 7 fs2), (9, T.c (C.i IntKind.i64 c)), (10, T.c (C.i IntKind.i64 ck)), (11, T.c (C.i IntKind.i64 rr)), (12, T.c (C.i IntKind.i64 kk)), (13, T.pt 8 0)] ∧ m = [(1, Obj.box [T.c (C.i IntKind.i64 0), T.c (C.i IntKind.i64 0), T.nil]), (2, Obj.box [T.c (C.i IntKind.i64 r), T.c (C.i IntKind.i64 c), T.rw 5 n cap]), (5, Obj.row els cap), (6, Obj.tok 1 pv), (7, Obj.tok 3 fs2), (8, Obj.box [T.c (C.i IntKind.i64 p1), T.c (C.i IntKind.i64 p2), T.c (C.s [])])]) 9 ?_ ?_
    · refine W_cond (by cbv) (fun h => ?_) (fun h => ?_)
      · refine W_run ti_ok hz 400 (by cbv) ?_
        refine W_call (by cbv) (by kernel_rfl) (cm1) ?_
        rintro t rfl
        refine W_run ti_ok hz 400 (by cbv) ?_
        refine W_app ti_ok (by cbv) (by cbv) (by simp) (by simp; omega) ?_
        obtain ⟨fs2, hfs2⟩ := hide (fs1 ++ [[C.i IntKind.i64 (-1), C.i IntKind.i64 1, C.s []]])
        rw [← hfs2]
        refine W_run ti_ok hz 400 (by cbv) ?_
        exact W_fin [2, 3, 4, 5, 6, 7, 8, 9, 10, 11, 12, 13] [1, 2, 5, 6, 7, 8] (by cbv) (by cbv) ⟨fs2, by rw [hfs2]; simp; omega, by cbv, by cbv⟩
      · refine W_run ti_ok hz 400 (by cbv) ?_
        exact W_fin [2, 3, 4, 5, 6, 7, 8, 9, 10, 11, 12, 13] [1, 2, 5, 6, 7, 8] (by cbv) (by cbv) ⟨fs1, by omega, by cbv, by cbv⟩
    clear hfs hfs1 hfl1 fs1 fs
    rintro a m ⟨fs, hfs, rfl, rfl⟩
    refine W_run ti_ok hz 400 (by cbv) ?_
    refine W_keep [2, 3, 4, 5, 6, 7, 8, 9, 10, 11, 12, 13, 14] [1, 2, 5, 6, 7, 8] 9 (by cbv) (by cbv) ?_
    -- exchange and division
    refine W_loopS (fun n' a m => ∃ (j : Nat) (jk : Int) (els : List (List C)), j ≤ Cn ∧ n' = Cn - j ∧ jk = (j : Int) ∧ els = (gridL (sdJ M r0 K (p1, p2) j) Cn R).map itK ∧ a = [(2, T.pt 1 0), (3, T.nil), (4, T.nil), (5, T.c (C.b false)), (6, T.pt 2 0), (7, T.sk 6 pv), (8, T.sk 7 fs), (9, T.c (C.i IntKind.i64 c)), (10, T.c (C.i IntKind.i64 ck)), (11, T.c (C.i IntKind.i64 rr)), (12, T.c (C.i IntKind.i64 kk)), (13, T.pt 8 0), (14, T.c (C.i IntKind.i64 jk))] ∧ m = [(1, Obj.box [T.c (C.i IntKind.i64 0), T.c (C.i IntKind.i64 0), T.nil]), (2, Obj.box [T.c (C.i IntKind.i64 r), T.c (C.i IntKind.i64 c), T.rw 5 n cap]), (5, Obj.row els cap), (6, Obj.tok 1 pv), (7, Obj.tok 3 fs), (8, Obj.box [T.c (C.i IntKind.i64 p1), T.c (C.i IntKind.i64 p2), T.c (C.s [])])]) Cn
      (fun a m => ∃ (els : List (List C)), els = (gridL (divM (swapM M r0 K) r0 (p1, p2)) Cn R).map itK ∧ a = [(2, T.pt 1 0), (3, T.nil), (4, T.nil), (5, T.c (C.b false)), (6, T.pt 2 0), (7, T.sk 6 pv), (8, T.sk 7 fs), (9, T.c (C.i IntKind.i64 c)), (10, T.c (C.i IntKind.i64 ck)), (11, T.c (C.i IntKind.i64 rr)), (12, T.c (C.i IntKind.i64 kk)), (13, T.pt 8 0)] ∧ m = [(1, Obj.box [T.c (C.i IntKind.i64 0), T.c (C.i IntKind.i64 0), T.nil]), (2, Obj.box [T.c (C.i IntKind.i64 r), T.c (C.i IntKind.i64 c), T.rw 5 n cap]), (5, Obj.row els cap), (6, Obj.tok 1 pv), (7, Obj.tok 3 fs), (8, Obj.box [T.c (C.i IntKind.i64 p1), T.c (C.i IntKind.i64 p2), T.c (C.s [])])]) 9 ⟨0, 0, els, Nat.zero_le _, rfl, rfl, by rw [hels, sdJ_0], by cbv, by cbv⟩ ?_ ?_
    · clear hels hn
      rintro n' a m ⟨j, jk, els, hj, hn', hjk, hels, rfl, rfl⟩
      refine W_run ti_ok hz 400 (by cbv) ?_
      refine W_cond (by cbv) (fun h => ?_) (fun h => ?_)
      rotate_left
      · rw [z_lss hz] at h
        have h := of_decide_eq_false h
        have e : j = Cn := by omega
        refine W_run ti_ok hz 400 (by cbv) ?_
        exact W_fin [2, 3, 4, 5, 6, 7, 8, 9, 10, 11, 12, 13] [1, 2, 5, 6, 7, 8] (by cbv) (by cbv) ⟨els, by rw [hels, e, sdJ_all], by cbv, by cbv⟩
      rw [z_lss hz] at h
      have h := of_decide_eq_true h
      have hj' : j < Cn := by omega
      have g1 := mix hz hrr hjk hc hpl hj' hR hC
      have g2 := mix hz hkk hjk hc hKR hj' hR hC
      have l1 := at_lt hpl hj'
      have l2 := at_lt hKR hj'
      have e1 : els[r0 * Cn + j]? = some (itK (M r0 j)) := by rw [hels, grid_getK hpl hj', sdJ_at]
      have e2 : els[K * Cn + j]? = some (itK (M K j)) := by rw [hels, grid_getK hKR hj', sdJ_at]
      have cD := ct_sDivideNumbers (M K j) (p1, p2) (hok _ _) hpk
      have e3 : ∃ v, (els.set (K * Cn + j) (itK (M r0 j)))[r0 * Cn + j]? = some (itK v) := ⟨_, by rw [hels, grid_setK hKR hj', grid_getK hpl hj']⟩
      have e4 : (els.set (K * Cn + j) (itK (M r0 j))).set (r0 * Cn + j) (itK (divI (M K j) (p1, p2))) = (gridL (sdJ M r0 K (p1, p2) (j + 1)) Cn R).map itK := by
        rw [hels, grid_setK hKR hj', grid_setK hpl hj', sdJ_next]
      obtain ⟨J1, hJ1⟩ := hide (r0 * Cn + j)
      obtain ⟨J2, hJ2⟩ := hide (K * Cn + j)
      rw [← hJ1] at g1 l1 e1 e3 e4
      rw [← hJ2] at g2 l2 e2 e3 e4
      obtain ⟨x, hx⟩ := hide (M K j)
      obtain ⟨y, hy⟩ := hide (M r0 j)
      rw [← hx] at e2 e4 cD
      rw [← hy] at e1 e3 e4
      obtain ⟨v, hv⟩ := hide (divI x (p1, p2))
      rw [← hv] at e4 cD
      obtain ⟨els1, hE1⟩ := hide (els.set J2 (itK y))
      rw [← hE1] at e3 e4
      obtain ⟨els2, hE2⟩ := hide (els1.set J1 (itK v))
      rw [← hE2] at e4
      have q1 : J1 < n := by omega
      have q2 : J2 < n := by omega
      clear hJ1 hJ2 hx hy hels hv
      obtain ⟨u, e3⟩ := e3
      obtain ⟨x1, x2⟩ := x
      obtain ⟨y1, y2⟩ := y
      obtain ⟨v1, v2⟩ := v
      refine W_run ti_ok hz 400 (by cbv) ?_
      refine W_val (by cbv) (by cbv) (Val_rwAt ti_ok (by cbv) J2 g2 q2) ?_
      refine W_run ti_ok hz 400 (by cbv) ?_
      refine W_peLd ti_ok (by cbv) (by cbv) (by cbv) (by cbv) e2 rfl (by cbv) ?_
      refine W_run ti_ok hz 400 (by cbv) ?_
      refine W_draw mixedB [(2, 0), (1, 1), (2, 2), (2, 3), (2, 4), (2, 5), (2, 6), (2, 7), (1, 8), (2, 9), (2, 10), (2, 11), (2, 12), (2, 13), (2, 14), (1, 15), (2, 16), (0, 17)] [17] (by kernel_rfl) ?_
      refine D_run ti_ok hz 400 (by cbv) ?_
      refine D_val (by cbv) (by cbv) (by cbv) (Val_rwAt ti_ok (by cbv) J1 g1 q1) ?_
      refine D_run ti_ok hz 400 (by cbv) ?_
      refine D_peLd1 ti_ok (by cbv) (by cbv) (by cbv) (by cbv) (by cbv) e1 rfl (by cbv) ?_
      refine D_run ti_ok hz 400 (by cbv) ?_
      refine D_val (by cbv) (by cbv) (by cbv) (Val_rwAt ti_ok (by cbv) J2 g2 q2) ?_
      refine D_peStLast ti_ok (by cbv) (by cbv) (by cbv) (by cbv) (by cbv) (by cbv) e2 rfl (by rfl) (by rfl) ?_
      rw [show els.set J2 [C.i IntKind.i64 y1, C.i IntKind.i64 y2, C.s []] = els1 from hE1.symm]
      refine W_run ti_ok hz 400 (by cbv) ?_
      refine W_draw mixedB [(2, 0), (1, 1), (2, 2), (2, 3), (2, 4), (2, 5), (2, 6), (1, 7), (1, 8), (0, 9), (2, 10), (0, 11)] [11] (by kernel_rfl) ?_
      refine D_run ti_ok hz 400 (by cbv) ?_
      refine D_call (by cbv) (by cbv) (by kernel_rfl) (cD) ?_
      rintro t rfl
      refine D_run ti_ok hz 400 (by cbv) ?_
      refine D_val (by cbv) (by cbv) (by cbv) (Val_rwAt ti_ok (by cbv) J1 g1 q1) ?_
      refine D_peStLast ti_ok (by cbv) (by cbv) (by cbv) (by cbv) (by cbv) (by cbv) e3 rfl (by rfl) (by rfl) ?_
      rw [show els1.set J1 [C.i IntKind.i64 v1, C.i IntKind.i64 v2, C.s []] = els2 from hE2.symm]
      refine W_run ti_ok hz 400 (by cbv) ?_
      obtain ⟨jk1, hjk1⟩ := hide (jk + 1)
      have hadd : zb .add .i64 jk 1 = jk1 := by rw [z_add hz (by omega) (by omega), hjk1]
      rw [hadd]
      exact W_inv [2, 3, 4, 5, 6, 7, 8, 9, 10, 11, 12, 13, 14] [1, 2, 5, 6, 7, 8] (Cn - (j + 1)) (by omega) (by cbv) (by cbv) ⟨j + 1, jk1, els2, hj', rfl, by rw [hjk1, hjk]; rfl, e4, by cbv, by cbv⟩
    clear hels hn
    rintro a m ⟨els, hels, rfl, rfl⟩
    have hok2 := okM_div (okM_swap hok r0 K) r0 (p1, p2)
    obtain ⟨M2, hM2⟩ := hide (divM (swapM M r0 K) r0 (p1, p2))
    rw [← hM2] at hok2 hels hM3
    clear hM2
    refine W_run ti_ok hz 400 (by cbv) ?_
    refine W_keep [2, 3, 4, 5, 6, 7, 8, 9, 10, 11, 16] [1, 2, 5, 6, 7] 9 (by cbv) (by cbv) ?_
    -- the other rows are cleared
    refine W_loopS (fun n' a m => ∃ (i : Nat) (ik : Int) (els : List (List C)), i ≤ R ∧ n' = R - i ∧ ik = (i : Int) ∧ els = (gridL (elimJ M2 r0 col i 0) Cn R).map itK ∧ a = [(2, T.pt 1 0), (3, T.nil), (4, T.nil), (5, T.c (C.b false)), (6, T.pt 2 0), (7, T.sk 6 pv), (8, T.sk 7 fs), (9, T.c (C.i IntKind.i64 c)), (10, T.c (C.i IntKind.i64 ck)), (11, T.c (C.i IntKind.i64 rr)), (16, T.c (C.i IntKind.i64 ik))] ∧ m = [(1, Obj.box [T.c (C.i IntKind.i64 0), T.c (C.i IntKind.i64 0), T.nil]), (2, Obj.box [T.c (C.i IntKind.i64 r), T.c (C.i IntKind.i64 c), T.rw 5 n cap]), (5, Obj.row els cap), (6, Obj.tok 1 pv), (7, Obj.tok 3 fs)]) R
      (fun a m => ∃ (els : List (List C)), els = (gridL M3 Cn R).map itK ∧ a = [(2, T.pt 1 0), (3, T.nil), (4, T.nil), (5, T.c (C.b false)), (6, T.pt 2 0), (7, T.sk 6 pv), (8, T.sk 7 fs), (9, T.c (C.i IntKind.i64 c)), (10, T.c (C.i IntKind.i64 ck))] ∧ m = [(1, Obj.box [T.c (C.i IntKind.i64 0), T.c (C.i IntKind.i64 0), T.nil]), (2, Obj.box [T.c (C.i IntKind.i64 r), T.c (C.i IntKind.i64 c), T.rw 5 n cap]), (5, Obj.row els cap), (6, Obj.tok 1 pv), (7, Obj.tok 3 fs)]) 8 ⟨0, 0, els, Nat.zero_le _, rfl, rfl, by rw [hels, elimJ_00], by cbv, by cbv⟩ ?_ ?_
    · clear hels
      rintro n' a m ⟨i, ik, els, hi, hn', hik, hels, rfl, rfl⟩
      have hn : n = els.length := by rw [hels, hgl, hn0]
      refine W_run ti_ok hz 400 (by cbv) ?_
      refine W_cond (by cbv) (fun h => ?_) (fun h => ?_)
      rotate_left
      · rw [z_lss hz] at h
        have h := of_decide_eq_false h
        have e : i = R := by omega
        refine W_run ti_ok hz 400 (by cbv) ?_
        exact W_fin [2, 3, 4, 5, 6, 7, 8, 9, 10] [1, 2, 5, 6, 7] (by cbv) (by cbv) ⟨els, by rw [hels, e, elimJ_all, hM3], by cbv, by cbv⟩
      rw [z_lss hz] at h
      have h := of_decide_eq_true h
      have hi' : i < R := by omega
      have g1 := mix hz hik hck hc hi' hlt hR hC
      have l1 := at_lt hi' hlt
      obtain ⟨fx, hfx⟩ := hide (M2 i col)
      have e1 : els[i * Cn + col]? = some (itK fx) := by rw [hels, grid_getK hi' hlt, elimJ_at0, hfx]
      have hfk : okI fx := by rw [hfx]; exact hok2 _ _
      obtain ⟨J1, hJ1⟩ := hide (i * Cn + col)
      rw [← hJ1] at g1 l1 e1
      have q1 : J1 < n := by omega
      clear hJ1
      obtain ⟨f1, f2⟩ := fx
      refine W_run ti_ok hz 400 (by cbv) ?_
      refine W_val (by cbv) (by cbv) (Val_rwAt ti_ok (by cbv) J1 g1 q1) ?_
      refine W_run ti_ok hz 400 (by cbv) ?_
      refine W_peLd ti_ok (by cbv) (by cbv) (by cbv) (by cbv) e1 rfl (by cbv) ?_
      refine W_run ti_ok hz 400 (by cbv) ?_
      refine W_keep [2, 3, 4, 5, 6, 7, 8, 9, 10, 11, 16, 17, 18] [1, 2, 5, 6, 7, 9] 10 (by cbv) (by cbv) ?_
      refine W_loopS (fun n' a m => ∃ (j : Nat) (jk : Int) (els : List (List C)), j ≤ Cn ∧ n' = Cn - j ∧ jk = (j : Int) ∧ (j = 0 ∨ (i ≠ r0 ∧ f1 ≠ 0)) ∧ els = (gridL (elimJ M2 r0 col i j) Cn R).map itK ∧ a = [(2, T.pt 1 0), (3, T.nil), (4, T.nil), (5, T.c (C.b false)), (6, T.pt 2 0), (7, T.sk 6 pv), (8, T.sk 7 fs), (9, T.c (C.i IntKind.i64 c)), (10, T.c (C.i IntKind.i64 ck)), (11, T.c (C.i IntKind.i64 rr)), (16, T.c (C.i IntKind.i64 ik)), (17, T.pt 9 0), (18, T.c (C.i IntKind.i64 jk))] ∧ m = [(1, Obj.box [T.c (C.i IntKind.i64 0), T.c (C.i IntKind.i64 0), T.nil]), (2, Obj.box [T.c (C.i IntKind.i64 r), T.c (C.i IntKind.i64 c), T.rw 5 n cap]), (5, Obj.row els cap), (6, Obj.tok 1 pv), (7, Obj.tok 3 fs), (9, Obj.box [T.c (C.i IntKind.i64 f1), T.c (C.i IntKind.i64 f2), T.c (C.s [])])]) Cn
        (fun a m => ∃ (els : List (List C)), els = (gridL (elimJ M2 r0 col (i + 1) 0) Cn R).map itK ∧ a = [(2, T.pt 1 0), (3, T.nil), (4, T.nil), (5, T.c (C.b false)), (6, T.pt 2 0), (7, T.sk 6 pv), (8, T.sk 7 fs), (9, T.c (C.i IntKind.i64 c)), (10, T.c (C.i IntKind.i64 ck)), (11, T.c (C.i IntKind.i64 rr)), (16, T.c (C.i IntKind.i64 ik))] ∧ m = [(1, Obj.box [T.c (C.i IntKind.i64 0), T.c (C.i IntKind.i64 0), T.nil]), (2, Obj.box [T.c (C.i IntKind.i64 r), T.c (C.i IntKind.i64 c), T.rw 5 n cap]), (5, Obj.row els cap), (6, Obj.tok 1 pv), (7, Obj.tok 3 fs)]) 9 ⟨0, 0, els, Nat.zero_le _, rfl, rfl, .inl rfl, hels, by cbv, by cbv⟩ ?_ ?_
      · clear hels hn e1 g1
        rintro n' a m ⟨j, jk, els, hj, hn', hjk, hj0, hels, rfl, rfl⟩
        have hn : n = els.length := by rw [hels, hgl, hn0]
        refine W_run ti_ok hz 400 (by cbv) ?_
        by_cases hir : i = r0
        · have e : j = 0 := by rcases hj0 with h | h; exact h; exact absurd hir h.1
          subst e
          refine W_bool 150 (by cbv) (show _ = false by rw [z_neq hz]; exact bne_eq_false_iff_eq.2 (by omega)) ?_
          refine W_run ti_ok hz 400 (by cbv) ?_
          exact W_fin [2, 3, 4, 5, 6, 7, 8, 9, 10, 11, 16] [1, 2, 5, 6, 7] (by cbv) (by cbv) ⟨els, by rw [hels, elimJ_skip (.inl hir)], by cbv, by cbv⟩
        refine W_bool 150 (by cbv) (show _ = true by rw [z_neq hz]; exact bne_iff_ne.2 (by omega)) ?_
        refine W_run ti_ok hz 400 (by cbv) ?_
        by_cases hf0 : f1 = 0
        · have e : j = 0 := by rcases hj0 with h | h; exact h; exact absurd hf0 h.2
          subst e
          refine W_bool 155 (by cbv) (show _ = false by rw [z_neq hz]; exact bne_eq_false_iff_eq.2 hf0) ?_
          refine W_run ti_ok hz 400 (by cbv) ?_
          exact W_fin [2, 3, 4, 5, 6, 7, 8, 9, 10, 11, 16] [1, 2, 5, 6, 7] (by cbv) (by cbv) ⟨els, by rw [hels, elimJ_skip (.inr (by rw [← hfx]; exact hf0))], by cbv, by cbv⟩
        refine W_bool 155 (by cbv) (show _ = true by rw [z_neq hz]; exact bne_iff_ne.2 hf0) ?_
        refine W_run ti_ok hz 400 (by cbv) ?_
        refine W_cond (by cbv) (fun h => ?_) (fun h => ?_)
        rotate_left
        · rw [z_lss hz] at h
          have h := of_decide_eq_false h
          have e : j = Cn := by omega
          refine W_run ti_ok hz 400 (by cbv) ?_
          exact W_fin [2, 3, 4, 5, 6, 7, 8, 9, 10, 11, 16] [1, 2, 5, 6, 7] (by cbv) (by cbv) ⟨els, by rw [hels, e, elimJ_end], by cbv, by cbv⟩
        rw [z_lss hz] at h
        have h := of_decide_eq_true h
        have hj' : j < Cn := by omega
        have g1 := mix hz hik hjk hc hi' hj' hR hC
        have g2 := mix hz hrr hjk hc hpl hj' hR hC
        have l1 := at_lt hi' hj'
        have l2 := at_lt hpl hj'
        obtain ⟨x, hx⟩ := hide (M2 i j)
        obtain ⟨y, hy⟩ := hide (M2 r0 j)
        have e1 : els[i * Cn + j]? = some (itK x) := by rw [hels, grid_getK hi' hj', elimJ_at, hx]
        have e2 : els[r0 * Cn + j]? = some (itK y) := by rw [hels, grid_getK hpl hj', elimJ_row, hy]
        have e4 : els.set (i * Cn + j) (itK (subI x (mulI (f1, f2) y))) = (gridL (elimJ M2 r0 col i (j + 1)) Cn R).map itK := by rw [hels, grid_setK hi' hj', hx, hy, hfx, elimJ_next hir (by rw [← hfx]; exact hf0)]
        have cD := ct_sMultiplyNumbers (f1, f2) y hfk (by rw [hy]; exact hok2 _ _)
        have okq := mul_ok (f1, f2) y
        obtain ⟨q, hq⟩ := hide (mulI (f1, f2) y)
        rw [← hq] at e4 cD okq
        have cE := ct_sSubtractNumbers x q (by rw [hx]; exact hok2 _ _) okq
        obtain ⟨v, hv⟩ := hide (subI x q)
        rw [← hv] at e4 cE
        obtain ⟨J1, hJ1⟩ := hide (i * Cn + j)
        obtain ⟨J2, hJ2⟩ := hide (r0 * Cn + j)
        rw [← hJ1] at g1 l1 e1 e4
        rw [← hJ2] at g2 l2 e2
        obtain ⟨els2, hE2⟩ := hide (els.set J1 (itK v))
        rw [← hE2] at e4
        have q1 : J1 < n := by omega
        have q2 : J2 < n := by omega
        clear hJ1 hJ2 hx hy hels hq hv okq
        obtain ⟨x1, x2⟩ := x
        obtain ⟨y1, y2⟩ := y
        obtain ⟨q1', q2'⟩ := q
        obtain ⟨v1, v2⟩ := v
        refine W_run ti_ok hz 400 (by cbv) ?_
        refine W_draw mixedB [(2, 0), (1, 1), (2, 2), (2, 3), (2, 4), (2, 5), (2, 6), (2, 7), (1, 8), (2, 9), (2, 10), (2, 11), (2, 12), (2, 13), (2, 14), (1, 15), (1, 16), (2, 17), (1, 18), (2, 19), (2, 20), (2, 21), (2, 22), (2, 23), (2, 24), (1, 25), (0, 26), (0, 27), (2, 28), (0, 29)] [29] (by kernel_rfl) ?_
        refine D_run ti_ok hz 400 (by cbv) ?_
        refine D_val (by cbv) (by cbv) (by cbv) (Val_rwAt ti_ok (by cbv) J1 g1 q1) ?_
        refine D_peLd1 ti_ok (by cbv) (by cbv) (by cbv) (by cbv) (by cbv) e1 rfl (by cbv) ?_
        refine D_run ti_ok hz 400 (by cbv) ?_
        refine D_val (by cbv) (by cbv) (by cbv) (Val_rwAt ti_ok (by cbv) J2 g2 q2) ?_
        refine D_peLd1 ti_ok (by cbv) (by cbv) (by cbv) (by cbv) (by cbv) e2 rfl (by cbv) ?_
        refine D_run ti_ok hz 400 (by cbv) ?_
        refine D_call (by cbv) (by cbv) (by kernel_rfl) (cD) ?_
        rintro t rfl
        refine D_run ti_ok hz 400 (by cbv) ?_
        refine D_call (by cbv) (by cbv) (by kernel_rfl) (cE) ?_
        rintro t rfl
        refine D_run ti_ok hz 400 (by cbv) ?_
        refine D_val (by cbv) (by cbv) (by cbv) (Val_rwAt ti_ok (by cbv) J1 g1 q1) ?_
        refine D_peStLast ti_ok (by cbv) (by cbv) (by cbv) (by cbv) (by cbv) (by cbv) e1 rfl (by rfl) (by rfl) ?_
        rw [show els.set J1 [C.i IntKind.i64 v1, C.i IntKind.i64 v2, C.s []] = els2 from hE2.symm]
        refine W_run ti_ok hz 400 (by cbv) ?_
        obtain ⟨jk1, hjk1⟩ := hide (jk + 1)
        have hadd : zb .add .i64 jk 1 = jk1 := by rw [z_add hz (by omega) (by omega), hjk1]
        rw [hadd]
        exact W_inv [2, 3, 4, 5, 6, 7, 8, 9, 10, 11, 16, 17, 18] [1, 2, 5, 6, 7, 9] (Cn - (j + 1)) (by omega) (by cbv) (by cbv) ⟨j + 1, jk1, els2, hj', rfl, by rw [hjk1, hjk]; rfl, .inr ⟨hir, hf0⟩, e4, by cbv, by cbv⟩
      clear hels hn e1 g1
      rintro a m ⟨els, hels, rfl, rfl⟩
      refine W_run ti_ok hz 400 (by cbv) ?_
      obtain ⟨ik1, hik1⟩ := hide (ik + 1)
      have hadd : zb .add .i64 ik 1 = ik1 := by rw [z_add hz (by omega) (by omega), hik1]
      rw [hadd]
      exact W_inv [2, 3, 4, 5, 6, 7, 8, 9, 10, 11, 16] [1, 2, 5, 6, 7] (R - (i + 1)) (by omega) (by cbv) (by cbv) ⟨i + 1, ik1, els, hi', rfl, by rw [hik1, hik]; rfl, hels, by cbv, by cbv⟩
    clear hels
    rintro a m ⟨els, hels, rfl, rfl⟩
    have hn : n = els.length := by rw [hels, hgl, hn0]
    obtain ⟨b, hb⟩ := hide (allM R Cn M3)
    have cZ := cN M3 els hels hok3 b hb r c
    rw [← hb] at hred
    have hpvl : pv.length ≤ 12 := by rw [hpv, inL_length]; omega
    have hpv2 : pv ++ [[C.i IntKind.i64 ck]] = inL (piv ++ [col]) := by rw [inL_push, hpv, hck]
    refine W_run ti_ok hz 400 (by cbv) ?_
    refine W_app ti_ok (by cbv) (by cbv) (by simp) (by simp; omega) ?_
    obtain ⟨pv2, hp2⟩ := hide (pv ++ [[C.i IntKind.i64 ck]])
    rw [← hp2] at hpv2 ⊢
    refine W_run ti_ok hz 400 (by cbv) ?_
    refine W_callF (by cbv) (by exact ⟨hn.trans (by cases els <;> rfl), trivial⟩) (by kernel_rfl) (cZ) (by rintro t rfl; rfl) ?_
    rintro t rfl
    refine W_run ti_ok hz 400 (by cbv) ?_
    refine W_cond (by cbv) (fun h => ?_) (fun h => ?_)
    · rw [z_not hz] at h
      have h : b = false := by simpa using h
      rw [h] at hred
      refine W_run ti_ok hz 400 (by cbv) ?_
      refine W_ret ti_ok rfl (by cbv) ?_
      have hred : none = res := hred
      rw [← hred]
      rfl
    · rw [z_not hz] at h
      have h : b = true := by simpa using h
      rw [h, if_pos rfl] at hred
      refine W_run ti_ok hz 400 (by cbv) ?_
      obtain ⟨ck1, hck1⟩ := hide (ck + 1)
      have hadd : zb .add .i64 ck 1 = ck1 := by rw [z_add hz (by omega) (by omega), hck1]
      rw [hadd]
      exact W_inv [2, 3, 4, 5, 6, 7, 8, 9, 10] [1, 2, 5, 6, 7] (Cn - (col + 1)) (by omega) (by cbv) (by cbv) ⟨col + 1, ck1, M3, piv ++ [col], pv2, fs, els, hlt, rfl, by rw [hck1, hck]; rfl, by simp; omega, by simp; omega, hfs, hred, hok3, hpv2, hels, by cbv, by cbv⟩
  rintro a m ⟨M, piv, pv, fs, els, hres', hpv, hels, rfl, rfl⟩
  have hn : n = els.length := by rw [hels, hgl, hn0]
  refine W_freezeC 2 2 (by cbv) (by cbv) (by cbv) hn ?_
  refine W_run ti_ok hz 400 (by cbv) ?_
  refine W_ret ti_ok rfl (by cbv) ?_
  rw [hres']
  exact ⟨pv, fs, els, hpv, by rw [hels], rfl⟩
end Go.Proofs.Ytconhpilbndpkaa
