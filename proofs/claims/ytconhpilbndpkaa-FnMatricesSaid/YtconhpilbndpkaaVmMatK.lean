/-
  Contracts on trees: reduced matrices with their pivots, both ways.
-/
import Derived.Test.YtconhpilbndpkaaVmMatJ
namespace Go.Proofs.Ytconhpilbndpkaa
set_option maxRecDepth 100000
open Go.RowKit Go.Proofs.Ytconhpilbndpkaa.Vm
set_option linter.unusedVariables false

theorem ct_copyItems0 : Ct Try.prog 37 [.c (.sl [])] (fun t => t = .c (.sl [])) := by
  obtain ⟨zb, zc, zs, zl, zn, zt, zp, zg, zv, zx, zm, hz⟩ := Vm.zE
  refine Ct_of_W Try.func37 rfl (Nat.le_of_ble_eq_true rfl) fun w0 Z0 => ?_
  refine W_run ti_ok hz 400 (by cbv) ?_
  refine W_app ti_ok (by cbv) (by cbv) (by simp) (by simp) ?_
  refine W_run ti_ok hz 400 (by cbv) ?_
  refine W_ret ti_ok rfl (by cbv) ?_
  rfl
theorem nil_of_mul {L : List It} {R Cn : Nat} (h0 : ¬ 0 < R * Cn) (hlen : L.length = R * Cn) : L = [] := List.eq_nil_of_length_eq_zero (by omega)
theorem redP_0 {R Cn : Nat} (h0 : ¬ 0 < R * Cn) (M : Mx) : redP R Cn Cn 0 M [] = some (M, []) := by
  rcases Nat.eq_zero_or_pos R with h | h
  · exact redP_full (by simp [h])
  · rcases Nat.eq_zero_or_pos Cn with h' | h'
    · subst h'; rfl
    · exact absurd (Nat.mul_pos h h') h0
theorem grid_nil {α : Type} {R Cn : Nat} (h0 : ¬ 0 < R * Cn) (f : Nat → Nat → α) : gridL f Cn R = [] := List.eq_nil_of_length_eq_zero (by rw [gridL_length]; omega)
set_option maxHeartbeats 4000000 in
theorem ct_reduce0 (R Cn : Nat) (hR : R ≤ 12) (hC : Cn ≤ 12) (h0 : ¬ 0 < R * Cn) : Ct Try.prog 18 [.ag [.c (.i .i64 (R : Int)), .c (.i .i64 (Cn : Int)), .c (.sl [])]] (RedT R Cn R Cn (some ((fun _ _ => (0, 0)), []))) := by
  refine Ct.weak (R := fun t => t = .tu [.ag [.c (.i .i64 (R : Int)), .c (.i .i64 (Cn : Int)), .c (.sl [])], .nil, .c (.b true)]) ?_ fun t h => ⟨_, ⟨[], [], trivial, by rw [grid_nil h0]; rfl, rfl⟩, by rw [h]; exact Le.tu ⟨Le.refl _, Le.nil, Le.refl _, trivial⟩⟩
  have c0 := ct_copyItems0
  have hcase : R = 0 ∨ Cn = 0 := by
    rcases Nat.eq_zero_or_pos R with h | h
    · exact .inl h
    · rcases Nat.eq_zero_or_pos Cn with h' | h'
      · exact .inr h'
      · exact absurd (Nat.mul_pos h h') h0
  obtain ⟨r, hr⟩ := hide (R : Int)
  obtain ⟨c, hc⟩ := hide (Cn : Int)
  rw [← hr, ← hc]
  obtain ⟨zb, zc, zs, zl, zn, zt, zp, zg, zv, zx, zm, hz⟩ := Vm.zE
  refine Ct_of_W Try.func18 rfl (Nat.le_of_ble_eq_true rfl) fun w0 Z0 => ?_
  refine W_run ti_ok hz 400 (by cbv) ?_
  refine W_keep [1, 2, 3, 4] [0, 1] 3 (by cbv) (by cbv) ?_
  refine W_cut (fun a m => a = [(2, T.pt 1 0), (3, T.nil), (4, T.c (C.b false)), (5, T.pt 2 0)] ∧
      m = [(1, Obj.box [T.c (C.i IntKind.i64 0), T.c (C.i IntKind.i64 0), T.nil]), (2, Obj.box [T.c (C.i IntKind.i64 r), T.c (C.i IntKind.i64 c), T.c (C.sl [])])]) 3 ?_ ?_
  · refine W_drawT mixedB (.cons (2, 0) (.cons (1, 1) (.cons (2, 2) (.cons (1, 3) (.cons (2, 4) (.cons (1, 5) (.fork (.cons (0, 6) (.cons (2, 7) (.cons (0, 8) (.cons (0, 9) .nil)))) (.cons (0, 8) (.cons (0, 6) (.cons (2, 7) (.cons (0, 9) .nil)))))))))))  [9] (by kernel_rfl) ?_
    refine D_run ti_ok hz 400 (by cbv) ?_
    refine D_fork ?_ ?_
    · refine D_call (by cbv) (by cbv) (by kernel_rfl) (c0) ?_
      rintro t rfl
      refine D_run ti_ok hz 1 (by cbv) ?_
      refine D_allocAt ti_ok 2 5 (by cbv) (by cbv) (by cbv) (by cbv) (by cbv) (by cbv) (by cbv) (by cbv) ?_
      refine D_last ti_ok hz (by cbv) (by cbv) (by cbv) (by cbv) (by cbv) ?_
      exact W_fin [2, 3, 4, 5] [1, 2] (by cbv) (by cbv) ⟨by cbv, by cbv⟩
    · refine D_allocAt ti_ok 2 5 (by cbv) (by cbv) (by cbv) (by cbv) (by cbv) (by cbv) (by cbv) (by cbv) ?_
      refine D_call (by cbv) (by cbv) (by kernel_rfl) (c0) ?_
      rintro t rfl
      refine D_run ti_ok hz 1 (by cbv) ?_
      refine D_last ti_ok hz (by cbv) (by cbv) (by cbv) (by cbv) (by cbv) ?_
      exact W_fin [2, 3, 4, 5] [1, 2] (by cbv) (by cbv) ⟨by cbv, by cbv⟩
  rintro a m ⟨rfl, rfl⟩
  refine W_run ti_ok hz 400 (by cbv) ?_
  refine W_loopS (fun n' a m => a = [(2, T.pt 1 0), (3, T.nil), (4, T.c (C.b false)), (5, T.pt 2 0), (6, T.nil), (7, T.c (C.i IntKind.i64 0))] ∧
      m = [(1, Obj.box [T.c (C.i IntKind.i64 0), T.c (C.i IntKind.i64 0), T.nil]), (2, Obj.box [T.c (C.i IntKind.i64 r), T.c (C.i IntKind.i64 c), T.c (C.sl [])])]) 0
    (fun a m => a = [(2, T.pt 1 0), (3, T.nil), (4, T.c (C.b false)), (5, T.pt 2 0), (6, T.nil)] ∧
      m = [(1, Obj.box [T.c (C.i IntKind.i64 0), T.c (C.i IntKind.i64 0), T.nil]), (2, Obj.box [T.c (C.i IntKind.i64 r), T.c (C.i IntKind.i64 c), T.c (C.sl [])])]) 3 ⟨by cbv, by cbv⟩ ?_ ?_
  · rintro n' a m ⟨rfl, rfl⟩
    refine W_run ti_ok hz 400 (by cbv) ?_
    by_cases hlt : 0 < Cn
    rotate_left
    · refine W_bool 30 (by cbv) (show _ = false by rw [z_lss hz]; exact decide_eq_false (by omega)) ?_
      refine W_run ti_ok hz 400 (by cbv) ?_
      exact W_fin [2, 3, 4, 5, 6] [1, 2] (by cbv) (by cbv) ⟨by cbv, by cbv⟩
    refine W_bool 30 (by cbv) (show _ = true by rw [z_lss hz]; exact decide_eq_true (by omega)) ?_
    refine W_run ti_ok hz 400 (by cbv) ?_
    refine W_cond (by cbv) (fun h => ?_) (fun h => ?_)
    · rw [z_lss hz] at h
      have h := of_decide_eq_true h
      omega
    · refine W_run ti_ok hz 400 (by cbv) ?_
      exact W_fin [2, 3, 4, 5, 6] [1, 2] (by cbv) (by cbv) ⟨by cbv, by cbv⟩
  rintro a m ⟨rfl, rfl⟩
  refine W_run ti_ok hz 400 (by cbv) ?_
  refine W_ret ti_ok rfl (by cbv) ?_
  rfl
theorem red_any (R Cn : Nat) (L : List It) (hR : R ≤ 12) (hC : Cn ≤ 12) (hlen : L.length = R * Cn) (hall : ∀ x ∈ L, isN x = true) : ∃ res, (∀ M piv, res = some (M, piv) → ∃ M', redP R Cn Cn 0 (cel L Cn) [] = some (M', piv) ∧ gridL M' Cn R = gridL M Cn R) ∧ (res = none → redP R Cn Cn 0 (cel L Cn) [] = none) ∧
    Ct Try.prog 18 [mtT R Cn L] (RedT R Cn R Cn res) := by
  by_cases h0 : 0 < R * Cn
  · exact ⟨_, fun M piv h => ⟨M, h, rfl⟩, fun h => h, ct_reduce R Cn L hR hC h0 hlen hall⟩
  · obtain rfl := nil_of_mul h0 hlen
    exact ⟨some ((fun _ _ => (0, 0)), []), fun M piv h => by injection h with h; injection h with h1 h2; subst h1 h2; exact ⟨_, redP_0 h0 _, by rw [grid_nil h0, grid_nil h0]⟩, fun h => (by cases h), ct_reduce0 R Cn hR hC h0⟩
theorem StR.get : ∀ {cs : List Nat} {ss : List (List C)}, StR cs ss → ∀ {k c : Nat}, cs[k]? = some c → ∃ x y d b, ss[k]? = some [.i .i64 x, .i .i64 y, .i .i64 d, .s [], .b b] ∧ x = (c : Int)
  | _ :: _, _ :: _, ⟨⟨x, y, d, b, e, hx⟩, _⟩, 0, c, h => by
    injection h with h; subst h
    exact ⟨x, y, d, b, by rw [e]; rfl, hx⟩
  | _ :: _, _ :: _, ⟨_, h⟩, k + 1, c, e => by simpa using h.get (k := k) (by simpa using e)
  | [], [], _, k, c, e => by simp at e
  | [], _ :: _, h, _, _, _ => h.elim
  | _ :: _, [], h, _, _, _ => h.elim
set_option maxHeartbeats 4000000 in
theorem ct_pivotColumns (piv : List Nat) (st : List (List C)) (hst : StR piv st) (hl : piv.length ≤ 12) : Ct Try.prog 19 [.c (.sl st)] (fun t => t = .c (.sl (inL piv))) := by
  refine Ct.weak (R := fun t => ∃ o, o = inL piv ∧ t = .c (.sl o)) ?_ fun t ⟨o, ho, h⟩ => ⟨_, rfl, by rw [h, ho]; exact Le.refl _⟩
  obtain ⟨zb, zc, zs, zl, zn, zt, zp, zg, zv, zx, zm, hz⟩ := Vm.zE
  obtain ⟨n0, hn0⟩ := hide (zl st)
  have hlen : n0 = (piv.length : Int) := by rw [hn0, z_len hz, hst.length]
  refine Ct_of_W Try.func19 rfl (Nat.le_of_ble_eq_true rfl) fun w0 Z0 => ?_
  refine W_run ti_ok hz 400 (by cbv) ?_
  rw [← hn0]
  refine W_own 3 1 (by cbv) ?_
  refine W_keep [3, 6, 7, 8] [0] 1 (by cbv) (by cbv) ?_
  refine W_loop (fun n a m => ∃ (k : Nat) (ik : Int) (o : List (List C)), k ≤ piv.length ∧ n = piv.length - k ∧ ik = (k : Int) ∧ o = inL (piv.take k) ∧ a = [(3, T.sk 0 o), (6, T.c (C.sl st)), (7, T.c (C.i IntKind.i64 n0)), (8, T.c (C.i IntKind.i64 ik))] ∧ m = [(0, Obj.tok 1 o)]) piv.length ⟨0, 0, [], Nat.zero_le _, rfl, rfl, rfl, by cbv, by cbv⟩ ?_
  rintro n a m ⟨k, ik, o, hk, hn, hik, ho, rfl, rfl⟩
  have hol : o.length ≤ 12 := by rw [ho, inL_length, List.length_take]; omega
  refine W_run ti_ok hz 400 (by cbv) ?_
  refine W_cond (by cbv) (fun h => ?_) (fun h => ?_)
  · rw [z_lss hz] at h
    have h := of_decide_eq_true h
    have hlt : k < piv.length := by omega
    obtain ⟨x, y, d, b, he, hx⟩ := hst.get (List.getElem?_eq_getElem hlt)
    refine W_run ti_ok hz 400 (by cbv) ?_
    refine W_val (by cbv) (by cbv) (Val_elem ti_ok (by cbv) k hik he rfl) ?_
    refine W_run ti_ok hz 400 (by cbv) ?_
    refine W_app ti_ok (by cbv) (by cbv) (by simp) (by simp; omega) ?_
    obtain ⟨o2, ho2⟩ := hide (o ++ [[C.i IntKind.i64 x]])
    rw [← ho2]
    refine W_run ti_ok hz 400 (by cbv) ?_
    obtain ⟨ik1, hik1⟩ := hide (ik + 1)
    have hadd : zb .add .i64 ik 1 = ik1 := by rw [z_add hz (by omega) (by omega), hik1]
    rw [hadd]
    refine W_inv [3, 6, 7, 8] [0] (piv.length - (k + 1)) (by omega) (by cbv) (by cbv) ⟨k + 1, ik1, o2, hlt, rfl, by rw [hik1, hik]; rfl, ?_, by cbv, by cbv⟩
    rw [ho2, ho, hx, List.take_add_one, List.getElem?_eq_getElem hlt]
    exact (inL_push _ _).symm
  · rw [z_lss hz] at h
    have h := of_decide_eq_false h
    have hke : k = piv.length := by omega
    refine W_run ti_ok hz 400 (by cbv) ?_
    refine W_ret ti_ok rfl (by cbv) ?_
    exact ⟨o, by rw [ho, hke, List.take_length], rfl⟩
def RowT (R Cn : Nat) (r c : Int) (res : Option (Mx × List Nat)) (t : T) : Prop := match res with
  | some (M, piv) => ∃ pv o, pv = inL piv ∧ o = (gridL M Cn R).map itK ∧ t = .tu [.ag [.c (.i .i64 r), .c (.i .i64 c), .c (.sl o)], .c (.sl pv), .c (.b true)]
  | none => t = .tu [.ag [.c (.i .i64 0), .c (.i .i64 0), .c (.sl [])], .c (.sl []), .c (.b false)]
def RowX (R Cn : Nat) (r c : Int) (x : T) (res : Option (Mx × List Nat)) (t : T) : Prop := match res with
  | some (M, piv) => RowT R Cn r c (some (M, piv)) t
  | none => t = .tu [.ag [.c (.i .i64 0), .c (.i .i64 0), .nil], x, .c (.b false)]
def row0 : T := .tu [.ag [.c (.i .i64 0), .c (.i .i64 0), .c (.sl [])], .c (.sl []), .c (.b false)]
theorem le_row0 {x : T} (h : Le x (.c (.sl []))) : Le (.tu [.ag [.c (.i .i64 0), .c (.i .i64 0), .nil], x, .c (.b false)]) row0 := Le.tu ⟨le_mt _ _ rfl rfl, h, Le.refl _, trivial⟩
theorem redP_len {R C : Nat} : ∀ (n col : Nat) (M : Mx) (piv : List Nat) (M' : Mx) (piv' : List Nat), redP R C n col M piv = some (M', piv') → piv.length ≤ R → piv.length ≤ col → piv'.length ≤ R ∧ piv'.length ≤ col + n
  | 0, col, M, piv, M', piv', h, h1, h2 => by injection h with h; injection h with _ h; subst h; exact ⟨h1, h2⟩
  | n + 1, col, M, piv, M', piv', h, h1, h2 => by
    rw [redP] at h
    split at h
    · split at h
      · have := redP_len n (col + 1) M piv M' piv' h h1 (by omega); omega
      · split at h
        · have := redP_len n (col + 1) _ _ M' piv' h (by simp; omega) (by simp; omega); omega
        · cases h
    · injection h with h; injection h with _ h; subst h; exact ⟨h1, by omega⟩
set_option maxHeartbeats 8000000 in
theorem ct_ReduceRows (R Cn : Nat) (L : List It) (hm : isM R Cn L = true) : Ct Try.prog 6 [mtT R Cn L] (RowT R Cn R Cn (redP R Cn Cn 0 (cel L Cn) [])) := by
  obtain ⟨R', Cn', eR, eC, hR, hC, hlen, hall⟩ := isM_nat hm
  have eR : R = R' := by omega
  have eC : Cn = Cn' := by omega
  subst eR eC
  have h144 := mul_le144 (Nat.le_refl R) hR hC
  have c0 := ct_IsMatrix R Cn L (fun x h => isN_ok (hall x h)) (by omega)
  rw [hm] at c0
  obtain ⟨res, hs, hnn, cR⟩ := red_any R Cn L hR hC hlen hall
  have hlp : ∀ M piv, res = some (M, piv) → piv.length ≤ 12 := fun M piv h => by
    obtain ⟨M', h1, _⟩ := hs M piv h
    have := redP_len _ _ _ _ _ _ h1 (Nat.zero_le _) (Nat.zero_le _)
    omega
  refine Ct.weak (R := RowX R Cn R Cn .nil res) ?_ (fun t h => ?_)
  rotate_left
  · cases res with
    | none =>
      rw [hnn rfl]
      exact ⟨row0, rfl, by rw [h]; exact le_row0 Le.nil⟩
    | some p =>
      obtain ⟨M, piv⟩ := p
      obtain ⟨M', h1, h2⟩ := hs M piv rfl
      rw [h1]
      have h : RowT R Cn R Cn (some (M, piv)) t := h
      obtain ⟨pv, o, q1, q2, rfl⟩ := h
      exact ⟨_, ⟨pv, o, q1, by rw [q2, h2], rfl⟩, Le.refl _⟩
  unfold mtT at c0 cR ⊢
  obtain ⟨I, hI⟩ := hide (L.map itK)
  rw [← hI] at c0 cR ⊢
  obtain ⟨r, hr⟩ := hide (R : Int)
  obtain ⟨c, hc⟩ := hide (Cn : Int)
  rw [← hr, ← hc] at c0 cR ⊢
  clear hs hnn hI hall hlen hm
  obtain ⟨zb, zc, zs, zl, zn, zt, zp, zg, zv, zx, zm, hz⟩ := Vm.zE
  refine Ct_of_W Try.func6 rfl (Nat.le_of_ble_eq_true rfl) fun w0 Z0 => ?_
  refine W_run ti_ok hz 400 (by cbv) ?_
  refine W_call (by cbv) (by kernel_rfl) (c0) ?_
  rintro t rfl
  refine W_run ti_ok hz 400 (by cbv) ?_
  refine W_bool 10 (by cbv) (show _ = false by rw [z_not hz]; rfl) ?_
  refine W_run ti_ok hz 400 (by cbv) ?_
  refine W_call (by cbv) (by kernel_rfl) (cR) ?_
  intro t ht
  cases res with
  | none =>
    have ht : t = _ := ht
    subst ht
    refine W_run ti_ok hz 400 (by cbv) ?_
    refine W_ret ti_ok rfl (by cbv) ?_
    rfl
  | some p =>
    obtain ⟨M, piv⟩ := p
    obtain ⟨st, o, hst, ho, rfl⟩ := ht
    have cP := ct_pivotColumns piv st hst (hlp M piv rfl)
    obtain ⟨pv, hpv⟩ := hide (inL piv)
    rw [← hpv] at cP
    refine W_run ti_ok hz 400 (by cbv) ?_
    refine W_drawM mixedB [2] [(1, 0), (2, 1), (0, 2), (0, 3), (0, 4), (0, 5)] [] (by kernel_rfl) ?_
    refine D_run ti_ok hz 400 (by cbv) ?_
    refine D_call (by cbv) (by cbv) (by kernel_rfl) (cP) ?_
    rintro t rfl
    refine D_run ti_ok hz 400 (by cbv) ?_
    refine D_store ti_ok (by cbv) (by cbv) (by cbv) (by cbv) (by cbv) ?_
    refine D_run ti_ok hz 400 (by cbv) ?_
    refine D_done ?_
    refine W_run ti_ok hz 400 (by cbv) ?_
    refine W_ret ti_ok rfl (by cbv) ?_
    exact ⟨pv, o, hpv, ho, rfl⟩
theorem ct_ReduceRows0 (r c : Int) (L : List It) (hL : ∀ x ∈ L, okI x) (hn : L.length ≤ 1000000) (hm : isM r c L = false) : Ct Try.prog 6 [mtT r c L] (fun t => t = row0) := by
  have c0 := ct_IsMatrix r c L hL hn
  rw [hm] at c0
  refine Ct.weak (R := fun t => t = .tu [.ag [.c (.i .i64 0), .c (.i .i64 0), .nil], .nil, .c (.b false)]) ?_ fun t h => ⟨_, rfl, by rw [h]; exact le_row0 Le.nil⟩
  unfold mtT at c0 ⊢
  obtain ⟨I, hI⟩ := hide (L.map itK)
  rw [← hI] at c0 ⊢
  obtain ⟨zb, zc, zs, zl, zn, zt, zp, zg, zv, zx, zm, hz⟩ := Vm.zE
  refine Ct_of_W Try.func6 rfl (Nat.le_of_ble_eq_true rfl) fun w0 Z0 => ?_
  refine W_run ti_ok hz 400 (by cbv) ?_
  refine W_call (by cbv) (by kernel_rfl) (c0) ?_
  rintro t rfl
  refine W_run ti_ok hz 400 (by cbv) ?_
  refine W_bool 10 (by cbv) (show _ = true by rw [z_not hz]; rfl) ?_
  refine W_run ti_ok hz 400 (by cbv) ?_
  refine W_ret ti_ok rfl (by cbv) ?_
  rfl
theorem ct_sReduceRows0 (r c : Int) (L : List It) (hL : ∀ x ∈ L, okI x) (hn : L.length ≤ 1000000) (hm : isM r c L = false) : Ct Try.prog 7 [mtT r c L] (fun t => t = row0) := by
  have c0 := ct_sIsMatrix r c L hL hn
  rw [hm] at c0
  refine Ct.weak (R := fun t => t = .tu [.ag [.c (.i .i64 0), .c (.i .i64 0), .nil], .c (.sl []), .c (.b false)]) ?_ fun t h => ⟨_, rfl, by rw [h]; exact le_row0 (Le.refl _)⟩
  unfold mtT at c0 ⊢
  obtain ⟨I, hI⟩ := hide (L.map itK)
  rw [← hI] at c0 ⊢
  obtain ⟨zb, zc, zs, zl, zn, zt, zp, zg, zv, zx, zm, hz⟩ := Vm.zE
  refine Ct_of_W Try.func7 rfl (Nat.le_of_ble_eq_true rfl) fun w0 Z0 => ?_
  refine W_run ti_ok hz 400 (by cbv) ?_
  refine W_call (by cbv) (by kernel_rfl) (c0) ?_
  rintro t rfl
  refine W_run ti_ok hz 400 (by cbv) ?_
  refine W_bool 11 (by cbv) (show _ = true by rw [z_not hz]; rfl) ?_
  refine W_run ti_ok hz 400 (by cbv) ?_
  refine W_ret ti_ok rfl (by cbv) ?_
  rfl
set_option maxHeartbeats 4000000 in
theorem ct_l14Reduce0 (R Cn : Nat) (hR : R ≤ 12) (hC : Cn ≤ 12) (h0 : ¬ 0 < R * Cn) : Ct Try.prog 21 [.ag [.c (.i .i64 (R : Int)), .c (.i .i64 (Cn : Int)), .c (.sl [])]] (RedS R Cn R Cn (some ((fun _ _ => (0, 0)), []))) := by
  refine Ct.mono (R := fun t => t = .tu [.ag [.c (.i .i64 (R : Int)), .c (.i .i64 (Cn : Int)), .c (.sl [])], .c (.sl []), .c (.sl []), .c (.b true)]) ?_ fun t h => ⟨[], [], [], rfl, by rw [grid_nil h0]; rfl, h⟩
  have hcase : R = 0 ∨ Cn = 0 := by
    rcases Nat.eq_zero_or_pos R with h | h
    · exact .inl h
    · rcases Nat.eq_zero_or_pos Cn with h' | h'
      · exact .inr h'
      · exact absurd (Nat.mul_pos h h') h0
  obtain ⟨r, hr⟩ := hide (R : Int)
  obtain ⟨c, hc⟩ := hide (Cn : Int)
  rw [← hr, ← hc]
  obtain ⟨zb, zc, zs, zl, zn, zt, zp, zg, zv, zx, zm, hz⟩ := Vm.zE
  refine Ct_of_W Try.func21 rfl (Nat.le_of_ble_eq_true rfl) fun w0 Z0 => ?_
  refine W_run ti_ok hz 400 (by cbv) ?_
  refine W_keep [1, 2, 3, 4, 5] [0, 1] 3 (by cbv) (by cbv) ?_
  refine W_cut (fun a m => a = [(2, T.pt 1 0), (3, T.nil), (4, T.nil), (5, T.c (C.b false)), (6, T.pt 2 0)] ∧
      m = [(1, Obj.box [T.c (C.i IntKind.i64 0), T.c (C.i IntKind.i64 0), T.nil]), (2, Obj.box [T.c (C.i IntKind.i64 r), T.c (C.i IntKind.i64 c), T.sk 3 []]), (3, Obj.tok 3 [])]) 4 ?_ ?_
  · refine W_drawT mixedB (.cons (2, 0) (.cons (1, 1) (.cons (2, 2) (.cons (1, 3) (.cons (2, 5) (.cons (1, 6) (.fork (.cons (0, 4) (.fork (.cons (0, 7) (.cons (2, 8) (.cons (0, 9) (.cons (0, 10) .nil)))) (.cons (0, 9) (.cons (0, 7) (.cons (2, 8) (.cons (0, 10) .nil)))))) (.cons (0, 9) (.cons (0, 4) (.cons (0, 7) (.cons (2, 8) (.cons (0, 10) .nil)))))))))))) [10] (by kernel_rfl) ?_
    refine D_run ti_ok hz 400 (by cbv) ?_
    refine D_fork ?_ ?_
    · refine D_run ti_ok hz 1 (by cbv) ?_
      refine D_fork ?_ ?_
      · refine D_app ti_ok (by cbv) (by cbv) (by cbv) (by simp) (by simp) ?_
        refine D_run ti_ok hz 1 (by cbv) ?_
        refine D_allocAt ti_ok 2 6 (by cbv) (by cbv) (by cbv) (by cbv) (by cbv) (by cbv) (by cbv) (by cbv) ?_
        refine D_last ti_ok hz (by cbv) (by cbv) (by cbv) (by cbv) (by cbv) ?_
        exact W_fin [2, 3, 4, 5, 6] [1, 2, 3] (by cbv) (by cbv) ⟨by cbv, by cbv⟩
      · refine D_allocAt ti_ok 2 6 (by cbv) (by cbv) (by cbv) (by cbv) (by cbv) (by cbv) (by cbv) (by cbv) ?_
        refine D_app ti_ok (by cbv) (by cbv) (by cbv) (by simp) (by simp) ?_
        refine D_run ti_ok hz 1 (by cbv) ?_
        refine D_last ti_ok hz (by cbv) (by cbv) (by cbv) (by cbv) (by cbv) ?_
        exact W_fin [2, 3, 4, 5, 6] [1, 2, 3] (by cbv) (by cbv) ⟨by cbv, by cbv⟩
    · refine D_allocAt ti_ok 2 6 (by cbv) (by cbv) (by cbv) (by cbv) (by cbv) (by cbv) (by cbv) (by cbv) ?_
      refine D_run ti_ok hz 1 (by cbv) ?_
      refine D_app ti_ok (by cbv) (by cbv) (by cbv) (by simp) (by simp) ?_
      refine D_run ti_ok hz 1 (by cbv) ?_
      refine D_last ti_ok hz (by cbv) (by cbv) (by cbv) (by cbv) (by cbv) ?_
      exact W_fin [2, 3, 4, 5, 6] [1, 2, 3] (by cbv) (by cbv) ⟨by cbv, by cbv⟩
  rintro a m ⟨rfl, rfl⟩
  refine W_run ti_ok hz 400 (by cbv) ?_
  refine W_keep [2, 3, 4, 5, 6, 7, 8, 9, 10] [1, 2, 3, 4, 5] 6 (by cbv) (by cbv) ?_
  refine W_loopS (fun n' a m => a = [(2, T.pt 1 0), (3, T.nil), (4, T.nil), (5, T.c (C.b false)), (6, T.pt 2 0), (7, T.sk 4 []), (8, T.sk 5 []), (9, T.c (C.i IntKind.i64 c)), (10, T.c (C.i IntKind.i64 0))] ∧
      m = [(1, Obj.box [T.c (C.i IntKind.i64 0), T.c (C.i IntKind.i64 0), T.nil]), (2, Obj.box [T.c (C.i IntKind.i64 r), T.c (C.i IntKind.i64 c), T.sk 3 []]), (3, Obj.tok 3 []), (4, Obj.tok 1 []), (5, Obj.tok 3 [])]) 0
    (fun a m => a = [(2, T.pt 1 0), (3, T.nil), (4, T.nil), (5, T.c (C.b false)), (6, T.pt 2 0), (7, T.sk 4 []), (8, T.sk 5 [])] ∧
      m = [(1, Obj.box [T.c (C.i IntKind.i64 0), T.c (C.i IntKind.i64 0), T.nil]), (2, Obj.box [T.c (C.i IntKind.i64 r), T.c (C.i IntKind.i64 c), T.sk 3 []]), (3, Obj.tok 3 []), (4, Obj.tok 1 []), (5, Obj.tok 3 [])]) 6 ⟨by cbv, by cbv⟩ ?_ ?_
  · rintro n' a m ⟨rfl, rfl⟩
    refine W_run ti_ok hz 400 (by cbv) ?_
    by_cases hlt : 0 < Cn
    rotate_left
    · refine W_bool 35 (by cbv) (show _ = false by rw [z_lss hz]; exact decide_eq_false (by omega)) ?_
      refine W_run ti_ok hz 400 (by cbv) ?_
      exact W_fin [2, 3, 4, 5, 6, 7, 8] [1, 2, 3, 4, 5] (by cbv) (by cbv) ⟨by cbv, by cbv⟩
    refine W_bool 35 (by cbv) (show _ = true by rw [z_lss hz]; exact decide_eq_true (by omega)) ?_
    refine W_run ti_ok hz 400 (by cbv) ?_
    refine W_cond (by cbv) (fun h => ?_) (fun h => ?_)
    · rw [z_lss hz, z_len hz] at h
      have h := of_decide_eq_true h
      simp at h
      omega
    · refine W_run ti_ok hz 400 (by cbv) ?_
      exact W_fin [2, 3, 4, 5, 6, 7, 8] [1, 2, 3, 4, 5] (by cbv) (by cbv) ⟨by cbv, by cbv⟩
  rintro a m ⟨rfl, rfl⟩
  refine W_run ti_ok hz 400 (by cbv) ?_
  refine W_ret ti_ok rfl (by cbv) ?_
  rfl
theorem sred_any (R Cn : Nat) (L : List It) (hR : R ≤ 12) (hC : Cn ≤ 12) (hlen : L.length = R * Cn) (hall : ∀ x ∈ L, isN x = true) : ∃ res, (∀ M piv, res = some (M, piv) → ∃ M', redP R Cn Cn 0 (cel L Cn) [] = some (M', piv) ∧ gridL M' Cn R = gridL M Cn R) ∧ (res = none → redP R Cn Cn 0 (cel L Cn) [] = none) ∧
    Ct Try.prog 21 [mtT R Cn L] (RedS R Cn R Cn res) := by
  by_cases h0 : 0 < R * Cn
  · exact ⟨_, fun M piv h => ⟨M, h, rfl⟩, fun h => h, ct_l14Reduce R Cn L hR hC h0 hlen hall⟩
  · obtain rfl := nil_of_mul h0 hlen
    exact ⟨some ((fun _ _ => (0, 0)), []), fun M piv h => by injection h with h; injection h with h1 h2; subst h1 h2; exact ⟨_, redP_0 h0 _, by rw [grid_nil h0, grid_nil h0]⟩, fun h => (by cases h), ct_l14Reduce0 R Cn hR hC h0⟩
set_option maxHeartbeats 8000000 in
theorem ct_sReduceRows (R Cn : Nat) (L : List It) (hm : isM R Cn L = true) : Ct Try.prog 7 [mtT R Cn L] (RowT R Cn R Cn (redP R Cn Cn 0 (cel L Cn) [])) := by
  obtain ⟨R', Cn', eR, eC, hR, hC, hlen, hall⟩ := isM_nat hm
  have eR : R = R' := by omega
  have eC : Cn = Cn' := by omega
  subst eR eC
  have h144 := mul_le144 (Nat.le_refl R) hR hC
  have c0 := ct_sIsMatrix R Cn L (fun x h => isN_ok (hall x h)) (by omega)
  rw [hm] at c0
  obtain ⟨res, hs, hnn, cR⟩ := sred_any R Cn L hR hC hlen hall
  refine Ct.weak (R := RowX R Cn R Cn (.c (.sl [])) res) ?_ (fun t h => ?_)
  rotate_left
  · cases res with
    | none =>
      rw [hnn rfl]
      exact ⟨row0, rfl, by rw [h]; exact le_row0 (Le.refl _)⟩
    | some p =>
      obtain ⟨M, piv⟩ := p
      obtain ⟨M', h1, h2⟩ := hs M piv rfl
      rw [h1]
      have h : RowT R Cn R Cn (some (M, piv)) t := h
      obtain ⟨pv, o, q1, q2, rfl⟩ := h
      exact ⟨_, ⟨pv, o, q1, by rw [q2, h2], rfl⟩, Le.refl _⟩
  unfold mtT at c0 cR ⊢
  obtain ⟨I, hI⟩ := hide (L.map itK)
  rw [← hI] at c0 cR ⊢
  obtain ⟨r, hr⟩ := hide (R : Int)
  obtain ⟨c, hc⟩ := hide (Cn : Int)
  rw [← hr, ← hc] at c0 cR ⊢
  clear hs hnn hI hall hlen hm
  obtain ⟨zb, zc, zs, zl, zn, zt, zp, zg, zv, zx, zm, hz⟩ := Vm.zE
  refine Ct_of_W Try.func7 rfl (Nat.le_of_ble_eq_true rfl) fun w0 Z0 => ?_
  refine W_run ti_ok hz 400 (by cbv) ?_
  refine W_call (by cbv) (by kernel_rfl) (c0) ?_
  rintro t rfl
  refine W_run ti_ok hz 400 (by cbv) ?_
  refine W_bool 11 (by cbv) (show _ = false by rw [z_not hz]; rfl) ?_
  refine W_run ti_ok hz 400 (by cbv) ?_
  refine W_call (by cbv) (by kernel_rfl) (cR) ?_
  intro t ht
  cases res with
  | none =>
    have ht : t = _ := ht
    subst ht
    refine W_run ti_ok hz 400 (by cbv) ?_
    refine W_ret ti_ok rfl (by cbv) ?_
    rfl
  | some p =>
    obtain ⟨M, piv⟩ := p
    obtain ⟨pv, fs, o, hpv, ho, rfl⟩ := ht
    refine W_run ti_ok hz 400 (by cbv) ?_
    refine W_ret ti_ok rfl (by cbv) ?_
    exact ⟨pv, o, hpv, ho, rfl⟩
end Go.Proofs.Ytconhpilbndpkaa
