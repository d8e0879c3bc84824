/-
  Merged texts: VmOrdS, VmOrdQ.
-/
import Derived.Test.YtjdimlhdkmkmbaaKOrdI
import Derived.Test.YtjdimlhdkmkmbaaKOrd
namespace Go.Proofs.Ytjdimlhdkmkmbaa
set_option maxRecDepth 100000
set_option maxRecDepth 100000
open Go.ChangeShapes Go.WideShapes Go.ChangeAt Go.RowKit Go.Deep Go.Proofs.Ytjdimlhdkmkmbaa.Vm
set_option linter.unusedVariables false

theorem ct_sIsNumber (x : ItemD) (hx : ItWf x) : Ct Try.prog 127 [itT x] (fun t => t = .q (isNum x)) :=
  Ct_scalar (fun Z => .q (isNum x)) fun w Z vs hK hr => by
    obtain ⟨v, rfl, h1⟩ := one_arg hr
    obtain ⟨cs, rfl, h2⟩ := itemR_ofT (w := w) h1 hx
    exact spec_IsNumber x cs w h2
theorem mul_bd2 {a b : Int} (h1 : -999999999 ≤ a) (h2 : a ≤ 999999999) (h3 : 1 ≤ b) (h4 : b ≤ 999999999) : -999999999000000000 ≤ a * b ∧ a * b ≤ 999999999000000000 := by
  have e1 : a * b ≤ 999999999 * b := Int.mul_le_mul_of_nonneg_right h2 (by omega)
  have e2 : -999999999 * b ≤ a * b := Int.mul_le_mul_of_nonneg_right h1 (by omega)
  omega
set_option maxHeartbeats 4000000 in
theorem ct_sCompareNumbers (x y : ItemD) (hx : ItWf x) (hy : ItWf y) : Ct Try.prog 122 [itT x, itT y] (fun t => t = .c (.i .i64 (cmpN x y))) := by
  obtain ⟨zb, zc, zs, zl, zn, zt, zp, zg, zv, zx, zm, hz⟩ := Vm.zE
  have c1 := ct_sIsNumber x hx
  have c2 := ct_sIsNumber y hy
  have bx := @isNum_bd x
  have by' := @isNum_bd y
  unfold cmpN
  obtain ⟨xn, xd, xs⟩ := x
  obtain ⟨yn, yd, ys⟩ := y
  generalize isNum ⟨xn, xd, xs⟩ = b1 at *
  generalize isNum ⟨yn, yd, ys⟩ = b2 at *
  refine Ct_of_W Try.func122 rfl (Nat.le_of_ble_eq_true rfl) fun w0 Z0 => ?_
  refine W_run ti_ok hz 400 (by cbv) ?_
  refine W_call (by cbv) (by kernel_rfl) (c1) ?_
  rintro t rfl
  refine W_run ti_ok hz 400 (by cbv) ?_
  cases b1 with
  | false =>
    refine W_bool 9 (by cbv) (show _ = true by rw [z_not hz]; rfl) ?_
    refine W_run ti_ok hz 400 (by cbv) ?_
    refine W_ret ti_ok rfl (by cbv) ?_
    rw [if_neg (by simp)]
  | true =>
    refine W_bool 9 (by cbv) (show _ = false by rw [z_not hz]; rfl) ?_
    refine W_run ti_ok hz 400 (by cbv) ?_
    refine W_call (by cbv) (by kernel_rfl) (c2) ?_
    rintro t rfl
    refine W_run ti_ok hz 400 (by cbv) ?_
    cases b2 with
    | false =>
      refine W_bool 13 (by cbv) (show _ = true by rw [z_not hz]; rfl) ?_
      refine W_run ti_ok hz 400 (by cbv) ?_
      refine W_ret ti_ok rfl (by cbv) ?_
      rw [if_neg (by simp)]
    | true =>
      refine W_bool 13 (by cbv) (show _ = false by rw [z_not hz]; rfl) ?_
      obtain ⟨p1, p2, p3, p4⟩ := bx rfl
      obtain ⟨q1, q2, q3, q4⟩ := by' rfl
      have m1 := mul_bd p3 p4 q1 q2
      have m2 := mul_bd q3 q4 p1 p2
      have e1 : zb .mul .i64 xn yd = xn * yd := z_mul hz m1.1 m1.2
      have e2 : zb .mul .i64 yn xd = yn * xd := z_mul hz m2.1 m2.2
      have n1 := mul_bd2 p3 p4 q1 q2
      have n2 := mul_bd2 q3 q4 p1 p2
      rw [if_pos ⟨rfl, rfl⟩]
      show W (ctx _ _ _ _ (fun t => t = .c (.i .i64 (if xn * yd < yn * xd then -1 else if yn * xd < xn * yd then 1 else 0)))) _
      obtain ⟨u, hu⟩ := hide (xn * yd)
      obtain ⟨v, hv⟩ := hide (yn * xd)
      rw [← hu] at e1 n1
      rw [← hv] at e2 n2
      rw [← hu, ← hv]
      have e3 : zb .sub .i64 u v = u - v := z_sub hz (by omega) (by omega)
      obtain ⟨s, hs⟩ := hide (u - v)
      rw [← hs] at e3
      refine W_run ti_ok hz 400 (by cbv) ?_
      rw [e1, e2, e3]
      refine W_cond (by cbv) (fun h => ?_) (fun h => ?_)
      · refine W_run ti_ok hz 400 (by cbv) ?_
        refine W_ret ti_ok rfl (by cbv) ?_
        rw [z_lss hz] at h
        have h := of_decide_eq_true h
        rw [if_pos (by omega)]
      · rw [z_lss hz] at h
        have h := of_decide_eq_false h
        refine W_run ti_ok hz 400 (by cbv) ?_
        refine W_val (by cbv) (by cbv) (Val_min (by cbv) (r := if 1 < s then 1 else s) rfl) ?_
        obtain ⟨r, hr⟩ := hide (if (1 : Int) < s then (1 : Int) else s)
        rw [← hr]
        refine W_run ti_ok hz 400 (by cbv) ?_
        refine W_ret ti_ok rfl (by cbv) ?_
        rw [if_neg (by omega), hr]
        by_cases h1 : 1 < s
        · rw [if_pos h1, if_pos (by omega)]
        · rw [if_neg h1]
          by_cases h2 : v < u
          · rw [if_pos h2]; congr 3; omega
          · rw [if_neg h2]; congr 3; omega
/-- of an element that is there -/
theorem ct_l5Order (k : Int) (x y : ItemD) (hx : ItWf x) (hy : ItWf y) (hxd : x.den ≠ 0) (hyd : y.den ≠ 0) : Ct Try.prog 106 [.c (.i .i64 k), itT x, itT y] (fun t => t = .c (.i .i64 (cmpI k x y))) := by
  obtain ⟨zb, zc, zs, zl, zn, zt, zp, zg, zv, zx, zm, hz⟩ := Vm.zE
  have c1 := ct_sCompareNumbers x y hx hy
  unfold cmpI
  obtain ⟨cn, hcn⟩ := hide (cmpN x y)
  rw [← hcn] at c1 ⊢
  unfold cmpT
  obtain ⟨xn, xd, xs⟩ := x
  obtain ⟨yn, yd, ys⟩ := y
  refine Ct_of_W Try.func106 rfl (Nat.le_of_ble_eq_true rfl) fun w0 Z0 => ?_
  refine W_run ti_ok hz 400 (by cbv) ?_
  refine W_bool 11 (by cbv) (show _ = false by rw [z_eql hz]; simpa using hxd) ?_
  refine W_run ti_ok hz 400 (by cbv) ?_
  refine W_bool 7 (by cbv) (show _ = false by rw [z_eql hz]; simpa using hyd) ?_
  refine W_run ti_ok hz 400 (by cbv) ?_
  refine W_cond (by cbv) (fun h => ?_) (fun h => ?_)
  · rw [z_neq hz] at h
    have h3 : k ≠ 3 := by simpa using h
    refine W_run ti_ok hz 400 (by cbv) ?_
    refine W_call (by cbv) (by kernel_rfl) (c1) ?_
    rintro t rfl
    refine W_run ti_ok hz 400 (by cbv) ?_
    refine W_ret ti_ok rfl (by cbv) ?_
    rw [if_neg h3]
  · rw [z_neq hz] at h
    have h3 : k = 3 := by simpa using h
    rw [if_pos h3]
    refine W_run ti_ok hz 400 (by cbv) ?_
    refine W_cond (by cbv) (fun h1 => ?_) (fun h1 => ?_)
    · refine W_run ti_ok hz 400 (by cbv) ?_
      refine W_ret ti_ok rfl (by cbv) ?_
      rw [(z_slt hz xs ys).1] at h1
      rw [if_pos h1]
    · rw [(z_slt hz xs ys).1] at h1
      rw [if_neg (by rw [h1]; decide)]
      refine W_run ti_ok hz 400 (by cbv) ?_
      refine W_cond (by cbv) (fun h2 => ?_) (fun h2 => ?_)
      · refine W_run ti_ok hz 400 (by cbv) ?_
        refine W_ret ti_ok rfl (by cbv) ?_
        rw [(z_slt hz xs ys).2] at h2
        rw [if_pos h2]
      · rw [(z_slt hz xs ys).2] at h2
        rw [if_neg (by rw [h2]; decide)]
        refine W_run ti_ok hz 400 (by cbv) ?_
        refine W_ret ti_ok rfl (by cbv) ?_
        rfl
theorem missing_den {k : Int} {x : ItemD} (h : itemOk k x = true) : missing x = (x.den == 0) := by
  cases hm : missing x
  · rcases itemOk_kn h hm with ⟨_, _, h1⟩ | ⟨_, h1⟩
    · rw [h1]; rfl
    · have := isNum_bd h1
      symm
      rw [beq_eq_false_iff_ne]
      omega
  · rw [missing_eq hm]; rfl
set_option maxHeartbeats 4000000 in
theorem ct_l7Ahead (k : Int) (x y : ItemD) (dec : Bool) (hx : ItWf x) (hy : ItWf y) (hmx : missing x = (x.den == 0)) (hmy : missing y = (y.den == 0)) : Ct Try.prog 68 [.c (.i .i64 k), itT x, itT y, .c (.b dec)] (fun t => t = .q (bef k dec x y)) := by
  obtain ⟨zb, zc, zs, zl, zn, zt, zp, zg, zv, zx, zm, hz⟩ := Vm.zE
  have c1 := ct_l5Order k x y hx hy
  unfold bef
  rw [hmx, hmy]
  clear hmx hmy hx hy
  obtain ⟨cm, hcm⟩ := hide (cmpI k x y)
  rw [← hcm] at c1 ⊢
  clear hcm
  obtain ⟨xn, xd, xs⟩ := x
  obtain ⟨yn, yd, ys⟩ := y
  show Ct _ _ _ (fun t => t = .q (if ((xd == 0) || (yd == 0)) = true then !(xd == 0) && (yd == 0) else if dec = true then decide (0 < cm) else decide (cm < 0)))
  have c1 : xd ≠ 0 → yd ≠ 0 → _ := c1
  refine Ct_of_W Try.func68 rfl (Nat.le_of_ble_eq_true rfl) fun w0 Z0 => ?_
  refine W_run ti_ok hz 400 (by cbv) ?_
  by_cases h1 : xd = 0
  · refine W_bool 13 (by cbv) (show _ = true by rw [z_eql hz]; simpa using h1) ?_
    refine W_run ti_ok hz 400 (by cbv) ?_
    refine W_bool 21 (by cbv) (show _ = false by rw [z_neq hz]; simpa using h1) ?_
    refine W_run ti_ok hz 400 (by cbv) ?_
    refine W_unb 8 (by cbv) ?_
    refine W_ret ti_ok rfl (by cbv) ?_
    simp [h1]
  · refine W_bool 13 (by cbv) (show _ = false by rw [z_eql hz]; simpa using h1) ?_
    refine W_run ti_ok hz 400 (by cbv) ?_
    by_cases h2 : yd = 0
    · refine W_bool 17 (by cbv) (show _ = true by rw [z_eql hz]; simpa using h2) ?_
      refine W_run ti_ok hz 400 (by cbv) ?_
      refine W_bool 21 (by cbv) (show _ = true by rw [z_neq hz]; simpa using h1) ?_
      refine W_run ti_ok hz 400 (by cbv) ?_
      refine W_ret ti_ok rfl (by cbv) ?_
      rw [z_eql hz]
      simp [h1, h2]
    · refine W_bool 17 (by cbv) (show _ = false by rw [z_eql hz]; simpa using h2) ?_
      refine W_run ti_ok hz 400 (by cbv) ?_
      refine W_call (by cbv) (by kernel_rfl) (c1 h1 h2) ?_
      rintro t rfl
      refine W_run ti_ok hz 400 (by cbv) ?_
      rw [if_neg (by simp [h1, h2])]
      by_cases h3 : cm < 0
      · refine W_bool 32 (by cbv) (show _ = true by rw [z_lss hz]; exact decide_eq_true h3) ?_
        cases dec with
        | false =>
          refine W_run ti_ok hz 400 (by cbv) ?_
          refine W_unb 8 (by cbv) ?_
          refine W_ret ti_ok rfl (by cbv) ?_
          simp [h3]
        | true =>
          refine W_run ti_ok hz 400 (by cbv) ?_
          refine W_bool 39 (by cbv) (show _ = false by rw [z_gtr hz]; exact decide_eq_false (by omega)) ?_
          refine W_run ti_ok hz 400 (by cbv) ?_
          refine W_unb 8 (by cbv) ?_
          refine W_ret ti_ok rfl (by cbv) ?_
          rw [if_pos rfl, decide_eq_false (by omega)]
      · refine W_bool 32 (by cbv) (show _ = false by rw [z_lss hz]; exact decide_eq_false h3) ?_
        refine W_run ti_ok hz 400 (by cbv) ?_
        by_cases h4 : 0 < cm
        · refine W_bool 39 (by cbv) (show _ = true by rw [z_gtr hz]; exact decide_eq_true h4) ?_
          cases dec with
          | false =>
            refine W_run ti_ok hz 400 (by cbv) ?_
            refine W_unb 8 (by cbv) ?_
            refine W_ret ti_ok rfl (by cbv) ?_
            rw [if_neg (by decide), decide_eq_false h3]
          | true =>
            refine W_run ti_ok hz 400 (by cbv) ?_
            refine W_unb 8 (by cbv) ?_
            refine W_ret ti_ok rfl (by cbv) ?_
            rw [if_pos rfl, decide_eq_true h4]
        · refine W_bool 39 (by cbv) (show _ = false by rw [z_gtr hz]; exact decide_eq_false h4) ?_
          refine W_run ti_ok hz 400 (by cbv) ?_
          refine W_unb 8 (by cbv) ?_
          refine W_ret ti_ok rfl (by cbv) ?_
          rw [decide_eq_false h3, decide_eq_false h4]
          simp
end Go.Proofs.Ytjdimlhdkmkmbaa
namespace Go.Proofs.Ytjdimlhdkmkmbaa
set_option maxRecDepth 100000
open Go.ChangeShapes Go.WideShapes Go.ChangeAt Go.RowKit Go.Deep Go.Proofs.Ytjdimlhdkmkmbaa.Vm
set_option linter.unusedVariables false

set_option maxHeartbeats 4000000 in
theorem ct_l7Atomic (d : VecD) (hd : VecWf d) (hz : szVector d ≤ 1000000000000) : Ct Try.prog 67 [vT d] (fun t => t = .c (.s (atomP d))) := by
  have hz' := hz
  obtain ⟨zb, zc, zs, zl, zn, zt, zp, zg, zv, zx, zm, hz⟩ := Vm.zE
  have c1 := ct_sIsVector d hd hz'
  obtain ⟨kd, I, P, N, Q, L, cd, en, hT, hk, -⟩ := vT_hide d
  unfold atomP
  rw [← hk]
  generalize vecOk d = b at *
  rw [hT] at c1 ⊢
  refine Ct_of_W Try.func67 rfl (Nat.le_of_ble_eq_true rfl) fun w0 Z0 => ?_
  refine W_run ti_ok hz 400 (by cbv) ?_
  refine W_call (by cbv) (by kernel_rfl) (c1) ?_
  rintro t rfl
  refine W_run ti_ok hz 400 (by cbv) ?_
  refine W_cond (by cbv) (fun h => ?_) (fun h => ?_)
  · refine W_run ti_ok hz 400 (by cbv) ?_
    refine W_ret ti_ok rfl (by cbv) ?_
    rw [z_not hz] at h
    have h : b = false := by simpa using h
    rw [if_pos h]
  · have hb : b = true := by rw [z_not hz] at h; simpa using h
    refine W_run ti_ok hz 400 (by cbv) ?_
    refine W_cond (by cbv) (fun h2 => ?_) (fun h2 => ?_)
    · refine W_run ti_ok hz 400 (by cbv) ?_
      refine W_ret ti_ok rfl (by cbv) ?_
      rw [z_geq hz] at h2
      have h2 := of_decide_eq_true h2
      rw [hb, if_neg (by decide), if_pos h2]
    · refine W_run ti_ok hz 400 (by cbv) ?_
      refine W_ret ti_ok rfl (by cbv) ?_
      rw [z_geq hz] at h2
      have h2 := of_decide_eq_false h2
      rw [hb, if_neg (by decide), if_neg h2]
/-- the new place at p -/
def swL (o : List Nat) (n p : Nat) : List (List C) := (o.take p).map inP ++ inP n :: (o.drop p).map inP
theorem swL_len {o : List Nat} {n p : Nat} (hp : p ≤ o.length) : (swL o n p).length = o.length + 1 := by
  simp only [swL, List.length_append, List.length_map, List.length_take, List.length_cons, List.length_drop]; omega
theorem swL_at {o : List Nat} {n p : Nat} (hp : p ≤ o.length) : (swL o n p)[p]? = some (inP n) := by
  unfold swL
  rw [List.getElem?_append_right (by simp; omega), List.length_map, List.length_take, Nat.min_eq_left hp, Nat.sub_self]
  rfl
theorem swL_before {o : List Nat} {n p j : Nat} (hj : o[p]? = some j) : (swL o n (p + 1))[p]? = some (inP j) := by
  have hp := (List.getElem?_eq_some_iff.1 hj).1
  unfold swL
  rw [List.getElem?_append_left (by simp; omega), List.getElem?_map, List.getElem?_take_of_lt (by omega), hj]
  rfl
theorem swL_swap {o : List Nat} {n p j : Nat} (hj : o[p]? = some j) : ((swL o n (p + 1)).set (p + 1) (inP j)).set p (inP n) = swL o n p := by
  obtain ⟨hp, hj'⟩ := List.getElem?_eq_some_iff.1 hj
  have h1 : ((o.take (p + 1)).map inP).length = p + 1 := by rw [List.length_map, List.length_take]; omega
  have h2 : ((o.take p).map inP).length = p := by rw [List.length_map, List.length_take]; omega
  unfold swL
  rw [List.set_append_right _ _ (by omega), h1, Nat.sub_self, List.set_cons_zero, List.set_append_left _ _ (by omega), List.take_succ_eq_append_getElem hp, List.map_append, List.set_append_right _ _ (by omega), h2, Nat.sub_self, List.drop_eq_getElem_cons hp, hj']
  simp
theorem inP_len {l : List Nat} : ∀ cs ∈ l.map inP, cs.length = 1 := fun cs h => by
  obtain ⟨i, _, rfl⟩ := List.mem_map.1 h
  rfl
set_option maxHeartbeats 16000000 in
theorem ct_sOrderOf (d : VecD) (dec : Bool) (hd : VecWf d) (hz : szVector d ≤ 1000000000000) (hok : atomP d = [] → d.items.length ≤ 1000) (hmd : atomP d = [] → ∀ x ∈ d.items, missing x = (x.den == 0)) : Ct Try.prog 28 [vT d, .c (.b dec)] (fun t => t = .tu [.c (.sl (if atomP d = [] then (ordL d dec).map inK else [])), .c (.s (atomP d))]) := by
  have hz' := hz
  obtain ⟨zb, zc, zs, zl, zn, zt, zp, zg, zv, zx, zm, hz⟩ := Vm.zE
  have c1 := ct_l7Atomic d hd hz'
  have hwf := ((VecWf_eq d).1 hd).2.1
  obtain ⟨res, hres⟩ := hide ((ordL d dec).map inK)
  have hres2 : res = (insOrd (befL d.kind dec d.items) d.items.length).map inP := by rw [hres]; unfold ordL; rw [List.map_map]; rfl
  rw [← hres]
  clear hres
  obtain ⟨kd, I, P, N, Q, L, cd, en, hT, hk, hI, hP, hN, hQ, hL, hcd, hen⟩ := vT_hide d
  obtain ⟨ap, hap⟩ := hide (atomP d)
  rw [← hap] at c1 hok hmd ⊢
  rw [← hk] at hres2
  rw [hT] at c1 ⊢
  have hln : zl I = (d.items.length : Int) := by rw [z_len hz, hI]; simp
  generalize hl : d.items = l at *
  refine Ct_of_W Try.func28 rfl (Nat.le_of_ble_eq_true rfl) fun w0 Z0 => ?_
  refine W_run ti_ok hz 400 (by cbv) ?_
  refine W_call (by cbv) (by kernel_rfl) (c1) ?_
  rintro t rfl
  refine W_run ti_ok hz 400 (by cbv) ?_
  refine W_tokRow 6 (by cbv) (by cbv) ?_
  refine W_run ti_ok hz 400 (by cbv) ?_
  refine W_keep [1, 2, 4, 5, 6, 7, 8] [0, 2] 3 (by cbv) (by cbv) ?_
  refine W_run ti_ok hz 1 (by cbv) ?_
  refine W_loop (fun n' a m => ∃ (i : Nat) (ik : Int) (els : List (List C)) (cap : Nat), i ≤ l.length ∧ n' = l.length - i ∧ ik = (i : Int) ∧ els = (insOrd (befL kd dec l) i).map inP ∧ (ap ≠ [] → i = 0) ∧
      a = [(1, T.c (C.b dec)), (2, T.pt 0 0), (4, T.nil), (5, T.c (C.s [])), (6, T.rw 2 i cap), (7, T.c (C.s ap)), (8, T.c (C.i IntKind.i64 ik))] ∧
      m = [(0, Obj.box [T.c (C.i IntKind.i64 kd), T.c (C.sl I), T.c (C.sl P), T.c (C.sl N), T.c (C.sl Q), T.c (C.sl L), T.c (C.i IntKind.i64 cd), T.c (C.i IntKind.i64 en)]), (2, Obj.row els cap)]) l.length ⟨0, 0, [], 0, Nat.zero_le _, rfl, rfl, rfl, fun _ => rfl, rfl, rfl⟩ ?_
  rintro n' a m ⟨i, ik, els, cap, hi, hn', hik, hels, hap0, rfl, rfl⟩
  have hel : els.length = i := by rw [hels, List.length_map, insOrd_length]
  by_cases ha : ap = []
  case neg =>
    have hi0 := hap0 ha
    subst hi0
    have hels0 : els = [] := hels
    subst hels0
    refine W_run ti_ok hz 400 (by cbv) ?_
    refine W_bool 16 (by cbv) (show _ = false by rw [(z_neqs hz ap).2]; simpa using ha) ?_
    refine W_run ti_ok hz 400 (by cbv) ?_
    refine W_freeze (n := 0) (els := []) 4 (by cbv) (by cbv) rfl ?_
    refine W_run ti_ok hz 400 (by cbv) ?_
    refine W_ret ti_ok rfl (by cbv) ?_
    rw [if_neg ha]
  case pos =>
  have hbi := hok ha
  have hmd := hmd ha
  have hadd : zb .add .i64 ik 1 = ik + 1 := z_add hz (by omega) (by omega)
  obtain ⟨ik1, hik1⟩ := hide (ik + 1)
  rw [← hik1] at hadd
  refine W_run ti_ok hz 400 (by cbv) ?_
  refine W_bool 16 (by cbv) (show _ = true by rw [(z_neqs hz ap).2]; simpa using ha) ?_
  refine W_run ti_ok hz 400 (by cbv) ?_
  refine W_cond (by cbv) (fun h => ?_) (fun h => ?_)
  · have hlt : i < l.length := by
      rw [z_lss hz, hln, hik] at h
      simpa using h
    have hIi : I[i]? = some (itK (l[i]'hlt)) := by rw [hI, List.getElem?_map, List.getElem?_eq_getElem hlt]; rfl
    have hxw := hwf _ (List.getElem_mem hlt)
    have hxm := hmd _ (List.getElem_mem hlt)
    have hgi : l.getD i ⟨0, 0, []⟩ = l[i]'hlt := by simp [hlt]
    obtain ⟨x, hx⟩ := hide (l[i]'hlt)
    rw [← hx] at hIi hxw hxm hgi
    refine W_run ti_ok hz 400 (by cbv) ?_
    rw [hadd]
    refine W_rowApp ti_ok (by cbv) (by cbv) (by cbv) hel.symm (fun cs h => by rw [hels] at h; exact inP_len cs h) (by simp) (by simp; omega) (by simp) ?_
    intro cap' hc1 hc2
    rw [show els.length + [[C.i IntKind.i64 ik1]].length = i + 1 by simp [hel]] at hc1 ⊢
    have hsw : els ++ [[C.i IntKind.i64 ik1]] = swL (insOrd (befL kd dec l) i) i i := by
      unfold swL
      rw [List.take_of_length_le (by rw [insOrd_length]; omega), List.drop_eq_nil_of_le (by rw [insOrd_length]; omega), hels, hik1, hik]
      rfl
    rw [hsw]
    obtain ⟨e2, he2⟩ := hide (swL (insOrd (befL kd dec l) i) i i)
    obtain ⟨n1, hn1⟩ := hide (i + 1)
    rw [← he2, ← hn1]
    refine W_run ti_ok hz 400 (by cbv) ?_
    refine W_keep [1, 2, 4, 5, 6, 7, 8, 9] [0, 2] 3 (by cbv) (by cbv) ?_
    refine W_run ti_ok hz 1 (by cbv) ?_
    refine W_loop (fun n' a m => ∃ (p : Nat) (pk : Int) (e : List (List C)), p ≤ i ∧ n' = p ∧ pk = (p : Int) ∧ posAt (befL kd dec l) i (insOrd (befL kd dec l) i) p = posAt (befL kd dec l) i (insOrd (befL kd dec l) i) i ∧ e = swL (insOrd (befL kd dec l) i) i p ∧
        a = [(1, T.c (C.b dec)), (2, T.pt 0 0), (4, T.nil), (5, T.c (C.s [])), (6, T.rw 2 n1 cap'), (7, T.c (C.s ap)), (8, T.c (C.i IntKind.i64 ik)), (9, T.c (C.i IntKind.i64 pk))] ∧
        m = [(0, Obj.box [T.c (C.i IntKind.i64 kd), T.c (C.sl I), T.c (C.sl P), T.c (C.sl N), T.c (C.sl Q), T.c (C.sl L), T.c (C.i IntKind.i64 cd), T.c (C.i IntKind.i64 en)]), (2, Obj.row e cap')]) i ⟨i, ik, e2, Nat.le_refl _, rfl, hik, rfl, he2, rfl, rfl⟩ ?_
    rintro n'' a m ⟨p, pk, e, hp, hn'', hpk, hpos, he, rfl, rfl⟩
    have hel2 : e.length = n1 := by rw [he, swL_len (by rw [insOrd_length]; exact hp), insOrd_length, hn1]
    have hep : e[p]? = some [.i .i64 ik1] := by rw [he, swL_at (by rw [insOrd_length]; exact hp), hik1, hik]; rfl
    cases p
    case' zero =>
      have hfin : e = (insOrd (befL kd dec l) (i + 1)).map inP := by
        rw [he, insOrd, ← hpos, posAt, List.map_append]; rfl
      refine W_run ti_ok hz 400 (by cbv) ?_
      refine W_draw mixedB [(2, 0), (2, 1), (2, 2), (2, 3), (2, 4), (2, 5), (2, 6), (2, 7), (2, 8), (2, 9), (2, 10), (2, 11), (2, 12), (2, 13), (2, 14), (2, 15), (2, 16), (2, 17), (2, 18), (2, 19), (2, 20), (2, 21), (2, 22), (2, 23), (2, 24), (0, 25), (2, 26)] [] (by kernel_rfl) ?_
      refine D_run ti_ok hz 400 (by cbv) ?_
      refine D_bool 33 (by cbv) (show _ = false by rw [z_gtr hz, hpk]; rfl) ?_
      refine D_run ti_ok hz 400 (by cbv) ?_
      refine D_done ?_
      refine W_run ti_ok hz 400 (by cbv) ?_
    case' succ p =>
      obtain ⟨j, hj⟩ : ∃ j, (insOrd (befL kd dec l) i)[p]? = some j := ⟨_, List.getElem?_eq_getElem (by rw [insOrd_length]; omega)⟩
      have hjl : j < l.length := by have := insOrd_mem.1 (List.mem_of_getElem? hj); omega
      have hIj : I[j]? = some (itK (l[j]'hjl)) := by rw [hI, List.getElem?_map, List.getElem?_eq_getElem hjl]; rfl
      have hyw := hwf _ (List.getElem_mem hjl)
      have hym := hmd _ (List.getElem_mem hjl)
      have hgj : l.getD j ⟨0, 0, []⟩ = l[j]'hjl := by simp [hjl]
      obtain ⟨y, hy⟩ := hide (l[j]'hjl)
      rw [← hy] at hIj hyw hym hgj
      have c2 := ct_l7Ahead kd x y dec hxw hyw hxm hym
      have hlt' : befL kd dec l i j = bef kd dec x y := by unfold befL; rw [hgi, hgj]
      obtain ⟨r, hr⟩ := hide (bef kd dec x y)
      rw [← hr] at c2 hlt'
      have hpj : (insOrd (befL kd dec l) i).getD p 0 = j := by rw [List.getD_eq_getElem?_getD, hj]; rfl
      rw [posAt, hpj, hlt'] at hpos
      clear hx hy hr
      obtain ⟨xn, xd, xs⟩ := x
      obtain ⟨yn, yd, ys⟩ := y
      obtain ⟨jk, hjk⟩ := hide ((j : Int) + 1)
      have heb : e[p]? = some [.i .i64 jk] := by rw [he, swL_before hj, hjk]; rfl
      have hsw2 : (e.set (p + 1) (inP j)).set p (inP i) = swL (insOrd (befL kd dec l) i) i p := by rw [he]; exact swL_swap hj
      obtain ⟨pj, hpj2⟩ := hide (p : Int)
      have hsub : zb .sub .i64 pk 1 = pj := by rw [z_sub hz (by omega) (by omega)]; omega
      obtain ⟨jz, hjz⟩ := hide (j : Int)
      have hsubj : zb .sub .i64 jk 1 = jz := by rw [z_sub hz (by omega) (by omega)]; omega
      have hsubi : zb .sub .i64 ik1 1 = ik := by rw [z_sub hz (by omega) (by omega)]; omega
      have hpi : p < n1 := by omega
      have hpi1 : p + 1 < n1 := by omega
      refine W_run ti_ok hz 400 (by cbv) ?_
      refine W_draw mixedB [(2, 0), (2, 1), (2, 2), (2, 3), (1, 4), (2, 5), (1, 6), (2, 7), (2, 8), (2, 9), (1, 10), (2, 11), (2, 12), (1, 13), (2, 14), (1, 15), (2, 16), (2, 17), (2, 18), (2, 19), (1, 20), (2, 21), (2, 22), (1, 23), (2, 24), (0, 25), (2, 26)] [] (by kernel_rfl) ?_
      refine D_run ti_ok hz 400 (by cbv) ?_
      refine D_bool 33 (by cbv) (show _ = true by rw [z_gtr hz, hpk]; exact decide_eq_true (by omega)) ?_
      refine D_run ti_ok hz 400 (by cbv) ?_
      refine D_val (by cbv) (by cbv) (by cbv) (Val_rwAt ti_ok (by cbv) (p+1) hpk hpi1) ?_
      refine D_peLoad ti_ok (by cbv) (by cbv) (by cbv) hep rfl rfl ?_
      refine D_run ti_ok hz 400 (by cbv) ?_
      rw [hsubi]
      refine D_val (by cbv) (by cbv) (by cbv) (Val_elem ti_ok (by cbv) i hik hIi rfl) ?_
      refine D_run ti_ok hz 400 (by cbv) ?_
      rw [hsub]
      refine D_val (by cbv) (by cbv) (by cbv) (Val_rwAt ti_ok (by cbv) p hpj2 hpi) ?_
      refine D_peLoad ti_ok (by cbv) (by cbv) (by cbv) heb rfl rfl ?_
      refine D_run ti_ok hz 400 (by cbv) ?_
      rw [hsubj]
      refine D_val (by cbv) (by cbv) (by cbv) (Val_elem ti_ok (by cbv) j hjz hIj rfl) ?_
      refine D_run ti_ok hz 400 (by cbv) ?_
      refine D_call (by cbv) (by cbv) (by kernel_rfl) (c2) ?_
      rintro t rfl
      refine D_run ti_ok hz 400 (by cbv) ?_
      refine D_done ?_
      cases r
      case true =>
        refine W_bool 57 (by cbv) (rfl) ?_
        refine W_run ti_ok hz 400 (by cbv) ?_
        refine W_val (by cbv) (by cbv) (Val_rwAt ti_ok (by cbv) (p+1) hpk hpi1) ?_
        refine W_run ti_ok hz 400 (by cbv) ?_
        refine W_peLoad ti_ok (by cbv) (by cbv) hep rfl rfl ?_
        refine W_run ti_ok hz 400 (by cbv) ?_
        rw [hsub]
        refine W_val (by cbv) (by cbv) (Val_rwAt ti_ok (by cbv) p hpj2 hpi) ?_
        refine W_run ti_ok hz 400 (by cbv) ?_
        refine W_peLoad ti_ok (by cbv) (by cbv) heb rfl rfl ?_
        refine W_run ti_ok hz 400 (by cbv) ?_
        refine W_val (by cbv) (by cbv) (Val_rwAt ti_ok (by cbv) (p+1) hpk hpi1) ?_
        refine W_run ti_ok hz 400 (by cbv) ?_
        refine W_peStore ti_ok (by cbv) (by cbv) hep rfl (by first | decide | simp) ?_
        have hep2 : (e.set (p + 1) ([C.i .i64 ik1].set 0 (C.i .i64 jk)))[p]? = some [.i .i64 jk] := by rw [List.getElem?_set_ne (by omega)]; exact heb
        have hsw3 : (e.set (p + 1) ([C.i .i64 ik1].set 0 (C.i .i64 jk))).set p ([C.i .i64 jk].set 0 (C.i .i64 ik1)) = swL (insOrd (befL kd dec l) i) i p := by
          rw [← hsw2, hjk, hik1, hik]; rfl
        obtain ⟨e5, he5⟩ := hide (e.set (p + 1) ([C.i .i64 ik1].set 0 (C.i .i64 jk)))
        rw [← he5] at hep2 hsw3 ⊢
        refine W_run ti_ok hz 400 (by cbv) ?_
        rw [hsub]
        refine W_val (by cbv) (by cbv) (Val_rwAt ti_ok (by cbv) p hpj2 hpi) ?_
        refine W_run ti_ok hz 400 (by cbv) ?_
        refine W_peStore ti_ok (by cbv) (by cbv) hep2 rfl (by first | decide | simp) ?_
        rw [hsw3]
        obtain ⟨e6, he6⟩ := hide (swL (insOrd (befL kd dec l) i) i p)
        rw [← he6]
        refine W_run ti_ok hz 400 (by cbv) ?_
        rw [hsub]
        refine W_inv [1, 2, 4, 5, 6, 7, 8, 9] [0, 2] p (by omega) (by cbv) (by cbv) ⟨p, pj, e6, by omega, rfl, hpj2, by rw [← hpos]; simp, he6, by cbv, by cbv⟩
      have hfin : e = (insOrd (befL kd dec l) (i + 1)).map inP := by
        rw [he, insOrd, ← hpos, if_neg (by decide), List.map_append]; rfl
      refine W_bool 57 (by cbv) (rfl) ?_
      refine W_run ti_ok hz 400 (by cbv) ?_
    all_goals
      rw [hadd]
      refine W_inv [1, 2, 4, 5, 6, 7, 8] [0, 2] (l.length - (i + 1)) (by omega) (by cbv) (by cbv) ⟨i + 1, ik1, e, cap', hlt, rfl, by rw [hik1, hik]; rfl, hfin, fun h => absurd ha h, by rw [← hn1]; cbv, by cbv⟩
  · have hle : i = l.length := by
      rw [z_lss hz, hln, hik] at h
      have h := of_decide_eq_false h
      omega
    have hfe : els = res := by rw [hels, hres2, hle]
    rw [hfe] at hel ⊢
    refine W_run ti_ok hz 400 (by cbv) ?_
    refine W_freeze 4 (by cbv) (by cbv) hel.symm ?_
    refine W_run ti_ok hz 400 (by cbv) ?_
    refine W_ret ti_ok rfl (by cbv) ?_
    rw [if_pos ha]
end Go.Proofs.Ytjdimlhdkmkmbaa
