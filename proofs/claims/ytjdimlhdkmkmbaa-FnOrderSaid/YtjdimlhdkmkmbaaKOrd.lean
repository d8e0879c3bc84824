/-
  Merged texts: VmOrd, VmOrdP, VmOrdF, VmRank.
-/
import Derived.Test.YtjdimlhdkmkmbaaKVr
import Derived.Test.YtjdimlhdkmkmbaaVmF
import Derived.Test.YtjdimlhdkmkmbaaVmEq
namespace Go.Proofs.Ytjdimlhdkmkmbaa
set_option maxRecDepth 100000
set_option maxRecDepth 100000
open Go.ChangeShapes Go.WideShapes Go.ChangeAt Go.RowKit Go.Deep Go.Proofs.Ytjdimlhdkmkmbaa.Vm
set_option linter.unusedVariables false

/-- the problem of a vector that must be atomic or NULL -/
def atomP (d : VecD) : List UInt8 := if vecOk d = false then [105, 110, 118, 97, 108, 105, 100, 32, 118, 101, 99, 116, 111, 114] else if 4 ≤ d.kind then [110, 111, 116, 32, 97, 110, 32, 97, 116, 111, 109, 105, 99, 32, 118, 101, 99, 116, 111, 114] else []
set_option maxHeartbeats 4000000 in
theorem ct_atomicProblem (d : VecD) (hd : VecWf d) (hz : szVector d ≤ 1000000000000) : Ct Try.prog 65 [vT d] (fun t => t = .c (.s (atomP d))) := by
  have hz' := hz
  obtain ⟨zb, zc, zs, zl, zn, zt, zp, zg, zv, zx, zm, hz⟩ := Vm.zE
  have c1 := ct_IsVector d hd hz'
  obtain ⟨kd, I, P, N, Q, L, cd, en, hT, hk, -⟩ := vT_hide d
  unfold atomP
  rw [← hk]
  generalize vecOk d = b at *
  rw [hT] at c1 ⊢
  refine Ct_of_W Try.func65 rfl (Nat.le_of_ble_eq_true rfl) fun w0 Z0 => ?_
  refine W_run ti_ok hz 400 (by cbv) ?_
  refine W_call (by cbv) (by kernel_rfl) (c1) ?_
  rintro t rfl
  refine W_run ti_ok hz 400 (by cbv) ?_
  refine W_cond (by cbv) (fun h => ?_) (fun h => ?_)
  · refine W_run ti_ok hz 400 (by cbv) ?_
    refine W_ret ti_ok rfl (by cbv) ?_
    rw [z_not hz] at h
    have h : b = false := by simpa using h
    rw [if_pos h]
  · have hb : b = true := by rw [z_not hz] at h; simpa using h
    refine W_run ti_ok hz 400 (by cbv) ?_
    refine W_cond (by cbv) (fun h2 => ?_) (fun h2 => ?_)
    · refine W_run ti_ok hz 400 (by cbv) ?_
      refine W_ret ti_ok rfl (by cbv) ?_
      rw [z_geq hz] at h2
      have h2 := of_decide_eq_true h2
      rw [hb, if_neg (by decide), if_pos h2]
    · refine W_run ti_ok hz 400 (by cbv) ?_
      refine W_ret ti_ok rfl (by cbv) ?_
      rw [z_geq hz] at h2
      have h2 := of_decide_eq_false h2
      rw [hb, if_neg (by decide), if_neg h2]
theorem z_slt {bi : BinOp → IntKind → Int → Int → Int} {ci : BinOp → Int → Int → Bool} {cs : BinOp → List UInt8 → List UInt8 → Bool} {ln : List (List C) → Int} {lns : List UInt8 → Int} {nt : Bool → Bool} {pk : Bool → Bool → Bool → Bool} {ng cv : IntKind → Int → Int} {mx mn : Int → Int → Int} (hz : (⟨bi, ci, cs, ln, lns, nt, pk, ng, cv, mx, mn⟩ : ZO) = realZ) (x y : List UInt8) : cs .lss x y = Op.bytesLess x y ∧ cs .gtr x y = Op.bytesLess y x := by
  rw [show cs = realZ.cs from congrArg ZO.cs hz]; exact ⟨rfl, rfl⟩
/-- two texts compared -/
def cmpT (x y : List UInt8) : Int := if Op.bytesLess x y then -1 else if Op.bytesLess y x then 1 else 0
set_option maxHeartbeats 4000000 in
theorem ct_compareTexts (x y : List UInt8) : Ct Try.prog 112 [.c (.s x), .c (.s y)] (fun t => t = .c (.i .i64 (cmpT x y))) := by
  obtain ⟨zb, zc, zs, zl, zn, zt, zp, zg, zv, zx, zm, hz⟩ := Vm.zE
  unfold cmpT
  refine Ct_of_W Try.func112 rfl (Nat.le_of_ble_eq_true rfl) fun w0 Z0 => ?_
  refine W_run ti_ok hz 400 (by cbv) ?_
  refine W_cond (by cbv) (fun h => ?_) (fun h => ?_)
  · refine W_run ti_ok hz 400 (by cbv) ?_
    refine W_ret ti_ok rfl (by cbv) ?_
    rw [(z_slt hz x y).1] at h
    rw [if_pos h]
  · refine W_run ti_ok hz 400 (by cbv) ?_
    refine W_cond (by cbv) (fun h2 => ?_) (fun h2 => ?_)
    · refine W_run ti_ok hz 400 (by cbv) ?_
      refine W_ret ti_ok rfl (by cbv) ?_
      rw [(z_slt hz x y).1] at h
      rw [(z_slt hz x y).2] at h2
      rw [if_neg (by rw [h]; decide), if_pos h2]
    · refine W_run ti_ok hz 400 (by cbv) ?_
      refine W_ret ti_ok rfl (by cbv) ?_
      rw [(z_slt hz x y).1] at h
      rw [(z_slt hz x y).2] at h2
      rw [if_neg (by rw [h]; decide), if_neg (by rw [h2]; decide)]
theorem isNum_bd {x : ItemD} (h : isNum x = true) : 1 ≤ x.den ∧ x.den ≤ 999999999 ∧ -999999999 ≤ x.num ∧ x.num ≤ 999999999 := by
  unfold isNum at h
  simp only [Bool.and_eq_true, decide_eq_true_eq] at h
  exact ⟨h.1.1.2.1, h.1.1.2.2, h.1.2.1, h.1.2.2⟩
theorem mul_bd {a b : Int} (h1 : -999999999 ≤ a) (h2 : a ≤ 999999999) (h3 : 1 ≤ b) (h4 : b ≤ 999999999) : -9223372036854775808 ≤ a * b ∧ a * b ≤ 9223372036854775807 := by
  have e1 : a * b ≤ 999999999 * b := Int.mul_le_mul_of_nonneg_right h2 (by omega)
  have e2 : -999999999 * b ≤ a * b := Int.mul_le_mul_of_nonneg_right h1 (by omega)
  omega
/-- two numbers compared -/
def cmpN (x y : ItemD) : Int := if isNum x = true ∧ isNum y = true then (if x.num * y.den < y.num * x.den then -1 else if y.num * x.den < x.num * y.den then 1 else 0) else 2
set_option maxHeartbeats 4000000 in
theorem ct_CompareNumbers (x y : ItemD) (hx : ItWf x) (hy : ItWf y) : Ct Try.prog 113 [itT x, itT y] (fun t => t = .c (.i .i64 (cmpN x y))) := by
  obtain ⟨zb, zc, zs, zl, zn, zt, zp, zg, zv, zx, zm, hz⟩ := Vm.zE
  have c1 := ct_IsNumber x hx
  have c2 := ct_IsNumber y hy
  have bx := @isNum_bd x
  have by' := @isNum_bd y
  unfold cmpN
  obtain ⟨xn, xd, xs⟩ := x
  obtain ⟨yn, yd, ys⟩ := y
  generalize isNum ⟨xn, xd, xs⟩ = b1 at *
  generalize isNum ⟨yn, yd, ys⟩ = b2 at *
  refine Ct_of_W Try.func113 rfl (Nat.le_of_ble_eq_true rfl) fun w0 Z0 => ?_
  refine W_run ti_ok hz 400 (by cbv) ?_
  refine W_call (by cbv) (by kernel_rfl) (c1) ?_
  rintro t rfl
  refine W_run ti_ok hz 400 (by cbv) ?_
  cases b1 with
  | false =>
    refine W_bool 10 (by cbv) (show _ = true by rw [z_not hz]; rfl) ?_
    refine W_run ti_ok hz 400 (by cbv) ?_
    refine W_ret ti_ok rfl (by cbv) ?_
    rw [if_neg (by simp)]
  | true =>
    refine W_bool 10 (by cbv) (show _ = false by rw [z_not hz]; rfl) ?_
    refine W_run ti_ok hz 400 (by cbv) ?_
    refine W_call (by cbv) (by kernel_rfl) (c2) ?_
    rintro t rfl
    refine W_run ti_ok hz 400 (by cbv) ?_
    cases b2 with
    | false =>
      refine W_bool 14 (by cbv) (show _ = true by rw [z_not hz]; rfl) ?_
      refine W_run ti_ok hz 400 (by cbv) ?_
      refine W_ret ti_ok rfl (by cbv) ?_
      rw [if_neg (by simp)]
    | true =>
      refine W_bool 14 (by cbv) (show _ = false by rw [z_not hz]; rfl) ?_
      obtain ⟨p1, p2, p3, p4⟩ := bx rfl
      obtain ⟨q1, q2, q3, q4⟩ := by' rfl
      have m1 := mul_bd p3 p4 q1 q2
      have m2 := mul_bd q3 q4 p1 p2
      have e1 : zb .mul .i64 xn yd = xn * yd := z_mul hz m1.1 m1.2
      have e2 : zb .mul .i64 yn xd = yn * xd := z_mul hz m2.1 m2.2
      obtain ⟨u, hu⟩ := hide (xn * yd)
      obtain ⟨v, hv⟩ := hide (yn * xd)
      rw [← hu] at e1
      rw [← hv] at e2
      refine W_run ti_ok hz 400 (by cbv) ?_
      rw [e1, e2]
      rw [if_pos ⟨rfl, rfl⟩]
      show W (ctx _ _ _ _ (fun t => t = .c (.i .i64 (if xn * yd < yn * xd then -1 else if yn * xd < xn * yd then 1 else 0)))) _
      rw [← hu, ← hv]
      refine W_cond (by cbv) (fun h => ?_) (fun h => ?_)
      · refine W_run ti_ok hz 400 (by cbv) ?_
        refine W_ret ti_ok rfl (by cbv) ?_
        rw [z_lss hz] at h
        rw [if_pos (of_decide_eq_true h)]
      · refine W_run ti_ok hz 400 (by cbv) ?_
        refine W_cond (by cbv) (fun h2 => ?_) (fun h2 => ?_)
        · refine W_run ti_ok hz 400 (by cbv) ?_
          refine W_ret ti_ok rfl (by cbv) ?_
          rw [z_lss hz] at h
          rw [z_gtr hz] at h2
          rw [if_neg (of_decide_eq_false h), if_pos (of_decide_eq_true h2)]
        · refine W_run ti_ok hz 400 (by cbv) ?_
          refine W_ret ti_ok rfl (by cbv) ?_
          rw [z_lss hz] at h
          rw [z_gtr hz] at h2
          rw [if_neg (of_decide_eq_false h), if_neg (of_decide_eq_false h2)]
def cmpI (k : Int) (x y : ItemD) : Int := if k = 3 then cmpT x.text y.text else cmpN x y
set_option maxHeartbeats 4000000 in
theorem ct_compareItems (k : Int) (x y : ItemD) (hx : ItWf x) (hy : ItWf y) : Ct Try.prog 80 [.c (.i .i64 k), itT x, itT y] (fun t => t = .c (.i .i64 (cmpI k x y))) := by
  obtain ⟨zb, zc, zs, zl, zn, zt, zp, zg, zv, zx, zm, hz⟩ := Vm.zE
  have c1 := ct_compareTexts x.text y.text
  have c2 := ct_CompareNumbers x y hx hy
  unfold cmpI
  obtain ⟨r1, h1⟩ := hide (cmpT x.text y.text)
  obtain ⟨r2, h2⟩ := hide (cmpN x y)
  rw [← h1] at c1
  rw [← h2] at c2
  rw [← h1, ← h2]
  clear h1 h2
  obtain ⟨xn, xd, xs⟩ := x
  obtain ⟨yn, yd, ys⟩ := y
  refine Ct_of_W Try.func80 rfl (Nat.le_of_ble_eq_true rfl) fun w0 Z0 => ?_
  refine W_run ti_ok hz 400 (by cbv) ?_
  refine W_cond (by cbv) (fun h => ?_) (fun h => ?_)
  · refine W_run ti_ok hz 400 (by cbv) ?_
    refine W_call (by cbv) (by kernel_rfl) (c1) ?_
    rintro t rfl
    refine W_run ti_ok hz 400 (by cbv) ?_
    refine W_ret ti_ok rfl (by cbv) ?_
    rw [z_eql hz] at h
    rw [if_pos (by simpa using h)]
  · refine W_run ti_ok hz 400 (by cbv) ?_
    refine W_call (by cbv) (by kernel_rfl) (c2) ?_
    rintro t rfl
    refine W_run ti_ok hz 400 (by cbv) ?_
    refine W_ret ti_ok rfl (by cbv) ?_
    rw [z_eql hz] at h
    rw [if_neg (by simpa using h)]
end Go.Proofs.Ytjdimlhdkmkmbaa
namespace Go.Proofs.Ytjdimlhdkmkmbaa
set_option maxRecDepth 100000
open Go.Proofs.Ytjdimlhdkmkmbaa.Vm
set_option linter.all false
/-- where i is put: from the right, past all that it stands before -/
def posAt (lt : Nat → Nat → Bool) (i : Nat) (o : List Nat) : Nat → Nat
  | 0 => 0
  | a + 1 => if lt i (o.getD a 0) then posAt lt i o a else a + 1
def insOrd (lt : Nat → Nat → Bool) : Nat → List Nat
  | 0 => []
  | n + 1 => (insOrd lt n).take (posAt lt n (insOrd lt n) n) ++ n :: (insOrd lt n).drop (posAt lt n (insOrd lt n) n)
theorem posAt_le (lt : Nat → Nat → Bool) (i : Nat) (o : List Nat) : ∀ a, posAt lt i o a ≤ a
  | 0 => Nat.le_refl _
  | a + 1 => by
    unfold posAt
    split
    · exact Nat.le_trans (posAt_le lt i o a) (Nat.le_succ _)
    · exact Nat.le_refl _
theorem posAt_after {lt : Nat → Nat → Bool} {i : Nat} {o : List Nat} : ∀ {a : Nat} (j : Nat), posAt lt i o a ≤ j → j < a → lt i (o.getD j 0) = true
  | 0, j, _, h => by omega
  | a + 1, j, h1, h2 => by
    unfold posAt at h1
    split at h1
    · rename_i h
      by_cases hj : j = a
      · subst hj; exact h
      · exact posAt_after j h1 (by omega)
    · omega
theorem posAt_before {lt : Nat → Nat → Bool} {i : Nat} {o : List Nat} : ∀ {a : Nat}, 0 < posAt lt i o a → lt i (o.getD (posAt lt i o a - 1) 0) = false
  | 0, h => by simp [posAt] at h
  | a + 1, h => by
    unfold posAt at h ⊢
    split
    · rename_i hh
      rw [if_pos hh] at h
      exact posAt_before h
    · rename_i hh
      simpa using hh
theorem insOrd_length (lt : Nat → Nat → Bool) : ∀ n, (insOrd lt n).length = n
  | 0 => rfl
  | n + 1 => by
    have h := insOrd_length lt n
    have hp := posAt_le lt n (insOrd lt n) n
    simp only [insOrd, List.length_append, List.length_take, List.length_cons, List.length_drop, h]
    omega
theorem insOrd_perm (lt : Nat → Nat → Bool) : ∀ n, (insOrd lt n).Perm (List.range n)
  | 0 => List.Perm.refl _
  | n + 1 => by
    rw [List.range_succ]
    refine List.Perm.trans List.perm_middle ?_
    rw [List.take_append_drop]
    exact (List.Perm.cons n (insOrd_perm lt n)).trans (List.perm_append_comm (l₁ := [n]))
theorem insOrd_mem {lt : Nat → Nat → Bool} {n i : Nat} : i ∈ insOrd lt n ↔ i < n := by
  rw [(insOrd_perm lt n).mem_iff, List.mem_range]
theorem posAt_congr {lt lt' : Nat → Nat → Bool} {i : Nat} {o : List Nat} : ∀ {a : Nat}, (∀ j, j < a → lt i (o.getD j 0) = lt' i (o.getD j 0)) → posAt lt i o a = posAt lt' i o a
  | 0, _ => rfl
  | a + 1, h => by
    unfold posAt
    rw [h a (Nat.lt_succ_self a), posAt_congr fun j hj => h j (by omega)]
theorem insOrd_congr {lt lt' : Nat → Nat → Bool} : ∀ {n : Nat}, (∀ i j, i < n → j < n → lt i j = lt' i j) → insOrd lt n = insOrd lt' n
  | 0, _ => rfl
  | n + 1, h => by
    have h1 := insOrd_congr (n := n) fun i j hi hj => h i j (by omega) (by omega)
    unfold insOrd
    rw [← h1]
    have hl := insOrd_length lt n
    rw [posAt_congr (lt := lt) (lt' := lt') fun j hj => h n _ (by omega) (by
      have : (insOrd lt n).getD j 0 ∈ insOrd lt n := by
        rw [List.getD_eq_getElem?_getD, List.getElem?_eq_getElem (by omega)]
        exact List.getElem_mem _
      have := insOrd_mem.1 this
      omega)]
/-- any two that stand side by side after an insertion stood so before, or one of them is new -/
theorem ins_adj {lt : Nat → Nat → Bool} {n : Nat} {R : Nat → Nat → Prop} (hold : ∀ k a b, (insOrd lt n)[k]? = some a → (insOrd lt n)[k + 1]? = some b → R a b) (h1 : ∀ a, a < n → lt n a = false → R a n) (h2 : ∀ b, b < n → lt n b = true → R n b) :
    ∀ k a b, (insOrd lt (n + 1))[k]? = some a → (insOrd lt (n + 1))[k + 1]? = some b → R a b := by
  intro k a b ha hb
  have hl := insOrd_length lt n
  have hp := posAt_le lt n (insOrd lt n) n
  have hbe := @posAt_before lt n (insOrd lt n) n
  have haf := fun j => @posAt_after lt n (insOrd lt n) n j
  have hmem : ∀ j x, (insOrd lt n)[j]? = some x → x < n := fun j x e => insOrd_mem.1 (List.mem_of_getElem? e)
  unfold insOrd at ha hb
  generalize hpe : posAt lt n (insOrd lt n) n = p at *
  generalize hoe : insOrd lt n = o at *
  have hgd : ∀ (j : Nat) (x : Nat), o[j]? = some x → o.getD j 0 = x := fun j x e => by rw [List.getD_eq_getElem?_getD, e]; rfl
  have htl : (o.take p).length = p := by rw [List.length_take]; omega
  rcases Nat.lt_trichotomy (k + 1) p with h | h | h
  · rw [List.getElem?_append_left (by omega), List.getElem?_take_of_lt (by omega)] at ha hb
    exact hold k a b ha hb
  · rw [List.getElem?_append_left (by omega), List.getElem?_take_of_lt (by omega)] at ha
    rw [List.getElem?_append_right (by omega), htl, h, Nat.sub_self, List.getElem?_cons_zero] at hb
    injection hb with hb
    subst hb
    refine h1 a (hmem _ _ ha) ?_
    have := hbe (by omega)
    rw [show p - 1 = k by omega, hgd _ _ ha] at this
    exact this
  · rcases Nat.lt_or_ge k p with h' | h'
    · omega
    · rw [List.getElem?_append_right (by omega), htl] at ha hb
      rcases Nat.eq_or_lt_of_le h' with h'' | h''
      · subst h''
        rw [Nat.sub_self, List.getElem?_cons_zero] at ha
        rw [show p + 1 - p = 0 + 1 by omega, List.getElem?_cons_succ, List.getElem?_drop] at hb
        injection ha with ha
        subst ha
        refine h2 b (hmem _ _ hb) ?_
        have hlt := (List.getElem?_eq_some_iff.1 hb).1
        have := haf (p + 0) (by omega) (by omega)
        rw [hgd _ _ hb] at this
        exact this
      · rw [show k - p = (k - p - 1) + 1 by omega, List.getElem?_cons_succ, List.getElem?_drop] at ha
        rw [show k + 1 - p = (k - p) + 1 by omega, List.getElem?_cons_succ, List.getElem?_drop] at hb
        refine hold (k - 1) a b ?_ ?_
        · rw [show p + (k - p - 1) = k - 1 by omega] at ha; exact ha
        · rw [show p + (k - p) = k - 1 + 1 by omega] at hb; exact hb
theorem insOrd_adj {lt : Nat → Nat → Bool} {N : Nat} {R : Nat → Nat → Prop} (h1 : ∀ a i, a < i → i < N → lt i a = false → R a i) (h2 : ∀ i b, b < i → i < N → lt i b = true → R i b) : ∀ n, n ≤ N → ∀ k a b, (insOrd lt n)[k]? = some a → (insOrd lt n)[k + 1]? = some b → R a b
  | 0, _, k, a, b, e, _ => by simp [insOrd] at e
  | n + 1, hn, k, a, b, e1, e2 => ins_adj (insOrd_adj h1 h2 n (by omega)) (fun a ha hl => h1 a n ha (by omega) hl) (fun b hb hl => h2 n b hb (by omega) hl) k a b e1 e2
/-- all that stands before is not after -/
theorem chain_pairwise {R : Nat → Nat → Prop} (tr : ∀ a b c, R a b → R b c → R a c) : ∀ {l : List Nat}, (∀ k a b, l[k]? = some a → l[k + 1]? = some b → R a b) → l.Pairwise R
  | [], _ => .nil
  | [x], _ => by simp
  | x :: y :: l, h => by
    have ih := chain_pairwise tr (l := y :: l) fun k a b e1 e2 => h (k + 1) a b (by simpa using e1) (by simpa using e2)
    refine List.pairwise_cons.2 ⟨fun z hz => ?_, ih⟩
    have hxy := h 0 x y rfl rfl
    rcases List.mem_cons.1 hz with rfl | hz
    · exact hxy
    · exact tr _ _ _ hxy ((List.pairwise_cons.1 ih).1 z hz)
theorem z_neqs {bi : BinOp → IntKind → Int → Int → Int} {ci : BinOp → Int → Int → Bool} {cs : BinOp → List UInt8 → List UInt8 → Bool} {ln : List (List C) → Int} {lns : List UInt8 → Int} {nt : Bool → Bool} {pk : Bool → Bool → Bool → Bool} {ng cv : IntKind → Int → Int} {mx mn : Int → Int → Int} (hz : (⟨bi, ci, cs, ln, lns, nt, pk, ng, cv, mx, mn⟩ : ZO) = realZ) (x : List UInt8) : cs .neq x [] = !x.isEmpty ∧ cs .eql x [] = x.isEmpty := by
  rw [show cs = realZ.cs from congrArg ZO.cs hz]
  cases x <;> simp [realZ]
/-- which of two elements stands before the other -/
def bef (k : Int) (dec : Bool) (x y : ItemD) : Bool := if (missing x || missing y) = true then !missing x && missing y else if dec = true then decide (0 < cmpI k x y) else decide (cmpI k x y < 0)
def befL (k : Int) (dec : Bool) (l : List ItemD) (i j : Nat) : Bool := bef k dec (l.getD i ⟨0, 0, []⟩) (l.getD j ⟨0, 0, []⟩)
def inN (i : Nat) : List C := [.i .i64 (i : Int)]
theorem shift_ins {lt : Nat → Nat → Bool} {n p : Nat} (hp : posAt lt n (insOrd lt n) n = p) (off : Nat) (ho : off = p + 1 ∨ p = n) : ((shiftL ((insOrd lt n).map inN ++ [[.i .i64 0]]) off p (n - p)).set p (inN n)) = (insOrd lt (n + 1)).map inN := by
  have hl := insOrd_length lt n
  have hle : p ≤ n := hp ▸ posAt_le lt n (insOrd lt n) n
  have e : insOrd lt (n + 1) = (insOrd lt n).take p ++ n :: (insOrd lt n).drop p := by rw [insOrd, hp]
  rw [e]
  generalize insOrd lt n = o at *
  have hel : (o.map inN ++ [[C.i .i64 0]]).length = n + 1 := by simp [hl]
  by_cases hpn : p = n
  · subst hpn
    have : shiftL (o.map inN ++ [[C.i .i64 0]]) off p (p - p) = o.map inN ++ [[C.i .i64 0]] := by simp [shiftL, Vm.setsL]
    rw [this, List.take_of_length_le (by omega), List.drop_eq_nil_of_le (by omega), List.map_append]
    rw [List.set_append_right _ _ (by simp [hl])]
    simp [hl]
  · have ho := ho.resolve_right hpn
    subst ho
    unfold shiftL
    refine List.ext_getElem? fun j => ?_
    have hcl : (((o.map inN ++ [[C.i .i64 0]]).drop p).take (n - p)).length = n - p := by rw [List.length_take, List.length_drop, hel]; omega
    have hsg := setsL_get ((((o.map inN ++ [[C.i .i64 0]]).drop p).take (n - p)).map fun cs => cs.getD 0 C.np) (o.map inN ++ [[C.i .i64 0]]) (p + 1) (by rw [List.length_map, hcl, hel]; omega) j
    have hsl := setsL_length ((((o.map inN ++ [[C.i .i64 0]]).drop p).take (n - p)).map fun cs => cs.getD 0 C.np) (o.map inN ++ [[C.i .i64 0]]) (p + 1)
    rw [List.length_map, hcl] at hsg
    rw [List.map_append, List.map_cons]
    have hmt : ((o.take p).map inN).length = p := by rw [List.length_map, List.length_take]; omega
    rcases Nat.lt_trichotomy j p with h | h | h
    · rw [List.getElem?_set_ne (by omega), hsg, if_neg (by omega), List.getElem?_append_left (by rw [List.length_map]; omega), List.getElem?_append_left (by omega), List.getElem?_map, List.getElem?_map, List.getElem?_take_of_lt h]
    · subst h
      rw [List.getElem?_set_self (by rw [hsl, hel]; omega), List.getElem?_append_right (by omega), hmt, Nat.sub_self]
      rfl
    · have hr : ((o.take p).map inN ++ inN n :: (o.drop p).map inN)[j]? = (o[j - 1]?).map inN := by
        rw [List.getElem?_append_right (by omega), hmt, show j - p = (j - p - 1) + 1 by omega, List.getElem?_cons_succ, List.getElem?_map, List.getElem?_drop, show p + (j - p - 1) = j - 1 by omega]
      rw [hr, List.getElem?_set_ne (by omega), hsg]
      by_cases hj : j < n + 1
      · rw [if_pos (by omega), List.getElem?_map, List.getElem?_take_of_lt (by omega), List.getElem?_drop, show p + (j - (p + 1)) = j - 1 by omega, List.getElem?_append_left (by rw [List.length_map]; omega), List.getElem?_map, List.getElem?_eq_getElem (by omega)]
        rfl
      · rw [if_neg (by omega), List.getElem?_eq_none (by omega), List.getElem?_eq_none (by omega)]
        rfl
end Go.Proofs.Ytjdimlhdkmkmbaa
namespace Go.Proofs.Ytjdimlhdkmkmbaa
set_option maxRecDepth 100000
set_option linter.all false
theorem bl_irrefl : ∀ x : List UInt8, Op.bytesLess x x = false
  | [] => rfl
  | a :: x => by simp [Op.bytesLess, bl_irrefl x]
theorem bl_cons (a b : UInt8) (x y : List UInt8) : Op.bytesLess (a :: x) (b :: y) = true ↔ a.toNat < b.toNat ∨ (a.toNat = b.toNat ∧ Op.bytesLess x y = true) := by
  simp only [Op.bytesLess, Bool.or_eq_true, decide_eq_true_eq, Bool.and_eq_true, beq_iff_eq, UInt8.lt_iff_toNat_lt, UInt8.toNat_inj]
theorem bl_asymm : ∀ x y : List UInt8, Op.bytesLess x y = true → Op.bytesLess y x = true → False
  | _, [], h, _ => by simp [Op.bytesLess] at h
  | [], _ :: _, _, h => by simp [Op.bytesLess] at h
  | a :: x, b :: y, h1, h2 => by
    rw [bl_cons] at h1 h2
    rcases h1 with h1 | ⟨h1, h1'⟩ <;> rcases h2 with h2 | ⟨h2, h2'⟩
    · omega
    · omega
    · omega
    · exact bl_asymm x y h1' h2'
theorem bl_trans : ∀ x y z : List UInt8, Op.bytesLess x y = true → Op.bytesLess y z = true → Op.bytesLess x z = true
  | _, [], _, h, _ => by simp [Op.bytesLess] at h
  | _, _ :: _, [], _, h => by simp [Op.bytesLess] at h
  | [], _ :: _, _ :: _, _, _ => rfl
  | a :: x, b :: y, c :: z, h1, h2 => by
    rw [bl_cons] at h1 h2 ⊢
    rcases h1 with h1 | ⟨h1, h1'⟩ <;> rcases h2 with h2 | ⟨h2, h2'⟩
    · exact .inl (by omega)
    · exact .inl (by omega)
    · exact .inl (by omega)
    · exact .inr ⟨by omega, bl_trans x y z h1' h2'⟩
theorem bl_tri : ∀ x y : List UInt8, Op.bytesLess x y = false → Op.bytesLess y x = false → x = y
  | [], [], _, _ => rfl
  | [], _ :: _, h, _ => by simp [Op.bytesLess] at h
  | _ :: _, [], _, h => by simp [Op.bytesLess] at h
  | a :: x, b :: y, h1, h2 => by
    have h1 : ¬ Op.bytesLess (a :: x) (b :: y) = true := by rw [h1]; decide
    have h2 : ¬ Op.bytesLess (b :: y) (a :: x) = true := by rw [h2]; decide
    rw [bl_cons] at h1 h2
    have e : a.toNat = b.toNat := by omega
    have e' : a = b := UInt8.toNat_inj.1 e
    subst e'
    rw [bl_tri x y (by simpa [e] using h1) (by simpa [e] using h2)]
/-- an element that is not missing, of a kind -/
def Kn (k : Int) (x : ItemD) : Prop := (k = 3 ∧ x.num = 0 ∧ x.den = 1) ∨ (k ≠ 3 ∧ isNum x = true)
theorem itemOk_kn {k : Int} {x : ItemD} (h : itemOk k x = true) (hm : missing x = false) : Kn k x := by
  unfold itemOk at h
  rw [hm] at h
  simp only [Bool.false_or, Bool.or_eq_true, Bool.and_eq_true, beq_iff_eq, decide_eq_true_eq] at h
  rcases h with (⟨rfl, ⟨h1, h2⟩, h3⟩ | ⟨rfl, h1⟩) | ⟨rfl, ⟨h1, h2⟩, h3⟩
  · refine .inr ⟨by decide, ?_⟩
    obtain ⟨n, d, s⟩ := x
    simp only at h1 h2 h3
    subst h2
    have hs : s = [] := by simpa using h1
    subst hs
    rcases h3 with rfl | rfl <;> simp [isNum]
  · exact .inr ⟨by decide, h1⟩
  · exact .inl ⟨rfl, h1, h2⟩
theorem num_eq {x y : ItemD} (hx : isNum x = true) (hy : isNum y = true) (h : x.num * y.den = y.num * x.den) : x = y := by
  have bx := isNum_bd hx
  have by' := isNum_bd hy
  unfold isNum at hx hy
  simp only [Bool.and_eq_true, decide_eq_true_eq, beq_iff_eq] at hx hy
  obtain ⟨⟨⟨tx, _⟩, _⟩, gx⟩ := hx
  obtain ⟨⟨⟨ty, _⟩, _⟩, gy⟩ := hy
  obtain ⟨a, b, s⟩ := x
  obtain ⟨c, d, t⟩ := y
  simp only at *
  have es : s = [] := by simpa using tx
  have et : t = [] := by simpa using ty
  subst es et
  have hab : a.natAbs * d.natAbs = c.natAbs * b.natAbs := by rw [← Int.natAbs_mul, ← Int.natAbs_mul, h]
  have gx' : Nat.Coprime b.natAbs a.natAbs := by
    have : Int.gcd a b = 1 := by omega
    rw [Nat.coprime_comm]; exact this
  have gy' : Nat.Coprime d.natAbs c.natAbs := by
    have : Int.gcd c d = 1 := by omega
    rw [Nat.coprime_comm]; exact this
  have d1' : b.natAbs ∣ d.natAbs := gx'.dvd_of_dvd_mul_left (by rw [hab]; exact Nat.dvd_mul_left _ _)
  have d2' : d.natAbs ∣ b.natAbs := gy'.dvd_of_dvd_mul_left (by rw [← hab]; exact Nat.dvd_mul_left _ _)
  have e0 := Nat.dvd_antisymm d1' d2'
  have e1 : b = d := by omega
  subst e1
  have : a = c := by
    have hb : b ≠ 0 := by omega
    exact Int.eq_of_mul_eq_mul_right hb h
  subst this
  rfl
theorem num_tr {a b c d e f : Int} (hb : 0 < b) (hd : 0 < d) (hf : 0 < f) (h1 : a * d ≤ c * b) (h2 : c * f ≤ e * d) : a * f ≤ e * b := by
  have e1 : (a * d) * f ≤ (c * b) * f := Int.mul_le_mul_of_nonneg_right h1 (by omega)
  have e2 : (c * f) * b ≤ (e * d) * b := Int.mul_le_mul_of_nonneg_right h2 (by omega)
  have e3 : (a * f) * d ≤ (e * b) * d := by
    have q1 : a * f * d = a * d * f := by rw [Int.mul_assoc, Int.mul_comm f d, ← Int.mul_assoc]
    have q2 : c * b * f = c * f * b := by rw [Int.mul_assoc, Int.mul_comm b f, ← Int.mul_assoc]
    have q3 : e * d * b = e * b * d := by rw [Int.mul_assoc, Int.mul_comm d b, ← Int.mul_assoc]
    omega
  exact Int.le_of_mul_le_mul_right e3 hd
/-- stands before, of two elements that are there -/
theorem cmp_lt {k : Int} {x y : ItemD} (hx : Kn k x) (hy : Kn k y) : (cmpI k x y < 0 ↔ if k = 3 then Op.bytesLess x.text y.text = true else x.num * y.den < y.num * x.den) ∧ (0 < cmpI k x y ↔ cmpI k y x < 0) ∧ (cmpI k x y = 0 ↔ x = y) := by
  rcases hx with ⟨rfl, nx, dx⟩ | ⟨h3, hx⟩
  · have hy := hy.resolve_right (by rintro ⟨h, _⟩; exact h rfl)
    obtain ⟨_, ny, dy⟩ := hy
    have asy := bl_asymm x.text y.text
    have tri := bl_tri x.text y.text
    have irr := bl_irrefl x.text
    have ext : x = y ↔ x.text = y.text := by
      obtain ⟨a, b, s⟩ := x
      obtain ⟨c, d, t⟩ := y
      simp only at nx dx ny dy
      subst nx dx ny dy
      simp
    rw [if_pos rfl, ext]
    simp only [cmpI, if_pos, cmpT]
    cases h1 : Op.bytesLess x.text y.text <;> cases h2 : Op.bytesLess y.text x.text
    · have := tri h1 h2
      simp [this]
    · have : x.text ≠ y.text := fun e => by rw [e] at h2 irr; rw [irr] at h2; cases h2
      simp [this]
    · have : x.text ≠ y.text := fun e => by rw [← e, irr] at h1; cases h1
      simp [this]
    · exact (asy h1 h2).elim
  · have hy := (hy.resolve_left (by rintro ⟨h, _⟩; exact h3 h)).2
    rw [if_neg h3]
    simp only [cmpI, if_neg h3, cmpN, if_pos (And.intro hx hy), if_pos (And.intro hy hx)]
    have ne := num_eq hx hy
    refine ⟨?_, ?_, ?_⟩
    · split
      · simp; assumption
      · split <;> simp <;> omega
    · split
      · split <;> (try split) <;> simp <;> omega
      · split
        · simp
        · simp
    · constructor
      · intro h
        split at h
        · cases h
        · split at h
          · cases h
          · exact ne (by omega)
      · rintro rfl
        simp
theorem cmp_tr {k : Int} {x y z : ItemD} (hx : Kn k x) (hy : Kn k y) (hz : Kn k z) (h1 : ¬ cmpI k y x < 0) (h2 : ¬ cmpI k z y < 0) : ¬ cmpI k z x < 0 := by
  rw [(cmp_lt hy hx).1] at h1
  rw [(cmp_lt hz hy).1] at h2
  rw [(cmp_lt hz hx).1]
  by_cases h3 : k = 3
  · rw [if_pos h3] at *
    intro h
    by_cases hxy : Op.bytesLess x.text y.text = true
    · have := bl_trans _ _ _ h hxy
      exact h2 this
    · have e := bl_tri x.text y.text (by simpa using hxy) (by simpa using h1)
      rw [e] at h
      exact h2 h
  · rw [if_neg h3] at *
    have nx := (hx.resolve_left (by rintro ⟨h, _⟩; exact h3 h)).2
    have ny := (hy.resolve_left (by rintro ⟨h, _⟩; exact h3 h)).2
    have nz := (hz.resolve_left (by rintro ⟨h, _⟩; exact h3 h)).2
    have bx := isNum_bd nx
    have b2 := isNum_bd ny
    have bz := isNum_bd nz
    have := num_tr (a := x.num) (b := x.den) (c := y.num) (d := y.den) (e := z.num) (f := z.den) (by omega) (by omega) (by omega) (by omega) (by omega)
    omega
theorem missing_eq {x : ItemD} (h : missing x = true) : x = ⟨0, 0, []⟩ := by
  obtain ⟨a, b, s⟩ := x
  simp only [missing, Bool.and_eq_true, beq_iff_eq] at h
  obtain ⟨⟨rfl, rfl⟩, h⟩ := h
  have : s = [] := by simpa using h
  rw [this]
/-- the order of elements: strict, all that is not before either way is the same, and 'not before' can be chained -/
theorem bef_asymm {k : Int} {dec : Bool} {x y : ItemD} (hx : itemOk k x = true) (hy : itemOk k y = true) (h : bef k dec x y = true) : bef k dec y x = false := by
  unfold bef at h ⊢
  cases mx : missing x <;> cases my : missing y <;> simp only [mx, my, Bool.or_self, Bool.or_true, Bool.true_or, Bool.or_false, Bool.false_or, Bool.not_true, Bool.not_false, Bool.and_true, Bool.and_false, Bool.true_and, Bool.false_and, if_true, Bool.false_eq_true, if_false] at h ⊢
  · have f := (cmp_lt (itemOk_kn hx mx) (itemOk_kn hy my)).2.1
    have g := (cmp_lt (itemOk_kn hy my) (itemOk_kn hx mx)).2.1
    cases dec <;> simp only [Bool.false_eq_true, if_true, if_false, decide_eq_true_eq, decide_eq_false_iff_not] at h ⊢
    · omega
    · omega
theorem bef_irrefl {k : Int} {dec : Bool} {x : ItemD} (hx : itemOk k x = true) : bef k dec x x = false := by
  cases h : bef k dec x x
  · rfl
  · rw [← bef_asymm hx hx h, h]
theorem bef_eq {k : Int} {dec : Bool} {x y : ItemD} (hx : itemOk k x = true) (hy : itemOk k y = true) (h1 : bef k dec x y = false) (h2 : bef k dec y x = false) : x = y := by
  unfold bef at h1 h2
  cases mx : missing x <;> cases my : missing y <;> simp only [mx, my, Bool.or_self, Bool.or_true, Bool.true_or, Bool.or_false, Bool.false_or, Bool.not_true, Bool.not_false, Bool.and_true, Bool.and_false, Bool.true_and, Bool.false_and, if_true, Bool.false_eq_true, if_false] at h1 h2
  · have f := (cmp_lt (itemOk_kn hx mx) (itemOk_kn hy my)).2
    refine f.2.1 ?_
    cases dec <;> simp only [Bool.false_eq_true, if_true, if_false, decide_eq_false_iff_not] at h1 h2
    · omega
    · have g := (cmp_lt (itemOk_kn hy my) (itemOk_kn hx mx)).2.1
      omega
  · cases h1
  · cases h2
  · rw [missing_eq mx, missing_eq my]
theorem bef_tr {k : Int} {dec : Bool} {x y z : ItemD} (hx : itemOk k x = true) (hy : itemOk k y = true) (hz : itemOk k z = true) (h1 : bef k dec y x = false) (h2 : bef k dec z y = false) : bef k dec z x = false := by
  unfold bef at h1 h2 ⊢
  cases mx : missing x <;> cases my : missing y <;> cases mz : missing z <;> simp only [mx, my, mz, Bool.or_self, Bool.or_true, Bool.true_or, Bool.or_false, Bool.false_or, Bool.not_true, Bool.not_false, Bool.and_true, Bool.and_false, Bool.true_and, Bool.false_and, if_true, Bool.false_eq_true, if_false] at h1 h2 ⊢
  · have kx := itemOk_kn hx mx
    have ky := itemOk_kn hy my
    have kz := itemOk_kn hz mz
    cases dec <;> simp only [Bool.false_eq_true, if_true, if_false, decide_eq_false_iff_not] at h1 h2 ⊢
    · exact cmp_tr kx ky kz h1 h2
    · rw [(cmp_lt ky kx).2.1] at h1
      rw [(cmp_lt kz ky).2.1] at h2
      rw [(cmp_lt kz kx).2.1]
      exact cmp_tr kz ky kx h2 h1
  all_goals first | rfl | (cases h1; done) | (cases h2; done)
end Go.Proofs.Ytjdimlhdkmkmbaa
namespace Go.Proofs.Ytjdimlhdkmkmbaa
set_option maxRecDepth 100000
set_option linter.all false
theorem sameIt_iff {x y : ItemD} : sameIt x y = true ↔ x = y := by
  obtain ⟨a, b, s⟩ := x
  obtain ⟨c, d, t⟩ := y
  simp [sameIt, and_assoc]
/-- the places of the marked ones, from k + 1 on, and their number -/
def sumAt (g : Nat → Bool) : Nat → List Nat → Nat
  | _, [] => 0
  | k, i :: o => (if g i = true then k + 1 else 0) + sumAt g (k + 1) o
def cntAt (g : Nat → Bool) : List Nat → Nat
  | [] => 0
  | i :: o => (if g i = true then 1 else 0) + cntAt g o
theorem sumAt_append (g : Nat → Bool) : ∀ (o p : List Nat) (k : Nat), sumAt g k (o ++ p) = sumAt g k o + sumAt g (k + o.length) p
  | [], p, k => by simp [sumAt]
  | i :: o, p, k => by
    simp only [List.cons_append, sumAt, sumAt_append g o p (k + 1), List.length_cons]
    rw [show k + 1 + o.length = k + (o.length + 1) by omega]
    omega
theorem cntAt_append (g : Nat → Bool) : ∀ (o p : List Nat), cntAt g (o ++ p) = cntAt g o + cntAt g p
  | [], p => by simp [cntAt]
  | i :: o, p => by
    simp only [List.cons_append, cntAt, cntAt_append g o p]
    omega
theorem cntAt_le (g : Nat → Bool) : ∀ o : List Nat, cntAt g o ≤ o.length
  | [] => Nat.le_refl _
  | i :: o => by
    have := cntAt_le g o
    simp only [cntAt, List.length_cons]
    split <;> omega
theorem sumAt_le (g : Nat → Bool) : ∀ (o : List Nat) (k N : Nat), k + o.length ≤ N → sumAt g k o ≤ o.length * N
  | [], k, N, h => by simp [sumAt]
  | i :: o, k, N, h => by
    simp only [List.length_cons] at h
    have := sumAt_le g o (k + 1) N (by omega)
    simp only [sumAt, List.length_cons, Nat.succ_mul]
    split <;> omega
theorem cntAt_le_sumAt (g : Nat → Bool) : ∀ (o : List Nat) (k : Nat), (k + 1) * cntAt g o ≤ sumAt g k o
  | [], k => by simp [cntAt, sumAt]
  | i :: o, k => by
    have h := cntAt_le_sumAt g o (k + 1)
    have h2 : (k + 1) * cntAt g o ≤ (k + 1 + 1) * cntAt g o := Nat.mul_le_mul_right _ (by omega)
    simp only [cntAt, sumAt, Nat.mul_add]
    split
    · simp; omega
    · simp; omega
theorem cntAt_pos {g : Nat → Bool} : ∀ {o : List Nat} {i : Nat}, i ∈ o → g i = true → 0 < cntAt g o
  | j :: o, i, h, hg => by
    simp only [cntAt]
    rcases List.mem_cons.1 h with rfl | h
    · rw [if_pos hg]; omega
    · have := cntAt_pos h hg
      omega
theorem cntAt_zero {g : Nat → Bool} : ∀ {o : List Nat}, (∀ i ∈ o, g i = false) → cntAt g o = 0 ∧ ∀ k, sumAt g k o = 0
  | [], _ => ⟨rfl, fun _ => rfl⟩
  | i :: o, h => by
    have h1 := h i List.mem_cons_self
    obtain ⟨e1, e2⟩ := cntAt_zero fun j hj => h j (List.mem_cons_of_mem _ hj)
    refine ⟨?_, fun k => ?_⟩
    · simp only [cntAt, e1, h1]; rfl
    · simp only [sumAt, e2, h1]; rfl
theorem sum_split {g1 g2 : Nat → Bool} (hx : ∀ i, g1 i = true → g2 i = true → False) : ∀ {o : List Nat} (k : Nat), o.Pairwise (fun a b => g2 a = true → g1 b = false) → ∃ M, k ≤ M ∧ sumAt g1 k o ≤ M * cntAt g1 o ∧ (M + 1) * cntAt g2 o ≤ sumAt g2 k o
  | [], k, _ => ⟨k, Nat.le_refl _, by simp [sumAt], by simp [cntAt]⟩
  | i :: o, k, h => by
    obtain ⟨h1, h2⟩ := List.pairwise_cons.1 h
    by_cases hg : g2 i = true
    · have hn : ∀ j ∈ i :: o, g1 j = false := fun j hj => by
        rcases List.mem_cons.1 hj with rfl | hj
        · cases e : g1 j
          · rfl
          · exact (hx j e hg).elim
        · exact h1 j hj hg
      obtain ⟨e1, e2⟩ := cntAt_zero hn
      refine ⟨k, Nat.le_refl _, ?_, cntAt_le_sumAt g2 (i :: o) k⟩
      rw [e1, e2]; omega
    · obtain ⟨M, m1, m2, m3⟩ := sum_split hx (k + 1) h2
      refine ⟨M, by omega, ?_, ?_⟩
      · simp only [sumAt, cntAt, Nat.mul_add]
        split
        · simp; omega
        · simp; omega
      · simp only [sumAt, cntAt, if_neg hg]
        simp only [Nat.zero_add]
        exact m3
theorem rank_lt {g1 g2 : Nat → Bool} (hx : ∀ i, g1 i = true → g2 i = true → False) {o : List Nat} (h : o.Pairwise (fun a b => g2 a = true → g1 b = false)) (h1 : 0 < cntAt g1 o) (h2 : 0 < cntAt g2 o) : sumAt g1 0 o * cntAt g2 o < sumAt g2 0 o * cntAt g1 o := by
  obtain ⟨M, _, m2, m3⟩ := sum_split hx 0 h
  have e1 : sumAt g1 0 o * cntAt g2 o ≤ (M * cntAt g1 o) * cntAt g2 o := Nat.mul_le_mul_right _ m2
  have e2 : ((M + 1) * cntAt g2 o) * cntAt g1 o ≤ sumAt g2 0 o * cntAt g1 o := Nat.mul_le_mul_right _ m3
  have e3 : ((M + 1) * cntAt g2 o) * cntAt g1 o = (M * cntAt g1 o) * cntAt g2 o + cntAt g2 o * cntAt g1 o := by
    rw [Nat.add_mul, Nat.add_mul, Nat.one_mul, Nat.mul_assoc, Nat.mul_comm (cntAt g2 o) (cntAt g1 o), ← Nat.mul_assoc]
  have e4 : 0 < cntAt g2 o * cntAt g1 o := Nat.mul_pos h2 h1
  omega
/-- a fraction in lowest terms -/
def mkR (s n : Nat) : ItemD := ⟨((s / Nat.gcd s n : Nat) : Int), ((n / Nat.gcd s n : Nat) : Int), []⟩
theorem mkR_num {s n : Nat} (hn : 0 < n) (hn2 : n ≤ 1000) (hs : s ≤ 1000000) : isNum (mkR s n) = true := by
  have hg : 0 < Nat.gcd s n := Nat.gcd_pos_of_pos_right _ hn
  have h1 : n / Nat.gcd s n ≤ n := Nat.div_le_self _ _
  have h2 : s / Nat.gcd s n ≤ s := Nat.div_le_self _ _
  have h3 : 0 < n / Nat.gcd s n := Nat.div_pos (Nat.le_of_dvd hn (Nat.gcd_dvd_right _ _)) hg
  have h4 : Nat.gcd (s / Nat.gcd s n) (n / Nat.gcd s n) = 1 := Nat.coprime_div_gcd_div_gcd hg
  unfold mkR
  generalize hA : s / Nat.gcd s n = A at *
  generalize hB : n / Nat.gcd s n = B at *
  have q1 : decide ((1 : Int) ≤ (B : Int)) = true := decide_eq_true (by omega)
  have q2 : decide ((B : Int) ≤ 999999999) = true := decide_eq_true (by omega)
  have q3 : decide ((-999999999 : Int) ≤ (A : Int)) = true := decide_eq_true (by omega)
  have q4 : decide ((A : Int) ≤ 999999999) = true := decide_eq_true (by omega)
  have q5 : (((Int.gcd (A : Int) (B : Int) : Nat) : Int) == 1) = true := by rw [Int.gcd_natCast_natCast, h4]; rfl
  simp only [isNum, q1, q2, q3, q4, q5]
  rfl
theorem mkR_cmp {s n t m : Nat} (hn : 0 < n) (hm : 0 < m) : ((mkR s n).num * (mkR t m).den < (mkR t m).num * (mkR s n).den ↔ s * m < t * n) := by
  have hg : 0 < Nat.gcd s n := Nat.gcd_pos_of_pos_right _ hn
  have hk : 0 < Nat.gcd t m := Nat.gcd_pos_of_pos_right _ hm
  obtain ⟨a, ha⟩ := Nat.gcd_dvd_left s n
  obtain ⟨b, hb⟩ := Nat.gcd_dvd_right s n
  obtain ⟨c, hc⟩ := Nat.gcd_dvd_left t m
  obtain ⟨d, hd⟩ := Nat.gcd_dvd_right t m
  simp only [mkR]
  generalize Nat.gcd s n = g at *
  generalize Nat.gcd t m = k at *
  subst ha hb hc hd
  rw [Nat.mul_div_cancel_left _ hg, Nat.mul_div_cancel_left _ hg, Nat.mul_div_cancel_left _ hk, Nat.mul_div_cancel_left _ hk]
  rw [← Int.natCast_mul, ← Int.natCast_mul, Int.ofNat_lt]
  have e1 : g * a * (k * d) = (g * k) * (a * d) := by
    rw [Nat.mul_assoc, Nat.mul_assoc, Nat.mul_left_comm a k d]
  have e2 : k * c * (g * b) = (g * k) * (c * b) := by
    rw [Nat.mul_comm k c, Nat.mul_assoc, Nat.mul_comm g k, Nat.mul_assoc k g, Nat.mul_left_comm c k, Nat.mul_left_comm c g b]
  rw [e1, e2]
  constructor
  · intro h
    exact Nat.mul_lt_mul_of_pos_left h (Nat.mul_pos hg hk)
  · intro h
    exact Nat.lt_of_mul_lt_mul_left h
theorem mkR_not_missing {s n : Nat} (hn : 0 < n) : missing (mkR s n) = false := by
  have hg : 0 < Nat.gcd s n := Nat.gcd_pos_of_pos_right _ hn
  have h3 : 0 < n / Nat.gcd s n := Nat.div_pos (Nat.le_of_dvd hn (Nat.gcd_dvd_right _ _)) hg
  have h4 : (((n / Nat.gcd s n : Nat) : Int) == 0) = false := by
    rw [beq_eq_false_iff_ne]; omega
  simp only [missing, mkR, h4]
  simp
/-- the rank of an element in an order -/
def rankOf (l : List ItemD) (o : List Nat) (x : ItemD) : ItemD := if missing x = true then ⟨0, 0, []⟩ else mkR (sumAt (fun i => sameIt (l.getD i ⟨0, 0, []⟩) x) 0 o) (cntAt (fun i => sameIt (l.getD i ⟨0, 0, []⟩) x) o)
theorem rank_bef {k : Int} {l : List ItemD} {n : Nat} (hn : l.length = n) (hn2 : n ≤ 40) (hl : ∀ x ∈ l, itemOk k x = true) {o : List Nat} (hp : ∀ i, i ∈ o ↔ i < n) (hlen : o.length = n) (hs : o.Pairwise (fun a b => befL k false l b a = false)) {x y : ItemD} (hx : x ∈ l) (hy : y ∈ l) :
    bef 2 false (rankOf l o x) (rankOf l o y) = bef k false x y := by
  have inO : ∀ z ∈ l, ∃ i ∈ o, l.getD i ⟨0, 0, []⟩ = z := fun z hz => by
    obtain ⟨i, hi, rfl⟩ := List.getElem_of_mem hz
    exact ⟨i, (hp i).2 (by omega), by simp [hi]⟩
  have cpos : ∀ z ∈ l, 0 < cntAt (fun i => sameIt (l.getD i ⟨0, 0, []⟩) z) o := fun z hz => by
    obtain ⟨i, hi, e⟩ := inO z hz
    exact cntAt_pos hi (sameIt_iff.2 e)
  have before : ∀ a ∈ l, ∀ b ∈ l, bef k false a b = true → sumAt (fun i => sameIt (l.getD i ⟨0, 0, []⟩) a) 0 o * cntAt (fun i => sameIt (l.getD i ⟨0, 0, []⟩) b) o < sumAt (fun i => sameIt (l.getD i ⟨0, 0, []⟩) b) 0 o * cntAt (fun i => sameIt (l.getD i ⟨0, 0, []⟩) a) o := fun a ha b hb hab => by
    refine rank_lt (fun i h1 h2 => ?_) (hs.imp fun {p q} h h2 => ?_) (cpos a ha) (cpos b hb)
    · simp only [sameIt_iff] at h1 h2
      have : a = b := h1.symm.trans h2
      subst this
      rw [bef_irrefl (hl a ha)] at hab
      cases hab
    · simp only [sameIt_iff] at h2
      rw [Bool.eq_false_iff]
      intro h1
      simp only [sameIt_iff] at h1
      unfold befL at h
      rw [h2, h1, hab] at h
      cases h
  have num : ∀ z ∈ l, missing z = false → isNum (rankOf l o z) = true ∧ missing (rankOf l o z) = false := fun z hz hm => by
    have c1 := cntAt_le (fun i => sameIt (l.getD i ⟨0, 0, []⟩) z) o
    have s1 := sumAt_le (fun i => sameIt (l.getD i ⟨0, 0, []⟩) z) o 0 n (by omega)
    have : o.length * n ≤ 40 * 40 := Nat.mul_le_mul (by omega) hn2
    unfold rankOf
    rw [if_neg (by rw [hm]; decide)]
    exact ⟨mkR_num (cpos z hz) (by omega) (by omega), mkR_not_missing (cpos z hz)⟩
  have cmp : ∀ a ∈ l, ∀ b ∈ l, missing a = false → missing b = false → (cmpI 2 (rankOf l o a) (rankOf l o b) < 0 ↔ sumAt (fun i => sameIt (l.getD i ⟨0, 0, []⟩) a) 0 o * cntAt (fun i => sameIt (l.getD i ⟨0, 0, []⟩) b) o < sumAt (fun i => sameIt (l.getD i ⟨0, 0, []⟩) b) 0 o * cntAt (fun i => sameIt (l.getD i ⟨0, 0, []⟩) a) o) := fun a ha b hb ma mb => by
    rw [(cmp_lt (k := 2) (.inr ⟨by decide, (num a ha ma).1⟩) (.inr ⟨by decide, (num b hb mb).1⟩)).1, if_neg (by decide)]
    unfold rankOf
    rw [if_neg (by rw [ma]; decide), if_neg (by rw [mb]; decide)]
    exact mkR_cmp (cpos a ha) (cpos b hb)
  have m0 : missing (⟨0, 0, []⟩ : ItemD) = true := rfl
  have mr : ∀ z ∈ l, missing (rankOf l o z) = missing z := fun z hz => by
    cases hm : missing z
    · exact (num z hz hm).2
    · unfold rankOf; rw [if_pos hm]; exact m0
  cases hmx : missing x <;> cases hmy : missing y
  · have e : bef 2 false (rankOf l o x) (rankOf l o y) = decide (cmpI 2 (rankOf l o x) (rankOf l o y) < 0) := by
      unfold bef; rw [mr x hx, mr y hy, hmx, hmy]; rfl
    have e2 : bef k false x y = decide (cmpI k x y < 0) := by unfold bef; rw [hmx, hmy]; rfl
    have e3 : bef k false y x = decide (cmpI k y x < 0) := by unfold bef; rw [hmx, hmy]; rfl
    have h0 := cmp x hx y hy hmx hmy
    have h1 := before x hx y hy
    have h2 := before y hy x hx
    rw [e, e2, decide_eq_decide, h0]
    rw [e2] at h1
    rw [e3] at h2
    constructor
    · intro h
      cases c1 : decide (cmpI k x y < 0)
      · cases c2 : decide (cmpI k y x < 0)
        · have := bef_eq (dec := false) (hl x hx) (hl y hy) (by rw [e2]; exact c1) (by rw [e3]; exact c2)
          subst this
          omega
        · have := h2 c2
          omega
      · simpa using c1
    · intro h
      exact h1 (by simpa using h)
  · unfold bef; rw [mr x hx, mr y hy, hmx, hmy]; rfl
  · unfold bef; rw [mr x hx, mr y hy, hmx, hmy]; rfl
  · unfold bef; rw [mr x hx, mr y hy, hmx, hmy]; rfl
end Go.Proofs.Ytjdimlhdkmkmbaa
