/-
  Contracts: impl.refersTo, impl.segmentRight.
-/
import Derived.Test.YtjdfancbmjnjfaaGreatChk3
import Derived.Test.YtjdfancbmjnjfaaGreatChk7
namespace Go.Proofs.YtjdfancbmjnjfaaGreat
set_option maxRecDepth 100000
open Go.ChangeShapes Go.WideShapes Go.ChangeAt Go.RowKit Go.Deep
set_option linter.unusedVariables false
set_option linter.unusedSimpArgs false

theorem Txts.take {w : World} {A : Option Addr} {n c : Nat} {l : List (List UInt8)} (h : Txts w (.slice A n c) l) (i : Nat) (hi : i ≤ l.length) : Txts w (.slice A i c) (l.take i) := by
  obtain ⟨A', c', e, hn, hc, hx⟩ := h
  injection e with e1 e2 e3
  subst e1 e2 e3
  have hl : (l.take i).length = i := by rw [List.length_take]; omega
  refine ⟨A, c, by rw [hl], by omega, hc, fun h0 => ?_⟩
  obtain ⟨b, off, rfl, hlt, hat⟩ := hx (by omega)
  refine ⟨b, off, rfl, hlt, fun k hk => ?_⟩
  obtain ⟨cs, h1, h2, h3⟩ := hat k (by omega)
  exact ⟨cs, h1, h2, by rw [List.getElem_take]; exact h3⟩


def refI (x : InstrD) : Int := if refOp x.op then x.arg else -1
set_option maxHeartbeats 1000000 in
theorem impl_refersTo (d : InstrD) (cs : List Value) (w : World) (h : InstrR w cs d) :
    Calls Tryz.prog 58 #[.agg cs.toArray] w (RetI (refI d) w) := by
  obtain ⟨v4, v51, v52, v53, v54, v55, rfl, _⟩ := h
  have HB := Lib.hid (fun o => (Below.refl w.heap.size w).alloc (Nat.le_refl _) o)
  cases q3 : (d.op == 3)
  rotate_left
  · have HN := Lib.hid (show refI d = d.arg by simp [refI, refOp, q3])
    go_enter Tryz.func58, Tryz.ntmps58
    go_wp2_with fail
    go_ret
    exact ⟨ret_int HN.out.symm, HB.out _⟩
  cases q4 : (d.op == 4)
  rotate_left
  · have HN := Lib.hid (show refI d = d.arg by simp [refI, refOp, q4])
    go_enter Tryz.func58, Tryz.ntmps58
    go_wp2_with fail
    go_ret
    exact ⟨ret_int HN.out.symm, HB.out _⟩
  cases q28 : (d.op == 28)
  rotate_left
  · have HN := Lib.hid (show refI d = d.arg by simp [refI, refOp, q28])
    go_enter Tryz.func58, Tryz.ntmps58
    go_wp2_with fail
    go_ret
    exact ⟨ret_int HN.out.symm, HB.out _⟩
  cases q31 : (d.op == 31)
  rotate_left
  · have HN := Lib.hid (show refI d = d.arg by simp [refI, refOp, q31])
    go_enter Tryz.func58, Tryz.ntmps58
    go_wp2_with fail
    go_ret
    exact ⟨ret_int HN.out.symm, HB.out _⟩
  · have HN := Lib.hid (show refI d = -1 by simp [refI, refOp, q3, q4, q28, q31])
    go_enter Tryz.func58, Tryz.ntmps58
    go_wp2_with fail
    go_ret
    exact ⟨ret_int HN.out.symm, HB.out _⟩

/-! ### The plain law of an instruction's place -/
theorem insI_no {nseg k pc n : Nat} {x : InstrD} (h : insI x = false) : insB nseg k pc n x = false := by
  unfold insI at h
  rw [Bool.and_eq_false_iff] at h
  rcases h with h | h
  · simp [insB, h]
  · simp only [Bool.or_eq_false_iff, useA] at h
    obtain ⟨⟨h1, h2⟩, h3⟩ := h
    have h13 : x.op ≠ 13 := by intro e; rw [e] at h2; exact absurd h2 (by decide)
    unfold insB argB
    rw [h1, h2]
    simp only [Bool.false_eq_true, if_false, if_neg h13, h3, Bool.and_false]
theorem insI_yes {nseg k pc n : Nat} {x : InstrD} (h : insI x = true) : 0 ≤ x.op ∧ x.op ≤ 33 ∧ insB nseg k pc n x = argB nseg k pc n x.op x.arg ∧ (refOp x.op = false → jmpOp x.op = false → x.arg = 0) := by
  unfold insI at h
  rw [Bool.and_eq_true] at h
  have h1 := h.1
  unfold insR at h1
  simp only [Bool.and_eq_true, decide_eq_true_eq] at h1
  refine ⟨h1.1.1.1.1.1, h1.1.1.1.1.2, by unfold insB; rw [h.1, Bool.true_and], fun r j => ?_⟩
  have h2 := h.2
  rw [useA, r, j] at h2
  simpa using h2
theorem insB_facts {nseg k pc n : Nat} {x : InstrD} (h : insB nseg k pc n x = true) : 0 ≤ x.op ∧ x.op ≤ 33 ∧ (jmpOp x.op = true → 0 ≤ x.arg ∧ x.arg ≤ n) ∧ (0 ≤ x.count ∧ x.count ≤ 200) ∧ x.labels.length ≤ 200 := by
  unfold insB at h
  rw [Bool.and_eq_true] at h
  obtain ⟨h1, h2⟩ := h
  unfold insR at h1
  simp only [Bool.and_eq_true, decide_eq_true_eq] at h1
  obtain ⟨⟨⟨⟨⟨a0, a1⟩, _⟩, hl⟩, c0, c1⟩, _⟩ := h1
  refine ⟨a0, a1, argB_jump h2, ⟨c0, ?_⟩, ?_⟩
  · unfold topC at c1
    split at c1
    · omega
    · split at c1 <;> omega
  · unfold lblB at hl
    split at hl
    · simp only [Bool.and_eq_true, decide_eq_true_eq] at hl; exact hl.2
    · split at hl
      · simp only [Bool.and_eq_true, decide_eq_true_eq] at hl; omega
      · split at hl
        · simp only [Bool.and_eq_true, decide_eq_true_eq] at hl; omega
        · cases hh : x.labels with
          | nil => simp
          | cons a b => rw [hh] at hl; cases hl
theorem lbsB_step {nseg k : Nat} {g : SegD} (h1 : g.labels.length = g.defaults.length) (h2 : g.labels.length ≤ 200) (h3 : ∀ i (h : i < g.labels.length), lb1 nseg k g i = true) : lbsB nseg k g = true := by
  unfold lbsB
  rw [decide_eq_true h1, decide_eq_true h2, decide_eq_true h3]
  rfl
theorem lbsB_no {nseg k : Nat} {g : SegD} (i : Nat) (h : i < g.labels.length) (h3 : lb1 nseg k g i = false) : lbsB nseg k g = false := by
  unfold lbsB
  rw [Bool.and_eq_false_iff]
  right
  refine decide_eq_false fun hh => ?_
  rw [hh i h] at h3
  cases h3
theorem insAll_no {nseg k : Nat} {g : SegD} (i : Nat) (h : i < g.instrs.length) (h3 : insB nseg k i g.instrs.length g.instrs[i] = false) : insAll nseg k g = false := by
  refine decide_eq_false fun hh => ?_
  rw [hh i h] at h3
  cases h3
theorem insAll_facts {nseg k : Nat} {g : SegD} (h : insAll nseg k g = true) : ∀ x ∈ g.instrs, 0 ≤ x.op ∧ x.op ≤ 33 ∧ (jmpOp x.op = true → 0 ≤ x.arg ∧ x.arg ≤ g.instrs.length) ∧ (0 ≤ x.count ∧ x.count ≤ 200) ∧ x.labels.length ≤ 200 := by
  intro x hx
  obtain ⟨i, hi, rfl⟩ := List.getElem_of_mem hx
  exact insB_facts (of_decide_eq_true h i hi)
theorem lb1_eq {nseg k : Nat} {g : SegD} (i : Nat) (h : i < g.labels.length) (h2 : i < g.defaults.length) :
    lb1 nseg k g i = (isNameB g.labels[i] && !hasB (g.labels.take i) g.labels[i] && (g.defaults[i] == -1 || (decide ((k : Int) + 1 ≤ g.defaults[i]) && decide (g.defaults[i] ≤ (nseg : Int) - 1)))) := by
  unfold lb1
  rw [List.getElem?_eq_getElem h, List.getElem?_eq_getElem h2]
  rfl
end Go.Proofs.YtjdfancbmjnjfaaGreat
