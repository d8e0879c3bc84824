/-
  The targets of a segment's jumps, of the program and of the reference.
-/
import Derived.Test.YtjdfancbmjnjfaaGreatGSegment
import Derived.Test.YtjdfancbmjnjfaaGreatPhase
import Derived.Test.YtjdfancbmjnjfaaGreatMarkInt
import Derived.Deep.DeepCutAuto
namespace Go.Proofs.YtjdfancbmjnjfaaGreat
set_option maxRecDepth 100000
open Go.ChangeShapes Go.WideShapes Go.ChangeAt Go.RowKit Go.Deep
set_option linter.unusedVariables false

/-- operations that jump -/
def isJ (op : Int) : Bool := op == 13 || op == 14 || op == 15 || op == 16 || op == 19
theorem isJ_iff (op : Int) : isJ op = true ↔ (op = 13 ∨ op = 14 ∨ op = 15 ∨ op = 16 ∨ op = 19) := by
  simp [isJ, or_assoc]
def hitB (pc : Int) (x : InstrD) : Bool := isJ x.op && x.arg == pc
/-- the positions below n to which a list of instructions leads -/
def jtF (l : List InstrD) (n : Nat) : List Int := ((List.range n).filter fun (pc : Nat) => l.any (hitB pc)).map fun (n : Nat) => (n : Int)
def jtD (d : SegD) : List Int := if d.instrs.length ≤ 1000 then jtF d.instrs (d.instrs.length + 1) else []
theorem jtF_succ (l : List InstrD) (n : Nat) : jtF l (n + 1) = jtF l n ++ (if l.any (hitB n) then [(n : Int)] else []) := by
  unfold jtF
  rw [List.range_succ, List.filter_append, List.map_append]
  congr 1
  by_cases h : l.any (hitB n) = true <;> simp [h]
theorem jtF_len (l : List InstrD) (n : Nat) : (jtF l n).length ≤ n := by
  unfold jtF
  rw [List.length_map]
  exact Nat.le_trans (List.length_filter_le _ _) (by simp)
theorem jtF_small (l : List InstrD) (n : Nat) : ∀ x ∈ jtF l n, 0 ≤ x ∧ x < n := by
  intro x hx
  simp only [jtF, List.mem_map, List.mem_filter, List.mem_range] at hx
  obtain ⟨i, hi, rfl⟩ := hx
  omega

theorem any_succ {α : Type} (p : α → Bool) (l : List α) (k : Nat) (h : k < l.length) : (l.take (k + 1)).any p = ((l.take k).any p || p l[k]) := by
  rw [List.take_succ_eq_append_getElem h, List.any_append]
  simp
def RetJT (w : World) (o : List Int) (e : Ending) (w' : World) : Prop :=
  ∃ A c, e = .returned (.slice A o.length c) ∧ w'.ownsRow w.heap.size 3 1 (.slice A o.length c) o.length (o.map fun n => Value.int .i64 n) ∧ Below w.heap.size w w'
theorem retJT {w w' : World} {v : Value} {o o' : List Int} (ho : w'.ownsRow w.heap.size 3 1 v o.length (o.map fun n => Value.int .i64 n)) (he : o' = o) (hb : Below w.heap.size w w') : RetJT w o' (.returned v) w' := by
  subst he
  obtain ⟨A, c, rfl⟩ := own_shape ho
  exact ⟨A, c, rfl, ho, hb⟩

set_option maxHeartbeats 1000000 in
theorem spec_l32Jumps (op : Int) (w : World) :
    Calls Tryz.prog 84 #[.int .i64 op] w fun e w' => e = .returned (.bool (isJ op)) ∧ w = w' := by
  have H1 := Lib.hid (fun (a b : Int) (w : World) => show Calls Tryz.prog 21 #[.int .i64 op, .int .i64 a, .int .i64 b] w fun e w' => e = .returned (.bool (decide (a ≤ op) && decide (op ≤ b))) ∧ w = w' by
    by_cases ha : a ≤ op
    · go_enter Tryz.func21, Tryz.ntmps21
      go_wp2
      go_ret
      exact ⟨ret_bool (by simp [ha]), rfl⟩
    · go_enter Tryz.func21, Tryz.ntmps21
      go_wp2
      go_ret
      exact ⟨ret_bool (by simp; omega), rfl⟩)
  go_enter Tryz.func84, Tryz.ntmps84
  go_wp2_with fail
  refine Calls.mono (H1.out _ _ _) ?_
  rintro e w1 ⟨rfl, rfl⟩
  by_cases h : (decide (13 ≤ op) && decide (op ≤ 16)) = true
  · have HR := Lib.hid (show isJ op = true by
      rw [isJ_iff]
      simp only [Bool.and_eq_true, decide_eq_true_eq] at h
      omega)
    rw [h]
    go_wp2_with fail
    go_ret
    exact ⟨ret_bool HR.out.symm, rfl⟩
  · have HR := Lib.hid (show isJ op = (op == 19) by
      simp only [Bool.and_eq_true, decide_eq_true_eq] at h
      rw [Bool.eq_iff_iff, isJ_iff, beq_iff_eq]
      omega)
    rw [Bool.eq_false_iff.2 h]
    clear h
    go_wp2_with fail
    go_ret
    exact ⟨ret_bool HR.out.symm, rfl⟩

set_option maxHeartbeats 1000000 in
theorem impl_isForward (op : Int) (w : World) :
    Calls Tryz.prog 60 #[.int .i64 op] w fun e w' => e = .returned (.bool (op == 14 || op == 15 || op == 16 || op == 19)) ∧ w = w' := by
  by_cases h1 : op = 14
  · subst h1
    go_enter Tryz.func60, Tryz.ntmps60
    go_wp2
    go_ret
    exact ⟨ret_bool (by decide), rfl⟩
  have b1 : (op == 14) = false := by simp [h1]
  by_cases h2 : op = 15
  · subst h2
    go_enter Tryz.func60, Tryz.ntmps60
    go_wp2
    go_ret
    exact ⟨ret_bool (by decide), rfl⟩
  have b2 : (op == 15) = false := by simp [h2]
  by_cases h3 : op = 16
  · subst h3
    go_enter Tryz.func60, Tryz.ntmps60
    go_wp2
    go_ret
    exact ⟨ret_bool (by decide), rfl⟩
  have b3 : (op == 16) = false := by simp [h3]
  go_enter Tryz.func60, Tryz.ntmps60
  go_wp2
  go_ret
  exact ⟨ret_bool (by simp [b1, b2, b3]), rfl⟩

set_option maxHeartbeats 1000000 in
theorem impl_isJumping (op : Int) (w : World) :
    Calls Tryz.prog 72 #[.int .i64 op] w fun e w' => e = .returned (.bool (isJ op)) ∧ w = w' := by
  by_cases h1 : op = 13
  · subst h1
    go_enter Tryz.func72, Tryz.ntmps72
    go_wp2
    go_ret
    exact ⟨ret_bool (by decide), rfl⟩
  have b1 : (op == 13) = false := by simp [h1]
  have HR := Lib.hid (show isJ op = (op == 14 || op == 15 || op == 16 || op == 19) by simp [isJ, b1])
  go_enter Tryz.func72, Tryz.ntmps72
  go_wp2_with fail
  refine Calls.mono (impl_isForward op _) ?_
  rintro e w1 ⟨rfl, rfl⟩
  obtain ⟨x, hx⟩ : ∃ x, x = isJ op := ⟨_, rfl⟩
  have HX := Lib.hid hx
  rw [← HR.out, ← hx]
  clear HR hx
  go_wp2_with fail
  go_ret
  exact ⟨ret_bool HX.out, rfl⟩

end Go.Proofs.YtjdfancbmjnjfaaGreat
