/-
  The targets of a segment's jumps, of the program and of the reference.
-/
import Derived.Test.YtaliiodngekahaaGSegment
import Derived.Test.YtaliiodngekahaaPhase
import Derived.Test.YtaliiodngekahaaMarkInt
import Derived.Deep.DeepCutAuto
namespace Go.Proofs.Ytaliiodngekahaa
set_option maxRecDepth 100000
open Go.ChangeShapes Go.WideShapes Go.ChangeAt Go.RowKit Go.Deep
set_option linter.unusedVariables false

/-- operations that jump -/
def isJ (op : Int) : Bool := op == 13 || op == 14 || op == 15 || op == 16 || op == 19
theorem isJ_iff (op : Int) : isJ op = true ↔ (op = 13 ∨ op = 14 ∨ op = 15 ∨ op = 16 ∨ op = 19) := by
  simp [isJ, or_assoc]
def hitB (pc : Int) (x : InstrD) : Bool := isJ x.op && x.arg == pc
/-- the positions below n to which a list of instructions leads -/
def jtF (l : List InstrD) (n : Nat) : List Int := ((List.range n).filter fun (pc : Nat) => l.any (hitB pc)).map fun (n : Nat) => (n : Int)
def jtD (d : SegD) : List Int := if d.instrs.length ≤ 1000 then jtF d.instrs (d.instrs.length + 1) else []
theorem jtF_succ (l : List InstrD) (n : Nat) : jtF l (n + 1) = jtF l n ++ (if l.any (hitB n) then [(n : Int)] else []) := by
  unfold jtF
  rw [List.range_succ, List.filter_append, List.map_append]
  congr 1
  by_cases h : l.any (hitB n) = true <;> simp [h]
theorem jtF_len (l : List InstrD) (n : Nat) : (jtF l n).length ≤ n := by
  unfold jtF
  rw [List.length_map]
  exact Nat.le_trans (List.length_filter_le _ _) (by simp)
theorem jtF_small (l : List InstrD) (n : Nat) : ∀ x ∈ jtF l n, 0 ≤ x ∧ x < n := by
  intro x hx
  simp only [jtF, List.mem_map, List.mem_filter, List.mem_range] at hx
  obtain ⟨i, hi, rfl⟩ := hx
  omega

theorem any_succ {α : Type} (p : α → Bool) (l : List α) (k : Nat) (h : k < l.length) : (l.take (k + 1)).any p = ((l.take k).any p || p l[k]) := by
  rw [List.take_succ_eq_append_getElem h, List.any_append]
  simp
def RetJT (w : World) (o : List Int) (e : Ending) (w' : World) : Prop :=
  ∃ A c, e = .returned (.slice A o.length c) ∧ w'.ownsRow w.heap.size 3 1 (.slice A o.length c) o.length (o.map fun n => Value.int .i64 n) ∧ Below w.heap.size w w'
theorem retJT {w w' : World} {v : Value} {o o' : List Int} (ho : w'.ownsRow w.heap.size 3 1 v o.length (o.map fun n => Value.int .i64 n)) (he : o' = o) (hb : Below w.heap.size w w') : RetJT w o' (.returned v) w' := by
  subst he
  obtain ⟨A, c, rfl⟩ := own_shape ho
  exact ⟨A, c, rfl, ho, hb⟩

set_option maxHeartbeats 1000000 in
theorem spec_l32Jumps (op : Int) (w : World) :
    Calls Try.prog 44 #[.int .i64 op] w fun e w' => e = .returned (.bool (isJ op)) ∧ w = w' := by
  have H1 := Lib.hid (fun (a b : Int) (w : World) => show Calls Try.prog 71 #[.int .i64 op, .int .i64 a, .int .i64 b] w fun e w' => e = .returned (.bool (decide (a ≤ op) && decide (op ≤ b))) ∧ w = w' by
    by_cases ha : a ≤ op
    · go_enter Try.func71, Try.ntmps71
      go_wp2
      go_ret
      exact ⟨ret_bool (by simp [ha]), rfl⟩
    · go_enter Try.func71, Try.ntmps71
      go_wp2
      go_ret
      exact ⟨ret_bool (by simp; omega), rfl⟩)
  go_enter Try.func44, Try.ntmps44
  go_wp2_with fail
  refine Calls.mono (H1.out _ _ _) ?_
  rintro e w1 ⟨rfl, rfl⟩
  by_cases h : (decide (13 ≤ op) && decide (op ≤ 16)) = true
  · have HR := Lib.hid (show isJ op = true by
      rw [isJ_iff]
      simp only [Bool.and_eq_true, decide_eq_true_eq] at h
      omega)
    rw [h]
    go_wp2_with fail
    go_ret
    exact ⟨ret_bool HR.out.symm, rfl⟩
  · have HR := Lib.hid (show isJ op = (op == 19) by
      simp only [Bool.and_eq_true, decide_eq_true_eq] at h
      rw [Bool.eq_iff_iff, isJ_iff, beq_iff_eq]
      omega)
    rw [Bool.eq_false_iff.2 h]
    clear h
    go_wp2_with fail
    go_ret
    exact ⟨ret_bool HR.out.symm, rfl⟩

set_option maxHeartbeats 1000000 in
theorem impl_isForward (op : Int) (w : World) :
    Calls Try.prog 73 #[.int .i64 op] w fun e w' => e = .returned (.bool (op == 14 || op == 15 || op == 16 || op == 19)) ∧ w = w' := by
  by_cases h1 : op = 14
  · subst h1
    go_enter Try.func73, Try.ntmps73
    go_wp2
    go_ret
    exact ⟨ret_bool (by decide), rfl⟩
  have b1 : (op == 14) = false := by simp [h1]
  by_cases h2 : op = 15
  · subst h2
    go_enter Try.func73, Try.ntmps73
    go_wp2
    go_ret
    exact ⟨ret_bool (by decide), rfl⟩
  have b2 : (op == 15) = false := by simp [h2]
  by_cases h3 : op = 16
  · subst h3
    go_enter Try.func73, Try.ntmps73
    go_wp2
    go_ret
    exact ⟨ret_bool (by decide), rfl⟩
  have b3 : (op == 16) = false := by simp [h3]
  go_enter Try.func73, Try.ntmps73
  go_wp2
  go_ret
  exact ⟨ret_bool (by simp [b1, b2, b3]), rfl⟩

set_option maxHeartbeats 1000000 in
theorem impl_isJumping (op : Int) (w : World) :
    Calls Try.prog 48 #[.int .i64 op] w fun e w' => e = .returned (.bool (isJ op)) ∧ w = w' := by
  by_cases h1 : op = 13
  · subst h1
    go_enter Try.func48, Try.ntmps48
    go_wp2
    go_ret
    exact ⟨ret_bool (by decide), rfl⟩
  have b1 : (op == 13) = false := by simp [h1]
  have HR := Lib.hid (show isJ op = (op == 14 || op == 15 || op == 16 || op == 19) by simp [isJ, b1])
  go_enter Try.func48, Try.ntmps48
  go_wp2_with fail
  refine Calls.mono (impl_isForward op _) ?_
  rintro e w1 ⟨rfl, rfl⟩
  obtain ⟨x, hx⟩ : ∃ x, x = isJ op := ⟨_, rfl⟩
  have HX := Lib.hid hx
  rw [← HR.out, ← hx]
  clear HR hx
  go_wp2_with fail
  go_ret
  exact ⟨ret_bool HX.out, rfl⟩

set_option maxHeartbeats 4000000 in
theorem spec_JumpTargets (d : SegD) (cs : List Value) (w : World) (h : SegmentR w cs d) (hz : szSegment d ≤ 1048576) :
    Calls Try.prog 18 #[.agg cs.toArray] w (RetJT w (jtD d)) := by
  have hl : d.instrs.length ≤ 1048576 := by have := szS_length szInstr d.instrs; unfold szSegment at hz; omega
  obtain ⟨v0, v1, v2, rfl, q0, q1, q2⟩ := h
  obtain ⟨A, c, rfl, hlc, hm, HC⟩ := SlR.open_ q2
  clear q0 q1 q2 hz
  unfold maxLen at hm
  obtain ⟨G, g0, HG, B1⟩ := good1 w 51 [v0, v1, .slice A d.instrs.length c]
  have xs0 := fun W (h : Ok G W) => (B1.out W h).cell 0 _ rfl
  have xs1 := fun W (h : Ok G W) => (B1.out W h).cell 1 _ rfl
  have xs2 := fun W (h : Ok G W) => (B1.out W h).cell 2 _ rfl
  have HZ := Lib.hid (show jtD d = if d.instrs.length ≤ 1000 then jtF d.instrs (d.instrs.length + 1) else [] from rfl)
  go_enter Try.func18, Try.ntmps18
  go_upto_region 1 with fail
  refine gen_w g0 ?_
  clear g0
  intro W0 g0
  have hW0 := (HG.out.below g0).size
  go_wp2_with fail
  by_cases h1000 : d.instrs.length ≤ 1000
  rotate_left
  · go_loopw [3, 4] (fun q i wr => ∃ A c, q = .slice A 0 c ∧ i = .int .i64 0 ∧ wr.ownsRow W0.heap.size 3 1 q 0 [] ∧ Below W0.heap.size W0 wr) (fun _ _ _ => 0)
    case atStart => exact ⟨_, _, rfl, rfl, by refine owns_new W0 _ 1 0 _ 0 [] rfl (Nat.le_refl _) (by unfold maxLen; omega) ?_ rfl; rfl, (Below.refl _ _).alloc (Nat.le_refl _) _⟩
    case round =>
      obtain ⟨A1, c1, rfl, rfl, ho, hbw⟩ := hrel
      have g1 := HG.out.step g0 hbw
      clear g0
      go_wp2_with fail
      go_ret
      exact retJT (o := []) (own_base ho hW0) (by rw [HZ.out, if_neg h1000]) (HG.out.below g1)
  · go_loopw [3, 4] (fun q i wr => ∃ (j : Nat) (o : List Int), j ≤ d.instrs.length + 1 ∧ i = .int .i64 j ∧ o.length ≤ j ∧ wr.ownsRow W0.heap.size 3 1 q o.length (o.map fun n => Value.int .i64 n) ∧ Hid (o = jtF d.instrs j) ∧ Below W0.heap.size W0 wr) (fun _ i _ => d.instrs.length + 1 - (intOf i).toNat)
    case atStart => exact ⟨0, [], Nat.zero_le _, rfl, Nat.le_refl _, by refine owns_new W0 _ 1 0 _ 0 [] rfl (Nat.le_refl _) (by unfold maxLen; omega) ?_ rfl; rfl, rfl, (Below.refl _ _).alloc (Nat.le_refl _) _⟩
    case round =>
      obtain ⟨j, o, hj, rfl, hol, ho, hO, hbw⟩ := hrel
      have g1 := HG.out.step g0 hbw
      clear g0
      have hsz := hbw.size
      by_cases hlt : j < d.instrs.length + 1
      rotate_left
      · obtain rfl : j = d.instrs.length + 1 := by omega
        go_wp2_with fail
        go_ret
        exact retJT (own_base ho hW0) (by rw [HZ.out, if_pos h1000]; exact hO.out.symm) (HG.out.below g1)
      · have HN := Lib.hid (jtF_succ d.instrs j)
        go_wp2_with fail
        have hdc : decide ((d.instrs.length : Int) ≤ 1000) = true := by simp; omega
        rw [hdc]
        clear hdc
        obtain ⟨wo, hwo⟩ : ∃ wo : World, wo = wr := ⟨_, rfl⟩
        subst hwo
        go_loopw [5, 6] (fun b i W => ∃ (k : Nat) (x : Bool), k ≤ d.instrs.length ∧ i = .int .i64 k ∧ b = .bool x ∧ Hid (x = (d.instrs.take k).any (hitB j)) ∧ W = wo) (fun _ i _ => d.instrs.length - (intOf i).toNat)
        case atStart => exact ⟨0, false, Nat.zero_le _, rfl, rfl, rfl, rfl⟩
        case round =>
          obtain ⟨k, x, hk, rfl, rfl, hX, rfl⟩ := hrel
          by_cases hlk : k < d.instrs.length
          · have HA := Lib.hid (any_succ (hitB j) d.instrs k hlk)
            obtain ⟨b, off, cs, rfl, hbl, _, hat, hr⟩ := HC.out k hlk
            obtain ⟨u4, u51, u52, u53, u54, u55, rfl⟩ := hr.shape
            clear hr
            have y0 := fun W (h : Ok G W) => ((HG.out.below h).cell (p := ⟨b, off + k * 13, none⟩) hbl).trans (by simpa using hat 0 _ rfl)
            have y1 := fun W (h : Ok G W) => ((HG.out.below h).cell (p := ⟨b, off + k * 13 + 1, none⟩) hbl).trans (hat 1 _ rfl)
            clear hat
            cases x
            · go_wp2_with fail
              refine Calls.mono (spec_l32Jumps _ _) ?_
              rintro e w1 ⟨rfl, rfl⟩
              cases hq : isJ d.instrs[k].op
              · have HY := Lib.hid (show hitB j d.instrs[k] = false by simp [hitB, hq])
                clear hq
                go_wp2_with fail
                go_roundw
                case rel => exact ⟨k + 1, false, by omega, by go_num, rfl, by show _ = _; rw [HA.out, ← hX.out, HY.out]; rfl, trivial⟩
                case measure => simp [intOf]; omega
              · have HY := Lib.hid (show hitB j d.instrs[k] = (d.instrs[k].arg == (j : Int)) by simp [hitB, hq])
                clear hq
                go_wp2_with fail
                go_roundw
                case rel => exact ⟨k + 1, d.instrs[k].arg == (j : Int), by omega, by go_num, rfl, by show _ = _; rw [HA.out, ← hX.out, HY.out]; simp, trivial⟩
                case measure => simp [intOf]; omega
            · go_wp2_with fail
              go_roundw
              case rel => exact ⟨k + 1, true, by omega, by go_num, rfl, by show _ = _; rw [HA.out, ← hX.out]; rfl, trivial⟩
              case measure => simp [intOf]; omega
          · obtain rfl : k = d.instrs.length := by omega
            rw [List.take_length] at hX
            cases x
            · go_wp2_with fail
              go_roundw
              case rel => exact ⟨j + 1, o, by omega, by go_num, by omega, ho, by show _ = _; rw [HN.out, ← hX.out, hO.out]; simp, hbw⟩
              case measure => simp [intOf]; omega
            · go_wp2_with (at_builtin; go_must (refine wpList_push rfl _ _ 27 rfl W0.heap.size 3 (.int .i64 0) 1 8 Try.underlying27 info_int rfl (by decide) _ _ _ _ _ rfl rfl (by exact ho) rfl (by simp [Value.oneCell']) (by omega) (by omega) hsz ?_); intro v1 w1 ho1 _ _ hb1)
              go_roundw
              case rel =>
                refine ⟨j + 1, o ++ [(j : Int)], by omega, by go_num, by simp; omega, ?_, by show _ = _; rw [HN.out, ← hX.out, hO.out]; simp, hbw.trans hb1⟩
                rw [List.map_append, List.length_append]; exact ho1
              case measure => simp [intOf]; omega
end Go.Proofs.Ytaliiodngekahaa
