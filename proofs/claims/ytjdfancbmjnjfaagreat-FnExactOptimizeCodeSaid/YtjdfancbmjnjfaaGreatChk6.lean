/-
  Contracts: what the reference asks of the labels and of an instruction.
-/
import Derived.Test.YtjdfancbmjnjfaaGreatChk5
import Derived.Test.YtjdfancbmjnjfaaGreatKJump
namespace Go.Proofs.YtjdfancbmjnjfaaGreat
set_option maxRecDepth 100000
open Go.ChangeShapes Go.WideShapes Go.ChangeAt Go.RowKit Go.Deep
set_option linter.unusedVariables false
set_option linter.unusedSimpArgs false

def LLblC (op : Int) : Prop := ∀ (d : InstrD) (cs : List Value) (w : World), d.op = op → InstrR w cs d → (∀ s ∈ d.labels, s.length ≤ 1000000000000) → Calls Tryz.prog 81 #[.agg cs.toArray] w (RetB (lblB op d.labels) w)
set_option maxHeartbeats 31000000 in
theorem spec_l32Labels_c0 : ∀ op ∈ ([0, 1, 2, 3, 4, 5, 7, 8, 9, 10, 11, 12, 13, 14, 15, 16, 17, 18, 19, 20, 21, 22, 23, 26, 27, 28, 29, 30, 31, 32, 33] : List Int), LLblC op := by
  intro op hm
  simp only [List.mem_cons, List.not_mem_nil, or_false] at hm
  rcases hm with rfl | rfl | rfl | rfl | rfl | rfl | rfl | rfl | rfl | rfl | rfl | rfl | rfl | rfl | rfl | rfl | rfl | rfl | rfl | rfl | rfl | rfl | rfl | rfl | rfl | rfl | rfl | rfl | rfl | rfl | rfl
  all_goals
    intro d cs w hop h hsl
    have HRR := Lib.hid (fun (W : World) (hb : Below w.heap.size w W) => h.below hb)
    obtain ⟨v4, v51, v52, v53, v54, v55, rfl, i0, i1, i2, ht, hl, hv⟩ := h
    have HL := Lib.hid hl
    have HV := Lib.hid hv
    have HT := Lib.hid ht
    have I0 := Lib.hid i0
    have I1 := Lib.hid i1
    have I2 := Lib.hid i2
    obtain ⟨A4, c4, rfl, hlc, hm, HC⟩ := Txts.open_ hl
    unfold maxLen at hm
    clear hl hv ht i0 i1 i2
    obtain ⟨G, g0, HG, B1⟩ := good1 w 63 [.int .i64 d.op, .int .i64 d.arg, .int .i64 d.count, .string (str d.text), .slice A4 d.labels.length c4, .int .i64 d.value.kind, v51, v52, v53, v54, v55, .int .i64 d.value.code, .int .i64 d.value.env]
    rw [hop] at g0 B1 ⊢
    obtain ⟨x0, x1, x2, x3, x4, x5, x6, x7, x8, x9, x10, x11, x12⟩ := pk_f13 B1
    go_enter Tryz.func81, Tryz.ntmps81
    go_upto_region 1 with fail
    refine gen_w g0 ?_
    clear g0
    intro W0 g0
    go_wp2_with fail
    go_ret
    exact ⟨ret_bool (by cases hl : d.labels <;> simp [lblB]; try omega), HG.out.below g0⟩
set_option maxHeartbeats 1000000 in
theorem spec_l32Labels_6 : LLblC 6 := by
  intro d cs w hop h hsl
  have HRR := Lib.hid (fun (W : World) (hb : Below w.heap.size w W) => h.below hb)
  obtain ⟨v4, v51, v52, v53, v54, v55, rfl, i0, i1, i2, ht, hl, hv⟩ := h
  have HL := Lib.hid hl
  have HV := Lib.hid hv
  have HT := Lib.hid ht
  have I0 := Lib.hid i0
  have I1 := Lib.hid i1
  have I2 := Lib.hid i2
  obtain ⟨A4, c4, rfl, hlc, hm, HC⟩ := Txts.open_ hl
  unfold maxLen at hm
  clear hl hv ht i0 i1 i2
  rw [hop]
  obtain ⟨G, g0, HG, B1⟩ := good1 w 63 [.int .i64 6, .int .i64 d.arg, .int .i64 d.count, .string (str d.text), .slice A4 d.labels.length c4, .int .i64 d.value.kind, v51, v52, v53, v54, v55, .int .i64 d.value.code, .int .i64 d.value.env]
  obtain ⟨x0, x1, x2, x3, x4, x5, x6, x7, x8, x9, x10, x11, x12⟩ := pk_f13 B1
  go_enter Tryz.func81, Tryz.ntmps81
  go_upto_region 1 with fail
  refine gen_w g0 ?_
  clear g0
  intro W0 g0
  go_wp2_with fail
  go_loopw [3] (fun i wr => ∃ k : Nat, k ≤ d.labels.length ∧ i = .int .i64 k ∧ Hid (short60 (d.labels.take k) = true) ∧ Ok G wr) (fun i _ => d.labels.length - (intOf i).toNat)
  case atStart => exact ⟨0, Nat.zero_le _, rfl, rfl, g0⟩
  case round =>
    clear g0
    obtain ⟨k, hk2, rfl, HA, g0⟩ := hrel
    by_cases hlt : k < d.labels.length
    · have HS := Lib.hid (short60_succ d.labels k hlt)
      obtain ⟨b, off, rfl, hbl, hcell, hsz⟩ := HC.out k hlt
      have y0 := fun W (h : Ok G W) => ((HG.out.below h).cell (p := ⟨b, off + k, none⟩) hbl).trans hcell
      by_cases hq : d.labels[k].length ≤ 60
      · have HY := Lib.hid (show decide (d.labels[k].length ≤ 60) = true by simpa using hq)
        go_wp2_with fail
        go_roundw
        case rel => exact ⟨k + 1, by omega, by go_num, by show _ = _; rw [HS.out, HA.out, HY.out]; rfl, g0⟩
        case measure => simp [intOf]; omega
      · have HN := Lib.hid (show short60 d.labels = false by
          rw [Bool.eq_false_iff]
          intro ha
          have := List.all_eq_true.1 ha _ (List.getElem_mem hlt)
          simp at this
          omega)
        go_wp2_with fail
        go_ret
        exact ⟨ret_bool (by simp [lblB, HN.out]), HG.out.below g0⟩
    · obtain rfl : k = d.labels.length := by omega
      rw [List.take_length] at HA
      go_wp2_with fail
      go_ret
      exact ⟨ret_bool (by simp [lblB, HA.out]; try omega), HG.out.below g0⟩
set_option maxHeartbeats 1000000 in
theorem spec_l32Labels_24 : LLblC 24 := by
  intro d cs w hop h hsl
  have HRR := Lib.hid (fun (W : World) (hb : Below w.heap.size w W) => h.below hb)
  obtain ⟨v4, v51, v52, v53, v54, v55, rfl, i0, i1, i2, ht, hl, hv⟩ := h
  have HL := Lib.hid hl
  have HV := Lib.hid hv
  have HT := Lib.hid ht
  have I0 := Lib.hid i0
  have I1 := Lib.hid i1
  have I2 := Lib.hid i2
  obtain ⟨A4, c4, rfl, hlc, hm, HC⟩ := Txts.open_ hl
  unfold maxLen at hm
  clear hl hv ht i0 i1 i2
  rw [hop]
  obtain ⟨G, g0, HG, B1⟩ := good1 w 63 [.int .i64 24, .int .i64 d.arg, .int .i64 d.count, .string (str d.text), .slice A4 d.labels.length c4, .int .i64 d.value.kind, v51, v52, v53, v54, v55, .int .i64 d.value.code, .int .i64 d.value.env]
  obtain ⟨x0, x1, x2, x3, x4, x5, x6, x7, x8, x9, x10, x11, x12⟩ := pk_f13 B1
  go_enter Tryz.func81, Tryz.ntmps81
  go_upto_region 1 with fail
  refine gen_w g0 ?_
  clear g0
  intro W0 g0
  by_cases q1 : d.labels.length = 1
  rotate_left
  · have Q1 := Lib.hid q1
    go_wp2_with fail
    go_ret
    exact ⟨ret_bool (by have := Q1.out; simp [lblB, this]), HG.out.below g0⟩
  obtain ⟨s, hs⟩ : ∃ s, d.labels = [s] := by
    match hd : d.labels, q1 with
    | [s], _ => exact ⟨s, rfl⟩
  have HS := Lib.hid hs
  obtain ⟨b, off, rfl, hbl, hcell, hsz⟩ := HC.out 0 (by omega)
  have e0 : d.labels[0] = s := by simp [hs]
  rw [e0] at hcell hsz
  rw [Nat.add_zero] at hcell
  have hsl2 : s.length ≤ 1000000000000 := hsl s (by rw [hs]; simp)
  have y0 := fun W (h : Ok G W) => ((HG.out.below h).cell (p := ⟨b, off, none⟩) hbl).trans hcell
  clear hcell e0 hs
  go_wp2_with fail
  refine Calls.mono (spec_l1In _ 1 60 _) ?_
  rintro e w1 ⟨rfl, rfl⟩
  go_wp2_with fail
  go_ret
  exact ⟨ret_bool (by rw [Bool.eq_iff_iff]; simp [lblB, HS.out]; try omega), HG.out.below g0⟩
set_option maxHeartbeats 1000000 in
theorem spec_l32Labels_25 : LLblC 25 := by
  intro d cs w hop h hsl
  have HRR := Lib.hid (fun (W : World) (hb : Below w.heap.size w W) => h.below hb)
  obtain ⟨v4, v51, v52, v53, v54, v55, rfl, i0, i1, i2, ht, hl, hv⟩ := h
  have HL := Lib.hid hl
  have HV := Lib.hid hv
  have HT := Lib.hid ht
  have I0 := Lib.hid i0
  have I1 := Lib.hid i1
  have I2 := Lib.hid i2
  obtain ⟨A4, c4, rfl, hlc, hm, HC⟩ := Txts.open_ hl
  unfold maxLen at hm
  clear hl hv ht i0 i1 i2
  rw [hop]
  obtain ⟨G, g0, HG, B1⟩ := good1 w 63 [.int .i64 25, .int .i64 d.arg, .int .i64 d.count, .string (str d.text), .slice A4 d.labels.length c4, .int .i64 d.value.kind, v51, v52, v53, v54, v55, .int .i64 d.value.code, .int .i64 d.value.env]
  obtain ⟨x0, x1, x2, x3, x4, x5, x6, x7, x8, x9, x10, x11, x12⟩ := pk_f13 B1
  go_enter Tryz.func81, Tryz.ntmps81
  go_upto_region 1 with fail
  refine gen_w g0 ?_
  clear g0
  intro W0 g0
  by_cases q1 : d.labels.length = 1
  rotate_left
  · have Q1 := Lib.hid q1
    go_wp2_with fail
    go_ret
    exact ⟨ret_bool (by have := Q1.out; simp [lblB, this]), HG.out.below g0⟩
  obtain ⟨s, hs⟩ : ∃ s, d.labels = [s] := by
    match hd : d.labels, q1 with
    | [s], _ => exact ⟨s, rfl⟩
  have HS := Lib.hid hs
  obtain ⟨b, off, rfl, hbl, hcell, hsz⟩ := HC.out 0 (by omega)
  have e0 : d.labels[0] = s := by simp [hs]
  rw [e0] at hcell hsz
  rw [Nat.add_zero] at hcell
  have hsl2 : s.length ≤ 1000000000000 := hsl s (by rw [hs]; simp)
  have y0 := fun W (h : Ok G W) => ((HG.out.below h).cell (p := ⟨b, off, none⟩) hbl).trans hcell
  clear hcell e0 hs
  go_wp2_with fail
  refine Calls.mono (spec_IsName (s ++ [60, 45]) _ (by unfold maxLen; simp; omega)) ?_
  rintro e w1 ⟨rfl, rfl⟩
  cases q2 : isNameB (s ++ [60, 45]) <;> cases q3 : (s == [])
  all_goals
    have Q2 := Lib.hid q2
    have Q3 := Lib.hid q3
    clear q2
    go_wp2_with fail
    go_ret
    exact ⟨ret_bool (by have h9 := Q3.out; have h8 := Q2.out; simp only [lblB, HS.out]; cases s <;> simp_all), HG.out.below g0⟩
theorem spec_l32Labels (op : Int) (h0 : 0 ≤ op) (h1 : op ≤ 33) : LLblC op := op34 (spec_l32Labels_c0 0 (by decide)) (spec_l32Labels_c0 1 (by decide)) (spec_l32Labels_c0 2 (by decide)) (spec_l32Labels_c0 3 (by decide)) (spec_l32Labels_c0 4 (by decide)) (spec_l32Labels_c0 5 (by decide)) spec_l32Labels_6 (spec_l32Labels_c0 7 (by decide)) (spec_l32Labels_c0 8 (by decide)) (spec_l32Labels_c0 9 (by decide)) (spec_l32Labels_c0 10 (by decide)) (spec_l32Labels_c0 11 (by decide)) (spec_l32Labels_c0 12 (by decide)) (spec_l32Labels_c0 13 (by decide)) (spec_l32Labels_c0 14 (by decide)) (spec_l32Labels_c0 15 (by decide)) (spec_l32Labels_c0 16 (by decide)) (spec_l32Labels_c0 17 (by decide)) (spec_l32Labels_c0 18 (by decide)) (spec_l32Labels_c0 19 (by decide)) (spec_l32Labels_c0 20 (by decide)) (spec_l32Labels_c0 21 (by decide)) (spec_l32Labels_c0 22 (by decide)) (spec_l32Labels_c0 23 (by decide)) spec_l32Labels_24 spec_l32Labels_25 (spec_l32Labels_c0 26 (by decide)) (spec_l32Labels_c0 27 (by decide)) (spec_l32Labels_c0 28 (by decide)) (spec_l32Labels_c0 29 (by decide)) (spec_l32Labels_c0 30 (by decide)) (spec_l32Labels_c0 31 (by decide)) (spec_l32Labels_c0 32 (by decide)) (spec_l32Labels_c0 33 (by decide)) op h0 h1
set_option maxHeartbeats 4000000 in
theorem spec_l32Refers : ∀ (op : Int), 0 ≤ op → op ≤ 33 → ∀ w : World, Calls Tryz.prog 53 #[.int .i64 op] w fun e w' => e = .returned (.bool (refOp op)) ∧ w = w' := by
  refine op34 ?_ ?_ ?_ ?_ ?_ ?_ ?_ ?_ ?_ ?_ ?_ ?_ ?_ ?_ ?_ ?_ ?_ ?_ ?_ ?_ ?_ ?_ ?_ ?_ ?_ ?_ ?_ ?_ ?_ ?_ ?_ ?_ ?_ ?_
  all_goals
    intro w
    go_enter Tryz.func53, Tryz.ntmps53
    go_wp2
    go_ret
    exact ⟨rfl, rfl⟩
set_option maxHeartbeats 4000000 in
theorem spec_l32Ends : ∀ (op : Int), 0 ≤ op → op ≤ 33 → ∀ w : World, Calls Tryz.prog 86 #[.int .i64 op] w fun e w' => e = .returned (.bool (endOp op)) ∧ w = w' := by
  refine op34 ?_ ?_ ?_ ?_ ?_ ?_ ?_ ?_ ?_ ?_ ?_ ?_ ?_ ?_ ?_ ?_ ?_ ?_ ?_ ?_ ?_ ?_ ?_ ?_ ?_ ?_ ?_ ?_ ?_ ?_ ?_ ?_ ?_ ?_
  all_goals
    intro w
    go_enter Tryz.func86, Tryz.ntmps86
    go_wp2
    go_ret
    exact ⟨rfl, rfl⟩
end Go.Proofs.YtjdfancbmjnjfaaGreat
