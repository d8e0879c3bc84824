/-
  Contract (12): impl.instrRight.
-/
import Derived.Test.YtjdfancbmjnjfaaGreatChk3a
namespace Go.Proofs.YtjdfancbmjnjfaaGreat
set_option maxRecDepth 100000
open Go.ChangeShapes Go.WideShapes Go.ChangeAt Go.RowKit Go.Deep
set_option linter.unusedVariables false
set_option linter.unusedSimpArgs false

set_option maxHeartbeats 2000000 in
theorem impl_instrRight_12 : InstrRightC 12 := by
  intro d cs w hop h hz
  have HRR := Lib.hid (fun (W : World) (hb : Below w.heap.size w W) => h.below hb)
  obtain ⟨v4, v51, v52, v53, v54, v55, rfl, i0, i1, i2, ht, hl, hv⟩ := h
  have HL := Lib.hid hl
  have HV := Lib.hid hv
  have HT := Lib.hid ht
  have I0 := Lib.hid i0
  have I1 := Lib.hid i1
  have I2 := Lib.hid i2
  obtain ⟨A4, c4, rfl, hlc, hm, HC⟩ := Txts.open_ hl
  unfold maxLen at hm
  clear hl hv ht i0 i1 i2
  rw [hop]
  have hop := Lib.hid hop
  have hsl := Lib.hid (instr_small hz)
  have hz : szVector d.value ≤ 1000000000000 := by unfold szInstr at hz; omega
  obtain ⟨G, g0, HG, B1⟩ := good1 w 63 [.int .i64 12, .int .i64 d.arg, .int .i64 d.count, .string (str d.text), .slice A4 d.labels.length c4, .int .i64 d.value.kind, v51, v52, v53, v54, v55, .int .i64 d.value.code, .int .i64 d.value.env]
  have x0 := fun W (h : Ok G W) => (B1.out W h).cell 0 _ rfl
  have x1 := fun W (h : Ok G W) => (B1.out W h).cell 1 _ rfl
  have x2 := fun W (h : Ok G W) => (B1.out W h).cell 2 _ rfl
  have x3 := fun W (h : Ok G W) => (B1.out W h).cell 3 _ rfl
  have x4 := fun W (h : Ok G W) => (B1.out W h).cell 4 _ rfl
  have x5 := fun W (h : Ok G W) => (B1.out W h).cell 5 _ rfl
  have x6 := fun W (h : Ok G W) => (B1.out W h).cell 6 _ rfl
  have x7 := fun W (h : Ok G W) => (B1.out W h).cell 7 _ rfl
  have x8 := fun W (h : Ok G W) => (B1.out W h).cell 8 _ rfl
  have x9 := fun W (h : Ok G W) => (B1.out W h).cell 9 _ rfl
  have x10 := fun W (h : Ok G W) => (B1.out W h).cell 10 _ rfl
  have x11 := fun W (h : Ok G W) => (B1.out W h).cell 11 _ rfl
  have x12 := fun W (h : Ok G W) => (B1.out W h).cell 12 _ rfl
  go_enter Tryz.func57, Tryz.ntmps57
  go_upto_region 1 with fail
  refine gen_w g0 ?_
  clear g0
  intro W0 g0
  go_wp2_with fail
  refine Calls.mono (impl_instrUses 12 (by decide) (by decide) _) ?_
  rintro e w1 ⟨rfl, rfl⟩
  rw [show useA 12 = false by decide, show useC 12 = false by decide, show useT 12 = false by decide, show useL 12 = false by decide, show ((12 : Int) == 0) = false by decide]
  by_cases e1 : d.arg = 0
  rotate_left
  · have q1 : (d.arg != 0) = true := by simp [e1]
    have HN := Lib.hid (show insI d = false by simp [insI, insR, hop.out, txtB, lblB, topC, nameOp, useA, useC, useT, useL, refOp, jmpOp, itB, e1])
    go_wp2_with fail
    go_ret
    exact ⟨ret_bool HN.out.symm, HG.out.below g0⟩
  have q1 : (d.arg != 0) = false := by simp [e1]
  have E1 := Lib.hid e1
  by_cases e2 : d.count = 0
  rotate_left
  · have q2 : (d.count != 0) = true := by simp [e2]
    have HN := Lib.hid (show insI d = false by have : (decide (0 ≤ d.count) && decide (d.count ≤ topC d.op)) = false := (by simp [topC, hop.out]; omega); simp [insI, insR, this])
    go_wp2_with fail
    go_ret
    exact ⟨ret_bool HN.out.symm, HG.out.below g0⟩
  have q2 : (d.count != 0) = false := by simp [e2]
  have E2 := Lib.hid e2
  cases e3 : (d.text == [])
  · have HN := Lib.hid (show insI d = false by have : d.text.isEmpty = false := (by cases h : d.text <;> simp_all); simp [insI, insR, hop.out, txtB, lblB, topC, nameOp, useA, useC, useT, useL, refOp, jmpOp, itB, this])
    go_wp2_with fail
    go_ret
    exact ⟨ret_bool HN.out.symm, HG.out.below g0⟩
  have E3 := Lib.hid (show d.text = [] by simpa using e3)
  by_cases e4 : d.labels.length = 0
  rotate_left
  · have HN := Lib.hid (show insI d = false by have : d.labels.isEmpty = false := (by cases h : d.labels <;> simp_all); simp [insI, insR, hop.out, txtB, lblB, topC, nameOp, useA, useC, useT, useL, refOp, jmpOp, itB, this])
    go_wp2_with fail
    go_ret
    exact ⟨ret_bool HN.out.symm, HG.out.below g0⟩
  have E4 := Lib.hid (show d.labels = [] from List.eq_nil_of_length_eq_zero e4)
  go_wp2_with fail
  refine Calls.mono (impl_isZeroVector d.value _ _ (HV.out.below (HG.out.below g0))) ?_
  rintro e w2 ⟨rfl, hb⟩
  replace g0 := HG.out.step g0 hb
  clear hb
  cases e5 : zeroQ d.value
  · have HN := Lib.hid (show insI d = false by simp [insI, insR, hop.out, valB_ne d.value (show (12 : Int) ≠ 0 by decide), e5])
    go_wp2_with fail
    go_ret
    exact ⟨ret_bool HN.out.symm, HG.out.below g0⟩
  have E5 := Lib.hid (show valB 12 d.value = true by rw [valB_ne d.value (by decide), e5])
  clear e5
  go_wp2_with fail
  refine Calls.mono (impl_instrText 12 (by decide) (by decide) d _ _ hop.out (by have h9 := HRR.out _ (HG.out.below g0); simp only [hop.out, E1.out, E2.out, E4.out, List.length_nil] at h9; exact h9) hsl.out) ?_
  rintro e w4 ⟨rfl, hb⟩
  replace g0 := HG.out.step g0 hb
  clear hb
  go_wp2_with fail
  go_ret
  exact ⟨ret_bool (by simp [insI, insR, hop.out, txtB, lblB, topC, nameOp, useA, useC, useT, useL, refOp, jmpOp, itB, E1.out, E2.out, E3.out, E4.out, E5.out]), HG.out.below g0⟩
set_option maxHeartbeats 2000000 in
theorem impl_instrRight_13 : InstrRightC 13 := by
  intro d cs w hop h hz
  have HRR := Lib.hid (fun (W : World) (hb : Below w.heap.size w W) => h.below hb)
  obtain ⟨v4, v51, v52, v53, v54, v55, rfl, i0, i1, i2, ht, hl, hv⟩ := h
  have HL := Lib.hid hl
  have HV := Lib.hid hv
  have HT := Lib.hid ht
  have I0 := Lib.hid i0
  have I1 := Lib.hid i1
  have I2 := Lib.hid i2
  obtain ⟨A4, c4, rfl, hlc, hm, HC⟩ := Txts.open_ hl
  unfold maxLen at hm
  clear hl hv ht i0 i1 i2
  rw [hop]
  have hop := Lib.hid hop
  have hsl := Lib.hid (instr_small hz)
  have hz : szVector d.value ≤ 1000000000000 := by unfold szInstr at hz; omega
  obtain ⟨G, g0, HG, B1⟩ := good1 w 63 [.int .i64 13, .int .i64 d.arg, .int .i64 d.count, .string (str d.text), .slice A4 d.labels.length c4, .int .i64 d.value.kind, v51, v52, v53, v54, v55, .int .i64 d.value.code, .int .i64 d.value.env]
  have x0 := fun W (h : Ok G W) => (B1.out W h).cell 0 _ rfl
  have x1 := fun W (h : Ok G W) => (B1.out W h).cell 1 _ rfl
  have x2 := fun W (h : Ok G W) => (B1.out W h).cell 2 _ rfl
  have x3 := fun W (h : Ok G W) => (B1.out W h).cell 3 _ rfl
  have x4 := fun W (h : Ok G W) => (B1.out W h).cell 4 _ rfl
  have x5 := fun W (h : Ok G W) => (B1.out W h).cell 5 _ rfl
  have x6 := fun W (h : Ok G W) => (B1.out W h).cell 6 _ rfl
  have x7 := fun W (h : Ok G W) => (B1.out W h).cell 7 _ rfl
  have x8 := fun W (h : Ok G W) => (B1.out W h).cell 8 _ rfl
  have x9 := fun W (h : Ok G W) => (B1.out W h).cell 9 _ rfl
  have x10 := fun W (h : Ok G W) => (B1.out W h).cell 10 _ rfl
  have x11 := fun W (h : Ok G W) => (B1.out W h).cell 11 _ rfl
  have x12 := fun W (h : Ok G W) => (B1.out W h).cell 12 _ rfl
  go_enter Tryz.func57, Tryz.ntmps57
  go_upto_region 1 with fail
  refine gen_w g0 ?_
  clear g0
  intro W0 g0
  go_wp2_with fail
  refine Calls.mono (impl_instrUses 13 (by decide) (by decide) _) ?_
  rintro e w1 ⟨rfl, rfl⟩
  rw [show useA 13 = true by decide, show useC 13 = false by decide, show useT 13 = false by decide, show useL 13 = false by decide, show ((13 : Int) == 0) = false by decide]
  by_cases e2 : d.count = 0
  rotate_left
  · have q2 : (d.count != 0) = true := by simp [e2]
    have HN := Lib.hid (show insI d = false by have : (decide (0 ≤ d.count) && decide (d.count ≤ topC d.op)) = false := (by simp [topC, hop.out]; omega); simp [insI, insR, this])
    go_wp2_with fail
    go_ret
    exact ⟨ret_bool HN.out.symm, HG.out.below g0⟩
  have q2 : (d.count != 0) = false := by simp [e2]
  have E2 := Lib.hid e2
  cases e3 : (d.text == [])
  · have HN := Lib.hid (show insI d = false by have : d.text.isEmpty = false := (by cases h : d.text <;> simp_all); simp [insI, insR, hop.out, txtB, lblB, topC, nameOp, useA, useC, useT, useL, refOp, jmpOp, itB, this])
    go_wp2_with fail
    go_ret
    exact ⟨ret_bool HN.out.symm, HG.out.below g0⟩
  have E3 := Lib.hid (show d.text = [] by simpa using e3)
  by_cases e4 : d.labels.length = 0
  rotate_left
  · have HN := Lib.hid (show insI d = false by have : d.labels.isEmpty = false := (by cases h : d.labels <;> simp_all); simp [insI, insR, hop.out, txtB, lblB, topC, nameOp, useA, useC, useT, useL, refOp, jmpOp, itB, this])
    go_wp2_with fail
    go_ret
    exact ⟨ret_bool HN.out.symm, HG.out.below g0⟩
  have E4 := Lib.hid (show d.labels = [] from List.eq_nil_of_length_eq_zero e4)
  go_wp2_with fail
  refine Calls.mono (impl_isZeroVector d.value _ _ (HV.out.below (HG.out.below g0))) ?_
  rintro e w2 ⟨rfl, hb⟩
  replace g0 := HG.out.step g0 hb
  clear hb
  cases e5 : zeroQ d.value
  · have HN := Lib.hid (show insI d = false by simp [insI, insR, hop.out, valB_ne d.value (show (13 : Int) ≠ 0 by decide), e5])
    go_wp2_with fail
    go_ret
    exact ⟨ret_bool HN.out.symm, HG.out.below g0⟩
  have E5 := Lib.hid (show valB 13 d.value = true by rw [valB_ne d.value (by decide), e5])
  clear e5
  go_wp2_with fail
  refine Calls.mono (impl_instrText 13 (by decide) (by decide) d _ _ hop.out (by have h9 := HRR.out _ (HG.out.below g0); simp only [hop.out, E2.out, E4.out, List.length_nil] at h9; exact h9) hsl.out) ?_
  rintro e w4 ⟨rfl, hb⟩
  replace g0 := HG.out.step g0 hb
  clear hb
  go_wp2_with fail
  go_ret
  exact ⟨ret_bool (by simp [insI, insR, hop.out, txtB, lblB, topC, nameOp, useA, useC, useT, useL, refOp, jmpOp, itB, E2.out, E3.out, E4.out, E5.out]), HG.out.below g0⟩
set_option maxHeartbeats 2000000 in
theorem impl_instrRight_14 : InstrRightC 14 := by
  intro d cs w hop h hz
  have HRR := Lib.hid (fun (W : World) (hb : Below w.heap.size w W) => h.below hb)
  obtain ⟨v4, v51, v52, v53, v54, v55, rfl, i0, i1, i2, ht, hl, hv⟩ := h
  have HL := Lib.hid hl
  have HV := Lib.hid hv
  have HT := Lib.hid ht
  have I0 := Lib.hid i0
  have I1 := Lib.hid i1
  have I2 := Lib.hid i2
  obtain ⟨A4, c4, rfl, hlc, hm, HC⟩ := Txts.open_ hl
  unfold maxLen at hm
  clear hl hv ht i0 i1 i2
  rw [hop]
  have hop := Lib.hid hop
  have hsl := Lib.hid (instr_small hz)
  have hz : szVector d.value ≤ 1000000000000 := by unfold szInstr at hz; omega
  obtain ⟨G, g0, HG, B1⟩ := good1 w 63 [.int .i64 14, .int .i64 d.arg, .int .i64 d.count, .string (str d.text), .slice A4 d.labels.length c4, .int .i64 d.value.kind, v51, v52, v53, v54, v55, .int .i64 d.value.code, .int .i64 d.value.env]
  have x0 := fun W (h : Ok G W) => (B1.out W h).cell 0 _ rfl
  have x1 := fun W (h : Ok G W) => (B1.out W h).cell 1 _ rfl
  have x2 := fun W (h : Ok G W) => (B1.out W h).cell 2 _ rfl
  have x3 := fun W (h : Ok G W) => (B1.out W h).cell 3 _ rfl
  have x4 := fun W (h : Ok G W) => (B1.out W h).cell 4 _ rfl
  have x5 := fun W (h : Ok G W) => (B1.out W h).cell 5 _ rfl
  have x6 := fun W (h : Ok G W) => (B1.out W h).cell 6 _ rfl
  have x7 := fun W (h : Ok G W) => (B1.out W h).cell 7 _ rfl
  have x8 := fun W (h : Ok G W) => (B1.out W h).cell 8 _ rfl
  have x9 := fun W (h : Ok G W) => (B1.out W h).cell 9 _ rfl
  have x10 := fun W (h : Ok G W) => (B1.out W h).cell 10 _ rfl
  have x11 := fun W (h : Ok G W) => (B1.out W h).cell 11 _ rfl
  have x12 := fun W (h : Ok G W) => (B1.out W h).cell 12 _ rfl
  go_enter Tryz.func57, Tryz.ntmps57
  go_upto_region 1 with fail
  refine gen_w g0 ?_
  clear g0
  intro W0 g0
  go_wp2_with fail
  refine Calls.mono (impl_instrUses 14 (by decide) (by decide) _) ?_
  rintro e w1 ⟨rfl, rfl⟩
  rw [show useA 14 = true by decide, show useC 14 = false by decide, show useT 14 = false by decide, show useL 14 = false by decide, show ((14 : Int) == 0) = false by decide]
  by_cases e2 : d.count = 0
  rotate_left
  · have q2 : (d.count != 0) = true := by simp [e2]
    have HN := Lib.hid (show insI d = false by have : (decide (0 ≤ d.count) && decide (d.count ≤ topC d.op)) = false := (by simp [topC, hop.out]; omega); simp [insI, insR, this])
    go_wp2_with fail
    go_ret
    exact ⟨ret_bool HN.out.symm, HG.out.below g0⟩
  have q2 : (d.count != 0) = false := by simp [e2]
  have E2 := Lib.hid e2
  cases e3 : (d.text == [])
  · have HN := Lib.hid (show insI d = false by have : d.text.isEmpty = false := (by cases h : d.text <;> simp_all); simp [insI, insR, hop.out, txtB, lblB, topC, nameOp, useA, useC, useT, useL, refOp, jmpOp, itB, this])
    go_wp2_with fail
    go_ret
    exact ⟨ret_bool HN.out.symm, HG.out.below g0⟩
  have E3 := Lib.hid (show d.text = [] by simpa using e3)
  by_cases e4 : d.labels.length = 0
  rotate_left
  · have HN := Lib.hid (show insI d = false by have : d.labels.isEmpty = false := (by cases h : d.labels <;> simp_all); simp [insI, insR, hop.out, txtB, lblB, topC, nameOp, useA, useC, useT, useL, refOp, jmpOp, itB, this])
    go_wp2_with fail
    go_ret
    exact ⟨ret_bool HN.out.symm, HG.out.below g0⟩
  have E4 := Lib.hid (show d.labels = [] from List.eq_nil_of_length_eq_zero e4)
  go_wp2_with fail
  refine Calls.mono (impl_isZeroVector d.value _ _ (HV.out.below (HG.out.below g0))) ?_
  rintro e w2 ⟨rfl, hb⟩
  replace g0 := HG.out.step g0 hb
  clear hb
  cases e5 : zeroQ d.value
  · have HN := Lib.hid (show insI d = false by simp [insI, insR, hop.out, valB_ne d.value (show (14 : Int) ≠ 0 by decide), e5])
    go_wp2_with fail
    go_ret
    exact ⟨ret_bool HN.out.symm, HG.out.below g0⟩
  have E5 := Lib.hid (show valB 14 d.value = true by rw [valB_ne d.value (by decide), e5])
  clear e5
  go_wp2_with fail
  refine Calls.mono (impl_instrText 14 (by decide) (by decide) d _ _ hop.out (by have h9 := HRR.out _ (HG.out.below g0); simp only [hop.out, E2.out, E4.out, List.length_nil] at h9; exact h9) hsl.out) ?_
  rintro e w4 ⟨rfl, hb⟩
  replace g0 := HG.out.step g0 hb
  clear hb
  go_wp2_with fail
  go_ret
  exact ⟨ret_bool (by simp [insI, insR, hop.out, txtB, lblB, topC, nameOp, useA, useC, useT, useL, refOp, jmpOp, itB, E2.out, E3.out, E4.out, E5.out]), HG.out.below g0⟩
set_option maxHeartbeats 2000000 in
theorem impl_instrRight_15 : InstrRightC 15 := by
  intro d cs w hop h hz
  have HRR := Lib.hid (fun (W : World) (hb : Below w.heap.size w W) => h.below hb)
  obtain ⟨v4, v51, v52, v53, v54, v55, rfl, i0, i1, i2, ht, hl, hv⟩ := h
  have HL := Lib.hid hl
  have HV := Lib.hid hv
  have HT := Lib.hid ht
  have I0 := Lib.hid i0
  have I1 := Lib.hid i1
  have I2 := Lib.hid i2
  obtain ⟨A4, c4, rfl, hlc, hm, HC⟩ := Txts.open_ hl
  unfold maxLen at hm
  clear hl hv ht i0 i1 i2
  rw [hop]
  have hop := Lib.hid hop
  have hsl := Lib.hid (instr_small hz)
  have hz : szVector d.value ≤ 1000000000000 := by unfold szInstr at hz; omega
  obtain ⟨G, g0, HG, B1⟩ := good1 w 63 [.int .i64 15, .int .i64 d.arg, .int .i64 d.count, .string (str d.text), .slice A4 d.labels.length c4, .int .i64 d.value.kind, v51, v52, v53, v54, v55, .int .i64 d.value.code, .int .i64 d.value.env]
  have x0 := fun W (h : Ok G W) => (B1.out W h).cell 0 _ rfl
  have x1 := fun W (h : Ok G W) => (B1.out W h).cell 1 _ rfl
  have x2 := fun W (h : Ok G W) => (B1.out W h).cell 2 _ rfl
  have x3 := fun W (h : Ok G W) => (B1.out W h).cell 3 _ rfl
  have x4 := fun W (h : Ok G W) => (B1.out W h).cell 4 _ rfl
  have x5 := fun W (h : Ok G W) => (B1.out W h).cell 5 _ rfl
  have x6 := fun W (h : Ok G W) => (B1.out W h).cell 6 _ rfl
  have x7 := fun W (h : Ok G W) => (B1.out W h).cell 7 _ rfl
  have x8 := fun W (h : Ok G W) => (B1.out W h).cell 8 _ rfl
  have x9 := fun W (h : Ok G W) => (B1.out W h).cell 9 _ rfl
  have x10 := fun W (h : Ok G W) => (B1.out W h).cell 10 _ rfl
  have x11 := fun W (h : Ok G W) => (B1.out W h).cell 11 _ rfl
  have x12 := fun W (h : Ok G W) => (B1.out W h).cell 12 _ rfl
  go_enter Tryz.func57, Tryz.ntmps57
  go_upto_region 1 with fail
  refine gen_w g0 ?_
  clear g0
  intro W0 g0
  go_wp2_with fail
  refine Calls.mono (impl_instrUses 15 (by decide) (by decide) _) ?_
  rintro e w1 ⟨rfl, rfl⟩
  rw [show useA 15 = true by decide, show useC 15 = false by decide, show useT 15 = false by decide, show useL 15 = false by decide, show ((15 : Int) == 0) = false by decide]
  by_cases e2 : d.count = 0
  rotate_left
  · have q2 : (d.count != 0) = true := by simp [e2]
    have HN := Lib.hid (show insI d = false by have : (decide (0 ≤ d.count) && decide (d.count ≤ topC d.op)) = false := (by simp [topC, hop.out]; omega); simp [insI, insR, this])
    go_wp2_with fail
    go_ret
    exact ⟨ret_bool HN.out.symm, HG.out.below g0⟩
  have q2 : (d.count != 0) = false := by simp [e2]
  have E2 := Lib.hid e2
  cases e3 : (d.text == [])
  · have HN := Lib.hid (show insI d = false by have : d.text.isEmpty = false := (by cases h : d.text <;> simp_all); simp [insI, insR, hop.out, txtB, lblB, topC, nameOp, useA, useC, useT, useL, refOp, jmpOp, itB, this])
    go_wp2_with fail
    go_ret
    exact ⟨ret_bool HN.out.symm, HG.out.below g0⟩
  have E3 := Lib.hid (show d.text = [] by simpa using e3)
  by_cases e4 : d.labels.length = 0
  rotate_left
  · have HN := Lib.hid (show insI d = false by have : d.labels.isEmpty = false := (by cases h : d.labels <;> simp_all); simp [insI, insR, hop.out, txtB, lblB, topC, nameOp, useA, useC, useT, useL, refOp, jmpOp, itB, this])
    go_wp2_with fail
    go_ret
    exact ⟨ret_bool HN.out.symm, HG.out.below g0⟩
  have E4 := Lib.hid (show d.labels = [] from List.eq_nil_of_length_eq_zero e4)
  go_wp2_with fail
  refine Calls.mono (impl_isZeroVector d.value _ _ (HV.out.below (HG.out.below g0))) ?_
  rintro e w2 ⟨rfl, hb⟩
  replace g0 := HG.out.step g0 hb
  clear hb
  cases e5 : zeroQ d.value
  · have HN := Lib.hid (show insI d = false by simp [insI, insR, hop.out, valB_ne d.value (show (15 : Int) ≠ 0 by decide), e5])
    go_wp2_with fail
    go_ret
    exact ⟨ret_bool HN.out.symm, HG.out.below g0⟩
  have E5 := Lib.hid (show valB 15 d.value = true by rw [valB_ne d.value (by decide), e5])
  clear e5
  go_wp2_with fail
  refine Calls.mono (impl_instrText 15 (by decide) (by decide) d _ _ hop.out (by have h9 := HRR.out _ (HG.out.below g0); simp only [hop.out, E2.out, E4.out, List.length_nil] at h9; exact h9) hsl.out) ?_
  rintro e w4 ⟨rfl, hb⟩
  replace g0 := HG.out.step g0 hb
  clear hb
  go_wp2_with fail
  go_ret
  exact ⟨ret_bool (by simp [insI, insR, hop.out, txtB, lblB, topC, nameOp, useA, useC, useT, useL, refOp, jmpOp, itB, E2.out, E3.out, E4.out, E5.out]), HG.out.below g0⟩
set_option maxHeartbeats 2000000 in
theorem impl_instrRight_16 : InstrRightC 16 := by
  intro d cs w hop h hz
  have HRR := Lib.hid (fun (W : World) (hb : Below w.heap.size w W) => h.below hb)
  obtain ⟨v4, v51, v52, v53, v54, v55, rfl, i0, i1, i2, ht, hl, hv⟩ := h
  have HL := Lib.hid hl
  have HV := Lib.hid hv
  have HT := Lib.hid ht
  have I0 := Lib.hid i0
  have I1 := Lib.hid i1
  have I2 := Lib.hid i2
  obtain ⟨A4, c4, rfl, hlc, hm, HC⟩ := Txts.open_ hl
  unfold maxLen at hm
  clear hl hv ht i0 i1 i2
  rw [hop]
  have hop := Lib.hid hop
  have hsl := Lib.hid (instr_small hz)
  have hz : szVector d.value ≤ 1000000000000 := by unfold szInstr at hz; omega
  obtain ⟨G, g0, HG, B1⟩ := good1 w 63 [.int .i64 16, .int .i64 d.arg, .int .i64 d.count, .string (str d.text), .slice A4 d.labels.length c4, .int .i64 d.value.kind, v51, v52, v53, v54, v55, .int .i64 d.value.code, .int .i64 d.value.env]
  have x0 := fun W (h : Ok G W) => (B1.out W h).cell 0 _ rfl
  have x1 := fun W (h : Ok G W) => (B1.out W h).cell 1 _ rfl
  have x2 := fun W (h : Ok G W) => (B1.out W h).cell 2 _ rfl
  have x3 := fun W (h : Ok G W) => (B1.out W h).cell 3 _ rfl
  have x4 := fun W (h : Ok G W) => (B1.out W h).cell 4 _ rfl
  have x5 := fun W (h : Ok G W) => (B1.out W h).cell 5 _ rfl
  have x6 := fun W (h : Ok G W) => (B1.out W h).cell 6 _ rfl
  have x7 := fun W (h : Ok G W) => (B1.out W h).cell 7 _ rfl
  have x8 := fun W (h : Ok G W) => (B1.out W h).cell 8 _ rfl
  have x9 := fun W (h : Ok G W) => (B1.out W h).cell 9 _ rfl
  have x10 := fun W (h : Ok G W) => (B1.out W h).cell 10 _ rfl
  have x11 := fun W (h : Ok G W) => (B1.out W h).cell 11 _ rfl
  have x12 := fun W (h : Ok G W) => (B1.out W h).cell 12 _ rfl
  go_enter Tryz.func57, Tryz.ntmps57
  go_upto_region 1 with fail
  refine gen_w g0 ?_
  clear g0
  intro W0 g0
  go_wp2_with fail
  refine Calls.mono (impl_instrUses 16 (by decide) (by decide) _) ?_
  rintro e w1 ⟨rfl, rfl⟩
  rw [show useA 16 = true by decide, show useC 16 = false by decide, show useT 16 = false by decide, show useL 16 = false by decide, show ((16 : Int) == 0) = false by decide]
  by_cases e2 : d.count = 0
  rotate_left
  · have q2 : (d.count != 0) = true := by simp [e2]
    have HN := Lib.hid (show insI d = false by have : (decide (0 ≤ d.count) && decide (d.count ≤ topC d.op)) = false := (by simp [topC, hop.out]; omega); simp [insI, insR, this])
    go_wp2_with fail
    go_ret
    exact ⟨ret_bool HN.out.symm, HG.out.below g0⟩
  have q2 : (d.count != 0) = false := by simp [e2]
  have E2 := Lib.hid e2
  cases e3 : (d.text == [])
  · have HN := Lib.hid (show insI d = false by have : d.text.isEmpty = false := (by cases h : d.text <;> simp_all); simp [insI, insR, hop.out, txtB, lblB, topC, nameOp, useA, useC, useT, useL, refOp, jmpOp, itB, this])
    go_wp2_with fail
    go_ret
    exact ⟨ret_bool HN.out.symm, HG.out.below g0⟩
  have E3 := Lib.hid (show d.text = [] by simpa using e3)
  by_cases e4 : d.labels.length = 0
  rotate_left
  · have HN := Lib.hid (show insI d = false by have : d.labels.isEmpty = false := (by cases h : d.labels <;> simp_all); simp [insI, insR, hop.out, txtB, lblB, topC, nameOp, useA, useC, useT, useL, refOp, jmpOp, itB, this])
    go_wp2_with fail
    go_ret
    exact ⟨ret_bool HN.out.symm, HG.out.below g0⟩
  have E4 := Lib.hid (show d.labels = [] from List.eq_nil_of_length_eq_zero e4)
  go_wp2_with fail
  refine Calls.mono (impl_isZeroVector d.value _ _ (HV.out.below (HG.out.below g0))) ?_
  rintro e w2 ⟨rfl, hb⟩
  replace g0 := HG.out.step g0 hb
  clear hb
  cases e5 : zeroQ d.value
  · have HN := Lib.hid (show insI d = false by simp [insI, insR, hop.out, valB_ne d.value (show (16 : Int) ≠ 0 by decide), e5])
    go_wp2_with fail
    go_ret
    exact ⟨ret_bool HN.out.symm, HG.out.below g0⟩
  have E5 := Lib.hid (show valB 16 d.value = true by rw [valB_ne d.value (by decide), e5])
  clear e5
  go_wp2_with fail
  refine Calls.mono (impl_instrText 16 (by decide) (by decide) d _ _ hop.out (by have h9 := HRR.out _ (HG.out.below g0); simp only [hop.out, E2.out, E4.out, List.length_nil] at h9; exact h9) hsl.out) ?_
  rintro e w4 ⟨rfl, hb⟩
  replace g0 := HG.out.step g0 hb
  clear hb
  go_wp2_with fail
  go_ret
  exact ⟨ret_bool (by simp [insI, insR, hop.out, txtB, lblB, topC, nameOp, useA, useC, useT, useL, refOp, jmpOp, itB, E2.out, E3.out, E4.out, E5.out]), HG.out.below g0⟩
set_option maxHeartbeats 2000000 in
theorem impl_instrRight_17 : InstrRightC 17 := by
  intro d cs w hop h hz
  have HRR := Lib.hid (fun (W : World) (hb : Below w.heap.size w W) => h.below hb)
  obtain ⟨v4, v51, v52, v53, v54, v55, rfl, i0, i1, i2, ht, hl, hv⟩ := h
  have HL := Lib.hid hl
  have HV := Lib.hid hv
  have HT := Lib.hid ht
  have I0 := Lib.hid i0
  have I1 := Lib.hid i1
  have I2 := Lib.hid i2
  obtain ⟨A4, c4, rfl, hlc, hm, HC⟩ := Txts.open_ hl
  unfold maxLen at hm
  clear hl hv ht i0 i1 i2
  rw [hop]
  have hop := Lib.hid hop
  have hsl := Lib.hid (instr_small hz)
  have hz : szVector d.value ≤ 1000000000000 := by unfold szInstr at hz; omega
  obtain ⟨G, g0, HG, B1⟩ := good1 w 63 [.int .i64 17, .int .i64 d.arg, .int .i64 d.count, .string (str d.text), .slice A4 d.labels.length c4, .int .i64 d.value.kind, v51, v52, v53, v54, v55, .int .i64 d.value.code, .int .i64 d.value.env]
  have x0 := fun W (h : Ok G W) => (B1.out W h).cell 0 _ rfl
  have x1 := fun W (h : Ok G W) => (B1.out W h).cell 1 _ rfl
  have x2 := fun W (h : Ok G W) => (B1.out W h).cell 2 _ rfl
  have x3 := fun W (h : Ok G W) => (B1.out W h).cell 3 _ rfl
  have x4 := fun W (h : Ok G W) => (B1.out W h).cell 4 _ rfl
  have x5 := fun W (h : Ok G W) => (B1.out W h).cell 5 _ rfl
  have x6 := fun W (h : Ok G W) => (B1.out W h).cell 6 _ rfl
  have x7 := fun W (h : Ok G W) => (B1.out W h).cell 7 _ rfl
  have x8 := fun W (h : Ok G W) => (B1.out W h).cell 8 _ rfl
  have x9 := fun W (h : Ok G W) => (B1.out W h).cell 9 _ rfl
  have x10 := fun W (h : Ok G W) => (B1.out W h).cell 10 _ rfl
  have x11 := fun W (h : Ok G W) => (B1.out W h).cell 11 _ rfl
  have x12 := fun W (h : Ok G W) => (B1.out W h).cell 12 _ rfl
  go_enter Tryz.func57, Tryz.ntmps57
  go_upto_region 1 with fail
  refine gen_w g0 ?_
  clear g0
  intro W0 g0
  go_wp2_with fail
  refine Calls.mono (impl_instrUses 17 (by decide) (by decide) _) ?_
  rintro e w1 ⟨rfl, rfl⟩
  rw [show useA 17 = false by decide, show useC 17 = false by decide, show useT 17 = true by decide, show useL 17 = false by decide, show ((17 : Int) == 0) = false by decide]
  by_cases e1 : d.arg = 0
  rotate_left
  · have q1 : (d.arg != 0) = true := by simp [e1]
    have HN := Lib.hid (show insI d = false by simp [insI, insR, hop.out, txtB, lblB, topC, nameOp, useA, useC, useT, useL, refOp, jmpOp, itB, e1])
    go_wp2_with fail
    go_ret
    exact ⟨ret_bool HN.out.symm, HG.out.below g0⟩
  have q1 : (d.arg != 0) = false := by simp [e1]
  have E1 := Lib.hid e1
  by_cases e2 : d.count = 0
  rotate_left
  · have q2 : (d.count != 0) = true := by simp [e2]
    have HN := Lib.hid (show insI d = false by have : (decide (0 ≤ d.count) && decide (d.count ≤ topC d.op)) = false := (by simp [topC, hop.out]; omega); simp [insI, insR, this])
    go_wp2_with fail
    go_ret
    exact ⟨ret_bool HN.out.symm, HG.out.below g0⟩
  have q2 : (d.count != 0) = false := by simp [e2]
  have E2 := Lib.hid e2
  by_cases e4 : d.labels.length = 0
  rotate_left
  · have HN := Lib.hid (show insI d = false by have : d.labels.isEmpty = false := (by cases h : d.labels <;> simp_all); simp [insI, insR, hop.out, txtB, lblB, topC, nameOp, useA, useC, useT, useL, refOp, jmpOp, itB, this])
    go_wp2_with fail
    go_ret
    exact ⟨ret_bool HN.out.symm, HG.out.below g0⟩
  have E4 := Lib.hid (show d.labels = [] from List.eq_nil_of_length_eq_zero e4)
  go_wp2_with fail
  refine Calls.mono (impl_isZeroVector d.value _ _ (HV.out.below (HG.out.below g0))) ?_
  rintro e w2 ⟨rfl, hb⟩
  replace g0 := HG.out.step g0 hb
  clear hb
  cases e5 : zeroQ d.value
  · have HN := Lib.hid (show insI d = false by simp [insI, insR, hop.out, valB_ne d.value (show (17 : Int) ≠ 0 by decide), e5])
    go_wp2_with fail
    go_ret
    exact ⟨ret_bool HN.out.symm, HG.out.below g0⟩
  have E5 := Lib.hid (show valB 17 d.value = true by rw [valB_ne d.value (by decide), e5])
  clear e5
  go_wp2_with fail
  refine Calls.mono (impl_instrText 17 (by decide) (by decide) d _ _ hop.out (by have h9 := HRR.out _ (HG.out.below g0); simp only [hop.out, E1.out, E2.out, E4.out, List.length_nil] at h9; exact h9) hsl.out) ?_
  rintro e w4 ⟨rfl, hb⟩
  replace g0 := HG.out.step g0 hb
  clear hb
  go_wp2_with fail
  go_ret
  exact ⟨ret_bool (by simp [insI, insR, hop.out, txtB, lblB, topC, nameOp, useA, useC, useT, useL, refOp, jmpOp, itB, E1.out, E2.out, E4.out, E5.out]), HG.out.below g0⟩
set_option maxHeartbeats 2000000 in
theorem impl_instrRight_18 : InstrRightC 18 := by
  intro d cs w hop h hz
  have HRR := Lib.hid (fun (W : World) (hb : Below w.heap.size w W) => h.below hb)
  obtain ⟨v4, v51, v52, v53, v54, v55, rfl, i0, i1, i2, ht, hl, hv⟩ := h
  have HL := Lib.hid hl
  have HV := Lib.hid hv
  have HT := Lib.hid ht
  have I0 := Lib.hid i0
  have I1 := Lib.hid i1
  have I2 := Lib.hid i2
  obtain ⟨A4, c4, rfl, hlc, hm, HC⟩ := Txts.open_ hl
  unfold maxLen at hm
  clear hl hv ht i0 i1 i2
  rw [hop]
  have hop := Lib.hid hop
  have hsl := Lib.hid (instr_small hz)
  have hz : szVector d.value ≤ 1000000000000 := by unfold szInstr at hz; omega
  obtain ⟨G, g0, HG, B1⟩ := good1 w 63 [.int .i64 18, .int .i64 d.arg, .int .i64 d.count, .string (str d.text), .slice A4 d.labels.length c4, .int .i64 d.value.kind, v51, v52, v53, v54, v55, .int .i64 d.value.code, .int .i64 d.value.env]
  have x0 := fun W (h : Ok G W) => (B1.out W h).cell 0 _ rfl
  have x1 := fun W (h : Ok G W) => (B1.out W h).cell 1 _ rfl
  have x2 := fun W (h : Ok G W) => (B1.out W h).cell 2 _ rfl
  have x3 := fun W (h : Ok G W) => (B1.out W h).cell 3 _ rfl
  have x4 := fun W (h : Ok G W) => (B1.out W h).cell 4 _ rfl
  have x5 := fun W (h : Ok G W) => (B1.out W h).cell 5 _ rfl
  have x6 := fun W (h : Ok G W) => (B1.out W h).cell 6 _ rfl
  have x7 := fun W (h : Ok G W) => (B1.out W h).cell 7 _ rfl
  have x8 := fun W (h : Ok G W) => (B1.out W h).cell 8 _ rfl
  have x9 := fun W (h : Ok G W) => (B1.out W h).cell 9 _ rfl
  have x10 := fun W (h : Ok G W) => (B1.out W h).cell 10 _ rfl
  have x11 := fun W (h : Ok G W) => (B1.out W h).cell 11 _ rfl
  have x12 := fun W (h : Ok G W) => (B1.out W h).cell 12 _ rfl
  go_enter Tryz.func57, Tryz.ntmps57
  go_upto_region 1 with fail
  refine gen_w g0 ?_
  clear g0
  intro W0 g0
  go_wp2_with fail
  refine Calls.mono (impl_instrUses 18 (by decide) (by decide) _) ?_
  rintro e w1 ⟨rfl, rfl⟩
  rw [show useA 18 = false by decide, show useC 18 = false by decide, show useT 18 = false by decide, show useL 18 = false by decide, show ((18 : Int) == 0) = false by decide]
  by_cases e1 : d.arg = 0
  rotate_left
  · have q1 : (d.arg != 0) = true := by simp [e1]
    have HN := Lib.hid (show insI d = false by simp [insI, insR, hop.out, txtB, lblB, topC, nameOp, useA, useC, useT, useL, refOp, jmpOp, itB, e1])
    go_wp2_with fail
    go_ret
    exact ⟨ret_bool HN.out.symm, HG.out.below g0⟩
  have q1 : (d.arg != 0) = false := by simp [e1]
  have E1 := Lib.hid e1
  by_cases e2 : d.count = 0
  rotate_left
  · have q2 : (d.count != 0) = true := by simp [e2]
    have HN := Lib.hid (show insI d = false by have : (decide (0 ≤ d.count) && decide (d.count ≤ topC d.op)) = false := (by simp [topC, hop.out]; omega); simp [insI, insR, this])
    go_wp2_with fail
    go_ret
    exact ⟨ret_bool HN.out.symm, HG.out.below g0⟩
  have q2 : (d.count != 0) = false := by simp [e2]
  have E2 := Lib.hid e2
  cases e3 : (d.text == [])
  · have HN := Lib.hid (show insI d = false by have : d.text.isEmpty = false := (by cases h : d.text <;> simp_all); simp [insI, insR, hop.out, txtB, lblB, topC, nameOp, useA, useC, useT, useL, refOp, jmpOp, itB, this])
    go_wp2_with fail
    go_ret
    exact ⟨ret_bool HN.out.symm, HG.out.below g0⟩
  have E3 := Lib.hid (show d.text = [] by simpa using e3)
  by_cases e4 : d.labels.length = 0
  rotate_left
  · have HN := Lib.hid (show insI d = false by have : d.labels.isEmpty = false := (by cases h : d.labels <;> simp_all); simp [insI, insR, hop.out, txtB, lblB, topC, nameOp, useA, useC, useT, useL, refOp, jmpOp, itB, this])
    go_wp2_with fail
    go_ret
    exact ⟨ret_bool HN.out.symm, HG.out.below g0⟩
  have E4 := Lib.hid (show d.labels = [] from List.eq_nil_of_length_eq_zero e4)
  go_wp2_with fail
  refine Calls.mono (impl_isZeroVector d.value _ _ (HV.out.below (HG.out.below g0))) ?_
  rintro e w2 ⟨rfl, hb⟩
  replace g0 := HG.out.step g0 hb
  clear hb
  cases e5 : zeroQ d.value
  · have HN := Lib.hid (show insI d = false by simp [insI, insR, hop.out, valB_ne d.value (show (18 : Int) ≠ 0 by decide), e5])
    go_wp2_with fail
    go_ret
    exact ⟨ret_bool HN.out.symm, HG.out.below g0⟩
  have E5 := Lib.hid (show valB 18 d.value = true by rw [valB_ne d.value (by decide), e5])
  clear e5
  go_wp2_with fail
  refine Calls.mono (impl_instrText 18 (by decide) (by decide) d _ _ hop.out (by have h9 := HRR.out _ (HG.out.below g0); simp only [hop.out, E1.out, E2.out, E4.out, List.length_nil] at h9; exact h9) hsl.out) ?_
  rintro e w4 ⟨rfl, hb⟩
  replace g0 := HG.out.step g0 hb
  clear hb
  go_wp2_with fail
  go_ret
  exact ⟨ret_bool (by simp [insI, insR, hop.out, txtB, lblB, topC, nameOp, useA, useC, useT, useL, refOp, jmpOp, itB, E1.out, E2.out, E3.out, E4.out, E5.out]), HG.out.below g0⟩
set_option maxHeartbeats 2000000 in
theorem impl_instrRight_19 : InstrRightC 19 := by
  intro d cs w hop h hz
  have HRR := Lib.hid (fun (W : World) (hb : Below w.heap.size w W) => h.below hb)
  obtain ⟨v4, v51, v52, v53, v54, v55, rfl, i0, i1, i2, ht, hl, hv⟩ := h
  have HL := Lib.hid hl
  have HV := Lib.hid hv
  have HT := Lib.hid ht
  have I0 := Lib.hid i0
  have I1 := Lib.hid i1
  have I2 := Lib.hid i2
  obtain ⟨A4, c4, rfl, hlc, hm, HC⟩ := Txts.open_ hl
  unfold maxLen at hm
  clear hl hv ht i0 i1 i2
  rw [hop]
  have hop := Lib.hid hop
  have hsl := Lib.hid (instr_small hz)
  have hz : szVector d.value ≤ 1000000000000 := by unfold szInstr at hz; omega
  obtain ⟨G, g0, HG, B1⟩ := good1 w 63 [.int .i64 19, .int .i64 d.arg, .int .i64 d.count, .string (str d.text), .slice A4 d.labels.length c4, .int .i64 d.value.kind, v51, v52, v53, v54, v55, .int .i64 d.value.code, .int .i64 d.value.env]
  have x0 := fun W (h : Ok G W) => (B1.out W h).cell 0 _ rfl
  have x1 := fun W (h : Ok G W) => (B1.out W h).cell 1 _ rfl
  have x2 := fun W (h : Ok G W) => (B1.out W h).cell 2 _ rfl
  have x3 := fun W (h : Ok G W) => (B1.out W h).cell 3 _ rfl
  have x4 := fun W (h : Ok G W) => (B1.out W h).cell 4 _ rfl
  have x5 := fun W (h : Ok G W) => (B1.out W h).cell 5 _ rfl
  have x6 := fun W (h : Ok G W) => (B1.out W h).cell 6 _ rfl
  have x7 := fun W (h : Ok G W) => (B1.out W h).cell 7 _ rfl
  have x8 := fun W (h : Ok G W) => (B1.out W h).cell 8 _ rfl
  have x9 := fun W (h : Ok G W) => (B1.out W h).cell 9 _ rfl
  have x10 := fun W (h : Ok G W) => (B1.out W h).cell 10 _ rfl
  have x11 := fun W (h : Ok G W) => (B1.out W h).cell 11 _ rfl
  have x12 := fun W (h : Ok G W) => (B1.out W h).cell 12 _ rfl
  go_enter Tryz.func57, Tryz.ntmps57
  go_upto_region 1 with fail
  refine gen_w g0 ?_
  clear g0
  intro W0 g0
  go_wp2_with fail
  refine Calls.mono (impl_instrUses 19 (by decide) (by decide) _) ?_
  rintro e w1 ⟨rfl, rfl⟩
  rw [show useA 19 = true by decide, show useC 19 = false by decide, show useT 19 = true by decide, show useL 19 = false by decide, show ((19 : Int) == 0) = false by decide]
  by_cases e2 : d.count = 0
  rotate_left
  · have q2 : (d.count != 0) = true := by simp [e2]
    have HN := Lib.hid (show insI d = false by have : (decide (0 ≤ d.count) && decide (d.count ≤ topC d.op)) = false := (by simp [topC, hop.out]; omega); simp [insI, insR, this])
    go_wp2_with fail
    go_ret
    exact ⟨ret_bool HN.out.symm, HG.out.below g0⟩
  have q2 : (d.count != 0) = false := by simp [e2]
  have E2 := Lib.hid e2
  by_cases e4 : d.labels.length = 0
  rotate_left
  · have HN := Lib.hid (show insI d = false by have : d.labels.isEmpty = false := (by cases h : d.labels <;> simp_all); simp [insI, insR, hop.out, txtB, lblB, topC, nameOp, useA, useC, useT, useL, refOp, jmpOp, itB, this])
    go_wp2_with fail
    go_ret
    exact ⟨ret_bool HN.out.symm, HG.out.below g0⟩
  have E4 := Lib.hid (show d.labels = [] from List.eq_nil_of_length_eq_zero e4)
  go_wp2_with fail
  refine Calls.mono (impl_isZeroVector d.value _ _ (HV.out.below (HG.out.below g0))) ?_
  rintro e w2 ⟨rfl, hb⟩
  replace g0 := HG.out.step g0 hb
  clear hb
  cases e5 : zeroQ d.value
  · have HN := Lib.hid (show insI d = false by simp [insI, insR, hop.out, valB_ne d.value (show (19 : Int) ≠ 0 by decide), e5])
    go_wp2_with fail
    go_ret
    exact ⟨ret_bool HN.out.symm, HG.out.below g0⟩
  have E5 := Lib.hid (show valB 19 d.value = true by rw [valB_ne d.value (by decide), e5])
  clear e5
  go_wp2_with fail
  refine Calls.mono (impl_instrText 19 (by decide) (by decide) d _ _ hop.out (by have h9 := HRR.out _ (HG.out.below g0); simp only [hop.out, E2.out, E4.out, List.length_nil] at h9; exact h9) hsl.out) ?_
  rintro e w4 ⟨rfl, hb⟩
  replace g0 := HG.out.step g0 hb
  clear hb
  go_wp2_with fail
  go_ret
  exact ⟨ret_bool (by simp [insI, insR, hop.out, txtB, lblB, topC, nameOp, useA, useC, useT, useL, refOp, jmpOp, itB, E2.out, E4.out, E5.out]), HG.out.below g0⟩
set_option maxHeartbeats 2000000 in
theorem impl_instrRight_20 : InstrRightC 20 := by
  intro d cs w hop h hz
  have HRR := Lib.hid (fun (W : World) (hb : Below w.heap.size w W) => h.below hb)
  obtain ⟨v4, v51, v52, v53, v54, v55, rfl, i0, i1, i2, ht, hl, hv⟩ := h
  have HL := Lib.hid hl
  have HV := Lib.hid hv
  have HT := Lib.hid ht
  have I0 := Lib.hid i0
  have I1 := Lib.hid i1
  have I2 := Lib.hid i2
  obtain ⟨A4, c4, rfl, hlc, hm, HC⟩ := Txts.open_ hl
  unfold maxLen at hm
  clear hl hv ht i0 i1 i2
  rw [hop]
  have hop := Lib.hid hop
  have hsl := Lib.hid (instr_small hz)
  have hz : szVector d.value ≤ 1000000000000 := by unfold szInstr at hz; omega
  obtain ⟨G, g0, HG, B1⟩ := good1 w 63 [.int .i64 20, .int .i64 d.arg, .int .i64 d.count, .string (str d.text), .slice A4 d.labels.length c4, .int .i64 d.value.kind, v51, v52, v53, v54, v55, .int .i64 d.value.code, .int .i64 d.value.env]
  have x0 := fun W (h : Ok G W) => (B1.out W h).cell 0 _ rfl
  have x1 := fun W (h : Ok G W) => (B1.out W h).cell 1 _ rfl
  have x2 := fun W (h : Ok G W) => (B1.out W h).cell 2 _ rfl
  have x3 := fun W (h : Ok G W) => (B1.out W h).cell 3 _ rfl
  have x4 := fun W (h : Ok G W) => (B1.out W h).cell 4 _ rfl
  have x5 := fun W (h : Ok G W) => (B1.out W h).cell 5 _ rfl
  have x6 := fun W (h : Ok G W) => (B1.out W h).cell 6 _ rfl
  have x7 := fun W (h : Ok G W) => (B1.out W h).cell 7 _ rfl
  have x8 := fun W (h : Ok G W) => (B1.out W h).cell 8 _ rfl
  have x9 := fun W (h : Ok G W) => (B1.out W h).cell 9 _ rfl
  have x10 := fun W (h : Ok G W) => (B1.out W h).cell 10 _ rfl
  have x11 := fun W (h : Ok G W) => (B1.out W h).cell 11 _ rfl
  have x12 := fun W (h : Ok G W) => (B1.out W h).cell 12 _ rfl
  go_enter Tryz.func57, Tryz.ntmps57
  go_upto_region 1 with fail
  refine gen_w g0 ?_
  clear g0
  intro W0 g0
  go_wp2_with fail
  refine Calls.mono (impl_instrUses 20 (by decide) (by decide) _) ?_
  rintro e w1 ⟨rfl, rfl⟩
  rw [show useA 20 = false by decide, show useC 20 = false by decide, show useT 20 = true by decide, show useL 20 = false by decide, show ((20 : Int) == 0) = false by decide]
  by_cases e1 : d.arg = 0
  rotate_left
  · have q1 : (d.arg != 0) = true := by simp [e1]
    have HN := Lib.hid (show insI d = false by simp [insI, insR, hop.out, txtB, lblB, topC, nameOp, useA, useC, useT, useL, refOp, jmpOp, itB, e1])
    go_wp2_with fail
    go_ret
    exact ⟨ret_bool HN.out.symm, HG.out.below g0⟩
  have q1 : (d.arg != 0) = false := by simp [e1]
  have E1 := Lib.hid e1
  by_cases e2 : d.count = 0
  rotate_left
  · have q2 : (d.count != 0) = true := by simp [e2]
    have HN := Lib.hid (show insI d = false by have : (decide (0 ≤ d.count) && decide (d.count ≤ topC d.op)) = false := (by simp [topC, hop.out]; omega); simp [insI, insR, this])
    go_wp2_with fail
    go_ret
    exact ⟨ret_bool HN.out.symm, HG.out.below g0⟩
  have q2 : (d.count != 0) = false := by simp [e2]
  have E2 := Lib.hid e2
  by_cases e4 : d.labels.length = 0
  rotate_left
  · have HN := Lib.hid (show insI d = false by have : d.labels.isEmpty = false := (by cases h : d.labels <;> simp_all); simp [insI, insR, hop.out, txtB, lblB, topC, nameOp, useA, useC, useT, useL, refOp, jmpOp, itB, this])
    go_wp2_with fail
    go_ret
    exact ⟨ret_bool HN.out.symm, HG.out.below g0⟩
  have E4 := Lib.hid (show d.labels = [] from List.eq_nil_of_length_eq_zero e4)
  go_wp2_with fail
  refine Calls.mono (impl_isZeroVector d.value _ _ (HV.out.below (HG.out.below g0))) ?_
  rintro e w2 ⟨rfl, hb⟩
  replace g0 := HG.out.step g0 hb
  clear hb
  cases e5 : zeroQ d.value
  · have HN := Lib.hid (show insI d = false by simp [insI, insR, hop.out, valB_ne d.value (show (20 : Int) ≠ 0 by decide), e5])
    go_wp2_with fail
    go_ret
    exact ⟨ret_bool HN.out.symm, HG.out.below g0⟩
  have E5 := Lib.hid (show valB 20 d.value = true by rw [valB_ne d.value (by decide), e5])
  clear e5
  go_wp2_with fail
  refine Calls.mono (impl_instrText 20 (by decide) (by decide) d _ _ hop.out (by have h9 := HRR.out _ (HG.out.below g0); simp only [hop.out, E1.out, E2.out, E4.out, List.length_nil] at h9; exact h9) hsl.out) ?_
  rintro e w4 ⟨rfl, hb⟩
  replace g0 := HG.out.step g0 hb
  clear hb
  go_wp2_with fail
  go_ret
  exact ⟨ret_bool (by simp [insI, insR, hop.out, txtB, lblB, topC, nameOp, useA, useC, useT, useL, refOp, jmpOp, itB, E1.out, E2.out, E4.out, E5.out]), HG.out.below g0⟩
set_option maxHeartbeats 2000000 in
theorem impl_instrRight_21 : InstrRightC 21 := by
  intro d cs w hop h hz
  have HRR := Lib.hid (fun (W : World) (hb : Below w.heap.size w W) => h.below hb)
  obtain ⟨v4, v51, v52, v53, v54, v55, rfl, i0, i1, i2, ht, hl, hv⟩ := h
  have HL := Lib.hid hl
  have HV := Lib.hid hv
  have HT := Lib.hid ht
  have I0 := Lib.hid i0
  have I1 := Lib.hid i1
  have I2 := Lib.hid i2
  obtain ⟨A4, c4, rfl, hlc, hm, HC⟩ := Txts.open_ hl
  unfold maxLen at hm
  clear hl hv ht i0 i1 i2
  rw [hop]
  have hop := Lib.hid hop
  have hsl := Lib.hid (instr_small hz)
  have hz : szVector d.value ≤ 1000000000000 := by unfold szInstr at hz; omega
  obtain ⟨G, g0, HG, B1⟩ := good1 w 63 [.int .i64 21, .int .i64 d.arg, .int .i64 d.count, .string (str d.text), .slice A4 d.labels.length c4, .int .i64 d.value.kind, v51, v52, v53, v54, v55, .int .i64 d.value.code, .int .i64 d.value.env]
  have x0 := fun W (h : Ok G W) => (B1.out W h).cell 0 _ rfl
  have x1 := fun W (h : Ok G W) => (B1.out W h).cell 1 _ rfl
  have x2 := fun W (h : Ok G W) => (B1.out W h).cell 2 _ rfl
  have x3 := fun W (h : Ok G W) => (B1.out W h).cell 3 _ rfl
  have x4 := fun W (h : Ok G W) => (B1.out W h).cell 4 _ rfl
  have x5 := fun W (h : Ok G W) => (B1.out W h).cell 5 _ rfl
  have x6 := fun W (h : Ok G W) => (B1.out W h).cell 6 _ rfl
  have x7 := fun W (h : Ok G W) => (B1.out W h).cell 7 _ rfl
  have x8 := fun W (h : Ok G W) => (B1.out W h).cell 8 _ rfl
  have x9 := fun W (h : Ok G W) => (B1.out W h).cell 9 _ rfl
  have x10 := fun W (h : Ok G W) => (B1.out W h).cell 10 _ rfl
  have x11 := fun W (h : Ok G W) => (B1.out W h).cell 11 _ rfl
  have x12 := fun W (h : Ok G W) => (B1.out W h).cell 12 _ rfl
  go_enter Tryz.func57, Tryz.ntmps57
  go_upto_region 1 with fail
  refine gen_w g0 ?_
  clear g0
  intro W0 g0
  go_wp2_with fail
  refine Calls.mono (impl_instrUses 21 (by decide) (by decide) _) ?_
  rintro e w1 ⟨rfl, rfl⟩
  rw [show useA 21 = false by decide, show useC 21 = false by decide, show useT 21 = true by decide, show useL 21 = false by decide, show ((21 : Int) == 0) = false by decide]
  by_cases e1 : d.arg = 0
  rotate_left
  · have q1 : (d.arg != 0) = true := by simp [e1]
    have HN := Lib.hid (show insI d = false by simp [insI, insR, hop.out, txtB, lblB, topC, nameOp, useA, useC, useT, useL, refOp, jmpOp, itB, e1])
    go_wp2_with fail
    go_ret
    exact ⟨ret_bool HN.out.symm, HG.out.below g0⟩
  have q1 : (d.arg != 0) = false := by simp [e1]
  have E1 := Lib.hid e1
  by_cases e2 : d.count = 0
  rotate_left
  · have q2 : (d.count != 0) = true := by simp [e2]
    have HN := Lib.hid (show insI d = false by have : (decide (0 ≤ d.count) && decide (d.count ≤ topC d.op)) = false := (by simp [topC, hop.out]; omega); simp [insI, insR, this])
    go_wp2_with fail
    go_ret
    exact ⟨ret_bool HN.out.symm, HG.out.below g0⟩
  have q2 : (d.count != 0) = false := by simp [e2]
  have E2 := Lib.hid e2
  by_cases e4 : d.labels.length = 0
  rotate_left
  · have HN := Lib.hid (show insI d = false by have : d.labels.isEmpty = false := (by cases h : d.labels <;> simp_all); simp [insI, insR, hop.out, txtB, lblB, topC, nameOp, useA, useC, useT, useL, refOp, jmpOp, itB, this])
    go_wp2_with fail
    go_ret
    exact ⟨ret_bool HN.out.symm, HG.out.below g0⟩
  have E4 := Lib.hid (show d.labels = [] from List.eq_nil_of_length_eq_zero e4)
  go_wp2_with fail
  refine Calls.mono (impl_isZeroVector d.value _ _ (HV.out.below (HG.out.below g0))) ?_
  rintro e w2 ⟨rfl, hb⟩
  replace g0 := HG.out.step g0 hb
  clear hb
  cases e5 : zeroQ d.value
  · have HN := Lib.hid (show insI d = false by simp [insI, insR, hop.out, valB_ne d.value (show (21 : Int) ≠ 0 by decide), e5])
    go_wp2_with fail
    go_ret
    exact ⟨ret_bool HN.out.symm, HG.out.below g0⟩
  have E5 := Lib.hid (show valB 21 d.value = true by rw [valB_ne d.value (by decide), e5])
  clear e5
  go_wp2_with fail
  refine Calls.mono (impl_instrText 21 (by decide) (by decide) d _ _ hop.out (by have h9 := HRR.out _ (HG.out.below g0); simp only [hop.out, E1.out, E2.out, E4.out, List.length_nil] at h9; exact h9) hsl.out) ?_
  rintro e w4 ⟨rfl, hb⟩
  replace g0 := HG.out.step g0 hb
  clear hb
  go_wp2_with fail
  go_ret
  exact ⟨ret_bool (by simp [insI, insR, hop.out, txtB, lblB, topC, nameOp, useA, useC, useT, useL, refOp, jmpOp, itB, E1.out, E2.out, E4.out, E5.out]), HG.out.below g0⟩
set_option maxHeartbeats 2000000 in
theorem impl_instrRight_22 : InstrRightC 22 := by
  intro d cs w hop h hz
  have HRR := Lib.hid (fun (W : World) (hb : Below w.heap.size w W) => h.below hb)
  obtain ⟨v4, v51, v52, v53, v54, v55, rfl, i0, i1, i2, ht, hl, hv⟩ := h
  have HL := Lib.hid hl
  have HV := Lib.hid hv
  have HT := Lib.hid ht
  have I0 := Lib.hid i0
  have I1 := Lib.hid i1
  have I2 := Lib.hid i2
  obtain ⟨A4, c4, rfl, hlc, hm, HC⟩ := Txts.open_ hl
  unfold maxLen at hm
  clear hl hv ht i0 i1 i2
  rw [hop]
  have hop := Lib.hid hop
  have hsl := Lib.hid (instr_small hz)
  have hz : szVector d.value ≤ 1000000000000 := by unfold szInstr at hz; omega
  obtain ⟨G, g0, HG, B1⟩ := good1 w 63 [.int .i64 22, .int .i64 d.arg, .int .i64 d.count, .string (str d.text), .slice A4 d.labels.length c4, .int .i64 d.value.kind, v51, v52, v53, v54, v55, .int .i64 d.value.code, .int .i64 d.value.env]
  have x0 := fun W (h : Ok G W) => (B1.out W h).cell 0 _ rfl
  have x1 := fun W (h : Ok G W) => (B1.out W h).cell 1 _ rfl
  have x2 := fun W (h : Ok G W) => (B1.out W h).cell 2 _ rfl
  have x3 := fun W (h : Ok G W) => (B1.out W h).cell 3 _ rfl
  have x4 := fun W (h : Ok G W) => (B1.out W h).cell 4 _ rfl
  have x5 := fun W (h : Ok G W) => (B1.out W h).cell 5 _ rfl
  have x6 := fun W (h : Ok G W) => (B1.out W h).cell 6 _ rfl
  have x7 := fun W (h : Ok G W) => (B1.out W h).cell 7 _ rfl
  have x8 := fun W (h : Ok G W) => (B1.out W h).cell 8 _ rfl
  have x9 := fun W (h : Ok G W) => (B1.out W h).cell 9 _ rfl
  have x10 := fun W (h : Ok G W) => (B1.out W h).cell 10 _ rfl
  have x11 := fun W (h : Ok G W) => (B1.out W h).cell 11 _ rfl
  have x12 := fun W (h : Ok G W) => (B1.out W h).cell 12 _ rfl
  go_enter Tryz.func57, Tryz.ntmps57
  go_upto_region 1 with fail
  refine gen_w g0 ?_
  clear g0
  intro W0 g0
  go_wp2_with fail
  refine Calls.mono (impl_instrUses 22 (by decide) (by decide) _) ?_
  rintro e w1 ⟨rfl, rfl⟩
  rw [show useA 22 = false by decide, show useC 22 = false by decide, show useT 22 = true by decide, show useL 22 = false by decide, show ((22 : Int) == 0) = false by decide]
  by_cases e1 : d.arg = 0
  rotate_left
  · have q1 : (d.arg != 0) = true := by simp [e1]
    have HN := Lib.hid (show insI d = false by simp [insI, insR, hop.out, txtB, lblB, topC, nameOp, useA, useC, useT, useL, refOp, jmpOp, itB, e1])
    go_wp2_with fail
    go_ret
    exact ⟨ret_bool HN.out.symm, HG.out.below g0⟩
  have q1 : (d.arg != 0) = false := by simp [e1]
  have E1 := Lib.hid e1
  by_cases e2 : d.count = 0
  rotate_left
  · have q2 : (d.count != 0) = true := by simp [e2]
    have HN := Lib.hid (show insI d = false by have : (decide (0 ≤ d.count) && decide (d.count ≤ topC d.op)) = false := (by simp [topC, hop.out]; omega); simp [insI, insR, this])
    go_wp2_with fail
    go_ret
    exact ⟨ret_bool HN.out.symm, HG.out.below g0⟩
  have q2 : (d.count != 0) = false := by simp [e2]
  have E2 := Lib.hid e2
  by_cases e4 : d.labels.length = 0
  rotate_left
  · have HN := Lib.hid (show insI d = false by have : d.labels.isEmpty = false := (by cases h : d.labels <;> simp_all); simp [insI, insR, hop.out, txtB, lblB, topC, nameOp, useA, useC, useT, useL, refOp, jmpOp, itB, this])
    go_wp2_with fail
    go_ret
    exact ⟨ret_bool HN.out.symm, HG.out.below g0⟩
  have E4 := Lib.hid (show d.labels = [] from List.eq_nil_of_length_eq_zero e4)
  go_wp2_with fail
  refine Calls.mono (impl_isZeroVector d.value _ _ (HV.out.below (HG.out.below g0))) ?_
  rintro e w2 ⟨rfl, hb⟩
  replace g0 := HG.out.step g0 hb
  clear hb
  cases e5 : zeroQ d.value
  · have HN := Lib.hid (show insI d = false by simp [insI, insR, hop.out, valB_ne d.value (show (22 : Int) ≠ 0 by decide), e5])
    go_wp2_with fail
    go_ret
    exact ⟨ret_bool HN.out.symm, HG.out.below g0⟩
  have E5 := Lib.hid (show valB 22 d.value = true by rw [valB_ne d.value (by decide), e5])
  clear e5
  go_wp2_with fail
  refine Calls.mono (impl_instrText 22 (by decide) (by decide) d _ _ hop.out (by have h9 := HRR.out _ (HG.out.below g0); simp only [hop.out, E1.out, E2.out, E4.out, List.length_nil] at h9; exact h9) hsl.out) ?_
  rintro e w4 ⟨rfl, hb⟩
  replace g0 := HG.out.step g0 hb
  clear hb
  go_wp2_with fail
  go_ret
  exact ⟨ret_bool (by simp [insI, insR, hop.out, txtB, lblB, topC, nameOp, useA, useC, useT, useL, refOp, jmpOp, itB, E1.out, E2.out, E4.out, E5.out]), HG.out.below g0⟩
set_option maxHeartbeats 2000000 in
theorem impl_instrRight_23 : InstrRightC 23 := by
  intro d cs w hop h hz
  have HRR := Lib.hid (fun (W : World) (hb : Below w.heap.size w W) => h.below hb)
  obtain ⟨v4, v51, v52, v53, v54, v55, rfl, i0, i1, i2, ht, hl, hv⟩ := h
  have HL := Lib.hid hl
  have HV := Lib.hid hv
  have HT := Lib.hid ht
  have I0 := Lib.hid i0
  have I1 := Lib.hid i1
  have I2 := Lib.hid i2
  obtain ⟨A4, c4, rfl, hlc, hm, HC⟩ := Txts.open_ hl
  unfold maxLen at hm
  clear hl hv ht i0 i1 i2
  rw [hop]
  have hop := Lib.hid hop
  have hsl := Lib.hid (instr_small hz)
  have hz : szVector d.value ≤ 1000000000000 := by unfold szInstr at hz; omega
  obtain ⟨G, g0, HG, B1⟩ := good1 w 63 [.int .i64 23, .int .i64 d.arg, .int .i64 d.count, .string (str d.text), .slice A4 d.labels.length c4, .int .i64 d.value.kind, v51, v52, v53, v54, v55, .int .i64 d.value.code, .int .i64 d.value.env]
  have x0 := fun W (h : Ok G W) => (B1.out W h).cell 0 _ rfl
  have x1 := fun W (h : Ok G W) => (B1.out W h).cell 1 _ rfl
  have x2 := fun W (h : Ok G W) => (B1.out W h).cell 2 _ rfl
  have x3 := fun W (h : Ok G W) => (B1.out W h).cell 3 _ rfl
  have x4 := fun W (h : Ok G W) => (B1.out W h).cell 4 _ rfl
  have x5 := fun W (h : Ok G W) => (B1.out W h).cell 5 _ rfl
  have x6 := fun W (h : Ok G W) => (B1.out W h).cell 6 _ rfl
  have x7 := fun W (h : Ok G W) => (B1.out W h).cell 7 _ rfl
  have x8 := fun W (h : Ok G W) => (B1.out W h).cell 8 _ rfl
  have x9 := fun W (h : Ok G W) => (B1.out W h).cell 9 _ rfl
  have x10 := fun W (h : Ok G W) => (B1.out W h).cell 10 _ rfl
  have x11 := fun W (h : Ok G W) => (B1.out W h).cell 11 _ rfl
  have x12 := fun W (h : Ok G W) => (B1.out W h).cell 12 _ rfl
  go_enter Tryz.func57, Tryz.ntmps57
  go_upto_region 1 with fail
  refine gen_w g0 ?_
  clear g0
  intro W0 g0
  go_wp2_with fail
  refine Calls.mono (impl_instrUses 23 (by decide) (by decide) _) ?_
  rintro e w1 ⟨rfl, rfl⟩
  rw [show useA 23 = false by decide, show useC 23 = false by decide, show useT 23 = true by decide, show useL 23 = false by decide, show ((23 : Int) == 0) = false by decide]
  by_cases e1 : d.arg = 0
  rotate_left
  · have q1 : (d.arg != 0) = true := by simp [e1]
    have HN := Lib.hid (show insI d = false by simp [insI, insR, hop.out, txtB, lblB, topC, nameOp, useA, useC, useT, useL, refOp, jmpOp, itB, e1])
    go_wp2_with fail
    go_ret
    exact ⟨ret_bool HN.out.symm, HG.out.below g0⟩
  have q1 : (d.arg != 0) = false := by simp [e1]
  have E1 := Lib.hid e1
  by_cases e2 : d.count = 0
  rotate_left
  · have q2 : (d.count != 0) = true := by simp [e2]
    have HN := Lib.hid (show insI d = false by have : (decide (0 ≤ d.count) && decide (d.count ≤ topC d.op)) = false := (by simp [topC, hop.out]; omega); simp [insI, insR, this])
    go_wp2_with fail
    go_ret
    exact ⟨ret_bool HN.out.symm, HG.out.below g0⟩
  have q2 : (d.count != 0) = false := by simp [e2]
  have E2 := Lib.hid e2
  by_cases e4 : d.labels.length = 0
  rotate_left
  · have HN := Lib.hid (show insI d = false by have : d.labels.isEmpty = false := (by cases h : d.labels <;> simp_all); simp [insI, insR, hop.out, txtB, lblB, topC, nameOp, useA, useC, useT, useL, refOp, jmpOp, itB, this])
    go_wp2_with fail
    go_ret
    exact ⟨ret_bool HN.out.symm, HG.out.below g0⟩
  have E4 := Lib.hid (show d.labels = [] from List.eq_nil_of_length_eq_zero e4)
  go_wp2_with fail
  refine Calls.mono (impl_isZeroVector d.value _ _ (HV.out.below (HG.out.below g0))) ?_
  rintro e w2 ⟨rfl, hb⟩
  replace g0 := HG.out.step g0 hb
  clear hb
  cases e5 : zeroQ d.value
  · have HN := Lib.hid (show insI d = false by simp [insI, insR, hop.out, valB_ne d.value (show (23 : Int) ≠ 0 by decide), e5])
    go_wp2_with fail
    go_ret
    exact ⟨ret_bool HN.out.symm, HG.out.below g0⟩
  have E5 := Lib.hid (show valB 23 d.value = true by rw [valB_ne d.value (by decide), e5])
  clear e5
  go_wp2_with fail
  refine Calls.mono (impl_instrText 23 (by decide) (by decide) d _ _ hop.out (by have h9 := HRR.out _ (HG.out.below g0); simp only [hop.out, E1.out, E2.out, E4.out, List.length_nil] at h9; exact h9) hsl.out) ?_
  rintro e w4 ⟨rfl, hb⟩
  replace g0 := HG.out.step g0 hb
  clear hb
  go_wp2_with fail
  go_ret
  exact ⟨ret_bool (by simp [insI, insR, hop.out, txtB, lblB, topC, nameOp, useA, useC, useT, useL, refOp, jmpOp, itB, E1.out, E2.out, E4.out, E5.out]), HG.out.below g0⟩
end Go.Proofs.YtjdfancbmjnjfaaGreat
